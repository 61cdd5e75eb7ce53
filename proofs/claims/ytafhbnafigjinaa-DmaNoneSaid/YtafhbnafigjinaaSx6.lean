/-
  Operations that make or write memory.
-/
import Derived.Test.YtafhbnafigjinaaSx5
set_option linter.unusedSimpArgs false
set_option linter.unusedVariables false
namespace Go.Sx

/-! ### New blocks -/
/-- What is made of a new block: its address, or a slice over it. -/
inductive NV where
  | p
  | s (len cap : Nat)
  | g (len : Nat)
def NV.av : NV → Nat → AV
  | .p, id => .ptr id 0
  | .s len cap, id => .slice id 0 len cap
  | .g len, id => .gsl id len
def NV.val : NV → Nat → Nat → Value
  | .p, n, _ => .pointer (some ⟨n, 0, none⟩)
  | .s len cap, n, _ => .slice (some ⟨n, 0, none⟩) len cap
  | .g len, n, c => .slice (some ⟨n, 0, none⟩) len c
def mkBlk (T : TypeId) (big : Bool) (z : Array Value) : Blk := if big then .sym T z else .lit T (ofVals z.toList)
theorem mkBlk_B {β : Places} {c : Nat} {T : TypeId} {big : Bool} {z : Array Value} : B β c (mkBlk T big z) (.cells z T (0, 0)) := by
  unfold mkBlk
  split
  · simp [B]
  · simp only [B]; exact ⟨z.toList, by simp, ofVals_VL _ _⟩
def boxT (T : TypeId) (x : AV) : Tree (Blk × NV) :=
  match x with
  | .raw (.agg arr) => .leaf (.sym T arr, .p)
  | x => match cellsA x with
    | some cs => .leaf (.lit T cs, .p)
    | none => .stop
def zerosOf (z : Array Value) (n : Nat) : Array Value := (Array.range n).map (z[· % z.size]!)
def opNew (P : Program) (op : Op) (ρ : Operand → AV) : Tree (Blk × NV) :=
  match op with
  | .alloc T => match P.info? T with
    | some i => match i.zero with
      | some z => .leaf (mkBlk T (decide (64 < i.size)) z.cells, .p)
      | none => .stop
    | none => .stop
  | .box T x => (force (ρ x)).bind (boxT T)
  | .buildSlice T len ps => match P.underlying T with
    | some (.slice e) => match P.info? e with
      | some ei => match ei.zero with
        | some z => if len * ei.size ≤ 1000 ∧ len * ei.size ≠ 0 then
            (fillT (fun i => some (i * ei.size, ei.size)) (ofVals (zerosOf z.cells (len * ei.size)).toList) (ps.toList.map fun p => (p.1, ρ p.2))).bind fun cs => .leaf (.lit e cs, .s len len)
          else .stop
        | none => .stop
      | none => .stop
    | _ => .stop
  | .makeSlice T l c => (force (ρ l)).bind fun a => (force (ρ c)).bind fun b =>
    match P.underlying T, a, b with
    | some (.slice e), .int _ l, .int _ c => match P.info? e with
      | some ei => match ei.zero with
        | some z => if ei.size ≠ 0 then .ask (.d (0 ≤ l ∧ l ≤ c ∧ 0 < c ∧ (ei.bytes : Int) * c ≤ 2 ^ 48 ∧ c ≤ 9223372036854775807))
            (.leaf (.sym e (zerosOf z.cells (c.toNat * ei.size)), .s l.toNat c.toNat)) else .stop
        | none => .stop
      | none => .stop
    | _, _, _ => .stop
  | _ => .stop
theorem opNew_ang {P : Program} {op : Op} {ρ : Operand → AV} : (opNew P op ρ).Ang := by
  unfold opNew
  split
  · repeat' split
    all_goals trivial
  · refine Tree.ang_bind (force_ang _) fun a => ?_
    unfold boxT
    repeat' split
    all_goals trivial
  · repeat' split
    all_goals first | trivial | exact Tree.ang_bind (fillT_ang _ _ _) fun _ => trivial
  · refine Tree.ang_bind (force_ang _) fun a => Tree.ang_bind (force_ang _) fun b => ?_
    repeat' split
    all_goals trivial
  · trivial
theorem run_newRow {P : Program} {w : World} {T : TypeId} {cs : Array Value} : (newRow T cs).run P w = .ok ⟨w.heap.size, 0, none⟩ { w with heap := w.heap.push (.cells cs T) } := by
  simp only [newRow, run_bind, newObj, Sem.run, run_pure]

theorem opNew_ok {P : Program} {w : World} {β : Places} {o : Oper} {ρ : Operand → AV} {ρv : Operand → Value} (hρ : ∀ x, V β (ρ x) (ρv x))
    {K : Blk × NV → Prop} (hk : (opNew P o.op ρ).sem K) : ∃ blk nv obj, K (blk, nv) ∧ (execOp ρv o).run P w = .ok (.value (nv.val w.heap.size 0)) { w with heap := w.heap.push obj } ∧ B β 0 blk obj ∧ (∀ l, nv ≠ .g l) := by
  obtain ⟨dst, op, type, pos, after, guard⟩ := o
  unfold opNew at hk
  dsimp only at hk
  split at hk
  · rename_i T
    split at hk
    · rename_i i hi
      split at hk
      · rename_i z hz
        refine ⟨_, _, _, hk, ?_, mkBlk_B, by simp⟩
        simp only [execOp, Instr.alloc, run_bind, run_zero hi hz, newVar, run_newRow, run_pure, NV.val]
      · exact hk.elim
    · exact hk.elim
  · rename_i T x
    rw [Tree.sem_bind] at hk
    obtain ⟨a, hk, ha⟩ := force_sem (hρ x) hk
    unfold boxT at hk
    split at hk
    · rename_i arr
      simp only [V] at ha
      refine ⟨_, _, .cells arr T, hk, ?_, by simp [B], by simp⟩
      simp only [execOp, Instr.box, run_bind, newVar, run_newRow, run_pure, NV.val, ha, Value.cells]
    · split at hk
      · rename_i cs hcs
        refine ⟨_, _, .cells (ρv x).cells T, hk, ?_, by simp only [B]; exact ⟨(ρv x).cells.toList, by simp, cellsA_spec ha hcs⟩, by simp⟩
        simp only [execOp, Instr.box, run_bind, newVar, run_newRow, run_pure, NV.val]
      · exact hk.elim
  · rename_i T len ps
    split at hk
    · rename_i e hT
      split at hk
      · rename_i ei hei
        split at hk
        · rename_i z hz
          split at hk
          · rename_i hl
            rw [Tree.sem_bind] at hk
            obtain ⟨as, ws, h1, h2, h3, _⟩ := fillT_sem (PL_map hρ ps.toList) (ofVals_VL β _) hk
            refine ⟨_, _, .cells ws.toArray e, h1, ?_, by simp only [B]; exact ⟨ws, rfl, h2⟩, by simp⟩
            have hps : (ps.map fun (i, x) => (i, ρv x)).toList = ps.toList.map fun p => (p.1, ρv p.2) := by simp
            have h3' : Instr.fill (fun i => some (i * ei.size, ei.size)) (zerosOf z.cells (len * ei.size)) (ps.toList.map fun p => (p.1, ρv p.2)) = some ws.toArray := by simpa using h3
            have hb : ¬ (len * ei.size > 2 ^ 24) := by have := hl.1; omega
            simp only [execOp, Instr.buildSlice, run_bind, run_underlying hT, run_sizeOf hei, hb, if_false, run_pure, hl.2, run_zero hei hz, hps]
            unfold zerosOf at h3'
            simp only [h3', run_bind, run_newRow, run_pure, NV.val]
          · exact hk.elim
        · exact hk.elim
      · exact hk.elim
    · exact hk.elim
  · rename_i T l c
    rw [Tree.sem_bind] at hk
    obtain ⟨a, hk, ha⟩ := force_sem (hρ l) hk
    rw [Tree.sem_bind] at hk
    obtain ⟨b, hk, hb⟩ := force_sem (hρ c) hk
    split at hk
    · rename_i e k1 l' k2 c' hT hold
      split at hk
      · rename_i ei hei
        split at hk
        · rename_i z hz
          split at hk
          · rename_i hsz
            obtain ⟨⟨h1, h2, h3, h4, h5⟩, hk⟩ := hk
            simp only [V] at ha hb
            refine ⟨_, _, .cells (zerosOf z.cells (c'.toNat * ei.size)) e, hk, ?_, by simp [B], by simp⟩
            have e1 : IntKind.i64.wrap l' = l' := by rw [wrap_eq, wr_of_has]; exact ⟨by simp only [lo]; omega, by simp only [hi]; omega⟩
            have e2 : IntKind.i64.wrap c' = c' := by rw [wrap_eq, wr_of_has]; exact ⟨by simp only [lo]; omega, by simp only [hi]; omega⟩
            have hn : c'.toNat * ei.size ≠ 0 := by
              intro h0
              rcases Nat.mul_eq_zero.1 h0 with h0 | h0
              · omega
              · exact hsz h0
            have t1 : (c' < 0 || (ei.bytes : Int) * c' > 2 ^ 48) = false := by
              simp only [Bool.or_eq_false_iff, decide_eq_false_iff_not]; exact ⟨by omega, by omega⟩
            simp only [execOp, Instr.makeSlice, run_bind, run_underlying hT, ha.1, hb.1, asInt, asIntOf, run_pure, typeInfo, program, Sem.run, hei, e1, e2, t1, Bool.false_or]
            have t2 : (decide (l' < 0) || decide (l' > c')) = false := by
              simp only [Bool.or_eq_false_iff, decide_eq_false_iff_not]; exact ⟨by omega, by omega⟩
            simp only [t2, Bool.false_eq_true, if_false]
            have hroom : ∀ n, (askRoom n).run P w = .ok () w := fun n => by unfold askRoom; split <;> rfl
            simp only [hroom, run_bind, run_sizeOf hei, hn, if_false, run_zero hei hz, run_pure, run_newRow, NV.val]
            rfl
          · exact hk.elim
        · exact hk.elim
      · exact hk.elim
    · exact hk.elim
  · exact hk.elim

/-! ### Stores -/
/-- The values of cells that are plain data. -/
def valA : AV → Option Value
  | .int k n => some (.int k n)
  | .bool b => some (.bool b)
  | .raw v => some v
  | _ => none
def valsA : List AV → Option (List Value)
  | [] => some []
  | x :: xs => match valA x with
    | some v => match valsA xs with
      | some vs => some (v :: vs)
      | none => none
    | none => none
theorem valA_spec {β : Places} {x : AV} {u v : Value} (h : valA x = some u) (hv : V β x v) : v = u := by
  cases x <;> simp [valA] at h <;> subst h <;> simp only [V] at hv
  · exact hv
  · exact hv.1
  · exact hv
theorem valsA_spec {β : Places} : ∀ {xs : List AV} {us vs : List Value}, valsA xs = some us → VL β xs vs → vs = us
  | [], _, _, h, hv => by simp [valsA] at h; simp only [VL] at hv; rw [h, hv]
  | x :: xs, us, vs, h, hv => by
    simp only [VL] at hv
    obtain ⟨v, vs', rfl, h1, h2⟩ := hv
    unfold valsA at h
    split at h
    · rename_i v0 hv0
      split at h
      · rename_i vs0 hvs0
        obtain rfl := by simpa using h
        rw [valA_spec hv0 h1, valsA_spec hvs0 h2]
      · simp at h
    · simp at h
def oneV : Value → Bool
  | .agg _ | .tuple _ => false
  | _ => true
/-- Each is the value of one cell. -/
def oneA : AV → Prop
  | .raw v => oneV v = true
  | .agg _ | .tup _ | .junk | .opt .. => False
  | _ => True
def onesA : List AV → Prop
  | [] => True
  | [x] => oneA x
  | x :: xs => oneA x ∧ onesA xs
def isRaw : AV → Bool
  | .raw _ => true
  | _ => false
/-- (What needs no word is not asked.) -/
def plainA : AV → Bool
  | .int .. | .bool _ | .ptr .. | .slice .. | .gsl .. | .fn .. | .iface .. => true
  | _ => false
def onesT {α : Type} (xs : List AV) (t : Tree α) : Tree α := if xs.all plainA then t else .req (onesA xs) t
theorem oneA_spec {β : Places} {x : AV} {v : Value} (h : oneA x) (hv : V β x v) : oneV v = true := by
  cases x <;> simp only [oneA] at h <;> simp only [V] at hv
  · rw [hv]; exact h
  · rw [hv.1]; rfl
  · rw [hv]; rfl
  · obtain ⟨_, _, _, rfl⟩ := hv; rfl
  · obtain ⟨_, _, _, rfl⟩ := hv; rfl
  · obtain ⟨_, _, _, rfl, _⟩ := hv; rfl
  · obtain ⟨_, _, rfl, _⟩ := hv; rfl
  · obtain ⟨_, rfl, _⟩ := hv; rfl
theorem onesA_cons {x : AV} {xs : List AV} (h : onesA (x :: xs)) : oneA x ∧ onesA xs := by
  cases xs with
  | nil => exact ⟨h, trivial⟩
  | cons y ys => exact h
theorem onesA_spec {β : Places} : ∀ {xs : List AV} {vs : List Value}, onesA xs → VL β xs vs → ∀ v ∈ vs, oneV v = true
  | [], _, _, hv => by simp only [VL] at hv; simp [hv]
  | x :: xs, _, h, hv => by
    simp only [VL] at hv
    obtain ⟨v, vs', rfl, h1, h2⟩ := hv
    have hc := onesA_cons h
    intro u hu
    rcases List.mem_cons.1 hu with rfl | hu
    · exact oneA_spec hc.1 h1
    · exact onesA_spec hc.2 h2 u hu
theorem plain_one : ∀ {x : AV}, plainA x = true → oneA x := by
  intro x h; cases x <;> simp [plainA] at h <;> trivial
theorem plain_ones : ∀ {xs : List AV}, xs.all plainA = true → onesA xs
  | [], _ => trivial
  | [x], h => by simp only [onesA]; exact plain_one (by simpa using h)
  | x :: y :: ys, h => by
    simp only [List.all_cons, Bool.and_eq_true] at h
    exact ⟨plain_one h.1, plain_ones (by simp only [List.all_cons, Bool.and_eq_true]; exact h.2)⟩
theorem onesT_sem {α : Type} {xs : List AV} {t : Tree α} {K : α → Prop} (h : (onesT xs t).sem K) : onesA xs ∧ t.sem K := by
  unfold onesT at h
  split at h
  · rename_i hp; exact ⟨plain_ones hp, h⟩
  · exact h
def setManyAr : Array Value → Nat → List Value → Array Value
  | cs, _, [] => cs
  | cs, off, x :: xs => setManyAr (cs.setIfInBounds off x) (off + 1) xs
theorem setManyAr_toList : ∀ (us : List Value) (cs : Array Value) (off : Nat), setManyAr cs off us = (setManyV cs.toList off us).toArray
  | [], _, _ => by simp [setManyAr, setManyV]
  | u :: us, cs, off => by simp [setManyAr, setManyV, setManyAr_toList us]
/-- The cells from 'off' on, as many as 'new' has, are 'new''s. -/
def splice (cs : Array Value) (off : Nat) (new : Array Value) : Array Value := cs.extract 0 off ++ new ++ cs.extract (off + new.size) cs.size
theorem setManyV_splice : ∀ (us pre mid post : List Value), mid.length = us.length → setManyV (pre ++ mid ++ post) pre.length us = pre ++ us ++ post
  | [], pre, mid, post, h => by simp at h; subst h; simp [setManyV]
  | u :: us, pre, [], post, h => by simp at h
  | u :: us, pre, m :: mid, post, h => by
    simp only [setManyV]
    have e : (pre ++ m :: mid ++ post).set pre.length u = (pre ++ [u]) ++ mid ++ post := by simp
    have := setManyV_splice us (pre ++ [u]) mid post (by simpa using h)
    simp only [List.length_append, List.length_cons, List.length_nil, Nat.zero_add] at this
    rw [e, this]; simp
theorem splice_toList {cs new : Array Value} {off : Nat} (h : off + new.size ≤ cs.size) : (setManyV cs.toList off new.toList).toArray = splice cs off new := by
  have e : cs.toList = cs.toList.take off ++ (cs.toList.drop off).take new.size ++ cs.toList.drop (off + new.size) := by
    rw [← List.drop_drop, List.append_assoc, List.take_append_drop, List.take_append_drop]
  have hl : (cs.toList.take off).length = off := by simp; omega
  have := setManyV_splice new.toList (cs.toList.take off) ((cs.toList.drop off).take new.size) (cs.toList.drop (off + new.size)) (by simp; omega)
  rw [hl, ← e] at this
  rw [this]
  unfold splice
  apply Array.ext'
  simp [List.extract_eq_take_drop]
  rw [List.take_of_length_le (by simp)]
def storeT (P : Program) (T : TypeId) (get : Nat → Option Blk) (x y : AV) : Tree (Nat × Blk) :=
  match P.info? T with
  | some i =>
    match x with
    | .ptr id off =>
      match y with
      | .raw (.agg ar) =>
        match get id with
        | some (.sym e cs) => .req (ar.size = i.size ∧ off + ar.size ≤ cs.size ∧ ∀ v ∈ ar.toList, oneV v = true) (.leaf (id, .sym e (splice cs off ar)))
        | _ => .stop
      | y =>
        match cellsA y with
        | some xs =>
          if xs.length ≠ i.size then .stop else
          match get id with
          | some (.lit e cs) => if off + xs.length ≤ cs.length then onesT xs (.leaf (id, .lit e (setMany cs off xs))) else .stop
          | some (.sym e cs) => match valsA xs with
            | some us => onesT xs (.ask (.d (off + xs.length ≤ cs.size)) (.leaf (id, .sym e (setManyAr cs off us))))
            | none => .stop
          | some (.row e sz kn cs) => match valsA xs with
            | some us => onesT xs (.ask (.d (off + xs.length ≤ cs.length)) (.leaf (id, .row e sz kn (setManyV cs off us))))
            | none => .stop
          | none => .stop
        | none => .stop
    | _ => .stop
  | none => .stop
theorem storeT_ang {P : Program} {T : TypeId} {get : Nat → Option Blk} {x y : AV} : (storeT P T get x y).Ang := by
  unfold storeT onesT
  repeat' split
  all_goals trivial
theorem run_storeCells {P : Program} {n : Nat} {e : TypeId} : ∀ (us : List Value) (off i : Nat) (w : World) (cs : List Value),
    w.heap[n]? = some (.cells cs.toArray e (0, 0)) → off + i + us.length ≤ cs.length → (∀ v ∈ us, oneV v = true) →
    ∃ heap', (storeCells ⟨n, off, none⟩ us i).run P w = .ok () { w with heap := heap' } ∧ heap'.size = w.heap.size ∧
      heap'[n]? = some (.cells (setManyV cs (off + i) us).toArray e (0, 0)) ∧ ∀ j, j ≠ n → heap'[j]? = w.heap[j]?
  | [], off, i, w, cs, h, _, _ => ⟨w.heap, by simp [storeCells, run_pure], rfl, h, fun _ _ => rfl⟩
  | u :: us, off, i, w, cs, h, hl, ho => by
    simp only [List.length_cons] at hl
    have hcell : w.cell? ⟨n, off + i, none⟩ = some (cs[off + i]'(by omega)) := by
      rw [cell_of h]; simp
    have hfr : w.frozen? ⟨n, off + i, none⟩ = false := by simp [World.frozen?, h]
    have hone : oneV u = true := ho u (by simp)
    let w1 : World := w.setCell ⟨n, off + i, none⟩ u
    have hw1 : w1.heap[n]? = some (.cells (cs.set (off + i) u).toArray e (0, 0)) := by
      simp [w1, World.setCell, Array.getElem?_modify, h]
    have hw2 : ∀ j, j ≠ n → w1.heap[j]? = w.heap[j]? := fun j hj => by
      simp only [w1, World.setCell, Array.getElem?_modify]
      rw [if_neg (by omega)]
    have hsz : w1.heap.size = w.heap.size := by simp [w1, World.setCell]
    have hrun : (store ⟨n, off + i, none⟩ u).run P w = .ok () w1 := by
      cases u <;> simp [oneV] at hone <;> simp [store, Sem.run, hcell, hfr, w1]
    obtain ⟨heap', h1, h2, h3, h4⟩ := run_storeCells (P := P) us off (i + 1) w1 (cs.set (off + i) u) hw1 (by simp; omega) (fun v hv => ho v (by simp [hv]))
    refine ⟨heap', ?_, by rw [h2, hsz], ?_, fun j hj => by rw [h4 j hj, hw2 j hj]⟩
    · simp only [storeCells, run_bind, addr_add, hrun, h1]
      rfl
    · simpa [setManyV, Nat.add_assoc] using h3
theorem run_storeVar {P : Program} {n : Nat} {e T : TypeId} {i : TypeInfo} (hi : P.info? T = some i) {v : Value} {off : Nat} {w : World} {cs : List Value}
    (h : w.heap[n]? = some (.cells cs.toArray e (0, 0))) (hs : v.cells.size = i.size) (hl : off + v.cells.size ≤ cs.length) (ho : ∀ u ∈ v.cells.toList, oneV u = true) :
    ∃ heap', (storeVar T ⟨n, off, none⟩ v).run P w = .ok () { w with heap := heap' } ∧ heap'.size = w.heap.size ∧
      heap'[n]? = some (.cells (setManyV cs off v.cells.toList).toArray e (0, 0)) ∧ ∀ j, j ≠ n → heap'[j]? = w.heap[j]? := by
  obtain ⟨heap', h1, h2⟩ := run_storeCells (P := P) v.cells.toList off 0 w cs h (by simpa using hl) ho
  refine ⟨heap', ?_, h2⟩
  simp only [storeVar, run_bind, run_sizeOf hi, hs, ne_eq, not_true, if_false, h1]
theorem storeT_ok {P : Program} {W0 : World} {T : Frz} {β : Places} {hp : Heap} {w : World} (h : HRel W0 T β hp w) {t : TypeId} {x y : AV} {u v : Value} (hu : V β x u) (hv : V β y v)
    {get : Nat → Option Blk} (hget' : ∀ id b, get id = some b → hget hp id = some b)
    {K : Nat × Blk → Prop} (hk : (storeT P t get x y).sem K) : ∃ id b w', K (id, b) ∧ (Instr.storeAt t u v).run P w = .ok () w' ∧ HRel W0 T β (hp.set id (some b)) w' ∧ (hget hp id).isSome := by
  unfold storeT at hk
  split at hk
  · rename_i i hi
    split at hk
    · rename_i id off
      simp only [V] at hu
      obtain ⟨n, c, hβ, rfl⟩ := hu
      have hrun : Instr.storeAt t (.pointer (some ⟨n, off, none⟩)) v = storeVar t ⟨n, off, none⟩ v := rfl
      rw [hrun]
      have key : ∀ bl, get id = some bl → ∃ o, w.heap[n]? = some o ∧ B β c bl o := fun bl hbl => by
        obtain ⟨n', c', o, h1, _, _, h4, h5⟩ := h.hp id bl (hget' _ _ hbl)
        rw [hβ] at h1; obtain ⟨rfl, rfl⟩ := by simpa using h1
        exact ⟨o, h4, h5⟩
      have hset : ∀ bl b', hget hp id = some bl → ∀ j, hget (hp.set id (some b')) j = if j = id then some b' else hget hp j := fun bl b' hg j => by
        rw [hget_set]
        have := hget_lt hg
        by_cases e : id = j
        · subst e; simp [this]
        · rw [if_neg (by simp [e]), if_neg (by omega)]
      split at hk
      · rename_i ar
        simp only [V] at hv
        subst hv
        split at hk
        · rename_i e cs hg
          obtain ⟨⟨h1, h2, h3⟩, hk⟩ := hk
          obtain ⟨o, ho, hB⟩ := key _ hg
          simp only [B] at hB
          subst hB
          obtain ⟨heap', r1, r2, r3, r4⟩ := run_storeVar (P := P) (v := .agg ar) (off := off) (cs := cs.toList) hi (by simpa using ho) h1 (by simpa [Value.cells] using h2) (by simpa [Value.cells] using h3)
          refine ⟨_, _, _, hk, r1, h.write (hget' _ _ hg) hβ (o' := .cells (splice cs off ar) e (0, 0)) (by simp [B]) (hset _ _ (hget' _ _ hg)) r2 ?_ r4, by rw [hget' _ _ hg]; rfl⟩
          rw [r3]
          simp only [Value.cells]
          rw [splice_toList h2]
        · exact hk.elim
      · split at hk
        · rename_i xs hcs
          have hxs := cellsA_spec hv hcs
          have hlen := hxs.length
          simp only [Array.length_toList] at hlen
          split at hk
          · exact hk.elim
          · rename_i hsz
            have hsz : v.cells.size = i.size := by rw [hlen]; simpa using hsz
            split at hk
            · rename_i e cs hg
              split at hk
              · rename_i hle
                obtain ⟨ho1, hk⟩ := onesT_sem hk
                obtain ⟨o, ho, hB⟩ := key _ hg
                simp only [B] at hB
                obtain ⟨vs, rfl, hvl⟩ := hB
                have hvlen := hvl.length
                obtain ⟨heap', r1, r2, r3, r4⟩ := run_storeVar (P := P) (v := v) (off := off) (cs := vs) hi ho hsz (by omega) (onesA_spec ho1 hxs)
                exact ⟨_, _, _, hk, r1, h.write (hget' _ _ hg) hβ (by simp only [B]; exact ⟨_, rfl, setMany_VL off hxs hvl⟩) (hset _ _ (hget' _ _ hg)) r2 r3 r4, by rw [hget' _ _ hg]; rfl⟩
              · exact hk.elim
            · rename_i e cs hg
              split at hk
              · rename_i us hus
                obtain ⟨ho1, hle, hk⟩ := onesT_sem hk
                replace hle : off + xs.length ≤ cs.size := hle
                obtain ⟨o, ho, hB⟩ := key _ hg
                simp only [B] at hB
                subst hB
                have e1 := valsA_spec hus hxs
                obtain ⟨heap', r1, r2, r3, r4⟩ := run_storeVar (P := P) (v := v) (off := off) (cs := cs.toList) hi (by simpa using ho) hsz (by simp; omega) (onesA_spec ho1 hxs)
                refine ⟨_, _, _, hk, r1, h.write (hget' _ _ hg) hβ (o' := .cells (setManyAr cs off us) e (0, 0)) (by simp [B]) (hset _ _ (hget' _ _ hg)) r2 ?_ r4, by rw [hget' _ _ hg]; rfl⟩
                rw [r3, setManyAr_toList, e1]
              · exact hk.elim
            · rename_i e sz kn cs hg
              split at hk
              · rename_i us hus
                obtain ⟨ho1, hle, hk⟩ := onesT_sem hk
                replace hle : off + xs.length ≤ cs.length := hle
                obtain ⟨o, ho, hB⟩ := key _ hg
                simp only [B] at hB
                obtain ⟨rest, rfl, hr⟩ := hB
                have e1 := valsA_spec hus hxs
                obtain ⟨heap', r1, r2, r3, r4⟩ := run_storeVar (P := P) (v := v) (off := off) (cs := cs ++ rest) hi ho hsz (by simp; omega) (onesA_spec ho1 hxs)
                refine ⟨_, _, _, hk, r1, h.write (hget' _ _ hg) hβ (o' := .cells (setManyV cs off us ++ rest).toArray e (0, 0)) (by simp only [B]; exact ⟨rest, rfl, by rw [setManyV_length]; exact hr⟩) (hset _ _ (hget' _ _ hg)) r2 ?_ r4, by rw [hget' _ _ hg]; rfl⟩
                rw [r3, e1]
                have hul : us.length = xs.length := by rw [← e1]; simp [hlen]
                have app : ∀ (us cs : List Value) (off : Nat), off + us.length ≤ cs.length → setManyV (cs ++ rest) off us = setManyV cs off us ++ rest := by
                  intro us
                  induction us with
                  | nil => intro cs off _; rfl
                  | cons u us ih =>
                    intro cs off hl
                    simp only [List.length_cons] at hl
                    simp only [setManyV]
                    rw [List.set_append_left _ _ (by omega)]
                    exact ih _ _ (by simp; omega)
                rw [app us cs off (by omega)]
              · exact hk.elim
            · exact hk.elim
        · exact hk.elim
    · exact hk.elim
  · exact hk.elim
end Go.Sx
