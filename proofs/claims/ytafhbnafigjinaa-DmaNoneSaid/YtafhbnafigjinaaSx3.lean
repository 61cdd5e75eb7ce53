/-
  Operations that read memory or compute on addresses, structs, slices: their abstract values, and that the model's own run agrees.
-/
import Derived.Test.YtafhbnafigjinaaSx2
set_option linter.unusedSimpArgs false
set_option linter.unusedVariables false
namespace Go.Sx

/-! ### Cells -/
def intOf : Option Value → Int
  | some (.int _ n) => n
  | _ => 0
def boolOf : Option Value → Bool
  | some (.bool b) => b
  | _ => false
def isI (k : IntKind) (o : Option Value) : Prop := ∃ n : Int, o = some (.int k n) ∧ has k n
def isB (o : Option Value) : Prop := ∃ b : Bool, o = some (.bool b)
/-- A slice's parts. -/
def slNil : Option Value → Bool
  | some (.slice none _ _) => true
  | _ => false
def slBlk : Option Value → Nat
  | some (.slice (some a) _ _) => a.block
  | _ => 0
def slOff : Option Value → Nat
  | some (.slice (some a) _ _) => a.off
  | _ => 0
def slLen : Option Value → Nat
  | some (.slice _ n _) => n
  | _ => 0
def slCap : Option Value → Nat
  | some (.slice _ _ c) => c
  | _ => 0
def isS (o : Option Value) : Prop := o = some (.slice none 0 0) ∨ ∃ b off len cap, o = some (.slice (some ⟨b, off, none⟩) len cap)
def cellT (d : Option TypeDesc) (o : Option Value) : Tree AV :=
  match d with
  | some (.int k) => .req (isI k o) (.leaf (.int k (intOf o)))
  | some .bool => .req (isB o) (.leaf (.bool (boolOf o)))
  | some (.slice _) => .req (isS o) (.ite (slNil o) (.leaf (.raw (.slice none 0 0))) (.leaf (.raw (.slice (some ⟨slBlk o, slOff o, none⟩) (slLen o) (slCap o)))))
  | _ => .req (o.isSome = true) (.leaf (.raw (o.getD undef)))
theorem cellT_ang (d : Option TypeDesc) (o : Option Value) : (cellT d o).Ang := by
  unfold cellT; split <;> simp [Tree.Ang]
theorem cellT_sem {β : Places} {d : Option TypeDesc} {o : Option Value} {K : AV → Prop} (h : (cellT d o).sem K) : ∃ a v, K a ∧ o = some v ∧ V β a v := by
  unfold cellT at h
  split at h
  · obtain ⟨⟨n, h1, h2⟩, hk⟩ := h; subst h1; exact ⟨_, _, hk, rfl, V_int h2⟩
  · obtain ⟨⟨b, h1⟩, hk⟩ := h; subst h1; exact ⟨_, _, hk, rfl, V_bool⟩
  · obtain ⟨h1 | ⟨b, off, len, cap, h1⟩, hk⟩ := h
    · subst h1; exact ⟨_, _, hk.1 rfl, rfl, by simp [V]⟩
    · subst h1; exact ⟨_, _, hk.2 rfl, rfl, by simp [V, slBlk, slOff, slLen, slCap]⟩
  · obtain ⟨h1, hk⟩ := h
    obtain ⟨v, rfl⟩ := Option.isSome_iff_exists.1 h1
    exact ⟨_, v, hk, rfl, by simp [V]⟩
def cellsT : List (Option TypeDesc) → Nat → (Nat → Option Value) → Tree (List AV)
  | [], _, _ => .leaf []
  | d :: ds, i, p => (cellT d (p i)).bind fun c => (cellsT ds (i + 1) p).bind fun cs => .leaf (c :: cs)
theorem cellsT_ang : ∀ (ds : List (Option TypeDesc)) (i : Nat) (p : Nat → Option Value), (cellsT ds i p).Ang
  | [], _, _ => trivial
  | d :: ds, i, p => Tree.ang_bind (cellT_ang _ _) fun _ => Tree.ang_bind (cellsT_ang ds (i + 1) p) fun _ => trivial
theorem cellsT_sem {β : Places} {p : Nat → Option Value} : ∀ {ds : List (Option TypeDesc)} {i : Nat} {K : List AV → Prop}, (cellsT ds i p).sem K →
    ∃ as vs, K as ∧ VL β as vs ∧ vs.length = ds.length ∧ ∀ j v, vs[j]? = some v → p (i + j) = some v
  | [], i, K, h => ⟨[], [], h, by simp [VL], rfl, by simp⟩
  | d :: ds, i, K, h => by
    simp only [cellsT, Tree.sem_bind] at h
    obtain ⟨a, v, h1, h2, h3⟩ := cellT_sem (β := β) h
    obtain ⟨as, vs, h4, h5, h6, h7⟩ := cellsT_sem (β := β) h1
    refine ⟨a :: as, v :: vs, h4, by simp only [VL]; exact ⟨_, _, rfl, h3, h5⟩, by simp [h6], ?_⟩
    intro j u hu
    cases j with
    | zero => simp at hu; subst hu; exact h2
    | succ j => have := h7 j u (by simpa using hu); rwa [Nat.add_assoc, Nat.add_comm 1 j] at this
/-- The types of a type's cells. -/
def flat (P : Program) : Nat → TypeId → List (Option TypeDesc)
  | 0, _ => []
  | f + 1, t => match P.underlying t with
    | some (.struct fs) => fs.toList.flatMap fun fd => flat P f fd.type
    | some (.array n e) => (List.range n).flatMap fun _ => flat P f e
    | d => [d]

/-! ### Loads -/
theorem run_load {P : Program} {w : World} {a : Addr} {v : Value} (h : w.cell? a = some v) : (load a).run P w = .ok v w := by
  simp [load, Sem.run, h]
theorem addr_add (b off i : Nat) : (⟨b, off, none⟩ : Addr).add i = ⟨b, off + i, none⟩ := by
  unfold Addr.add; split <;> simp_all
theorem run_loadCellsFrom {P : Program} {w : World} {b off : Nat} : ∀ (vs : List Value) (i : Nat) (acc : Array Value),
    (∀ j v, vs[j]? = some v → w.cell? ⟨b, off + (i + j), none⟩ = some v) →
    (loadCellsFrom ⟨b, off, none⟩ i vs.length acc).run P w = .ok (acc ++ vs.toArray) w
  | [], i, acc, _ => by simp [loadCellsFrom, run_pure]
  | v :: vs, i, acc, h => by
    simp only [List.length_cons, loadCellsFrom, run_bind, addr_add]
    rw [run_load (v := v) (by simpa using h 0 v (by simp))]
    simp only
    rw [run_loadCellsFrom vs (i + 1) (acc.push v) (fun j u hu => by
      have := h (j + 1) u (by simpa using hu)
      rwa [show i + (j + 1) = i + 1 + j by omega] at this)]
    simp
theorem run_loadCells {P : Program} {w : World} {b off : Nat} (vs : List Value) (h : ∀ j v, vs[j]? = some v → w.cell? ⟨b, off + j, none⟩ = some v) :
    (loadCells ⟨b, off, none⟩ vs.length).run P w = .ok vs.toArray w := by
  unfold loadCells
  rw [run_loadCellsFrom vs 0 #[] (fun j v hv => by simpa using h j v hv)]
  simp

theorem run_loadVar_agg {P : Program} {w : World} {T : TypeId} {d : TypeDesc} {i : TypeInfo} (hd : P.underlying T = some d) (hi : P.info? T = some i) (ha : isAggD d = true)
    {b off : Nat} (vs : List Value) (hl : vs.length = i.size) (h : ∀ j v, vs[j]? = some v → w.cell? ⟨b, off + j, none⟩ = some v) :
    (loadVar T ⟨b, off, none⟩).run P w = .ok (.agg vs.toArray) w := by
  unfold loadVar
  rw [run_bind, run_isAgg hd]
  simp only [ha, if_true, run_bind, run_sizeOf hi, ← hl, run_loadCells vs h, run_pure]
theorem run_loadVar_one {P : Program} {w : World} {T : TypeId} {d : TypeDesc} (hd : P.underlying T = some d) (ha : isAggD d = false)
    {a : Addr} {v : Value} (h : w.cell? a = some v) : (loadVar T a).run P w = .ok v w := by
  unfold loadVar
  rw [run_bind, run_isAgg hd]
  simp only [ha, Bool.false_eq_true, if_false, run_load h]

/-- A value read where the cells are told by p (from 'off' on). -/
def readT (P : Program) (T : TypeId) (i : TypeInfo) (d : TypeDesc) (off : Nat) (p : Nat → Option Value) : Tree AV :=
  if isAggD d then
    if (flat P 8 T).length = i.size then (cellsT (flat P 8 T) off p).bind fun cs => .leaf (.agg cs) else .stop
  else cellT (some d) (p off)
/-- Values that stand there one by one. -/
def knownL : List Value → Tree (List AV)
  | [] => .leaf []
  | .int k n :: vs => .ask (.d (has k n)) ((knownL vs).bind fun as => .leaf (.int k n :: as))
  | .bool b :: vs => (knownL vs).bind fun as => .leaf (.bool b :: as)
  | v :: vs => (knownL vs).bind fun as => .leaf (.raw v :: as)
def knownT (agg : Bool) (vs : List Value) : Tree AV :=
  if agg then (knownL vs).bind fun as => .leaf (.agg as)
  else match vs with
    | [v] => (knownL [v]).bind fun as => match as with
      | [a] => .leaf a
      | _ => .stop
    | _ => .stop
theorem knownL_ang : ∀ (vs : List Value), (knownL vs).Ang
  | [] => trivial
  | v :: vs => by
    have ih := knownL_ang vs
    cases v <;> simp only [knownL, Tree.Ang] <;> exact Tree.ang_bind ih fun _ => trivial
theorem knownL_sem {β : Places} : ∀ {vs : List Value} {K : List AV → Prop}, (knownL vs).sem K → ∃ as, K as ∧ VL β as vs
  | [], K, h => ⟨[], h, by simp [VL]⟩
  | v :: vs, K, h => by
    unfold knownL at h
    split at h
    · rename_i he; simp at he
    · rename_i k n vs' he
      obtain ⟨rfl, rfl⟩ := by simpa using he
      obtain ⟨hn, h⟩ := h
      rw [Tree.sem_bind] at h
      obtain ⟨as, h1, h2⟩ := knownL_sem h
      exact ⟨_, h1, by simp only [VL]; exact ⟨_, _, rfl, by simp only [V]; exact ⟨trivial, hn⟩, h2⟩⟩
    · rename_i b vs' he
      obtain ⟨rfl, rfl⟩ := by simpa using he
      rw [Tree.sem_bind] at h
      obtain ⟨as, h1, h2⟩ := knownL_sem h
      exact ⟨_, h1, by simp only [VL]; exact ⟨_, _, rfl, by simp only [V], h2⟩⟩
    · rename_i v' vs' _ _ he
      obtain ⟨rfl, rfl⟩ := by simpa using he
      rw [Tree.sem_bind] at h
      obtain ⟨as, h1, h2⟩ := knownL_sem h
      exact ⟨_, h1, by simp only [VL]; exact ⟨_, _, rfl, by simp only [V], h2⟩⟩
theorem knownT_sem {β : Places} {g : Bool} {vs : List Value} {K : AV → Prop} (h : (knownT g vs).sem K) : ∃ a v, K a ∧ V β a v ∧ (g = true → v = .agg vs.toArray) ∧ (g = false → vs = [v]) := by
  unfold knownT at h
  split at h
  · rename_i hg
    rw [Tree.sem_bind] at h
    obtain ⟨as, h1, h2⟩ := knownL_sem (β := β) h
    exact ⟨_, .agg vs.toArray, h1, by simp only [V]; exact ⟨vs, rfl, h2⟩, fun _ => rfl, fun e => by simp [e] at hg⟩
  · rename_i hg
    split at h
    · rename_i v
      rw [Tree.sem_bind] at h
      obtain ⟨as, h1, h2⟩ := knownL_sem (β := β) h
      split at h1
      · simp only [VL] at h2
        obtain ⟨u, us, e, hu, rfl⟩ := h2
        obtain ⟨rfl, _⟩ := by simpa using e
        exact ⟨_, v, h1, hu, fun e => absurd e hg, fun _ => rfl⟩
      · exact h1.elim
    · exact h.elim
theorem knownT_ang {g : Bool} {vs : List Value} : (knownT g vs).Ang := by
  unfold knownT
  split
  · exact Tree.ang_bind (knownL_ang _) fun _ => trivial
  · split
    · refine Tree.ang_bind (knownL_ang _) fun as => ?_
      split <;> trivial
    · trivial
def loadT (P : Program) (W0 : World) (get : Nat → Option Blk) (T : TypeId) (x : AV) : Tree AV :=
  match P.info? T, P.underlying T with
  | some i, some d =>
    match x with
    | .ptr id off =>
      match get id with
      | some (.lit _ cs) =>
        if isAggD d then (if off + i.size ≤ cs.length then .leaf (.agg ((cs.drop off).take i.size)) else .stop)
        else match cs[off]? with
          | some c => .leaf c
          | none => .stop
      | some (.sym _ arr) =>
        if isAggD d && decide (40 < i.size) then .ask (.d (off + i.size ≤ arr.size)) (.leaf (.raw (.agg (arr.extract off (off + i.size)))))
        else readT P T i d off fun j => arr[j]?
      | some (.row _ _ kn cs) => if kn then (if off + i.size ≤ cs.length then knownT (isAggD d) ((cs.drop off).take i.size) else .stop) else readT P T i d off fun j => cs[j]?
      | none => .stop
    | .raw (.pointer (some ⟨b, off, none⟩)) => readT P T i d off fun j => W0.cell? ⟨b, j, none⟩
    | _ => .stop
  | _, _ => .stop

theorem readT_ok {P : Program} {w : World} {β : Places} {T : TypeId} {i : TypeInfo} {d : TypeDesc} (hi : P.info? T = some i) (hd : P.underlying T = some d)
    {b off : Nat} {p : Nat → Option Value} (hp : ∀ j v, p j = some v → w.cell? ⟨b, j, none⟩ = some v) : Ok P w β (readT P T i d off p) (loadVar T ⟨b, off, none⟩) := by
  unfold readT
  split
  · rename_i ha
    split
    · rename_i hl
      intro K hk
      rw [Tree.sem_bind] at hk
      obtain ⟨as, vs, h1, h2, h3, h4⟩ := cellsT_sem (β := β) hk
      exact ⟨.agg as, .agg vs.toArray, h1, run_loadVar_agg hd hi ha vs (h3.trans hl) (fun j v hv => hp _ _ (h4 j v hv)), by simp only [V]; exact ⟨vs, rfl, h2⟩⟩
    · exact .stop
  · rename_i ha
    intro K hk
    obtain ⟨a, v, h1, h2, h3⟩ := cellT_sem (β := β) hk
    exact ⟨a, v, h1, run_loadVar_one hd (by simpa using ha) (hp _ _ h2), h3⟩
theorem cell_of {w : World} {n : Nat} {c : Array Value} {e : TypeId} {f : Nat × Nat} (h : w.heap[n]? = some (.cells c e f)) (j : Nat) : w.cell? ⟨n, j, none⟩ = c[j]? := by
  simp [World.cell?, h]
theorem cell_lt {W0 : World} {b j : Nat} {v : Value} (h : W0.cell? ⟨b, j, none⟩ = some v) : b < W0.heap.size := by
  rcases Nat.lt_or_ge b W0.heap.size with h' | h'
  · exact h'
  · simp [World.cell?, Array.getElem?_eq_none h'] at h
theorem HRel.cell_ro {W0 : World} {T : Frz} {β : Places} {hp : Heap} {w : World} (h : HRel W0 T β hp w) {b j : Nat} (hb : b < W0.heap.size) : w.cell? ⟨b, j, none⟩ = W0.cell? ⟨b, j, none⟩ := by
  simp [World.cell?, h.ro b hb]

theorem loadT_ok {P : Program} {W0 : World} {T : Frz} {β : Places} {hp : Heap} {w : World} (h : HRel W0 T β hp w) {get : Nat → Option Blk} (hget' : ∀ id b, get id = some b → hget hp id = some b)
    {t : TypeId} {x : AV} {v : Value} (hv : V β x v) : Ok P w β (loadT P W0 get t x) (Instr.loadAt t v) := by
  unfold loadT
  split
  · rename_i i d hi hd
    split
    · rename_i id off
      simp only [V] at hv
      obtain ⟨n, c, hβ, rfl⟩ := hv
      have hrun : Instr.loadAt t (.pointer (some ⟨n, off, none⟩)) = loadVar t ⟨n, off, none⟩ := rfl
      rw [hrun]
      have key : ∀ bl, get id = some bl → ∃ o, w.heap[n]? = some o ∧ B β c bl o := fun bl hbl => by
        obtain ⟨n', c', o, h1, _, _, h4, h5⟩ := h.hp id bl (hget' _ _ hbl)
        rw [hβ] at h1; obtain ⟨rfl, rfl⟩ := by simpa using h1
        exact ⟨o, h4, h5⟩
      split
      · rename_i e cs hg
        obtain ⟨o, ho, hB⟩ := key _ hg
        simp only [B] at hB
        obtain ⟨vs, rfl, hvl⟩ := hB
        split
        · rename_i ha
          split
          · rename_i hle
            refine .leaf (v := .agg ((vs.drop off).take i.size).toArray) ?_ (by simp only [V]; exact ⟨_, rfl, (hvl.drop off).take _⟩)
            have hlen := hvl.length
            refine run_loadVar_agg hd hi ha _ (by simp; omega) ?_
            intro j u hu
            rw [cell_of ho]
            simp only [List.getElem?_toArray]
            rw [List.getElem?_take] at hu
            split at hu
            · simpa using hu
            · simp at hu
          · exact .stop
        · rename_i ha
          split
          · rename_i a hc
            obtain ⟨u, hu, hV⟩ := hvl.get off a hc
            exact .leaf (run_loadVar_one hd (by simpa using ha) (by rw [cell_of ho]; simpa using hu)) hV
          · exact .stop
      · rename_i e arr hg
        obtain ⟨o, ho, hB⟩ := key _ hg
        simp only [B] at hB
        subst hB
        split
        · rename_i ha
          simp only [Bool.and_eq_true] at ha
          refine .ask fun (hle : off + i.size ≤ arr.size) => .leaf (v := .agg (arr.extract off (off + i.size))) ?_ (by simp [V])
          have := run_loadVar_agg (P := P) (w := w) (b := n) (off := off) hd hi ha.1 (arr.extract off (off + i.size)).toList (by simp; omega) (by
            intro j u hu
            rw [cell_of ho]
            simp only [Array.getElem?_toList, Array.getElem?_extract] at hu
            split at hu
            · exact hu
            · simp at hu)
          rwa [Array.toArray_toList] at this
        · exact readT_ok hi hd fun j u hu => by rw [cell_of ho]; exact hu
      · rename_i e sz kn cs hg
        obtain ⟨o, ho, hB⟩ := key _ hg
        simp only [B] at hB
        obtain ⟨rest, rfl, _⟩ := hB
        split
        · split
          · rename_i hle
            intro K hk
            obtain ⟨a, v, h1, h2, h3, h4⟩ := knownT_sem (β := β) hk
            have hcell : ∀ j u, ((cs.drop off).take i.size)[j]? = some u → w.cell? ⟨n, off + j, none⟩ = some u := fun j u hu => by
              rw [cell_of ho]
              simp only [List.getElem?_toArray]
              rw [List.getElem?_take] at hu
              split at hu
              · rw [List.getElem?_drop] at hu
                rw [List.getElem?_append_left (by have := (List.getElem?_eq_some_iff.1 hu).1; omega)]
                exact hu
              · simp at hu
            refine ⟨a, v, h1, ?_, h2⟩
            cases hg : isAggD d with
            | true =>
              rw [h3 hg]
              exact run_loadVar_agg hd hi hg _ (by simp; omega) hcell
            | false =>
              have e := h4 hg
              refine run_loadVar_one hd hg ?_
              have := hcell 0 v (by rw [e]; rfl)
              simpa using this
          · exact .stop
        refine readT_ok hi hd fun j u hu => ?_
        rw [cell_of ho]
        have : j < cs.length := by
          rcases Nat.lt_or_ge j cs.length with h' | h'
          · exact h'
          · simp [List.getElem?_eq_none h'] at hu
        simp only [List.getElem?_toArray]
        rw [List.getElem?_append_left this]; exact hu
      · exact .stop
    · rename_i b off
      simp only [V] at hv
      subst hv
      exact readT_ok hi hd fun j u hu => by rw [h.cell_ro (cell_lt hu)]; exact hu
    · exact .stop
  · exact .stop
theorem readT_ang {P : Program} {T : TypeId} {i : TypeInfo} {d : TypeDesc} {off : Nat} {p : Nat → Option Value} : (readT P T i d off p).Ang := by
  unfold readT
  split
  · split
    · exact Tree.ang_bind (cellsT_ang _ _ _) fun _ => trivial
    · trivial
  · exact cellT_ang _ _
theorem loadT_ang {P : Program} {W0 : World} {get : Nat → Option Blk} {T : TypeId} {x : AV} : (loadT P W0 get T x).Ang := by
  unfold loadT
  split
  · split
    · split
      · split
        · split <;> trivial
        · split <;> trivial
      · split
        · trivial
        · exact readT_ang
      · split
        · split
          · exact knownT_ang
          · trivial
        · exact readT_ang
      · trivial
    · exact readT_ang
    · trivial
  · trivial

/-! ### Addresses -/
def fieldAddrT (P : Program) (s : TypeId) (x : AV) (f : Nat) : Tree AV :=
  match P.underlying s with
  | some (.struct fs) =>
    match fs[f]? with
    | some fd =>
      match P.info? fd.type with
      | some i =>
        if i.size = 0 then .stop else
        match x with
        | .ptr id off => .leaf (.ptr id (off + fd.offset))
        | .raw (.pointer (some ⟨b, off, none⟩)) => .leaf (.raw (.pointer (some ⟨b, off + fd.offset, none⟩)))
        | _ => .stop
      | none => .stop
    | none => .stop
  | _ => .stop
theorem fieldAddrT_ok {P : Program} {w : World} {β : Places} {s : TypeId} {x : AV} {v : Value} {f : Nat} (hv : V β x v) :
    Ok P w β (fieldAddrT P s x f) (Instr.fieldAt s v f) := by
  unfold fieldAddrT
  split
  · rename_i fs hs
    split
    · rename_i fd hf
      split
      · rename_i i hi
        split
        · exact .stop
        · rename_i hsz
          have key : ∀ n off, (Instr.fieldAt s (.pointer (some ⟨n, off, none⟩)) f).run P w = .ok (.pointer (some ⟨n, off + fd.offset, none⟩)) w := fun n off => by
            simp [Instr.fieldAt, run_bind, run_underlying hs, hf, Instr.sureAddr, fieldPlace, run_sizeOf hi, hsz, run_pure, addr_add]
          split
          · rename_i id off
            simp only [V] at hv
            obtain ⟨n, c, hβ, rfl⟩ := hv
            exact .leaf (key n off) (by simp only [V]; exact ⟨n, c, hβ, rfl⟩)
          · rename_i b off
            simp only [V] at hv
            subst hv
            exact .leaf (key b off) (by simp [V])
          · exact .stop
      · exact .stop
    · exact .stop
  · exact .stop
theorem fieldAddrT_ang {P : Program} {s : TypeId} {x : AV} {f : Nat} : (fieldAddrT P s x f).Ang := by
  unfold fieldAddrT
  repeat' split
  all_goals trivial

/-- A condition on an index: decided at once where the index is a constant. -/
def ixT (ic : Bool) (i : Int) (len : Nat) (t : Tree AV) : Tree AV :=
  if ic then (if 0 ≤ i ∧ i < (len : Int) then t else .stop) else .ask (.d (0 ≤ i ∧ i < (len : Int))) t
theorem ixT_ok {P : Program} {w : World} {β : Places} {ic : Bool} {i : Int} {len : Nat} {t : Tree AV} {s : Sem Value} (h : 0 ≤ i ∧ i < (len : Int) → Ok P w β t s) : Ok P w β (ixT ic i len t) s := by
  unfold ixT
  split
  · split
    · exact h ‹_›
    · exact .stop
  · exact .ask h
theorem ixT_ang {ic : Bool} {i : Int} {len : Nat} {t : Tree AV} (h : t.Ang) : (ixT ic i len t).Ang := by
  unfold ixT
  split
  · split
    · exact h
    · trivial
  · exact h
def indexAddrT (P : Program) (t : TypeId) (x ix : AV) (ic : Bool) : Tree AV :=
  match ix with
  | .int _ i =>
    match P.underlying t with
    | some (.array len e) =>
      match P.info? e with
      | some ei =>
        match x with
        | .ptr id off => ixT ic i len (.leaf (.ptr id (off + i.toNat * ei.size)))
        | .raw (.pointer (some ⟨b, off, none⟩)) => ixT ic i len (.leaf (.raw (.pointer (some ⟨b, off + i.toNat * ei.size, none⟩))))
        | _ => .stop
      | none => .stop
    | some (.slice e) =>
      match P.info? e with
      | some ei =>
        match x with
        | .slice id off len _ => ixT false i len (.leaf (.ptr id (off + i.toNat * ei.size)))
        | .gsl id len => ixT false i len (.leaf (.ptr id (i.toNat * ei.size)))
        | .raw (.slice (some ⟨b, off, none⟩) len _) => ixT false i len (.leaf (.raw (.pointer (some ⟨b, off + i.toNat * ei.size, none⟩))))
        | _ => .stop
      | none => .stop
    | _ => .stop
  | _ => .stop
theorem indexAddrT_ang {P : Program} {t : TypeId} {x ix : AV} {ic : Bool} : (indexAddrT P t x ix ic).Ang := by
  unfold indexAddrT
  repeat' split
  all_goals first | trivial | exact ixT_ang trivial
theorem indexAddrT_ok {P : Program} {w : World} {β : Places} {t : TypeId} {x ix : AV} {ic : Bool} {v u : Value} (hv : V β x v) (hu : V β ix u) :
    Ok P w β (indexAddrT P t x ix ic) (Instr.indexAt t v u) := by
  unfold indexAddrT
  split
  · rename_i k i
    simp only [V] at hu
    obtain ⟨rfl, _⟩ := hu
    split
    · rename_i len e ht
      split
      · rename_i ei hei
        have key : ∀ n off, 0 ≤ i ∧ i < (len : Int) → (Instr.indexAt t (.pointer (some ⟨n, off, none⟩)) (.int k i)).run P w = .ok (.pointer (some ⟨n, off + i.toNat * ei.size, none⟩)) w := fun n off hi => by
          simp [Instr.indexAt, run_bind, asIntOf, run_underlying ht, Instr.sureAddr, run_sizeOf hei, run_pure, hi.1, hi.2, addr_add]
        split
        · rename_i id off
          simp only [V] at hv
          obtain ⟨n, c, hβ, rfl⟩ := hv
          exact ixT_ok fun hi => .leaf (key n off hi) (by simp only [V]; exact ⟨n, c, hβ, rfl⟩)
        · rename_i b off
          simp only [V] at hv
          subst hv
          exact ixT_ok fun hi => .leaf (key b off hi) (by simp [V])
        · exact .stop
      · exact .stop
    · rename_i e ht
      split
      · rename_i ei hei
        have key : ∀ n off (len cap : Nat), 0 ≤ i ∧ i < (len : Int) → (Instr.indexAt t (.slice (some ⟨n, off, none⟩) len cap) (.int k i)).run P w = .ok (.pointer (some ⟨n, off + i.toNat * ei.size, none⟩)) w := fun n off len cap hi => by
          simp [Instr.indexAt, run_bind, asIntOf, run_underlying ht, Instr.sureAddr, run_sizeOf hei, run_pure, hi.1, hi.2, addr_add]
        split
        · rename_i id off len cap
          simp only [V] at hv
          obtain ⟨n, c, hβ, rfl⟩ := hv
          exact ixT_ok fun hi => .leaf (key n off len cap hi) (by simp only [V]; exact ⟨n, c, hβ, rfl⟩)
        · rename_i id len
          simp only [V] at hv
          obtain ⟨n, c, hβ, rfl, _⟩ := hv
          exact ixT_ok fun hi => .leaf (key n 0 len c hi) (by simp only [V]; exact ⟨n, c, hβ, by simp⟩)
        · rename_i b off len cap
          simp only [V] at hv
          subst hv
          exact ixT_ok fun hi => .leaf (key b off len cap hi) (by simp [V])
        · exact .stop
      · exact .stop
    · exact .stop
  · exact .stop
end Go.Sx
