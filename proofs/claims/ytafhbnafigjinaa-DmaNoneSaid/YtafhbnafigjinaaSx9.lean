/-
  Regions that leave their order open.
-/
import Derived.Test.YtafhbnafigjinaaSx8
set_option linter.unusedSimpArgs false
set_option linter.unusedVariables false
namespace Go.Sx

/-! ### An operation looks at its operands alone -/
theorem opVal_congr {P : Program} {W0 : World} {get : Nat → Option Blk} {op : Op} {ρ ρ' : Operand → AV} (h : ∀ x ∈ op.operands, ρ x = ρ' x) : opVal P W0 get op ρ = opVal P W0 get op ρ' := by
  have hmap : ∀ xs : List (Nat × Operand), (∀ p ∈ xs, ρ p.2 = ρ' p.2) → (xs.map fun p => (p.1, ρ p.2)) = (xs.map fun p => (p.1, ρ' p.2)) := fun xs hx =>
    List.map_congr_left fun p hp => by rw [hx p hp]
  unfold opVal
  cases op
  case move x => simp only [Op.operands] at h; simp only [h x (by simp)]
  case assign x => simp only [Op.operands] at h; simp only [h x (by simp)]
  case pick c a b => simp only [Op.operands] at h; simp only [h c (by simp), h a (by simp), h b (by simp)]
  case load t a => simp only [Op.operands] at h; simp only [h a (by simp)]
  case nilCheck x => simp only [Op.operands] at h; simp only [h x (by simp)]
  case binOp op t x y yt => simp only [Op.operands] at h; simp only [h x (by simp), h y (by simp)]
  case unOp op t x => simp only [Op.operands] at h; simp only [h x (by simp)]
  case convert s d x => simp only [Op.operands] at h; simp only [h x (by simp)]
  case makeInterface t x => simp only [Op.operands] at h; simp only [h x (by simp)]
  case makeFunc f xs ys =>
    simp only [Op.operands, Array.mem_append] at h
    simp only
    rw [List.map_congr_left (fun x hx => h x (.inl (by simpa using hx))), List.map_congr_left (fun x hx => h x (.inr (by simpa using hx)))]
  case fieldAddr s x f => simp only [Op.operands] at h; simp only [h x (by simp)]
  case field t x f => simp only [Op.operands] at h; simp only [h x (by simp)]
  case indexAddr t x i => simp only [Op.operands] at h; simp only [h x (by simp), h i (by simp)]
  case index t x i => simp only [Op.operands] at h; simp only [h x (by simp), h i (by simp)]
  case extract x i => simp only [Op.operands] at h; simp only [h x (by simp)]
  case build t ps =>
    simp only [Op.operands] at h
    simp only
    rw [hmap _ fun p hp => h p.2 (by simp only [List.mem_toArray, List.mem_map]; exact ⟨p, hp, rfl⟩)]
  case slice t x lo hi mx =>
    simp only [Op.operands] at h
    cases mx with
    | some m => rfl
    | none =>
      have h1 : lo.map ρ = lo.map ρ' := by
        cases lo with
        | none => rfl
        | some l => simp only [Option.map_some]; rw [h l (by simp)]
      have h2 : hi.map ρ = hi.map ρ' := by
        cases hi with
        | none => rfl
        | some l => simp only [Option.map_some]; rw [h l (by simp)]
      simp only [h x (by simp), h1, h2]
  case typeAssert x xt t ok => simp only [Op.operands] at h; simp only [h x (by simp)]
  case call c =>
    obtain ⟨callee, args, ats⟩ := c
    simp only [Op.operands, Call.operands] at h
    cases callee with
    | value f => rfl
    | invoke r m => rfl
    | builtin b =>
      obtain ⟨args⟩ := args
      obtain ⟨ats⟩ := ats
      cases b <;> try rfl
      · match args, ats, h with
        | [x], [t], h => simp only [h x (by simp)]
        | [], _, _ => rfl
        | [_], [], _ => rfl
        | [_], _ :: _ :: _, _ => rfl
        | _ :: _ :: _, _, _ => rfl
      · match args, h with
        | [x, y], h => simp only [h x (by simp), h y (by simp)]
        | [], _ => rfl
        | [_], _ => rfl
        | _ :: _ :: _ :: _, _ => rfl
      · match args, h with
        | [x, y], h => simp only [h x (by simp), h y (by simp)]
        | [], _ => rfl
        | [_], _ => rfl
        | _ :: _ :: _ :: _, _ => rfl
  all_goals rfl
theorem opNew_congr {P : Program} {op : Op} {ρ ρ' : Operand → AV} (h : ∀ x ∈ op.operands, ρ x = ρ' x) : opNew P op ρ = opNew P op ρ' := by
  have hmap : ∀ xs : List (Nat × Operand), (∀ p ∈ xs, ρ p.2 = ρ' p.2) → (xs.map fun p => (p.1, ρ p.2)) = (xs.map fun p => (p.1, ρ' p.2)) := fun xs hx =>
    List.map_congr_left fun p hp => by rw [hx p hp]
  unfold opNew
  cases op
  case alloc T => rfl
  case box T x => simp only [Op.operands] at h; simp only [h x (by simp)]
  case buildSlice T len ps =>
    simp only [Op.operands] at h
    simp only
    rw [hmap _ fun p hp => h p.2 (by simp only [List.mem_toArray, List.mem_map]; exact ⟨p, hp, rfl⟩)]
  case makeSlice T l c => simp only [Op.operands] at h; simp only [h l (by simp), h c (by simp)]
  all_goals rfl
theorem storeK_congr {E : Env} {C : Ctx} {op : Op} {ρ ρ' : Operand → AV} (h : ∀ x ∈ op.operands, ρ x = ρ' x) : storeK E C ρ op = storeK E C ρ' op := by
  unfold storeK
  cases op
  case store t a v => simp only [Op.operands] at h; simp only [h a (by simp), h v (by simp)]
  all_goals rfl
theorem callArgs_congr {E : Env} {get : Nat → Option Blk} {c : Call} {ρ ρ' : Operand → AV} (h : ∀ x ∈ c.operands, ρ x = ρ' x) : callArgs E get c ρ = callArgs E get c ρ' := by
  obtain ⟨callee, args, ats⟩ := c
  simp only [Call.operands, Array.mem_append] at h
  have h1 : args.toList.map ρ = args.toList.map ρ' := List.map_congr_left fun x hx => h x (.inr (by simpa using hx))
  have h2 : calleeT E.P E.W0 get callee ρ = calleeT E.P E.W0 get callee ρ' := by
    unfold calleeT
    cases callee with
    | value x =>
      have hx := h x (.inl (by simp))
      cases x <;> first | rfl | (simp only [hx])
    | invoke x m => simp only [h x (.inl (by simp))]
    | builtin b => rfl
  unfold callArgs
  simp only [h1, h2]
theorem callK_congr {E : Env} {C : Ctx} {op : Op} {ρ ρ' : Operand → AV} (h : ∀ x ∈ op.operands, ρ x = ρ' x) : callK E C ρ op = callK E C ρ' op := by
  unfold callK
  cases op
  case call c => simp only [Op.operands] at h; simp only [callArgs_congr h]
  all_goals rfl
theorem appendK_congr {E : Env} {C : Ctx} {op : Op} {ρ ρ' : Operand → AV} (h : ∀ x ∈ op.operands, ρ x = ρ' x) : appendK E C ρ op = appendK E C ρ' op := by
  unfold appendK
  split
  · rename_i s x t t'
    simp only [Op.operands, Call.operands] at h
    simp only [h s (by simp), h x (by simp)]
  · rfl
theorem kern_congr {E : Env} {C : Ctx} {op : Op} {ρ ρ' : Operand → AV} (h : ∀ x ∈ op.operands, ρ x = ρ' x) : kern E C ρ op = kern E C ρ' op := by
  unfold kern
  simp only [opVal_congr h, opNew_congr h, storeK_congr h, callK_congr h, appendK_congr h]
theorem kernG_congr {E : Env} {ops : Array Oper} {C : Ctx} {o : Oper} {fr fr' : List AV} (h : ∀ t ∈ o.looksAt ops, fr.getD t .junk = fr'.getD t .junk) : kernG E ops C o fr = kernG E ops C o fr' := by
  have hop : ∀ x ∈ o.op.operands, ev fr x = ev fr' x := fun x hx => by
    cases x with
    | tmp t => exact h t (List.mem_append_left _ (List.mem_filterMap.2 ⟨.tmp t, by simpa using hx, rfl⟩))
    | _ => rfl
  unfold kernG
  cases hg : o.guard with
  | none => simp only [kern_congr hop]
  | some g =>
    have hgc : gcond ops fr g = gcond ops fr' g := by
      unfold gcond
      cases hd : (ops[g.1]?).bind (·.dst) with
      | none => rfl
      | some d =>
        have := h d (by
          unfold Oper.looksAt
          rw [hg]
          obtain ⟨g1, g2⟩ := g
          exact List.mem_append_right _ (by simp only at hd ⊢; rw [hd]; simp))
        simp only [this]
    simp only [hgc, opVal_congr hop, kern_congr hop]
    cases hop' : o.op with
    | call cl =>
      have : ∀ x ∈ cl.operands, ev fr x = ev fr' x := fun x hx => hop x (by rw [hop']; exact hx)
      simp only [callArgs_congr this]
    | _ => rfl

/-! ### Which operations leave which alone -/
inductive Cat where
  | null | light | call | new | store | other
def isLoad : Op → Bool
  | .load .. => true
  | _ => false
/-- 'eff': a call may change memory. -/
def catO (eff : Bool) (op : Op) : Cat :=
  match kindO op with
  | .val => if isLoad op then .light else .null
  | .new => .new
  | .store => .store
  | .call => if eff then .other else .call
  | .append => .other
theorem opVal_null {P : Program} {W0 : World} {get get' : Nat → Option Blk} {op : Op} {ρ : Operand → AV} (h : isLoad op = false) : opVal P W0 get op ρ = opVal P W0 get' op ρ := by
  unfold opVal
  cases op
  case load t a => simp [isLoad] at h
  case slice t x lo hi mx => cases mx <;> rfl
  case call c =>
    obtain ⟨callee, args, ats⟩ := c
    cases callee with
    | value f => rfl
    | invoke r m => rfl
    | builtin b =>
      obtain ⟨args⟩ := args
      obtain ⟨ats⟩ := ats
      cases b <;> try rfl
      · match args, ats with
        | [x], [t] => rfl
        | [], _ => rfl
        | [_], [] => rfl
        | [_], _ :: _ :: _ => rfl
        | _ :: _ :: _, _ => rfl
      · match args with
        | [x, y] => rfl
        | [] => rfl
        | [_] => rfl
        | _ :: _ :: _ :: _ => rfl
      · match args with
        | [x, y] => rfl
        | [] => rfl
        | [_] => rfl
        | _ :: _ :: _ :: _ => rfl
  all_goals rfl
/-- Operations of this kind do not look at memory. -/
theorem kernG_null {E : Env} {ops : Array Oper} {C C' : Ctx} {o : Oper} {fr : List AV} {eff : Bool} (h : catO eff o.op = .null) : kernG E ops C o fr = kernG E ops C' o fr := by
  have hk : kindO o.op = .val ∧ isLoad o.op = false := by
    unfold catO at h
    split at h <;> try (simp at h; done)
    · rename_i hk
      split at h
      · simp at h
      · rename_i hl; exact ⟨hk, by simpa using hl⟩
    · split at h <;> simp at h
  unfold kernG kern
  simp only [hk.1, opVal_null (get := C.get) (get' := C'.get) hk.2]
theorem kernG_ctx {E : Env} {ops : Array Oper} {C C' : Ctx} {o : Oper} {fr : List AV} (h : C = C') : kernG E ops C o fr = kernG E ops C' o fr := by rw [h]
theorem Tree.ang_ite {α : Type} {b : Bool} {t e : Tree α} (h1 : t.Ang) (h2 : e.Ang) : (Tree.ite b t e).Ang := ⟨h1, h2⟩
theorem callT_ang {P : Program} {W0 : World} {f : FuncId} {S : Spec} (hS : SpecOk P W0 f S) {hp : Heap} {args : List AV} {t : Tree AV} (h : callT S hp args = .pure t) : t.Ang := by
  have := callT_ok hS hp args
  rw [h] at this
  exact this.1
theorem kernG_ang {E : Env} (hE : EnvOk E) {ops : Array Oper} {C : Ctx} {o : Oper} {fr : List AV} (hC : kindO o.op = .call → C.eff = false) : (kernG E ops C o fr).Ang := by
  have kc : kindO o.op = .call → (callK E C (ev fr) o.op).Ang := fun hkc => by
    unfold callK
    split
    · refine Tree.ang_bind callArgs_ang fun r => ?_
      split
      · rename_i S hS
        split
        · rename_i t ht
          exact Tree.ang_bind (callT_ang (hE.ok _ S hS) ht) fun _ => trivial
        · rw [hC hkc]; trivial
      · trivial
    · trivial
  have hk : (kern E C (ev fr) o.op).Ang := by
    unfold kern
    split
    · exact Tree.ang_bind opVal_ang fun _ => trivial
    · exact Tree.ang_bind opNew_ang fun r => by split <;> trivial
    · unfold storeK
      split
      · exact Tree.ang_bind (force_ang _) fun _ => Tree.ang_bind (force_ang _) fun _ => Tree.ang_bind storeT_ang fun _ => trivial
      · trivial
    · rename_i hk; exact kc hk
    · unfold appendK
      split
      · split
        · exact Tree.ang_bind (force_ang _) fun _ => Tree.ang_bind (force_ang _) fun _ => Tree.ang_bind appendT_ang fun _ => trivial
        · trivial
      · trivial
  unfold kernG
  split
  · exact hk
  · split
    · trivial
    · split
      · exact Tree.ang_bind (Tree.ang_under opVal_ang) fun _ => trivial
      · split
        · refine Tree.ang_bind (Tree.ang_under callArgs_ang) fun r => ?_
          split
          · rename_i S hS
            split
            · rename_i t ht
              exact Tree.ang_bind (Tree.ang_under (callT_ang (hE.ok _ S hS) ht)) fun _ => trivial
            · exact Tree.ang_ite hk trivial
          · trivial
        · trivial
      · exact Tree.ang_ite hk trivial

/-! ### Which operation waits for which -/
def Direct (ops : Array Oper) (j i : Nat) : Prop := ∃ o, ops[j]? = some o ∧ ∃ e ∈ o.after, Region.binds .any e = true ∧ e.on = i
inductive Dep (ops : Array Oper) : Nat → Nat → Prop where
  | one {j i : Nat} : Direct ops j i → Dep ops j i
  | more {j k i : Nat} : Direct ops j k → Dep ops k i → Dep ops j i
def maskOf (acc : List Nat) (o : Oper) : Nat := o.after.toList.foldl (fun s e => if Region.binds .any e then s ||| (1 <<< e.on) ||| acc.getD e.on 0 else s) 0
def masks : List Oper → List Nat → List Nat
  | [], acc => acc
  | o :: os, acc => masks os (acc ++ [maskOf acc o])
theorem maskOf_spec {ops : Array Oper} {acc : List Nat} {j : Nat} {o : Oper} (ho : ops[j]? = some o) (hacc : ∀ k i, (acc.getD k 0).testBit i = true → Dep ops k i) {i : Nat} (h : (maskOf acc o).testBit i = true) : Dep ops j i := by
  have key : ∀ (l : List Edge) (s : Nat), (∀ e ∈ l, e ∈ o.after) → (s.testBit i = true → Dep ops j i) →
      (l.foldl (fun s e => if Region.binds .any e then s ||| (1 <<< e.on) ||| acc.getD e.on 0 else s) s).testBit i = true → Dep ops j i := by
    intro l
    induction l with
    | nil => intro s _ hs h; exact hs h
    | cons e l ih =>
      intro s hl hs h
      refine ih _ (fun e' he' => hl e' (by simp [he'])) ?_ h
      intro hb
      dsimp only at hb
      split at hb
      · rename_i hbind
        rw [Nat.testBit_or, Nat.testBit_or, Bool.or_eq_true, Bool.or_eq_true] at hb
        rcases hb with (hb | hb) | hb
        · exact hs hb
        · have : e.on = i := by
            rw [Nat.one_shiftLeft, Nat.testBit_two_pow] at hb
            simpa using hb
          exact .one ⟨o, ho, e, hl e (by simp), hbind, this⟩
        · exact .more ⟨o, ho, e, hl e (by simp), hbind, rfl⟩ (hacc _ _ hb)
      · exact hs hb
  exact key o.after.toList 0 (fun e he => by simpa using he) (fun h => by simp at h) h
theorem masks_spec {ops : Array Oper} : ∀ (os : List Oper) (acc : List Nat), (∀ k i, (acc.getD k 0).testBit i = true → Dep ops k i) → (∀ j, os[j]? = ops[acc.length + j]?) →
    ∀ k i, ((masks os acc).getD k 0).testBit i = true → Dep ops k i
  | [], acc, h, _, k, i, hk => h k i hk
  | o :: os, acc, h, ho, k, i, hk => by
    refine masks_spec os (acc ++ [maskOf acc o]) ?_ ?_ k i hk
    · intro k i hk
      have h0 : ops[acc.length]? = some o := by simpa using (ho 0).symm
      rcases Nat.lt_or_ge k acc.length with hl | hl
      · refine h k i ?_
        rwa [List.getD_eq_getElem?_getD, List.getElem?_append_left hl, ← List.getD_eq_getElem?_getD] at hk
      · rcases Nat.lt_or_ge k (acc.length + 1) with hl' | hl'
        · obtain rfl : k = acc.length := by omega
          rw [List.getD_eq_getElem?_getD, List.getElem?_append_right (Nat.le_refl _)] at hk
          simp only [Nat.sub_self, List.getElem?_cons_zero, Option.getD_some] at hk
          exact maskOf_spec h0 h hk
        · rw [List.getD_eq_getElem?_getD, List.getElem?_eq_none (by simp; omega)] at hk
          simp at hk
    · intro j
      have := ho (j + 1)
      simp only [List.getElem?_cons_succ] at this
      rw [this]; simp; congr 1; omega
/-- What is listed is listed with all that it waits for. -/
def Shut (ops : Array Oper) (listed : Array Bool) : Prop := ∀ j i, listed.getD j false = true → Direct ops j i → listed.getD i false = true
theorem Shut.dep {ops : Array Oper} {listed : Array Bool} (h : Shut ops listed) : ∀ {j i : Nat}, Dep ops j i → listed.getD j false = true → listed.getD i false = true := by
  intro j i hd
  induction hd with
  | one hd => exact fun hj => h _ _ hj hd
  | more hd _ ih => exact fun hj => ih (h _ _ hj hd)
theorem getD_false_of {listed : Array Bool} {i : Nat} (h : listed.getD i true = false) : listed.getD i false = false := by
  rcases Nat.lt_or_ge i listed.size with h' | h'
  · simp [h'] at h ⊢; exact h
  · simp [Array.getElem?_eq_none h'] at h
theorem ready_dep {ops : Array Oper} {listed : Array Bool} (h : Shut ops listed) {j i : Nat} (hj : j ∈ Region.ready .any ops listed) (hi : listed.getD i true = false) : ¬ Dep ops j i := by
  obtain ⟨_, o, ho, hall⟩ := mem_ready.1 hj
  have one : ∀ k, Direct ops j k → listed.getD k false = true := by
    rintro k ⟨o', ho', e, he, hb, rfl⟩
    rw [ho] at ho'
    obtain rfl := by simpa using ho'
    exact hall e he hb
  intro hd
  have : listed.getD i false = true := by
    cases hd with
    | one hd => exact one _ hd
    | more hd hd' => exact h.dep hd' (one _ hd)
  rw [getD_false_of hi] at this
  simp at this
theorem getD_set_cases {listed : Array Bool} {i j : Nat} (h : (listed.setIfInBounds i true).getD j false = true) : j = i ∨ listed.getD j false = true := by
  by_cases e : i = j
  · exact .inl e.symm
  · rw [getD_set_ne false e] at h; exact .inr h
theorem Shut.set {ops : Array Oper} {listed : Array Bool} (h : Shut ops listed) {i : Nat} (hi : i ∈ Region.ready .any ops listed) : Shut ops (listed.setIfInBounds i true) := by
  obtain ⟨_, o, ho, hall⟩ := mem_ready.1 hi
  intro j k hj hd
  rcases getD_set_cases hj with rfl | hj
  · obtain ⟨o', ho', e, he, hb, rfl⟩ := hd
    rw [ho] at ho'
    obtain rfl := by simpa using ho'
    exact getD_set_true (hall e he hb)
  · exact getD_set_true (h j k hj hd)

/-! ### The run of such a region -/
structure DI where
  ops : Array Oper
  ms : List Nat
  news : List Nat
  n0 : Nat
  eff : Bool
def maskH : Nat → Heap → Heap
  | _, [] => []
  | 0, _ :: h => none :: maskH 0 h
  | n + 1, b :: h => b :: maskH n h
theorem hget_maskH : ∀ (n : Nat) (h : Heap) (id : Nat), hget (maskH n h) id = if id < n then hget h id else none
  | n, [], id => by simp [maskH, hget]
  | 0, x :: h, 0 => by simp [maskH, hget]
  | 0, x :: h, id + 1 => by simp [maskH, hget, hget_maskH 0 h id]
  | n + 1, x :: h, 0 => by simp [maskH, hget]
  | n + 1, x :: h, id + 1 => by simp [maskH, hget, hget_maskH n h id]
theorem length_maskH : ∀ (n : Nat) (h : Heap), (maskH n h).length = h.length
  | n, [] => by simp [maskH]
  | 0, x :: h => by simp [maskH, length_maskH 0 h]
  | n + 1, x :: h => by simp [maskH, length_maskH n h]
theorem maskH_set : ∀ (n : Nat) (h : Heap) (id : Nat) (b : Option Blk), n ≤ id → maskH n (h.set id b) = maskH n h
  | n, [], id, b, _ => by simp [maskH]
  | 0, x :: h, 0, b, _ => by simp [maskH]
  | 0, x :: h, id + 1, b, _ => by simp [maskH, maskH_set 0 h id b (by omega)]
  | n + 1, x :: h, 0, b, hn => by omega
  | n + 1, x :: h, id + 1, b, hn => by simp [maskH, maskH_set n h id b (by omega)]
def DI.dep (D : DI) (j i : Nat) : Bool := (D.ms.getD j 0).testBit i
def DI.slot (D : DI) (j : Nat) : Nat := D.n0 + idx D.news j
def dget (D : DI) (j : Nat) (hp : Heap) (id : Nat) : Option Blk :=
  if id < D.n0 then hget hp id else match D.news[id - D.n0]? with
    | some i => if D.dep j i then hget hp id else none
    | none => none
def isNew (op : Op) : Bool := match kindO op with
  | .new => true
  | _ => false
def dctx (D : DI) (j : Nat) (o : Oper) (st : St) : Ctx :=
  ⟨dget D j st.hp, if D.news.isEmpty then st.hp else maskH D.n0 st.hp, if isNew o.op then some (D.slot j) else none, D.eff && D.news.isEmpty⟩
def slotOk (D : DI) (j : Nat) (o : Oper) (hp : Heap) : Bool := !isNew o.op || (D.news.contains j && (hget hp (D.slot j)).isNone && decide (D.slot j < hp.length))
/-- It stands ahead of or behind each other one. -/
def DI.solo (D : DI) (j : Nat) : Bool := (List.range D.ops.size).all fun i => i == j || D.dep j i || D.dep i j
def fin (solo : Bool) (st : St) (d : Option Tmp) : Kr → Tree St
  | .mem v hp' => if !solo && deadIn st.hp hp' then .stop else .leaf (appl st d (.mem v hp'))
  | .app .. => .stop
  | r => .leaf (appl st d r)
def kG (E : Env) (D : DI) (j : Nat) (o : Oper) (st : St) : Tree Kr := if slotOk D j o st.hp then kernG E D.ops (dctx D j o st) o st.fr else .stop
def dstep (E : Env) (D : DI) (j : Nat) (st : St) : Tree St :=
  match D.ops[j]? with
  | some o => (kG E D j o st).bind (fin (D.solo j) st o.dst)
  | none => .stop
theorem dctx_ok {N0 : Nat} {D : DI} (hN : N0 ≤ D.n0) {j : Nat} {o : Oper} {st : St} (h : slotOk D j o st.hp = true) : CtxOk N0 (dctx D j o st) st.hp := by
  refine ⟨?_, ?_, ?_, ?_, ?_⟩
  · intro id b hb
    simp only [dctx, dget] at hb
    split at hb
    · exact hb
    · split at hb
      · split at hb
        · exact hb
        · simp at hb
      · simp at hb
  · intro id b hb
    simp only [dctx] at hb
    split at hb
    · exact hb
    · rw [hget_maskH] at hb
      split at hb
      · exact hb
      · simp at hb
  · simp only [dctx]; split
    · rfl
    · exact length_maskH _ _
  · intro he
    simp only [dctx, Bool.and_eq_true] at he ⊢
    rw [if_pos he.2]
  · intro id hid
    simp only [dctx] at hid
    split at hid
    · rename_i hn
      obtain rfl := by simpa using hid
      simp only [slotOk, hn, Bool.not_true, Bool.false_or, Bool.and_eq_true, decide_eq_true_eq, Option.isNone_iff_eq_none] at h
      exact ⟨h.1.2, h.2, by unfold DI.slot; omega⟩
    · simp at hid
section
variable {E : Env} {T : Fx} {D : DI}
theorem dstep_ok (hE : EnvOk E) (hN : T.N0 ≤ D.n0) {K : St → Prop} {st : St} {j : Nat} (hk : (dstep E D j st).sem K) {β : Places} {a : Act} {w : World} (h : Rel E.W0 T β st a w) (Q : Exit → Act → World → Prop) :
    wpOp E.P D.ops Q j (Next1 E T K) a w := by
  unfold dstep at hk
  split at hk
  · rename_i o ho
    unfold kG at hk
    split at hk
    · rename_i hs
      refine nstep_ok hE (dctx_ok hN hs) ho ?_ h Q
      unfold nstep
      rw [Tree.sem_bind] at hk ⊢
      refine Tree.sem_mono (fun r hr => ?_) hk
      unfold fin at hr
      split at hr
      · split at hr
        · exact hr.elim
        · exact hr
      · exact hr.elim
      · exact hr
    · exact hk.elim
  · exact hk.elim
/-- Whatever order is picked. -/
def game (E : Env) (D : DI) (K : St → Prop) : Nat → Array Bool → St → Prop
  | 0, listed, st => Region.ready .any D.ops listed = [] ∧ K st
  | f + 1, listed, st => (Region.ready .any D.ops listed = [] → K st) ∧ ∀ i ∈ Region.ready .any D.ops listed, (dstep E D i st).sem fun s => game E D K f (listed.setIfInBounds i true) s
theorem game_sound (hE : EnvOk E) (hN : T.N0 ≤ D.n0) {K : St → Prop} {Q : Exit → Act → World → Prop} (hQ : ∀ st β a w, K st → Rel E.W0 T β st a w → Q .normal a w) :
    ∀ (f : Nat) (listed : Array Bool) (st : St) (β : Places) (a : Act) (w : World), game E D K f listed st → Rel E.W0 T β st a w → wpAny E.P .any D.ops Q f listed a w
  | 0, _, st, β, a, w, hg, h => ⟨hg.1, hQ st β a w hg.2 h⟩
  | f + 1, listed, st, β, a, w, hg, h => ⟨fun h0 => hQ st β a w (hg.1 h0) h, fun i hi => wpOp_mono (fun a' w' ⟨s, β', hs, h'⟩ => game_sound hE hN hQ f _ s β' a' w' hs h') (dstep_ok hE hN (hg.2 i hi) h Q)⟩
/-- The two may be taken in either order. -/
def Comm (E : Env) (D : DI) (i j : Nat) : Prop := ∀ (K : St → Prop) (st : St), ((dstep E D i st).sem fun s => (dstep E D j s).sem K) → (dstep E D j st).sem fun s => (dstep E D i s).sem K
theorem game_first {K : St → Prop} {i : Nat} (hang : ∀ st, (dstep E D i st).Ang) : ∀ (f : Nat) (listed : Array Bool) (st : St), Shut D.ops listed → i ∈ Region.ready .any D.ops listed →
    (∀ j, j ≠ i → listed.getD j true = false → ¬ Dep D.ops j i → ¬ Dep D.ops i j → Comm E D i j) →
    ((dstep E D i st).sem fun s => game E D K f (listed.setIfInBounds i true) s) → game E D K (f + 1) listed st
  | 0, listed, st, hsh, hi, hc, H => by
    refine ⟨fun h => (by rw [h] at hi; cases hi), fun j hj => ?_⟩
    by_cases hji : j = i
    · subst hji; exact H
    · exfalso
      have hr := ready_mono hj hji
      obtain ⟨s, _, hs⟩ := (Tree.sem_ang (hang st) _).1 H
      rw [hs.1] at hr
      cases hr
  | f + 1, listed, st, hsh, hi, hc, H => by
    refine ⟨fun h => (by rw [h] at hi; cases hi), fun j hj => ?_⟩
    by_cases hji : j = i
    · subst hji; exact H
    · have hun := (mem_ready.1 hi).1
      have hjun := (mem_ready.1 hj).1
      have hcom := hc j hji hjun (ready_dep hsh hj hun) (ready_dep hsh hi hjun)
      have h1 : (dstep E D i st).sem fun s => (dstep E D j s).sem fun s' => game E D K f ((listed.setIfInBounds i true).setIfInBounds j true) s' :=
        Tree.sem_mono (fun s hs => hs.2 j (ready_mono hj hji)) H
      refine Tree.sem_mono (fun s hs => ?_) (hcom _ _ h1)
      refine game_first hang f (listed.setIfInBounds j true) s (hsh.set hj) (ready_mono hi (Ne.symm hji)) (fun k hki hk => hc k hki ?_) ?_
      · by_cases e : j = k
        · subst e; exact hjun
        · rw [getD_set_ne true e] at hk; exact hk
      · rw [Array.setIfInBounds_comm _ _ hji]
        exact hs

/-! ### Which two may be taken in either order -/
def okPair : Cat → Cat → Bool
  | .null, _ => true
  | .light, .null | .light, .light | .light, .call | .light, .new => true
  | .call, .null | .call, .light | .call, .call | .call, .new => true
  | .new, .null | .new, .light | .new, .call | .new, .new | .new, .store => true
  | .store, .null | .store, .new => true
  | _, _ => false
theorem isNew_cat {eff : Bool} {op : Op} : catO eff op = .new ↔ isNew op = true := by
  unfold catO isNew
  cases kindO op <;> simp <;> split <;> simp
theorem cat_call {eff : Bool} {op : Op} (h : kindO op = .call) (hc : catO eff op ≠ .other) : eff = false := by
  unfold catO at hc
  rw [h] at hc
  cases eff <;> simp at hc ⊢
theorem kG_ang (hE : EnvOk E) {j : Nat} {o : Oper} (hc : catO D.eff o.op ≠ .other) (st : St) : (kG E D j o st).Ang := by
  unfold kG
  split
  · exact kernG_ang hE fun h => by simp [dctx, cat_call h hc]
  · trivial
theorem fin_ang (s : Bool) (st : St) (d : Option Tmp) (r : Kr) : (fin s st d r).Ang := by
  unfold fin
  split
  · split <;> trivial
  · trivial
  · trivial
theorem dstep_ang (hE : EnvOk E) {i : Nat} {o : Oper} (ho : D.ops[i]? = some o) (hc : catO D.eff o.op ≠ .other) (st : St) : (dstep E D i st).Ang := by
  unfold dstep
  rw [ho]
  exact Tree.ang_bind (kG_ang hE hc st) fun r => fin_ang _ _ _ _
def Leaves {α : Type} (φ : α → Prop) : Tree α → Prop
  | .leaf a => φ a
  | .stop => True
  | .req _ t => Leaves φ t
  | .ask _ t => Leaves φ t
  | .ite _ t e => Leaves φ t ∧ Leaves φ e
  | .ex _ f => ∀ x, Leaves φ (f x)
  | .all _ f => ∀ x, Leaves φ (f x)
theorem Leaves.sem {α : Type} {φ : α → Prop} {K : α → Prop} : ∀ {t : Tree α}, Leaves φ t → t.sem K → t.sem fun a => K a ∧ φ a
  | .leaf a, h, hk => ⟨hk, h⟩
  | .stop, _, hk => hk
  | .req _ t, h, hk => ⟨hk.1, Leaves.sem (t := t) h hk.2⟩
  | .ask _ t, h, hk => ⟨hk.1, Leaves.sem (t := t) h hk.2⟩
  | .ite _ t e, h, hk => ⟨fun hb => Leaves.sem (t := t) h.1 (hk.1 hb), fun hb => Leaves.sem (t := e) h.2 (hk.2 hb)⟩
  | .ex _ f, h, ⟨x, hx, hk⟩ => ⟨x, hx, Leaves.sem (t := f x) (h x) hk⟩
  | .all _ f, h, hk => fun x hx => Leaves.sem (t := f x) (h x) (hk x hx)
theorem Leaves.bind {α β : Type} {φ : β → Prop} {g : α → Tree β} (h : ∀ a, Leaves φ (g a)) : ∀ t : Tree α, Leaves φ (t.bind g)
  | .leaf a => h a
  | .stop => trivial
  | .req _ t => Leaves.bind h t
  | .ask _ t => Leaves.bind h t
  | .ite _ t e => ⟨Leaves.bind h t, Leaves.bind h e⟩
  | .ex _ f => fun x => Leaves.bind h (f x)
  | .all _ f => fun x => Leaves.bind h (f x)
theorem Leaves.bind' {α β : Type} {φ : β → Prop} {ψ : α → Prop} {g : α → Tree β} (h : ∀ a, ψ a → Leaves φ (g a)) : ∀ t : Tree α, Leaves ψ t → Leaves φ (t.bind g)
  | .leaf a, ht => h a ht
  | .stop, _ => trivial
  | .req _ t, ht => Leaves.bind' h t ht
  | .ask _ t, ht => Leaves.bind' h t ht
  | .ite _ t e, ht => ⟨Leaves.bind' h t ht.1, Leaves.bind' h e ht.2⟩
  | .ex _ f, ht => fun x => Leaves.bind' h (f x) (ht x)
  | .all _ f, ht => fun x => Leaves.bind' h (f x) (ht x)
/-- What an operation may come to, by its kind. -/
def Shape (C : Ctx) (k : Kind) : Kr → Prop
  | .put _ => True
  | .set _ id _ => (k = .new ∧ C.slot = some id) ∨ (k = .store ∧ (C.get id).isSome)
  | .app .. => k = .new ∧ C.slot = none
  | .mem .. => (k = .call ∧ C.eff = true) ∨ k = .append
theorem Leaves.put {C : Ctx} {k : Kind} {t : Tree AV} {f : AV → AV} : Leaves (Shape C k) (t.bind fun v => .leaf (.put (f v))) :=
  Leaves.bind (φ := Shape C k) (g := fun v => Tree.leaf (Kr.put (f v))) (fun _ => trivial) t
theorem storeT_leaves {P : Program} {T : TypeId} {get : Nat → Option Blk} {x y : AV} : Leaves (fun r => (get r.1).isSome) (storeT P T get x y) := by
  unfold storeT onesT
  split
  · split
    · split
      · split
        · rename_i hg; simp [Leaves, hg]
        · trivial
      · split
        · split
          · trivial
          · split
            · rename_i hg
              split
              · split <;> simp [Leaves, hg]
              · trivial
            · rename_i hg
              split
              · split <;> simp [Leaves, hg]
              · trivial
            · rename_i hg
              split
              · split <;> simp [Leaves, hg]
              · trivial
            · trivial
        · trivial
    · trivial
  · trivial
theorem kern_leaves {C : Ctx} {ρ : Operand → AV} {op : Op} : Leaves (Shape C (kindO op)) (kern E C ρ op) := by
  unfold kern
  split
  · exact Leaves.put (f := id)
  · rename_i hk
    refine Leaves.bind (fun r => ?_) _
    split
    · rename_i hs; rw [hk]; exact ⟨rfl, hs⟩
    · rename_i id hs; rw [hk]; exact .inl ⟨rfl, hs⟩
  · rename_i hk
    unfold storeK
    split
    · exact Leaves.bind (fun _ => Leaves.bind (fun _ => Leaves.bind' (fun r hr => by rw [hk]; exact .inr ⟨rfl, hr⟩) _ storeT_leaves) _) _
    · trivial
  · rename_i hk
    unfold callK
    split
    · refine Leaves.bind (fun r => ?_) _
      split
      · split
        · exact Leaves.put (f := id)
        · split
          · rename_i he; exact Leaves.bind (fun _ => by rw [hk]; exact .inl ⟨rfl, he⟩) _
          · trivial
      · trivial
    · trivial
  · rename_i hk
    unfold appendK
    split
    · split
      · exact Leaves.bind (fun _ => Leaves.bind (fun _ => Leaves.bind (fun q => by rw [hk]; exact .inr rfl) _) _) _
      · trivial
    · trivial
theorem kernG_leaves {C : Ctx} {ops : Array Oper} {o : Oper} {fr : List AV} : Leaves (Shape C (kindO o.op)) (kernG E ops C o fr) := by
  unfold kernG
  split
  · exact kern_leaves
  · split
    · trivial
    · split
      · exact Leaves.put (f := .opt _)
      · split
        · refine Leaves.bind (fun r => ?_) _
          split
          · split
            · exact Leaves.put (f := .opt _)
            · exact ⟨kern_leaves, trivial⟩
          · trivial
        · trivial
      · exact ⟨kern_leaves, trivial⟩
/-- What it may come to does not turn what the other one sees. -/
theorem getD_put {fr : List AV} {d t : Nat} {v : AV} (h : d ≠ t) : (fr.set d v).getD t .junk = fr.getD t .junk := by
  simp [List.getD_eq_getElem?_getD, List.getElem?_set_ne h]
theorem put_fr (st : St) (d : Option Tmp) (v : AV) : (st.put d v).fr = match d with | some d => st.fr.set d v | none => st.fr := by cases d <;> rfl
theorem kernG_put {C : Ctx} {ops : Array Oper} {x y : Oper} (hap : x.apart ops y = true) {st : St} {v : AV} {fr' : List AV} (hf : fr' = (st.put x.dst v).fr) : kernG E ops C y fr' = kernG E ops C y st.fr := by
  obtain ⟨h1, h2, h3⟩ := Oper.apart_spec hap
  refine kernG_congr fun t ht => ?_
  rw [hf, put_fr]
  cases hd : x.dst with
  | none => rfl
  | some d => exact getD_put (by rintro rfl; exact h1 d hd ht)
theorem kernG_put' {C : Ctx} {ops : Array Oper} {x y : Oper} (hap : x.apart ops y = true) {st : St} {v : AV} {fr' : List AV} (hf : fr' = (st.put y.dst v).fr) : kernG E ops C x fr' = kernG E ops C x st.fr := by
  obtain ⟨h1, h2, h3⟩ := Oper.apart_spec hap
  refine kernG_congr fun t ht => ?_
  rw [hf, put_fr]
  cases hd : y.dst with
  | none => rfl
  | some d => exact getD_put (by rintro rfl; exact h3 d hd ht)

def upd (st : St) (d : Option Tmp) : Kr → St
  | .put v => st.put d v
  | .set v id b => ({ st with hp := st.hp.set id (some b) } : St).put d v
  | .app .. => st
  | .mem v hp' => ({ st with hp := hp' } : St).put d v
def bad (st : St) : Kr → Bool
  | .app .. => true
  | .mem _ hp' => deadIn st.hp hp'
  | _ => false
theorem fin_eq (st : St) (d : Option Tmp) (r : Kr) : fin false st d r = if bad st r = true then .stop else .leaf (upd st d r) := by
  cases r with
  | put v => rfl
  | set v id b => rfl
  | app nv b => rfl
  | mem v hp' =>
    show (if (true && deadIn st.hp hp') = true then Tree.stop else Tree.leaf (appl st d (.mem v hp'))) = if deadIn st.hp hp' = true then Tree.stop else Tree.leaf (upd st d (.mem v hp'))
    rw [Bool.true_and]
    by_cases h : deadIn st.hp hp' = true
    · rw [if_pos h, if_pos h]
    · rw [if_neg h, if_neg h]; simp [appl, upd, h]
/-- What an operation of this kind may come to. -/
def Res (D : DI) (i : Nat) (o : Oper) (st : St) (r : Kr) : Prop :=
  (∃ v, r = .put v) ∨ (∃ v id b, r = .set v id b ∧ ((catO D.eff o.op = .new ∧ id = D.slot i ∧ i ∈ D.news) ∨ (catO D.eff o.op = .store ∧ (dget D i st.hp id).isSome))) ∨ (∃ v hp', r = .mem v hp' ∧ catO D.eff o.op = .other) ∨ (∃ nv b, r = .app nv b)
theorem res_of {i : Nat} {o : Oper} {st : St} (hs : slotOk D i o st.hp = true) {r : Kr} (h : Shape (dctx D i o st) (kindO o.op) r) : Res D i o st r := by
  cases r with
  | put v => exact .inl ⟨v, rfl⟩
  | set v id b =>
    refine .inr (.inl ⟨v, id, b, rfl, ?_⟩)
    rcases h with ⟨hk, h⟩ | ⟨hk, h⟩
    · have hn : isNew o.op = true := by simp [isNew, hk]
      simp only [dctx, hn, if_true, Option.some.injEq] at h
      simp only [slotOk, hn, Bool.not_true, Bool.false_or, Bool.and_eq_true, List.contains_eq_mem, decide_eq_true_eq] at hs
      exact .inl ⟨isNew_cat.2 hn, h.symm, hs.1.1⟩
    · exact .inr ⟨by simp [catO, hk], h⟩
  | app nv b => exact .inr (.inr (.inr ⟨nv, b, rfl⟩))
  | mem v hp' =>
    refine .inr (.inr (.inl ⟨v, hp', rfl, ?_⟩))
    rcases h with ⟨hk, h⟩ | hk
    · simp only [dctx, Bool.and_eq_true] at h
      simp [catO, hk, h.1]
    · simp [catO, hk]
theorem kG_res {i : Nat} {o : Oper} {st : St} : Leaves (Res D i o st) (kG E D i o st) := by
  unfold kG
  split
  · rename_i hs
    have h := kernG_leaves (E := E) (C := dctx D i o st) (ops := D.ops) (o := o) (fr := st.fr)
    have mono : ∀ t : Tree Kr, Leaves (Shape (dctx D i o st) (kindO o.op)) t → Leaves (Res D i o st) t := by
      intro t
      induction t with
      | leaf a => exact fun h => res_of hs h
      | stop => exact fun _ => trivial
      | req p t ih => exact ih
      | ask p t ih => exact ih
      | ite b t e ih1 ih2 => exact fun h => ⟨ih1 h.1, ih2 h.2⟩
      | ex p f ih => exact fun h x => ih x (h x)
      | all p f ih => exact fun h x => ih x (h x)
    exact mono _ h
  · trivial
theorem kernG_new {C C' : Ctx} {ops : Array Oper} {o : Oper} {fr : List AV} (h : isNew o.op = true) (hs : C.slot = C'.slot) : kernG E ops C o fr = kernG E ops C' o fr := by
  have hk : kindO o.op = .new := by
    unfold isNew at h
    cases hh : kindO o.op <;> simp [hh] at h ⊢
  unfold kernG kern
  simp only [hk, hs]
/-- The blocks that an operation sees are not the ones that another, on which it does not wait, writes. -/
theorem dget_set_new {i j : Nat} {hp : Heap} {b : Blk} (hi : i ∈ D.news) (hdep : D.dep j i = false) : dget D j (hp.set (D.slot i) (some b)) = dget D j hp := by
  funext id
  unfold dget
  have hge : D.n0 ≤ D.slot i := by unfold DI.slot; omega
  split
  · rename_i hl; rw [hget_set, if_neg (by omega)]
  · rename_i hl
    split
    · rename_i k hk
      split
      · rename_i hd
        rw [hget_set, if_neg]
        rintro ⟨rfl, _⟩
        have : D.news[D.slot i - D.n0]? = some i := by
          unfold DI.slot
          rw [Nat.add_sub_cancel_left]
          exact idx_get hi
        rw [hk] at this
        obtain rfl := by simpa using this
        rw [hdep] at hd
        simp at hd
      · rfl
    · rfl
theorem slot_ne {i j : Nat} (hi : i ∈ D.news) (hj : j ∈ D.news) (h : i ≠ j) : D.slot i ≠ D.slot j := by
  unfold DI.slot
  intro e
  have e : idx D.news i = idx D.news j := by omega
  have h1 := idx_get hi
  rw [e, idx_get hj] at h1
  exact h (by simpa using h1.symm)
theorem dctx_put {j : Nat} {o : Oper} {st : St} {d : Option Tmp} {v : AV} : dctx D j o (st.put d v) = dctx D j o st := by
  unfold dctx; rw [put_hp]
theorem kG_hp {j : Nat} {o : Oper} {st st' : St} (hs : slotOk D j o st'.hp = slotOk D j o st.hp) (hk : kernG E D.ops (dctx D j o st') o st'.fr = kernG E D.ops (dctx D j o st) o st.fr) : kG E D j o st' = kG E D j o st := by
  unfold kG; rw [hs, hk]
theorem slotOk_not {j : Nat} {o : Oper} {hp : Heap} (h : isNew o.op = false) : slotOk D j o hp = true := by simp [slotOk, h]
theorem slotOk_set {j id : Nat} {o : Oper} {hp : Heap} {b : Blk} (h : isNew o.op = true → j ∈ D.news → id ≠ D.slot j) : slotOk D j o (hp.set id (some b)) = slotOk D j o hp := by
  unfold slotOk
  cases hn : isNew o.op
  · simp
  · simp only [Bool.not_true, Bool.false_or, List.length_set]
    by_cases hj : j ∈ D.news
    · rw [hget_set, if_neg (by have := h hn hj; omega)]
    · simp [hj]
/-- One operation's outcome does not turn what another one comes to. -/
theorem kG_upd {i j : Nat} {oi oj : Oper} {st : St} (hne : i ≠ j) (hfr : ∀ (C : Ctx) (d : Option Tmp) (v : AV) (fr' : List AV), d = oi.dst → fr' = (st.put d v).fr → kernG E D.ops C oj fr' = kernG E D.ops C oj st.fr)
    (hji : D.dep j i = false) (hij : D.dep i j = false) (hok : okPair (catO D.eff oi.op) (catO D.eff oj.op) = true ∨ okPair (catO D.eff oj.op) (catO D.eff oi.op) = true) {r : Kr} (hr : Res D i oi st r) (hb : bad st r = false) :
    kG E D j oj (upd st oi.dst r) = kG E D j oj st := by
  rcases hr with ⟨v, rfl⟩ | ⟨v, id, b, rfl, hr⟩ | ⟨v, hp', rfl, hr⟩ | hr
  · refine kG_hp (by simp only [upd, put_hp]) ?_
    simp only [upd, dctx_put]
    exact hfr _ _ v _ rfl rfl
  · have hfr' : ∀ C, kernG E D.ops C oj (upd st oi.dst (.set v id b)).fr = kernG E D.ops C oj st.fr := fun C => by
      refine hfr _ oi.dst v _ rfl ?_
      simp only [upd, put_fr]
    have hhp : (upd st oi.dst (.set v id b)).hp = st.hp.set id (some b) := by simp only [upd, put_hp]
    rcases hr with ⟨hc, rfl, hi⟩ | ⟨hc, hg⟩
    · -- a new block
      refine kG_hp ?_ ?_
      · rw [hhp]; exact slotOk_set fun _ hj => slot_ne hi hj hne
      · rw [hfr']
        refine kernG_ctx ?_
        unfold dctx
        rw [hhp, dget_set_new hi hji]
        have hne' : D.news.isEmpty = false := by
          cases hn : D.news with
          | nil => rw [hn] at hi; cases hi
          | cons a l => rfl
        simp only [hne', Bool.false_eq_true, if_false, maskH_set _ _ _ _ (show D.n0 ≤ D.slot i by unfold DI.slot; omega)]
    · -- a store: the other one is of those that do not look, or makes a block
      have hcj : catO D.eff oj.op = .null ∨ catO D.eff oj.op = .new := by
        rw [hc] at hok
        cases hcj : catO D.eff oj.op <;> simp [hcj, okPair] at hok ⊢
      rcases hcj with hcj | hcj
      · have hn : isNew oj.op = false := by
          cases hn : isNew oj.op
          · rfl
          · rw [isNew_cat.2 hn] at hcj; cases hcj
        refine kG_hp (by rw [slotOk_not hn, slotOk_not hn]) ?_
        rw [hfr']
        exact kernG_null hcj
      · have hn := isNew_cat.1 hcj
        refine kG_hp ?_ ?_
        · rw [hhp]
          refine slotOk_set fun _ hj => ?_
          rintro rfl
          unfold dget at hg
          split at hg
          · rename_i hl; unfold DI.slot at hl; omega
          · have : D.news[D.slot j - D.n0]? = some j := by
              unfold DI.slot
              rw [Nat.add_sub_cancel_left]
              exact idx_get hj
            rw [this] at hg
            simp [hij] at hg
        · rw [hfr']
          exact kernG_new hn (by simp only [dctx, hn])
  · have hcj : catO D.eff oj.op = .null := by
      rw [hr] at hok
      cases hcj : catO D.eff oj.op <;> simp [hcj, okPair] at hok ⊢
    have hn : isNew oj.op = false := by
      cases hn : isNew oj.op
      · rfl
      · rw [isNew_cat.2 hn] at hcj; cases hcj
    refine kG_hp (by rw [slotOk_not hn, slotOk_not hn]) ?_
    rw [hfr _ oi.dst v _ rfl (by simp only [upd, put_fr])]
    exact kernG_null hcj
  · obtain ⟨nv0, b0, rfl⟩ := hr; simp [bad] at hb

theorem put_put (st : St) (d e : Option Tmp) (v u : AV) (h : ∀ x, d = some x → e ≠ some x) : (st.put d v).put e u = (st.put e u).put d v := by
  cases d with
  | none => rfl
  | some d =>
    cases e with
    | none => rfl
    | some e =>
      have hne : d ≠ e := fun he => h d rfl (he ▸ rfl)
      simp only [St.put, List.set_comm _ _ hne]
theorem put_with (st : St) (d : Option Tmp) (v : AV) (hp' : Heap) : ({ st.put d v with hp := hp' } : St) = ({ st with hp := hp' } : St).put d v := by cases d <;> rfl
theorem upd_comm {i j : Nat} {oi oj : Oper} {st : St} (hne : i ≠ j) (hap : oi.apart D.ops oj = true) (hji : D.dep j i = false) (hij : D.dep i j = false) (hok : okPair (catO D.eff oi.op) (catO D.eff oj.op) = true) {r r' : Kr}
    (hr : Res D i oi st r) (hr' : Res D j oj st r') (hb : bad st r = false) (hb' : bad st r' = false) : upd (upd st oi.dst r) oj.dst r' = upd (upd st oj.dst r') oi.dst r := by
  obtain ⟨h1, h2, h3⟩ := Oper.apart_spec hap
  have pp := fun (s : St) v u => put_put s oi.dst oj.dst v u h2
  rcases hr with ⟨v, rfl⟩ | ⟨v, id, b, rfl, hr⟩ | ⟨v, hp', rfl, hr⟩ | hr
  · rcases hr' with ⟨v', rfl⟩ | ⟨v', id', b', rfl, hr'⟩ | ⟨v', hp', rfl, hr'⟩ | hr'
    · exact pp st v v'
    · simp only [upd, put_hp, put_with, pp]
    · simp only [upd, put_hp, put_with, pp]
    · obtain ⟨nv0, b0, rfl⟩ := hr'; simp [bad] at hb'
  · rcases hr' with ⟨v', rfl⟩ | ⟨v', id', b', rfl, hr'⟩ | ⟨v', hp', rfl, hr'⟩ | hr'
    · simp only [upd, put_hp, put_with, pp]
    · have hids : id ≠ id' := by
        have young : ∀ (x y idx' : Nat), x ∈ D.news → D.dep y x = false → (dget D y st.hp idx').isSome → D.slot x ≠ idx' := fun x y idx' hx hd hg => by
          rintro rfl
          unfold dget at hg
          split at hg
          · rename_i hl; unfold DI.slot at hl; omega
          · have : D.news[D.slot x - D.n0]? = some x := by
              unfold DI.slot
              rw [Nat.add_sub_cancel_left]
              exact idx_get hx
            rw [this] at hg
            simp [hd] at hg
        rcases hr with ⟨hc, rfl, hi⟩ | ⟨hc, hg⟩
        · rcases hr' with ⟨hc', rfl, hj⟩ | ⟨hc', hg'⟩
          · exact slot_ne hi hj hne
          · exact young _ _ _ hi hji hg'
        · rcases hr' with ⟨hc', rfl, hj⟩ | ⟨hc', hg'⟩
          · exact (young _ _ _ hj hij hg).symm
          · rw [hc, hc'] at hok; simp [okPair] at hok
      simp only [upd, put_hp, put_with, pp, List.set_comm _ _ hids]
    · rw [hr'] at hok
      rcases hr with ⟨hc, _⟩ | ⟨hc, _⟩ <;> rw [hc] at hok <;> simp [okPair] at hok
    · obtain ⟨nv0, b0, rfl⟩ := hr'; simp [bad] at hb'
  · rw [hr] at hok
    cases hcj : catO D.eff oj.op <;> simp [hcj, okPair] at hok
  · obtain ⟨nv0, b0, rfl⟩ := hr; simp [bad] at hb
theorem comm_of (hE : EnvOk E) {i j : Nat} {oi oj : Oper} (hi : D.ops[i]? = some oi) (hj : D.ops[j]? = some oj) (hne : i ≠ j) (hap : oi.apart D.ops oj = true) (hji : D.dep j i = false) (hij : D.dep i j = false)
    (hok : okPair (catO D.eff oi.op) (catO D.eff oj.op) = true) : Comm E D i j := by
  intro K st h
  have hci : catO D.eff oi.op ≠ .other := by
    intro hc; rw [hc] at hok
    cases hcj : catO D.eff oj.op <;> simp [hcj, okPair] at hok
  have up1 := fun {r} (hr : Res D i oi st r) (hb : bad st r = false) => kG_upd (E := E) (st := st) hne (fun C d v fr' hd hf => by subst hd; exact kernG_put hap hf) hji hij (.inl hok) hr hb
  have up2 := fun {r} (hr : Res D j oj st r) (hb : bad st r = false) => kG_upd (E := E) (st := st) (Ne.symm hne) (fun C d v fr' hd hf => by subst hd; exact kernG_put' hap hf) hij hji (.inr hok) hr hb
  have hil : i < D.ops.size := (Array.getElem?_eq_some_iff.1 hi).1
  have hjl : j < D.ops.size := (Array.getElem?_eq_some_iff.1 hj).1
  have s1 : D.solo i = false := by
    unfold DI.solo
    rw [List.all_eq_false]
    exact ⟨j, List.mem_range.2 hjl, by simp [Ne.symm hne, hij, hji]⟩
  have s2 : D.solo j = false := by
    unfold DI.solo
    rw [List.all_eq_false]
    exact ⟨i, List.mem_range.2 hil, by simp [hne, hij, hji]⟩
  have e1 : ∀ s, dstep E D i s = (kG E D i oi s).bind (fin false s oi.dst) := fun s => by unfold dstep; rw [hi]; simp only [s1]
  have e2 : ∀ s, dstep E D j s = (kG E D j oj s).bind (fin false s oj.dst) := fun s => by unfold dstep; rw [hj]; simp only [s2]
  rw [e1, Tree.sem_bind] at h
  have h := Leaves.sem kG_res h
  obtain ⟨r, hg, h, hr⟩ := (Tree.sem_ang (kG_ang hE hci st) _).1 h
  rw [fin_eq] at h
  by_cases hb : bad st r = true
  · rw [if_pos hb] at h; exact h.elim
  · rw [if_neg hb] at h
    have hb : bad st r = false := by simpa using hb
    simp only [Tree.sem] at h
    rw [e2, up1 hr hb, Tree.sem_bind] at h
    rw [e2, Tree.sem_bind]
    refine Tree.sem_mono (fun r' h' => ?_) (Leaves.sem kG_res h)
    obtain ⟨h', hr'⟩ := h'
    rw [fin_eq] at h' ⊢
    have hbad : bad (upd st oi.dst r) r' = bad st r' := by
      cases r' with
      | mem v hp' =>
        have hr0 := hr'
        rcases hr0 with ⟨v', hr0⟩ | ⟨v', id', b', hr0, _⟩ | ⟨v', hp'', hr0, hcj⟩ | hr0
        · cases hr0
        · cases hr0
        · rw [hcj] at hok
          rcases hr with ⟨u, rfl⟩ | ⟨u, id, b, rfl, hr⟩ | ⟨u, hp3, rfl, hr⟩ | hr
          · simp only [bad, upd, put_hp]
          · rcases hr with ⟨hc, _⟩ | ⟨hc, _⟩ <;> rw [hc] at hok <;> simp [okPair] at hok
          · exact absurd hr hci
          · obtain ⟨nv0, b0, rfl⟩ := hr; simp [bad] at hb
        · obtain ⟨nv0, b0, hr0⟩ := hr0
          cases hr0
      | _ => rfl
    by_cases hb' : bad st r' = true
    · rw [hbad, if_pos hb'] at h'; exact h'.elim
    · rw [hbad, if_neg hb'] at h'
      rw [if_neg hb']
      have hb' : bad st r' = false := by simpa using hb'
      simp only [Tree.sem] at h' ⊢
      rw [e1, up2 hr' hb', Tree.sem_bind]
      refine (Tree.sem_ang (kG_ang hE hci st) _).2 ⟨r, hg, ?_⟩
      rw [fin_eq]
      have hb2 : bad (upd st oj.dst r') r = false := by
        rcases hr with ⟨u, rfl⟩ | ⟨u, id, b, rfl, hr⟩ | ⟨u, hp3, rfl, hr⟩ | hr
        · rfl
        · rfl
        · exact absurd hr hci
        · obtain ⟨nv0, b0, rfl⟩ := hr; simp [bad] at hb
      rw [hb2]
      simp only [Bool.false_eq_true, if_false, Tree.sem]
      rw [← upd_comm hne hap hji hij hok hr hr' hb hb']
      exact h'

/-! ### The two ways to run it -/
theorem HRel.same {W0 : World} {T : Frz} {β : Places} {hp hp' : Heap} {w : World} (h : HRel W0 T β hp w) (he : ∀ id, hget hp' id = hget hp id) : HRel W0 T β hp' w :=
  ⟨h.ro, h.sz, h.fz, fun id p hp => by rw [he]; exact h.live id p hp, fun id b hb => h.hp id b (by rw [← he]; exact hb), h.inj, h.os, h.out, h.tape, h.nofz⟩
def edgesBack (o : Oper) (i : Nat) : Bool := o.after.toList.all fun e => !Region.binds .any e || decide (e.on < i)
def notOther : Cat → Bool
  | .other => false
  | _ => true
def pairOk (D : DI) (oi : Oper) (i j : Nat) (oj : Oper) : Bool := D.dep j i || (oi.apart D.ops oj && okPair (catO D.eff oi.op) (catO D.eff oj.op))
/-- The operations behind the i-th, from the j-th on. -/
def restOk (D : DI) (oi : Oper) (i : Nat) : Nat → List Oper → Bool
  | _, [] => true
  | j, o :: os => pairOk D oi i j o && restOk D oi i (j + 1) os
def lexOk (D : DI) : Nat → List Oper → Bool
  | _, [] => true
  | i, o :: os => edgesBack o i && notOther (catO D.eff o.op) && restOk D o i (i + 1) os && lexOk D (i + 1) os
theorem restOk_spec {oi : Oper} {i : Nat} : ∀ (os : List Oper) (j0 : Nat), restOk D oi i j0 os = true → ∀ (k : Nat) (o : Oper), os[k]? = some o → pairOk D oi i (j0 + k) o = true
  | [], _, _, k, o, h => by simp at h
  | x :: os, j0, h, 0, o, ho => by simp only [restOk, Bool.and_eq_true] at h; simp at ho; subst ho; exact h.1
  | x :: os, j0, h, k + 1, o, ho => by
    simp only [restOk, Bool.and_eq_true] at h
    have := restOk_spec os (j0 + 1) h.2 k o (by simpa using ho)
    rwa [show j0 + 1 + k = j0 + (k + 1) by omega] at this
theorem lexOk_spec : ∀ (os : List Oper) (i0 : Nat), lexOk D i0 os = true → ∀ (k : Nat) (o : Oper), os[k]? = some o → edgesBack o (i0 + k) = true ∧ notOther (catO D.eff o.op) = true ∧
    ∀ (k' : Nat) (o' : Oper), os[k + 1 + k']? = some o' → pairOk D o (i0 + k) (i0 + k + 1 + k') o' = true
  | [], _, _, k, o, h => by simp at h
  | x :: os, i0, h, 0, o, ho => by
    simp only [lexOk, Bool.and_eq_true] at h
    simp at ho; subst ho
    refine ⟨h.1.1.1, h.1.1.2, fun k' o' ho' => restOk_spec os (i0 + 1) h.1.2 k' o' ?_⟩
    rw [show 0 + 1 + k' = k' + 1 by omega] at ho'
    simpa using ho'
  | x :: os, i0, h, k + 1, o, ho => by
    simp only [lexOk, Bool.and_eq_true] at h
    obtain ⟨h1, h2, h3⟩ := lexOk_spec os (i0 + 1) h.2 k o (by simpa using ho)
    rw [show i0 + 1 + k = i0 + (k + 1) by omega] at h1 h3
    refine ⟨h1, h2, fun k' o' ho' => h3 k' o' ?_⟩
    rw [show k + 1 + 1 + k' = (k + 1 + k') + 1 by omega] at ho'
    simpa using ho'
def drunLex (E : Env) (D : DI) : Nat → Nat → St → Tree St
  | 0, _, st => .leaf st
  | n + 1, k, st => (dstep E D k st).bind fun s => drunLex E D n (k + 1) s
theorem dep_false (hms : ∀ k i, D.dep k i = true → Dep D.ops k i) {k i : Nat} (h : ¬ Dep D.ops k i) : D.dep k i = false := by
  cases hd : D.dep k i
  · rfl
  · exact absurd (hms k i hd) h
theorem dep_true_comm (hE : EnvOk E) (hms : ∀ k i, D.dep k i = true → Dep D.ops k i) {i j : Nat} {oi oj : Oper} (hi : D.ops[i]? = some oi) (hj : D.ops[j]? = some oj) (hne : i ≠ j) (hji : ¬ Dep D.ops j i) (hij : ¬ Dep D.ops i j) (hp : pairOk D oi i j oj = true) :
    Comm E D i j := by
  unfold pairOk at hp
  rw [dep_false hms hji, Bool.false_or, Bool.and_eq_true] at hp
  exact comm_of hE hi hj hne hp.1 (dep_false hms hji) (dep_false hms hij) hp.2
theorem lex_game (hE : EnvOk E) (hms : ∀ k i, D.dep k i = true → Dep D.ops k i) (hl : lexOk D 0 D.ops.toList = true) {K : St → Prop} :
    ∀ (n k : Nat) (st : St) (listed : Array Bool), k + n = D.ops.size → listed.size = D.ops.size → (∀ i, i < D.ops.size → listed.getD i true = decide (i < k)) → (drunLex E D n k st).sem K → game E D K n listed st
  | 0, k, st, listed, hkn, hsz, hli, hk => by
    refine ⟨?_, hk⟩
    cases hr : Region.ready .any D.ops listed with
    | nil => rfl
    | cons j l =>
      exfalso
      have hj : j ∈ Region.ready .any D.ops listed := by rw [hr]; simp
      obtain ⟨h1, o, ho, _⟩ := mem_ready.1 hj
      have hlt : j < D.ops.size := (Array.getElem?_eq_some_iff.1 ho).1
      rw [hli j hlt] at h1
      simp at h1; omega
  | n + 1, k, st, listed, hkn, hsz, hli, hk => by
    have hlt : k < D.ops.size := by omega
    have ho : D.ops[k]? = some D.ops[k] := by simp [hlt]
    have hol : D.ops.toList[k]? = some D.ops[k] := by simp [hlt]
    obtain ⟨hb, hno, hrest⟩ := lexOk_spec D.ops.toList 0 hl k _ hol
    have back : ∀ {j i}, j < D.ops.size → Direct D.ops j i → i < j := by
      rintro j i hj ⟨o, ho', e, he, hbind, rfl⟩
      obtain ⟨hb, _, _⟩ := lexOk_spec D.ops.toList 0 hl j o (by simpa using ho')
      have := List.all_eq_true.1 hb e (by simpa using he)
      simpa [hbind] using this
    have backD : ∀ {j i}, Dep D.ops j i → i < j := by
      intro j i hd
      induction hd with
      | one hd =>
        have hd' := hd
        obtain ⟨o, ho', _⟩ := hd'
        exact back (Array.getElem?_eq_some_iff.1 ho').1 hd
      | more hd _ ih =>
        have hd' := hd
        obtain ⟨o, ho', _⟩ := hd'
        have := back (Array.getElem?_eq_some_iff.1 ho').1 hd
        omega
    have getF : ∀ i, i < D.ops.size → listed.getD i false = decide (i < k) := fun i hi => by
      have := hli i hi
      simp [hsz, hi] at this ⊢; exact this
    have hshut : Shut D.ops listed := by
      intro j i hj hd
      have hjl : j < D.ops.size := by obtain ⟨o, ho', _⟩ := hd; exact (Array.getElem?_eq_some_iff.1 ho').1
      have hij := back hjl hd
      rw [getF j hjl] at hj
      rw [getF i (by omega)]
      simp at hj ⊢; omega
    have hready : k ∈ Region.ready .any D.ops listed := by
      refine mem_ready.2 ⟨by rw [hli k hlt]; simp, _, ho, fun e he hbind => ?_⟩
      have := back hlt ⟨_, ho, e, he, hbind, rfl⟩
      rw [getF _ (by omega)]
      simpa using this
    refine game_first (dstep_ang hE ho (by intro hc; rw [hc] at hno; simp [notOther] at hno)) n listed st hshut hready ?_ ?_
    · intro j hjk hj hji hij
      by_cases hjl : j < D.ops.size
      · have hjgt : k < j := by
          rw [hli j hjl] at hj
          simp at hj; omega
        have hoj : D.ops[j]? = some D.ops[j] := by simp [hjl]
        have hp := hrest (j - (k + 1)) D.ops[j] (by rw [show k + 1 + (j - (k + 1)) = j by omega]; simp [hjl])
        rw [show 0 + k + 1 + (j - (k + 1)) = j by omega, Nat.zero_add] at hp
        exact dep_true_comm hE hms ho hoj (Ne.symm hjk) hji hij hp
      · simp [Array.getElem?_eq_none (show listed.size ≤ j by omega)] at hj
    · simp only [drunLex, Tree.sem_bind] at hk
      refine Tree.sem_mono (fun s hs => ?_) hk
      refine lex_game hE hms hl n (k + 1) s (listed.setIfInBounds k true) (by omega) (by simp [hsz]) (fun i hi => ?_) hs
      by_cases e : k = i
      · subst e; simp [hsz, hlt]
      · rw [getD_set_ne true e, hli i hi]
        simp; omega
def firstable (D : DI) (listed : Array Bool) (i : Nat) : Bool :=
  match D.ops[i]? with
  | some oi => notOther (catO D.eff oi.op) && (List.range D.ops.size).all fun j => j == i || listed.getD j true || match D.ops[j]? with
    | some oj => pairOk D oi i j oj
    | none => false
  | none => false
def allSame {α : Type} (t : Tree α) : List (Tree α) → Tree α → Tree α
  | [], u => u
  | x :: xs, u => .req (x = t) (allSame t xs u)
theorem allSame_sem {α : Type} {t : Tree α} {K : α → Prop} : ∀ {xs : List (Tree α)} {u : Tree α}, (allSame t xs u).sem K → (∀ x ∈ xs, x = t) ∧ u.sem K
  | [], u, h => ⟨by simp, h⟩
  | x :: xs, u, h => by
    obtain ⟨h1, h2⟩ := h
    obtain ⟨h3, h4⟩ := allSame_sem h2
    refine ⟨fun y hy => ?_, h4⟩
    rcases List.mem_cons.1 hy with rfl | hy
    · exact h1
    · exact h3 y hy
def drunDyn (E : Env) (D : DI) : Nat → Array Bool → St → Tree St
  | 0, listed, st => if (Region.ready .any D.ops listed).isEmpty then .leaf st else .stop
  | f + 1, listed, st =>
    match Region.ready .any D.ops listed with
    | [] => .leaf st
    | r :: rs =>
      match (r :: rs).find? (firstable D listed) with
      | some i => (dstep E D i st).bind fun s => drunDyn E D f (listed.setIfInBounds i true) s
      | none => allSame ((dstep E D r st).bind fun s => drunDyn E D f (listed.setIfInBounds r true) s) (rs.map fun i => (dstep E D i st).bind fun s => drunDyn E D f (listed.setIfInBounds i true) s)
          ((dstep E D r st).bind fun s => drunDyn E D f (listed.setIfInBounds r true) s)
theorem dyn_game (hE : EnvOk E) (hms : ∀ k i, D.dep k i = true → Dep D.ops k i) {K : St → Prop} :
    ∀ (f : Nat) (listed : Array Bool) (st : St), Shut D.ops listed → (drunDyn E D f listed st).sem K → game E D K f listed st
  | 0, listed, st, hsh, hk => by
    unfold drunDyn at hk
    split at hk
    · rename_i h; exact ⟨by simpa using h, hk⟩
    · exact hk.elim
  | f + 1, listed, st, hsh, hk => by
    unfold drunDyn at hk
    split at hk
    · rename_i hr
      exact ⟨fun _ => hk, fun i hi => by rw [hr] at hi; cases hi⟩
    · rename_i r rs hr
      split at hk
      · rename_i i hf
        have hi : i ∈ Region.ready .any D.ops listed := by rw [hr]; exact List.mem_of_find?_eq_some hf
        have hfi := List.find?_some hf
        unfold firstable at hfi
        split at hfi
        · rename_i oi hoi
          simp only [Bool.and_eq_true, List.all_eq_true, List.mem_range] at hfi
          rw [Tree.sem_bind] at hk
          refine game_first (dstep_ang hE hoi (by intro hc; rw [hc] at hfi; simp [notOther] at hfi)) f listed st hsh hi ?_ (Tree.sem_mono (fun s hs => dyn_game hE hms f _ s (hsh.set hi) hs) hk)
          intro j hji hj hd1 hd2
          by_cases hjl : j < D.ops.size
          · have := hfi.2 j hjl
            simp only [Bool.or_eq_true, beq_iff_eq, hji, false_or, hj] at this
            simp only [Bool.false_eq_true, false_or] at this
            split at this
            · rename_i oj hoj
              exact dep_true_comm hE hms hoi hoj (Ne.symm hji) hd1 hd2 this
            · simp at this
          · intro K' st' h'
            unfold dstep at h'
            rw [hoi] at h'
            simp only [Array.getElem?_eq_none (show D.ops.size ≤ j by omega)] at h'
            exfalso
            have hang : ((kG E D i oi st').bind (fin (D.solo i) st' oi.dst)).Ang := Tree.ang_bind (kG_ang hE (by intro hc; rw [hc] at hfi; simp [notOther] at hfi) st') fun r => fin_ang _ _ _ _
            obtain ⟨s, _, hs⟩ := (Tree.sem_ang hang _).1 h'
            exact hs
        · simp at hfi
      · obtain ⟨h1, h2⟩ := allSame_sem hk
        refine ⟨fun h0 => (by rw [hr] at h0; cases h0), fun i hi => ?_⟩
        have hsem : ((dstep E D i st).bind fun s => drunDyn E D f (listed.setIfInBounds i true) s).sem K := by
          have hi' := hi
          rw [hr] at hi'
          rcases List.mem_cons.1 hi' with rfl | hm
          · exact h2
          · rw [h1 _ (List.mem_map.2 ⟨i, hm, rfl⟩)]; exact h2
        rw [Tree.sem_bind] at hsem
        exact Tree.sem_mono (fun s hs => dyn_game hE hms f _ s (hsh.set hi) hs) hsem
def newsOf : Nat → List Oper → List Nat
  | _, [] => []
  | i, o :: os => if isNew o.op then i :: newsOf (i + 1) os else newsOf (i + 1) os
def addNones : Heap → List Nat → Heap
  | hp, [] => hp
  | hp, _ :: l => addNones (hp ++ [none]) l
theorem hget_addNones : ∀ (l : List Nat) (hp : Heap) (id : Nat), hget (addNones hp l) id = hget hp id
  | [], _, _ => rfl
  | _ :: l, hp, id => by
    unfold addNones
    rw [hget_addNones l, hget_append]
    split
    · rfl
    · rename_i hl
      have h1 : hget hp id = none := by
        cases hh : hget hp id with
        | none => rfl
        | some b => exact absurd (hget_lt hh) hl
      rw [h1]
      cases hc : id - hp.length with
      | zero => rfl
      | succ k => rfl
theorem length_addNones : ∀ (l : List Nat) (hp : Heap), hp.length ≤ (addNones hp l).length
  | [], _ => Nat.le_refl _
  | _ :: l, hp => by
    unfold addNones
    have := length_addNones l (hp ++ [none])
    rw [List.length_append] at this
    omega
/-- A call that may change memory. -/
def effCall (E : Env) : Op → Bool
  | .call { callee := .value (.func f), .. } => match E.spec f with
    | some S => match S [] [] with
      | .pure _ => false
      | .eff _ => true
    | none => false
  | .call { callee := .builtin _, .. } => false
  | .call _ => true
  | _ => false
def drun (E : Env) (ops : Array Oper) (st : St) : Tree St :=
  let news := newsOf 0 ops.toList
  let D : DI := { ops, ms := masks ops.toList [], news, n0 := st.hp.length, eff := false }
  if (lexOk D 0 ops.toList && !(ops.toList.any fun o => effCall E o.op)) = true then drunLex E D ops.size 0 { st with hp := addNones st.hp news }
  else drunDyn E { D with eff := true } ops.size (Array.replicate ops.size false) { st with hp := addNones st.hp news }
theorem drun_ok (hE : EnvOk E) {ops : Array Oper} {id : Nat} {K : St → Prop} {st : St} (hk : (drun E ops st).sem K) {β : Places} {a : Act} {w : World} (h : Rel E.W0 T β st a w) {Q : Exit → Act → World → Prop}
    (hQ : ∀ st β a w, K st → Rel E.W0 T β st a w → Q .normal a w) : (Code.region id ops true).wp E.P Q a w := by
  have hms : ∀ k i, ((masks ops.toList []).getD k 0).testBit i = true → Dep ops k i := masks_spec ops.toList [] (fun k i h => by simp at h) (fun j => by simp)
  have hrel : ∀ news, Rel E.W0 T β { st with hp := addNones st.hp news } a { w with drawn := w.drawn + 1 } := fun news => ⟨h.fr, h.df, (h.hp.drew).same fun id => hget_addNones news st.hp id, Nat.le_trans h.len (length_addNones news st.hp), fun i p hi hp hs => h.keep i p hi hp (by rw [← hget_addNones news st.hp i]; exact hs)⟩
  have hsz : (Array.replicate ops.size false).size = ops.size := by simp
  have hno : ∀ i, i < ops.size → (Array.replicate ops.size false).getD i true = decide (i < 0) := fun i hi => by simp [hi]
  have hshut : Shut ops (Array.replicate ops.size false) := fun j i hj _ => by
    rcases Nat.lt_or_ge j ops.size with hl | hl
    · simp [hl] at hj
    · rw [show (Array.replicate ops.size false).getD j false = false by simp [Array.getElem?_eq_none, hl]] at hj; cases hj
  refine wp_region_any hE.mixed ?_
  unfold drun at hk
  dsimp only at hk
  split at hk
  · rename_i hl
    have hl := (Bool.and_eq_true_iff.1 hl).1
    exact game_sound (D := { ops, ms := masks ops.toList [], news := newsOf 0 ops.toList, n0 := st.hp.length, eff := false }) hE h.len hQ _ _ _ β a _ (lex_game (D := { ops, ms := masks ops.toList [], news := newsOf 0 ops.toList, n0 := st.hp.length, eff := false }) hE hms hl ops.size 0 _ _ (by simp) hsz hno hk) (hrel _)
  · exact game_sound (D := { ops, ms := masks ops.toList [], news := newsOf 0 ops.toList, n0 := st.hp.length, eff := true }) hE h.len hQ _ _ _ β a _ (dyn_game (D := { ops, ms := masks ops.toList [], news := newsOf 0 ops.toList, n0 := st.hp.length, eff := true }) hE hms ops.size _ _ hshut hk) (hrel _)
end
end Go.Sx
