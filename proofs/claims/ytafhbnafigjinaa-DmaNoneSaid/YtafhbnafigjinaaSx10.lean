/-
  Code, functions, loops.
-/
import Derived.Test.YtafhbnafigjinaaSx9
set_option linter.unusedSimpArgs false
set_option linter.unusedVariables false
namespace Go.Sx

inductive Ex where
  | normal
  | exit (id : Nat)
  | ret
def Ex.to : Ex → Exit
  | .normal => .normal
  | .exit id => .exit id
  | .ret => .ret
abbrev Res1 := Ex × St
/-- The number by which a loop is known: of the first region in it. -/
def firstReg : Code → Option Nat
  | .region id _ _ => some id
  | .seq a b => match firstReg a with
    | some i => some i
    | none => firstReg b
  | .cond _ t e => match firstReg t with
    | some i => some i
    | none => firstReg e
  | .block _ b => firstReg b
  | .loop b => firstReg b
  | .scope b => firstReg b
  | _ => none
def mergeAV (b : Bool) : AV → AV → AV
  | .int k n, .int k' m => if k = k' then .int k (bif b then n else m) else .junk
  | .bool x, .bool y => .bool (bif b then x else y)
  | _, _ => .junk
theorem mergeAV_V {β : Places} {b : Bool} {x y : AV} {v : Value} (h : if b then V β x v else V β y v) : V β (mergeAV b x y) v := by
  unfold mergeAV
  split
  · split
    · rename_i e; subst e; cases b <;> simpa [V] using h
    · simp [V]
  · cases b <;> simpa [V] using h
  · simp [V]
/-- The slots that code writes. -/
def dsts : List Oper → List Nat
  | [] => []
  | o :: os => match o.dst with
    | some d => d :: dsts os
    | none => dsts os
def writes : Code → List Nat
  | .region _ ops _ => dsts ops.toList
  | .seq a b => writes a ++ writes b
  | .cond _ t e => writes t ++ writes e
  | .block _ b => writes b
  | .scope b => writes b
  | _ => []
def mergeFr (b : Bool) (ws : List Nat) (i : Nat) : List AV → List AV → List AV → List AV
  | x :: xs, y :: ys, z :: zs => (if ws.contains i then mergeAV b x y else z) :: mergeFr b ws (i + 1) xs ys zs
  | _, _, _ => []
/-- A run that only asks and comes to one end. -/
def lin {α : Type} : Tree α → Option (List Rq × α)
  | .leaf a => some ([], a)
  | .req p t => match lin t with
    | some (ps, a) => some (.p p :: ps, a)
    | none => none
  | .ask r t => match lin t with
    | some (ps, a) => some (r :: ps, a)
    | none => none
  | _ => none
def wb (b : Bool) : Bool → Bool
  | true => b
  | false => !b
theorem wb_eq {b w : Bool} : wb b w = true ↔ b = w := by cases b <;> cases w <;> simp [wb]
def Rq.emit {α : Type} : Rq → Tree α → Tree α
  | .p q, t => .req q t
  | @Rq.d q _, t => .ask (.d q) t
  | .e x y, t => .ask (.e x y) t
  | .n g, t => .ask (.n g) t
  | .i b c g, t => .ask (.i b c g) t
theorem emit_sem {α : Type} {K : α → Prop} {r : Rq} {t : Tree α} : (r.emit t).sem K ↔ r.holds ∧ t.sem K := by cases r <;> exact Iff.rfl
def reqs {α : Type} (b : Bool) (want : Bool) : List Rq → Tree α → Tree α
  | [], t => t
  | p :: ps, t => (p.under (wb b want)).emit (reqs b want ps t)
def quietOp (pureF : FuncId → Bool) (o : Oper) : Bool :=
  match kindO o.op with
  | .val => true
  | .call => match o.op with
    | .call { callee := .value (.func f), .. } => pureF f
    | _ => false
  | _ => false
def quietC (pureF : FuncId → Bool) : Code → Bool
  | .skip => true
  | .region _ ops _ => ops.toList.all (quietOp pureF)
  | .seq a b => quietC pureF a && quietC pureF b
  | .cond _ t e => quietC pureF t && quietC pureF e
  | _ => false
/-- 'n0': at most so many blocks were handed over. -/
structure Fn where
  n0 : Nat
  loops : Nat → Option (St → Tree Res1)
  pureF : FuncId → Bool
def exec (E : Env) (F : Fn) : Code → St → Tree Res1
  | .skip, st => .leaf (.normal, st)
  | .region _ ops draw, st => (if draw then drun E ops st else nrun E ops ops.toList st).bind fun s => .leaf (.normal, s)
  | .seq a b, st => (exec E F a st).bind fun r => match r.1 with
    | .normal => exec E F b r.2
    | _ => .leaf r
  | .cond c t e, st => (force (ev st.fr c)).bind fun x => match x with
    | .bool b =>
      if quietC F.pureF t && quietC F.pureF e then
        match lin (exec E F t st), lin (exec E F e st) with
        | some (ps, (.normal, s1)), some (qs, (.normal, s2)) =>
          if s1.fr.length = st.fr.length ∧ s2.fr.length = st.fr.length then
            reqs b true ps (reqs b false qs (.leaf (.normal, { fr := mergeFr b (writes t ++ writes e) 0 s1.fr s2.fr st.fr, hp := st.hp })))
          else .ite b (exec E F t st) (exec E F e st)
        | _, _ => .ite b (exec E F t st) (exec E F e st)
      else .ite b (exec E F t st) (exec E F e st)
    | _ => .stop
  | .block id b, st => (exec E F b st).bind fun r => match r.1 with
    | .exit i => if i = id then .leaf (.normal, r.2) else .leaf r
    | _ => .leaf r
  | .loop b, st => match firstReg b with
    | some k => match F.loops k with
      | some h => h st
      | none => .stop
    | none => .stop
  | .scope b, st => exec E F b st
  | .exit id, st => .leaf (.exit id, st)
  | .ret, st => .leaf (.ret, st)
  | _, _ => .stop

/-- What is behind a piece of code. -/
def Post (E : Env) (T : Fx) (K : Res1 → Prop) : Exit → Act → World → Prop := fun e a w => ∃ x st β, e = Ex.to x ∧ K (x, st) ∧ Rel E.W0 T β st a w
/-- A loop's summary holds. -/
def LoopOk (E : Env) (n0 : Nat) (b : Code) (h : St → Tree Res1) : Prop := ∀ (T : Fx), T.N0 ≤ n0 → ∀ (K : Res1 → Prop) (st : St), (h st).sem K → ∀ (β : Places) (a : Act) (w : World), Rel E.W0 T β st a w → (Code.loop b).wp E.P (Post E T K) a w
/-- All loops in a piece of code have summaries that hold. -/
def LoopsOk (E : Env) (F : Fn) : Code → Prop
  | .seq a b => LoopsOk E F a ∧ LoopsOk E F b
  | .cond _ t e => LoopsOk E F t ∧ LoopsOk E F e
  | .block _ b => LoopsOk E F b
  | .scope b => LoopsOk E F b
  | .loop b => ∀ k h, firstReg b = some k → F.loops k = some h → LoopOk E F.n0 b h
  | _ => True
/-- A function that is said to leave memory alone does. -/
def PureOk (E : Env) (F : Fn) : Prop := ∀ f, F.pureF f = true → ∀ S, E.spec f = some S → ∀ args hp, ∃ t, S args hp = .pure t

section
variable {E : Env} {F : Fn}
theorem callT_pure {S : Spec} (h : ∀ args hp, ∃ t, S args hp = .pure t) (hp : Heap) (args : List AV) : ∃ t, callT S hp args = .pure t := by
  unfold callT
  dsimp only
  split
  · obtain ⟨t, ht⟩ := h (renL (idx (reach hp 60 (addNew [] (idsL args)) 0)) args) (small hp (reach hp 60 (addNew [] (idsL args)) 0))
    rw [ht]; exact ⟨_, rfl⟩
  · exact ⟨_, rfl⟩
def IsPut : Kr → Prop
  | .put _ => True
  | _ => False
theorem Leaves.mono {α : Type} {φ ψ : α → Prop} (h : ∀ a, φ a → ψ a) : ∀ {t : Tree α}, Leaves φ t → Leaves ψ t
  | .leaf a, ht => h a ht
  | .stop, _ => trivial
  | .req _ t, ht => Leaves.mono h (t := t) ht
  | .ask _ t, ht => Leaves.mono h (t := t) ht
  | .ite _ t e, ht => ⟨Leaves.mono h (t := t) ht.1, Leaves.mono h (t := e) ht.2⟩
  | .ex _ f, ht => fun x => Leaves.mono h (t := f x) (ht x)
  | .all _ f, ht => fun x => Leaves.mono h (t := f x) (ht x)
theorem Leaves.putI {t : Tree AV} {f : AV → AV} : Leaves IsPut (t.bind fun v => .leaf (.put (f v))) := Leaves.bind (φ := IsPut) (g := fun v => Tree.leaf (Kr.put (f v))) (fun _ => trivial) t
theorem quiet_kern (hP : PureOk E F) {C : Ctx} {ρ : Operand → AV} {o : Oper} (h : quietOp F.pureF o = true) : Leaves IsPut (kern E C ρ o.op) := by
  unfold quietOp at h
  unfold kern
  split at h
  · rename_i hk
    simp only [hk]
    exact Leaves.putI (f := id)
  · rename_i hk
    simp only [hk]
    split at h
    · rename_i f args ats hop
      unfold callK
      rw [hop]
      simp only [callArgs, calleeT, Tree.bind]
      refine Leaves.bind' (ψ := fun r => r.1 = f) (fun r hr => ?_) _ (Leaves.bind (φ := fun r : FuncId × List AV => r.1 = f) (g := fun as => Tree.leaf (f, [] ++ as ++ [])) (fun _ => rfl) _)
      rw [hr]
      split
      · rename_i S hS
        obtain ⟨t, ht⟩ := callT_pure (hP f h S hS) C.hpc r.2
        rw [ht]
        exact Leaves.putI (f := id)
      · trivial
    · simp at h
  · simp at h
theorem quiet_kernG (hP : PureOk E F) {C : Ctx} {ops : Array Oper} {o : Oper} {fr : List AV} (h : quietOp F.pureF o = true) : Leaves IsPut (kernG E ops C o fr) := by
  unfold kernG
  split
  · exact quiet_kern hP h
  · split
    · trivial
    · split
      · exact Leaves.putI (f := .opt _)
      · split
        · refine Leaves.bind (fun r => ?_) _
          split
          · split
            · exact Leaves.putI (f := .opt _)
            · exact ⟨quiet_kern hP h, trivial⟩
          · trivial
        · trivial
      · exact ⟨quiet_kern hP h, trivial⟩
/-- Memory is as it was, and all slots but these. -/
def Keeps (st : St) (ws : List Nat) (s : St) : Prop := s.hp = st.hp ∧ ∀ t, t ∉ ws → s.fr[t]? = st.fr[t]?
theorem Keeps.refl (st : St) (ws : List Nat) : Keeps st ws st := ⟨rfl, fun _ _ => rfl⟩
theorem Keeps.trans {a b c : St} {ws us : List Nat} (h : Keeps a ws b) (h' : Keeps b us c) : Keeps a (ws ++ us) c :=
  ⟨h'.1.trans h.1, fun t ht => by
    simp only [List.mem_append, not_or] at ht
    rw [h'.2 t ht.2, h.2 t ht.1]⟩
theorem Keeps.weaken {a b : St} {ws us : List Nat} (h : Keeps a ws b) (hs : ∀ t ∈ ws, t ∈ us) : Keeps a us b := ⟨h.1, fun t ht => h.2 t fun h' => ht (hs t h')⟩
theorem keeps_put (st : St) (d : Option Nat) (v : AV) {ws : List Nat} (h : ∀ x, d = some x → x ∈ ws) : Keeps st ws (st.put d v) := by
  refine ⟨put_hp _ _ _, fun t ht => ?_⟩
  cases d with
  | none => rfl
  | some d =>
    simp only [St.put]
    exact List.getElem?_set_ne (by rintro rfl; exact ht (h d rfl))
theorem mem_dsts {o : Oper} {ops : List Oper} (h : o ∈ ops) {x : Nat} (hx : o.dst = some x) : x ∈ dsts ops := by
  induction ops with
  | nil => cases h
  | cons p ps ih =>
    unfold dsts
    rcases List.mem_cons.1 h with rfl | h
    · rw [hx]; simp
    · split
      · exact List.mem_cons_of_mem _ (ih h)
      · exact ih h
theorem quiet_nrun (hP : PureOk E F) {ops : Array Oper} {ws : List Nat} (hw : ∀ o ∈ ops.toList, ∀ x, o.dst = some x → x ∈ ws) : ∀ (l : List Oper), (∀ o ∈ l, o ∈ ops.toList) → l.all (quietOp F.pureF) = true → ∀ st, Leaves (Keeps st ws) (nrun E ops l st)
  | [], _, _, st => Keeps.refl st ws
  | o :: l, hm, hq, st => by
    simp only [List.all_cons, Bool.and_eq_true] at hq
    unfold nrun nstep
    refine Leaves.bind' (ψ := Keeps st ws) (fun s hs => ?_) _ (Leaves.bind' (ψ := IsPut) (fun r hr => ?_) _ (quiet_kernG hP hq.1))
    · exact Leaves.mono (fun s' hs' => (hs.trans hs').weaken (by simp)) (quiet_nrun hP hw l (fun o ho => hm o (by simp [ho])) hq.2 s)
    · cases r <;> try exact hr.elim
      exact keeps_put st _ _ fun x hx => hw o (hm o (by simp)) x hx
theorem quiet_dstep (hP : PureOk E F) {D : DI} {ws : List Nat} (hw : ∀ o ∈ D.ops.toList, ∀ x, o.dst = some x → x ∈ ws) (hq : D.ops.toList.all (quietOp F.pureF) = true) (j : Nat) (st : St) : Leaves (Keeps st ws) (dstep E D j st) := by
  unfold dstep
  split
  · rename_i o ho
    have hm : o ∈ D.ops.toList := Array.mem_toList_iff.2 (Array.mem_of_getElem? ho)
    unfold kG
    split
    · refine Leaves.bind' (ψ := IsPut) (fun r hr => ?_) _ (quiet_kernG hP (List.all_eq_true.1 hq o hm))
      cases r <;> try exact hr.elim
      exact keeps_put st _ _ fun x hx => hw o hm x hx
    · trivial
  · trivial
theorem quiet_lex (hP : PureOk E F) {D : DI} {ws : List Nat} (hw : ∀ o ∈ D.ops.toList, ∀ x, o.dst = some x → x ∈ ws) (hq : D.ops.toList.all (quietOp F.pureF) = true) : ∀ (n k : Nat) (st : St), Leaves (Keeps st ws) (drunLex E D n k st)
  | 0, _, st => Keeps.refl st ws
  | n + 1, k, st => by
    unfold drunLex
    refine Leaves.bind' (fun s hs => ?_) _ (quiet_dstep hP hw hq k st)
    exact Leaves.mono (fun s' hs' => (hs.trans hs').weaken (by simp)) (quiet_lex hP hw hq n (k + 1) s)
theorem leaves_allSame {α : Type} {φ : α → Prop} {t : Tree α} {u : Tree α} (h : Leaves φ u) : ∀ xs : List (Tree α), Leaves φ (allSame t xs u)
  | [] => h
  | x :: xs => leaves_allSame h xs
theorem quiet_dyn (hP : PureOk E F) {D : DI} {ws : List Nat} (hw : ∀ o ∈ D.ops.toList, ∀ x, o.dst = some x → x ∈ ws) (hq : D.ops.toList.all (quietOp F.pureF) = true) : ∀ (n : Nat) (listed : Array Bool) (st : St), Leaves (Keeps st ws) (drunDyn E D n listed st)
  | 0, _, st => by
    unfold drunDyn; split
    · exact Keeps.refl st ws
    · trivial
  | n + 1, listed, st => by
    have one : ∀ i, Leaves (Keeps st ws) ((dstep E D i st).bind fun s => drunDyn E D n (listed.setIfInBounds i true) s) := fun i =>
      Leaves.bind' (fun s hs => Leaves.mono (fun s' hs' => (hs.trans hs').weaken (by simp)) (quiet_dyn hP hw hq n _ s)) _ (quiet_dstep hP hw hq i st)
    unfold drunDyn
    split
    · exact Keeps.refl st ws
    · split
      · exact one _
      · exact leaves_allSame (one _) _
theorem newsOf_quiet {ops : List Oper} (hq : ops.all (quietOp F.pureF) = true) : ∀ i, newsOf i ops = [] := by
  induction ops with
  | nil => intro i; rfl
  | cons o os ih =>
    intro i
    simp only [List.all_cons, Bool.and_eq_true] at hq
    have : isNew o.op = false := by
      have h := hq.1
      unfold quietOp at h
      unfold isNew
      cases hk : kindO o.op <;> simp [hk] at h ⊢
    simp only [newsOf, this, Bool.false_eq_true, if_false]
    exact ih hq.2 _
theorem leaves_emit {α : Type} {φ : α → Prop} {r : Rq} {t : Tree α} (h : Leaves φ t) : Leaves φ (r.emit t) := by cases r <;> exact h
theorem leaves_reqs {α : Type} {φ : α → Prop} {b w : Bool} : ∀ (ps : List Rq) (t : Tree α), Leaves φ t → Leaves φ (reqs b w ps t)
  | [], _, h => h
  | _ :: ps, t, h => leaves_emit (leaves_reqs ps t h)
theorem mergeFr_get {b : Bool} {ws : List Nat} : ∀ {xs ys zs : List AV} (i : Nat), xs.length = zs.length → ys.length = zs.length → ∀ t,
    (mergeFr b ws i xs ys zs)[t]? = match zs[t]? with
      | some z => some (if ws.contains (i + t) then mergeAV b (xs.getD t .junk) (ys.getD t .junk) else z)
      | none => none
  | [], [], [], i, _, _, t => by simp [mergeFr]
  | x :: xs, y :: ys, z :: zs, i, hx, hy, 0 => by simp [mergeFr]
  | x :: xs, y :: ys, z :: zs, i, hx, hy, t + 1 => by
    have := mergeFr_get (b := b) (ws := ws) (xs := xs) (ys := ys) (zs := zs) (i + 1) (by simpa using hx) (by simpa using hy) t
    simp only [mergeFr, List.getElem?_cons_succ, this, List.getD_cons_succ]
    rw [show i + 1 + t = i + (t + 1) by omega]
  | [], _ :: _, [], _, _, h, _ => by simp at h
  | _ :: _, _, [], _, h, _, _ => by simp at h
  | [], _, _ :: _, _, h, _, _ => by simp at h
  | _ :: _, [], _ :: _, _, _, h, _ => by simp at h
theorem mergeFr_out {b : Bool} {ws : List Nat} {xs ys zs : List AV} (hx : xs.length = zs.length) (hy : ys.length = zs.length) {t : Nat} (ht : t ∉ ws) : (mergeFr b ws 0 xs ys zs)[t]? = zs[t]? := by
  rw [mergeFr_get 0 hx hy]
  cases hz : zs[t]? with
  | none => rfl
  | some z => simp [ht]
theorem mergeFr_VL {β : Places} {b : Bool} {ws : List Nat} {vs : List Value} : ∀ {xs ys zs : List AV} {vs : List Value} (i : Nat), xs.length = zs.length → ys.length = zs.length →
    VL β (if b then xs else ys) vs → (∀ t, (i + t) ∉ ws → (if b then xs else ys)[t]? = zs[t]?) → VL β (mergeFr b ws i xs ys zs) vs
  | [], [], [], vs, i, _, _, h, _ => by cases b <;> simpa [mergeFr] using h
  | x :: xs, y :: ys, z :: zs, vs, i, hx, hy, h, hk => by
    have h' : VL β ((if b then x else y) :: (if b then xs else ys)) vs := by cases b <;> simpa using h
    simp only [VL] at h'
    obtain ⟨v, vs', rfl, h1, h2⟩ := h'
    simp only [mergeFr, VL]
    refine ⟨v, vs', rfl, ?_, mergeFr_VL (vs := vs') (i + 1) (by simpa using hx) (by simpa using hy) h2 fun t ht => ?_⟩
    · split
      · exact mergeAV_V (by cases b <;> simpa using h1)
      · rename_i hw
        have := hk 0 (by simpa using hw)
        cases b <;> simp at this <;> subst this <;> simpa using h1
    · have := hk (t + 1) (by rwa [show i + (t + 1) = i + 1 + t by omega])
      cases b <;> simpa using this
  | [], _ :: _, [], _, _, _, h, _, _ => by simp at h
  | _ :: _, _, [], _, _, h, _, _, _ => by simp at h
  | [], _, _ :: _, _, _, h, _, _, _ => by simp at h
  | _ :: _, [], _ :: _, _, _, _, h, _, _ => by simp at h
theorem quiet_exec (hP : PureOk E F) : ∀ (c : Code) (st : St), quietC F.pureF c = true → Leaves (fun r : Res1 => Keeps st (writes c) r.2) (exec E F c st)
  | .skip, st, _ => Keeps.refl st _
  | .region _ ops draw, st, hq => by
    simp only [quietC] at hq
    have hw : ∀ o ∈ ops.toList, ∀ x, o.dst = some x → x ∈ dsts ops.toList := fun o ho x hx => mem_dsts ho hx
    unfold exec
    refine Leaves.bind' (φ := fun r : Res1 => Keeps st (dsts ops.toList) r.2) (ψ := Keeps st (dsts ops.toList)) (g := fun s => Tree.leaf (Ex.normal, s)) (fun s hs => hs) _ ?_
    split
    · unfold drun
      rw [newsOf_quiet hq 0]
      dsimp only [addNones]
      split
      · exact quiet_lex hP (D := ⟨ops, masks ops.toList [], [], st.hp.length, false⟩) hw hq _ _ _
      · exact quiet_dyn hP (D := ⟨ops, masks ops.toList [], [], st.hp.length, true⟩) hw hq _ _ _
    · exact quiet_nrun hP hw ops.toList (fun _ h => h) hq st
  | .seq a b, st, hq => by
    simp only [quietC, Bool.and_eq_true] at hq
    unfold exec
    refine Leaves.bind' (fun r hr => ?_) _ (quiet_exec hP a st hq.1)
    split
    · exact Leaves.mono (fun r' hr' => hr.trans hr') (quiet_exec hP b r.2 hq.2)
    · exact hr.weaken fun t ht => List.mem_append_left _ ht
  | .cond c t e, st, hq => by
    simp only [quietC, Bool.and_eq_true] at hq
    have h1 : Leaves (fun r : Res1 => Keeps st (writes (.cond c t e)) r.2) (exec E F t st) := Leaves.mono (fun r hr => hr.weaken fun t ht => List.mem_append_left _ ht) (quiet_exec hP t st hq.1)
    have h2 : Leaves (fun r : Res1 => Keeps st (writes (.cond c t e)) r.2) (exec E F e st) := Leaves.mono (fun r hr => hr.weaken fun t ht => List.mem_append_right _ ht) (quiet_exec hP e st hq.2)
    unfold exec
    refine Leaves.bind (fun x => ?_) _
    split
    · rename_i b
      split
      · split
        · rename_i ps s1 qs s2 _ _
          split
          · rename_i hl
            refine leaves_reqs _ _ (leaves_reqs _ _ ⟨rfl, fun u hu => ?_⟩)
            exact mergeFr_out hl.1 hl.2 hu
          · exact ⟨h1, h2⟩
        · exact ⟨h1, h2⟩
      · exact ⟨h1, h2⟩
    · trivial
  | .block _ _, _, hq => by simp [quietC] at hq
  | .loop _, _, hq => by simp [quietC] at hq
  | .rangeFunc .., _, hq => by simp [quietC] at hq
  | .exit _, _, hq => by simp [quietC] at hq
  | .scope _, _, hq => by simp [quietC] at hq
  | .label _, _, hq => by simp [quietC] at hq
  | .goto _, _, hq => by simp [quietC] at hq
  | .ret, _, hq => by simp [quietC] at hq
  | .refuse _, _, hq => by simp [quietC] at hq

theorem lin_sem {α : Type} {K : α → Prop} : ∀ {t : Tree α} {ps : List Rq} {a : α}, lin t = some (ps, a) → (∀ p ∈ ps, p.holds) → K a → t.sem K
  | .leaf _, ps, a, h, hp, hk => by simp [lin] at h; obtain ⟨rfl, rfl⟩ := h; exact hk
  | .req p t, ps, a, h, hp, hk => by
    simp only [lin] at h
    split at h
    · rename_i ps' a' h'
      obtain ⟨rfl, rfl⟩ := by simpa using h
      exact ⟨hp (.p p) (by simp), lin_sem h' (fun q hq => hp q (by simp [hq])) hk⟩
    · simp at h
  | .ask r t, ps, a, h, hp, hk => by
    simp only [lin] at h
    split at h
    · rename_i ps' a' h'
      obtain ⟨rfl, rfl⟩ := by simpa using h
      exact ⟨hp r (by simp), lin_sem h' (fun q hq => hp q (by simp [hq])) hk⟩
    · simp at h
  | .stop, _, _, h, _, _ => by simp [lin] at h
  | .ite .., _, _, h, _, _ => by simp [lin] at h
  | .ex .., _, _, h, _, _ => by simp [lin] at h
  | .all .., _, _, h, _, _ => by simp [lin] at h
theorem lin_leaves {α : Type} {φ : α → Prop} : ∀ {t : Tree α} {ps : List Rq} {a : α}, lin t = some (ps, a) → Leaves φ t → φ a
  | .leaf _, ps, a, h, hl => by simp [lin] at h; obtain ⟨rfl, rfl⟩ := h; exact hl
  | .req p t, ps, a, h, hl => by
    simp only [lin] at h
    split at h
    · rename_i ps' a' h'
      obtain ⟨rfl, rfl⟩ := by simpa using h
      exact lin_leaves h' hl
    · simp at h
  | .ask r t, ps, a, h, hl => by
    simp only [lin] at h
    split at h
    · rename_i ps' a' h'
      obtain ⟨rfl, rfl⟩ := by simpa using h
      exact lin_leaves h' hl
    · simp at h
  | .stop, _, _, h, _ => by simp [lin] at h
  | .ite .., _, _, h, _ => by simp [lin] at h
  | .ex .., _, _, h, _ => by simp [lin] at h
  | .all .., _, _, h, _ => by simp [lin] at h
theorem reqs_sem {α : Type} {b w : Bool} {K : α → Prop} : ∀ {ps : List Rq} {t : Tree α}, (reqs b w ps t).sem K → (b = w → ∀ p ∈ ps, p.holds) ∧ t.sem K
  | [], t, h => ⟨fun _ => by simp, h⟩
  | p :: ps, t, h => by
    obtain ⟨h1, h2⟩ := emit_sem.1 h
    obtain ⟨h3, h4⟩ := reqs_sem h2
    refine ⟨fun hb q hq => ?_, h4⟩
    rcases List.mem_cons.1 hq with rfl | hq
    · exact Rq.under_spec h1 (wb_eq.2 hb)
    · exact h3 hb q hq
theorem exec_ok (hE : EnvOk E) (hP : PureOk E F) {T : Fx} (hN : T.N0 ≤ F.n0) : ∀ (c : Code), LoopsOk E F c → ∀ (K : Res1 → Prop) (st : St), (exec E F c st).sem K → ∀ (β : Places) (a : Act) (w : World), Rel E.W0 T β st a w → c.wp E.P (Post E T K) a w
  | .skip, _, K, st, hk, β, a, w, h => wp_skip ⟨.normal, st, β, rfl, hk, h⟩
  | .region id ops draw, _, K, st, hk, β, a, w, h => by
    unfold exec at hk
    rw [Tree.sem_bind] at hk
    cases draw
    · simp only [Bool.false_eq_true, if_false] at hk
      exact region_ok hE hk h fun s β a w hs h => ⟨.normal, s, β, rfl, hs, h⟩
    · simp only [if_true] at hk
      exact drun_ok hE hk h fun s β a w hs h => ⟨.normal, s, β, rfl, hs, h⟩
  | .seq x y, hl, K, st, hk, β, a, w, h => by
    unfold exec at hk
    rw [Tree.sem_bind] at hk
    refine wp_seq (wp_mono (exec_ok hE hP hN x hl.1 _ st hk β a w h) ?_)
    rintro e a' w' ⟨x', st', β', rfl, hk', h'⟩
    cases x' with
    | normal => exact exec_ok hE hP hN y hl.2 K st' hk' β' a' w' h'
    | exit id => exact ⟨_, st', β', rfl, hk', h'⟩
    | ret => exact ⟨_, st', β', rfl, hk', h'⟩
  | .cond c t e, hl, K, st, hk, β, a, w, h => by
    unfold exec at hk
    rw [Tree.sem_bind] at hk
    obtain ⟨x, hk, hx⟩ := force_sem (ev_V h.fr c) hk
    split at hk
    · rename_i b
      simp only [V] at hx
      have both : (Tree.ite b (exec E F t st) (exec E F e st)).sem K → (Code.cond c t e).wp E.P (Post E T K) a w := fun hk => by
        refine wp_cond hx ?_
        cases b
        · exact exec_ok hE hP hN e hl.2 K st (hk.2 rfl) β a w h
        · exact exec_ok hE hP hN t hl.1 K st (hk.1 rfl) β a w h
      split at hk
      · rename_i hq
        simp only [Bool.and_eq_true] at hq
        split at hk
        · rename_i ps s1 qs s2 h1 h2
          split at hk
          · rename_i hlen
            obtain ⟨hp1, hk⟩ := reqs_sem hk
            obtain ⟨hp2, hk⟩ := reqs_sem hk
            have k1 := lin_leaves h1 (quiet_exec hP t st hq.1)
            have k2 := lin_leaves h2 (quiet_exec hP e st hq.2)
            refine wp_cond hx ?_
            cases b
            · have := exec_ok hE hP hN e hl.2 (fun r => r = (.normal, s2)) st (lin_sem h2 (hp2 rfl) rfl) β a w h
              refine wp_mono this ?_
              rintro ex a' w' ⟨x', st', β', rfl, hr, h'⟩
              obtain ⟨rfl, rfl⟩ := by simpa using hr
              refine ⟨.normal, _, β', rfl, hk, mergeFr_VL (vs := []) 0 hlen.1 hlen.2 (by simpa using h'.fr) (fun u hu => ?_), h'.df, ?_, ?_, ?_⟩
              · simp only [Bool.false_eq_true, if_false]
                exact k2.2 u (fun hm => hu (by simp [hm]))
              · show HRel _ _ _ st.hp _
                rw [← k2.1]; exact h'.hp
              · show _ ≤ st.hp.length
                rw [← k2.1]; exact h'.len
              · show ∀ id p, _ → _ → (hget st.hp id).isSome → _
                rw [← k2.1]; exact h'.keep
            · have := exec_ok hE hP hN t hl.1 (fun r => r = (.normal, s1)) st (lin_sem h1 (hp1 rfl) rfl) β a w h
              refine wp_mono this ?_
              rintro ex a' w' ⟨x', st', β', rfl, hr, h'⟩
              obtain ⟨rfl, rfl⟩ := by simpa using hr
              refine ⟨.normal, _, β', rfl, hk, mergeFr_VL (vs := []) 0 hlen.1 hlen.2 (by simpa using h'.fr) (fun u hu => ?_), h'.df, ?_, ?_, ?_⟩
              · simp only [if_true]
                exact k1.2 u (fun hm => hu (by simp [hm]))
              · show HRel _ _ _ st.hp _
                rw [← k1.1]; exact h'.hp
              · show _ ≤ st.hp.length
                rw [← k1.1]; exact h'.len
              · show ∀ id p, _ → _ → (hget st.hp id).isSome → _
                rw [← k1.1]; exact h'.keep
          · exact both hk
        · exact both hk
      · exact both hk
    · exact hk.elim
  | .block id b, hl, K, st, hk, β, a, w, h => by
    unfold exec at hk
    rw [Tree.sem_bind] at hk
    refine wp_block (wp_mono (exec_ok hE hP hN b hl _ st hk β a w h) ?_)
    rintro e a' w' ⟨x', st', β', rfl, hk', h'⟩
    cases x' with
    | normal => exact ⟨_, st', β', rfl, hk', h'⟩
    | exit i =>
      simp only [Ex.to, Exit.inBlock]
      dsimp only at hk'
      by_cases e : i = id
      · rw [if_pos e] at hk' ⊢; exact ⟨.normal, st', β', rfl, hk', h'⟩
      · rw [if_neg e] at hk' ⊢; exact ⟨.exit i, st', β', rfl, hk', h'⟩
    | ret => exact ⟨_, st', β', rfl, hk', h'⟩
  | .loop b, hl, K, st, hk, β, a, w, h => by
    unfold exec at hk
    split at hk
    · rename_i k hk1
      split at hk
      · rename_i hh hk2
        exact hl k hh hk1 hk2 T hN K st hk β a w h
      · exact hk.elim
    · exact hk.elim
  | .scope b, hl, K, st, hk, β, a, w, h => by
    unfold exec at hk
    refine wp_scope_straight (wp_mono (exec_ok hE hP hN b hl K st hk β a w h) ?_)
    rintro e a' w' ⟨x', st', β', rfl, hk', h'⟩
    cases x' <;> exact ⟨_, st', β', rfl, hk', h'⟩
  | .exit id, _, K, st, hk, β, a, w, h => wp_exit ⟨.exit id, st, β, rfl, hk, h⟩
  | .ret, _, K, st, hk, β, a, w, h => wp_ret ⟨.ret, st, β, rfl, hk, h⟩
  | .rangeFunc .., _, _, _, hk, _, _, _, _ => hk.elim
  | .label _, _, _, _, hk, _, _, _, _ => hk.elim
  | .goto _, _, _, _, hk, _, _, _, _ => hk.elim
  | .refuse _, _, _, _, hk, _, _, _, _ => hk.elim

/-! ### Functions -/
def resV (E : Env) (st : St) : List ResultVar → Tree (List AV)
  | [] => .leaf []
  | .tmp t :: rs => (force (st.fr.getD t .junk)).bind fun v => (resV E st rs).bind fun vs => .leaf (v :: vs)
  | .cell a t :: rs => (force (st.fr.getD a .junk)).bind fun p => match p with
    | .ptr id off => (loadT E.P E.W0 (hget st.hp) t (.ptr id off)).bind fun v => (resV E st rs).bind fun vs => .leaf (v :: vs)
    | _ => .stop
def rvSem (tmps : Array Value) : ResultVar → Sem Value
  | .tmp t => pure (tmps.getD t undef)
  | .cell x t => do loadVar t (← asAddr (tmps.getD x undef))
theorem results_eq (fn : Func) (tmps : Array Value) : results fn tmps = (do let vs ← fn.results.mapM (rvSem tmps); pure (if h : vs.size = 1 then vs[0] else .tuple vs)) := by
  unfold results
  congr 2
def tupA : List AV → AV
  | [v] => v
  | vs => .tup vs
def resA (E : Env) (fn : Func) (st : St) : Tree AV := (resV E st fn.results.toList).bind fun vs => .leaf (tupA vs)
theorem resV_ok {T : Fx} {β : Places} {st : St} {a : Act} {w : World} (h : Rel E.W0 T β st a w) : ∀ (rs : List ResultVar) (K : List AV → Prop), (resV E st rs).sem K → ∃ as vs, K as ∧ VL β as vs ∧
    (rs.mapM (rvSem a.tmps)).run E.P w = .ok vs w
  | [], K, hk => ⟨[], [], hk, by simp [VL], rfl⟩
  | .tmp t :: rs, K, hk => by
    simp only [resV, Tree.sem_bind] at hk
    obtain ⟨v, hk, hv⟩ := force_sem (ev_V h.fr (.tmp t)) hk
    obtain ⟨as, vs, h1, h2, h3⟩ := resV_ok h rs _ hk
    refine ⟨v :: as, a.tmps.getD t undef :: vs, h1, by simp only [VL]; exact ⟨_, _, rfl, hv, h2⟩, ?_⟩
    rw [List.mapM_cons]
    simp only [run_bind, rvSem, run_pure, h3]
  | .cell x t :: rs, K, hk => by
    simp only [resV, Tree.sem_bind] at hk
    obtain ⟨p, hk, hp⟩ := force_sem (ev_V h.fr (.tmp x)) hk
    split at hk
    · rename_i id off
      simp only [Tree.sem_bind] at hk
      obtain ⟨v, u, hk, hrun, hv⟩ := loadT_ok h.hp (get := hget st.hp) (fun _ _ h => h) hp _ hk
      obtain ⟨as, vs, h1, h2, h3⟩ := resV_ok h rs _ hk
      refine ⟨v :: as, u :: vs, h1, by simp only [VL]; exact ⟨_, _, rfl, hv, h2⟩, ?_⟩
      rw [List.mapM_cons]
      have hp' := hp
      simp only [V] at hp'
      obtain ⟨n, c, _, e⟩ := hp'
      have hev : a.eval (.tmp x) = a.tmps.getD x undef := rfl
      rw [hev] at e hrun
      rw [e] at hrun
      have hl : (loadVar t ⟨n, off, none⟩).run E.P w = .ok u w := hrun
      have hrv : (rvSem a.tmps (.cell x t)).run E.P w = .ok u w := by
        simp only [rvSem, run_bind, e, asAddr, run_pure, hl]
      simp only [run_bind, hrv, h3, run_pure]
    · exact hk.elim
theorem resA_ok {T : Fx} {β : Places} {st : St} {a : Act} {w : World} (h : Rel E.W0 T β st a w) {fn : Func} {K : AV → Prop} (hk : (resA E fn st).sem K) : ∃ x v, K x ∧ V β x v ∧ (results fn a.tmps).run E.P w = .ok v w := by
  unfold resA at hk
  rw [Tree.sem_bind] at hk
  obtain ⟨as, vs, h1, h2, h3⟩ := resV_ok h _ _ hk
  have hm : (fn.results.mapM (rvSem a.tmps)).run E.P w = .ok vs.toArray w := by
    rw [Array.mapM_eq_mapM_toList, map_eq_pure_bind, run_bind, h3]
    rfl
  have hr : (results fn a.tmps).run E.P w = .ok (if h : vs.toArray.size = 1 then vs.toArray[0] else .tuple vs.toArray) w := by
    rw [results_eq, run_bind, hm]
    rfl
  refine ⟨_, _, h1, ?_, hr⟩
  match as, vs, h2 with
  | [], vs, h2 => simp only [VL] at h2; subst h2; simp only [tupA, V]; exact ⟨[], rfl, by simp [VL]⟩
  | [x], vs, h2 =>
    simp only [VL] at h2
    obtain ⟨v, vs', rfl, hv, rfl⟩ := h2
    simpa [tupA] using hv
  | x :: y :: as, vs, h2 =>
    have hl := h2.length
    simp only [List.length_cons] at hl
    have : vs.toArray.size ≠ 1 := by simp; omega
    rw [dif_neg this]
    simp only [tupA, V]
    exact ⟨vs, rfl, h2⟩
/-- Only these blocks are kept. -/
def trimH : Nat → Heap → Heap := List.take
theorem hget_take : ∀ (h : Heap) (n i : Nat), hget (h.take n) i = if i < n then hget h i else none
  | [], n, i => by simp [hget]
  | x :: h, 0, i => by simp [hget]
  | x :: h, n + 1, 0 => by simp [hget]
  | x :: h, n + 1, i + 1 => by simp [hget, hget_take h n i]
/-- A value names only these blocks, a block leads only to these. -/
def idsIn (hp : Heap) (v : AV) : Bool := (ids v).all fun i => (hget hp i).isSome
def heapIn (hp : Heap) : Heap → Bool
  | [] => true
  | some b :: h => (idsB b).all (fun i => (hget hp i).isSome) && heapIn hp h
  | none :: h => heapIn hp h
theorem heapIn_spec {hp : Heap} : ∀ {h : Heap}, heapIn hp h = true → ∀ (i : Nat) (b : Blk), hget h i = some b → ∀ j ∈ idsB b, (hget hp j).isSome
  | [], _, i, b, hb => by simp [hget] at hb
  | some x :: h, hh, 0, b, hb => by
    simp only [heapIn, Bool.and_eq_true, List.all_eq_true] at hh
    simp only [hget, Option.some.injEq] at hb
    subst hb; exact hh.1
  | some x :: h, hh, i + 1, b, hb => by
    simp only [heapIn, Bool.and_eq_true] at hh
    exact heapIn_spec hh.2 i b hb
  | none :: h, hh, 0, b, hb => by simp [hget] at hb
  | none :: h, hh, i + 1, b, hb => heapIn_spec (h := h) hh i b hb
mutual
theorem V_sub {β β' : Places} : ∀ (a : AV) (v : Value), (∀ id ∈ ids a, ∀ p, β id = some p → β' id = some p) → V β a v → V β' a v
  | .junk, _, _, _ => by simp [V]
  | .raw _, _, _, hv => by simpa [V] using hv
  | .int .., _, _, hv => by simpa [V] using hv
  | .bool _, _, _, hv => by simpa [V] using hv
  | .ptr id _, _, h, hv => by simp only [V] at *; obtain ⟨b, c, hb, rfl⟩ := hv; exact ⟨b, c, h id (by simp [ids]) _ hb, rfl⟩
  | .slice id .., _, h, hv => by simp only [V] at *; obtain ⟨b, c, hb, rfl⟩ := hv; exact ⟨b, c, h id (by simp [ids]) _ hb, rfl⟩
  | .gsl id _, _, h, hv => by simp only [V] at *; obtain ⟨b, c, hb, rfl, hl⟩ := hv; exact ⟨b, c, h id (by simp [ids]) _ hb, rfl, hl⟩
  | .agg cs, _, h, hv => by simp only [V] at *; obtain ⟨vs, rfl, hl⟩ := hv; exact ⟨vs, rfl, VL_sub cs vs (by simpa [ids] using h) hl⟩
  | .tup cs, _, h, hv => by simp only [V] at *; obtain ⟨vs, rfl, hl⟩ := hv; exact ⟨vs, rfl, VL_sub cs vs (by simpa [ids] using h) hl⟩
  | .fn _ x y, _, h, hv => by
    simp only [V, ids, List.mem_append] at *
    obtain ⟨xs, ys, rfl, hx, hy⟩ := hv
    exact ⟨xs, ys, rfl, VL_sub x xs (fun id hi => h id (.inl hi)) hx, VL_sub y ys (fun id hi => h id (.inr hi)) hy⟩
  | .iface _ a, _, h, hv => by simp only [V, ids] at *; obtain ⟨u, rfl, hu⟩ := hv; exact ⟨u, rfl, V_sub a u h hu⟩
  | .opt _ a, v, h, hv => by simp only [V, ids] at *; exact ⟨fun hg => V_sub a v h (hv.1 hg), hv.2⟩
theorem VL_sub {β β' : Places} : ∀ (cs : List AV) (vs : List Value), (∀ id ∈ idsL cs, ∀ p, β id = some p → β' id = some p) → VL β cs vs → VL β' cs vs
  | [], _, _, hv => by simpa [VL] using hv
  | c :: cs, _, h, hv => by
    simp only [VL, idsL, List.mem_append] at *
    obtain ⟨v, vs', rfl, h1, h2⟩ := hv
    exact ⟨v, vs', rfl, V_sub c v (fun id hi => h id (.inl hi)) h1, VL_sub cs vs' (fun id hi => h id (.inr hi)) h2⟩
end
end
end Go.Sx
