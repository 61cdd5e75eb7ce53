/-
  Loops: summaries whose entry and rounds are read off the state; blocks may change their names.
-/
import Derived.Test.YtafhbnafigjinaaSx17
import Derived.Test.YtafhbnafigjinaaSx16
set_option linter.unusedSimpArgs false
set_option linter.unusedVariables false
namespace Go.Sx
def atN (σ : List Nat) (k : Nat) : Nat := σ.getD k 0
/-- What is not asked is not told. -/
def maskF : List AV → List AV → List AV
  | .junk :: bs, _ :: as => .junk :: maskF bs as
  | _ :: bs, a :: as => a :: maskF bs as
  | _, as => as
theorem maskF_leF : ∀ {bs as : List AV}, maskF bs as = bs → leF as bs
  | [], [], _ => trivial
  | [], a :: as, h => by simp [maskF] at h
  | b :: bs, [], h => by cases b <;> simp [maskF] at h
  | b :: bs, a :: as, h => by
    cases b with
    | junk =>
      simp only [maskF, List.cons.injEq, true_and] at h
      have h3 := maskF_leF (bs := bs) (as := as) h
      cases a <;> exact h3
    | _ =>
      simp only [maskF, List.cons.injEq] at h
      obtain ⟨rfl, h2⟩ := h
      exact ⟨rfl, maskF_leF h2⟩
/-- The blocks that are asked for, by their names here. -/
def pickH (σ : List Nat) (hp : Heap) : Nat → Heap → Heap
  | _, [] => []
  | k, none :: h => none :: pickH σ hp (k + 1) h
  | k, some _ :: h => hget hp (atN σ k) :: pickH σ hp (k + 1) h
def renH (σ : List Nat) : Heap → Heap
  | [] => []
  | none :: h => none :: renH σ h
  | some b :: h => some (renB (atN σ) b) :: renH σ h
theorem pickH_spec {σ : List Nat} {hp : Heap} : ∀ {h : Heap} {k : Nat}, pickH σ hp k h = renH σ h → ∀ (i : Nat) (b : Blk), hget h i = some b → hget hp (atN σ (k + i)) = some (renB (atN σ) b)
  | [], _, _, _, _, hb => by simp [hget] at hb
  | none :: h, k, he, 0, b, hb => by simp [hget] at hb
  | none :: h, k, he, i + 1, b, hb => by
    simp only [pickH, renH, List.cons.injEq, true_and] at he
    have := pickH_spec he i b hb
    rwa [Nat.add_assoc, Nat.add_comm 1 i] at this
  | some c :: h, k, he, 0, b, hb => by
    simp only [pickH, renH, List.cons.injEq] at he
    simp only [hget, Option.some.injEq] at hb
    subst hb
    exact he.1
  | some c :: h, k, he, i + 1, b, hb => by
    simp only [pickH, renH, List.cons.injEq] at he
    have := pickH_spec he.2 i b hb
    rwa [Nat.add_assoc, Nat.add_comm 1 i] at this
def okR (n : Nat) (σ : List Nat) (st' : St) : Bool :=
  (idsL st'.fr).all (fun i => (hget st'.hp i).isSome) && heapIn st'.hp st'.hp && decide (n ≤ st'.hp.length) && nodupB σ && (σ.length == st'.hp.length) && (List.range n).all fun k => atN σ k == k
/-- What is said of 'st' says what is said of 'st'', by other names. -/
structure LeR (n : Nat) (σ : List Nat) (st st' : St) : Prop where
  fr : maskF (renL (atN σ) st'.fr) st.fr = renL (atN σ) st'.fr
  hp : pickH σ st.hp 0 st'.hp = renH σ st'.hp
  ok : okR n σ st' = true
theorem Rel.leR {E : Env} {T : Fx} {β : Places} {st st' : St} {a : Act} {w : World} {n : Nat} {σ : List Nat} (h : Rel E.W0 T β st a w) (hl : LeR n σ st st') (hn : T.N0 ≤ n) : ∃ β', Rel E.W0 T β' st' a w := by
  have hok := hl.ok
  unfold okR at hok
  simp only [Bool.and_eq_true, decide_eq_true_eq, beq_iff_eq, List.all_eq_true, List.mem_range] at hok
  obtain ⟨⟨⟨⟨⟨h1, h2⟩, h3⟩, h4⟩, h5⟩, h6⟩ := hok
  have hsub := pickH_spec hl.hp
  simp only [Nat.zero_add] at hsub
  have hnd := nodupB_spec h4
  refine ⟨fun k => if (hget st'.hp k).isSome then β (atN σ k) else none, ?_, h.df, ?_, by omega, ?_⟩
  · refine VL_unren _ _ (fun id hid p hp => ?_) (leF_VL (maskF_leF hl.fr) h.fr)
    try dsimp only
    rw [if_pos (h1 id hid)]; exact hp
  · have H := h.hp
    refine ⟨H.ro, H.sz, H.fz, ?_, ?_, ?_, H.os, H.out, H.tape, H.nofz⟩
    · intro id p hp
      try dsimp only at hp
      split at hp
      · rename_i hs; exact Option.isSome_iff_exists.1 hs
      · simp at hp
    · intro id b hb
      obtain ⟨m, c, o, g1, g2, g3, g4, g5⟩ := H.hp _ _ (hsub id b hb)
      refine ⟨m, c, o, ?_, g2, g3, g4, B_unren (fun j hj p hp => ?_) g5⟩
      · (try dsimp only); rw [if_pos (by rw [hb]; rfl)]; exact g1
      · try dsimp only
        rw [if_pos (heapIn_spec h2 id b hb j hj)]; exact hp
    · intro i j m c c' hi hj
      try dsimp only at hi hj
      split at hi
      · rename_i si
        split at hj
        · rename_i sj
          have e := H.inj _ _ _ _ _ hi hj
          obtain ⟨bi, hbi⟩ := Option.isSome_iff_exists.1 si
          obtain ⟨bj, hbj⟩ := Option.isSome_iff_exists.1 sj
          have li := hget_lt hbi
          have lj := hget_lt hbj
          unfold atN at e
          rw [List.getD_eq_getElem?_getD, List.getD_eq_getElem?_getD, List.getElem?_eq_getElem (by omega), List.getElem?_eq_getElem (by omega)] at e
          exact (List.getElem_inj hnd).1 (by simpa using e)
        · simp at hj
      · simp at hi
  · intro id p hid hp hs
    try dsimp only
    rw [if_pos hs, h6 id (by omega)]
    refine h.keep id p hid hp ?_
    obtain ⟨b, hb⟩ := Option.isSome_iff_exists.1 hs
    have := hsub id b hb
    rw [h6 id (by omega)] at this
    rw [this]; rfl
/-- A state that is read: as S says, by other names; where it is as it should be. -/
def readS {X : Type} (n : Nat) (S : X → St) (x : X) (σ : List Nat) (st : St) {α : Type} (k : Tree α) : Tree α :=
  .ask (.e (maskF (renL (atN σ) (S x).fr) st.fr) (renL (atN σ) (S x).fr)) (.ask (.e (pickH σ st.hp 0 (S x).hp) (renH σ (S x).hp)) (if okR n σ (S x) = true then k else .stop))
theorem readS_sem {X : Type} {n : Nat} {S : X → St} {x : X} {σ : List Nat} {st : St} {α : Type} {k : Tree α} {K : α → Prop} (h : (readS n S x σ st k).sem K) : LeR n σ st (S x) ∧ k.sem K := by
  obtain ⟨h1, h2, h3⟩ := h
  split at h3
  · rename_i hc; exact ⟨⟨h1, h2, hc⟩, h3⟩
  · exact h3.elim
/-- A loop, told by states S x (at its head) and O y (behind it). -/
structure Lp where
  X : Type
  Y : Type
  S : X → St
  dec : St → Option (X × List Nat)
  out : Y → Res1
  decO : Ex → St → Option (Y × List Nat)
  n0 : Nat
def Lp.round (l : Lp) (t : Tree Res1) : Tree (l.X ⊕ l.Y) := t.bind fun r => match r.1 with
  | .normal => match l.dec r.2 with
    | some (x, σ) => readS l.n0 l.S x σ r.2 (.leaf (.inl x))
    | none => .stop
  | .exit i => match l.decO (.exit i) r.2 with
    | some (y, σ) => match (l.out y).1 with
      | .exit j => if j = i then readS l.n0 (fun y => (l.out y).2) y σ r.2 (.leaf (.inr y)) else .stop
      | _ => .stop
    | none => .stop
  | .ret => match l.decO .ret r.2 with
    | some (y, σ) => match (l.out y).1 with
      | .ret => readS l.n0 (fun y => (l.out y).2) y σ r.2 (.leaf (.inr y))
      | _ => .stop
    | none => .stop
/-- The summary: what is asked at the entry, what is known behind the loop. -/
def Lp.sum (l : Lp) (good : l.X → Prop) (post : l.X → l.Y → Prop) (st : St) : Tree Res1 := match l.dec st with
  | some (x, σ) => readS l.n0 l.S x σ st (.req (good x) (.all (post x) fun y => .leaf (l.out y)))
  | none => .stop
theorem Lp.sum_ok {E : Env} {F : Fn} (hE : EnvOk E) (hP : PureOk E F) {b : Code} (hL : LoopsOk E F b) (l : Lp) (hn : l.n0 = F.n0) {good : l.X → Prop} {post : l.X → l.Y → Prop} (Inv : l.X → l.X → Prop) (μ : l.X → Nat)
    (start : ∀ x, good x → Inv x x)
    (round : ∀ x0 x, good x0 → Inv x0 x → Holds (l.round (exec E F b (l.S x))) fun r => match r with
      | .inl x' => Inv x0 x' ∧ μ x' < μ x
      | .inr y => post x0 y) : LoopOk E F.n0 b (l.sum good post) := by
  intro T hN K st hk β a w h
  unfold Lp.sum at hk
  split at hk
  · rename_i x0 σ0 hd
    obtain ⟨hle, hg, hk⟩ := readS_sem hk
    obtain ⟨β0, h0⟩ := h.leR hle (by omega)
    refine wp_loop_by (fun x a w => Inv x0 x ∧ ∃ β, Rel E.W0 T β (l.S x) a w) μ ?_ x0 ⟨start x0 hg, β0, h0⟩
    rintro x a w ⟨hx, β, hr⟩
    have hrd := (round x0 x hg hx).is
    unfold Lp.round at hrd
    rw [Tree.sem_bind] at hrd
    refine wp_mono (exec_ok hE hP hN b hL _ _ hrd β a w hr) ?_
    rintro e a' w' ⟨x', st', β2, rfl, hk2, h2⟩
    dsimp only at hk2
    cases x' with
    | normal =>
      simp only at hk2
      split at hk2
      · obtain ⟨hle2, hk2⟩ := readS_sem hk2
        obtain ⟨β3, h3⟩ := h2.leR hle2 (by omega)
        exact ⟨_, ⟨hk2.1, β3, h3⟩, hk2.2⟩
      · exact hk2.elim
    | exit i =>
      simp only at hk2
      split at hk2
      · rename_i y σ hy
        split at hk2
        · rename_i j hj
          split at hk2
          · rename_i e
            subst e
            obtain ⟨hle2, hk2⟩ := readS_sem hk2
            obtain ⟨β3, h3⟩ := h2.leR hle2 (by omega)
            refine ⟨(l.out y).1, (l.out y).2, β3, by rw [hj], hk y hk2, h3⟩
          · exact hk2.elim
        · exact hk2.elim
      · exact hk2.elim
    | ret =>
      simp only at hk2
      split at hk2
      · rename_i y σ hy
        split at hk2
        · rename_i hj
          obtain ⟨hle2, hk2⟩ := readS_sem hk2
          obtain ⟨β3, h3⟩ := h2.leR hle2 (by omega)
          exact ⟨(l.out y).1, (l.out y).2, β3, by rw [hj], hk y hk2, h3⟩
        · exact hk2.elim
      · exact hk2.elim
  · exact hk.elim
end Go.Sx
