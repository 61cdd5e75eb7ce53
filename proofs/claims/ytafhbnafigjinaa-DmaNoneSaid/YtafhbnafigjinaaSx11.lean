/-
  A function's contract out of a run of its code; a loop's summary.
-/
import Derived.Test.YtafhbnafigjinaaSx10
set_option linter.unusedSimpArgs false
set_option linter.unusedVariables false
namespace Go.Sx

/-! ### Less is known -/
def subH : Heap → Heap → Prop
  | [], _ => True
  | none :: h, [] => subH h []
  | none :: h, _ :: g => subH h g
  | some _ :: _, [] => False
  | some _ :: _, none :: _ => False
  | some b :: h, some c :: g => c = b ∧ subH h g
theorem subH_spec : ∀ {h g : Heap}, subH h g → ∀ (i : Nat) (b : Blk), hget h i = some b → hget g i = some b
  | [], _, _, i, b, hb => by simp [hget] at hb
  | none :: h, [], hs, 0, b, hb => by simp [hget] at hb
  | none :: h, [], hs, i + 1, b, hb => by
    have := subH_spec (h := h) (g := []) hs i b hb
    simp [hget] at this
  | none :: h, _ :: g, hs, 0, b, hb => by simp [hget] at hb
  | none :: h, _ :: g, hs, i + 1, b, hb => subH_spec (h := h) (g := g) hs i b hb
  | some x :: h, some y :: g, hs, 0, b, hb => by
    simp only [subH] at hs
    simp only [hget] at *
    rw [hs.1]; exact hb
  | some x :: h, some y :: g, hs, i + 1, b, hb => subH_spec (h := h) (g := g) hs.2 i b hb
def leA (a b : AV) : Prop := match b with
  | .junk => True
  | b => a = b
def leF : List AV → List AV → Prop
  | [], [] => True
  | a :: as, .junk :: bs => leF as bs
  | a :: as, b :: bs => a = b ∧ leF as bs
  | _, _ => False
theorem leF_VL {β : Places} : ∀ {as bs : List AV} {vs : List Value}, leF as bs → VL β as vs → VL β bs vs
  | [], [], _, _, h => h
  | a :: as, .junk :: bs, vs, hl, h => by
    simp only [VL] at *
    obtain ⟨v, vs', rfl, h1, h2⟩ := h
    exact ⟨v, vs', rfl, by simp [V], leF_VL (by simpa [leF] using hl) h2⟩
  | a :: as, .raw _ :: bs, vs, hl, h | a :: as, .int .. :: bs, vs, hl, h | a :: as, .bool _ :: bs, vs, hl, h | a :: as, .ptr .. :: bs, vs, hl, h
  | a :: as, .slice .. :: bs, vs, hl, h | a :: as, .gsl .. :: bs, vs, hl, h | a :: as, .agg _ :: bs, vs, hl, h | a :: as, .tup _ :: bs, vs, hl, h
  | a :: as, .fn .. :: bs, vs, hl, h | a :: as, .iface .. :: bs, vs, hl, h | a :: as, .opt .. :: bs, vs, hl, h => by
    simp only [leF] at hl
    simp only [VL] at *
    obtain ⟨v, vs', rfl, h1, h2⟩ := h
    rw [hl.1] at h1
    exact ⟨v, vs', rfl, h1, leF_VL hl.2 h2⟩
  | [], _ :: _, _, hl, _ => by simp [leF] at hl
  | _ :: _, [], _, hl, _ => by simp [leF] at hl
/-- What is said of 'st' says what is said of 'st'', which has n blocks at least. -/
def Le (n : Nat) (st st' : St) : Prop := leF st.fr st'.fr ∧ subH st'.hp st.hp ∧ ((idsL st'.fr).all (fun i => (hget st'.hp i).isSome) && heapIn st'.hp st'.hp && decide (n ≤ st'.hp.length)) = true
/-- Places of what is still named. -/
def onlyLive (hp : Heap) (β : Places) : Places := fun id => if (hget hp id).isSome then β id else none
theorem HRel.less {W0 : World} {T : Frz} {β : Places} {hp hp' : Heap} {w : World} (h : HRel W0 T β hp w) (hs : subH hp' hp) (hi : heapIn hp' hp' = true) : HRel W0 T (onlyLive hp' β) hp' w := by
  refine ⟨h.ro, h.sz, h.fz, ?_, ?_, ?_, h.os, h.out, h.tape, h.nofz⟩
  · intro id p hp
    unfold onlyLive at hp
    split at hp
    · rename_i hl; exact Option.isSome_iff_exists.1 hl
    · simp at hp
  · intro id b hb
    obtain ⟨n, c, o, h1, h2, h3, h4, h5⟩ := h.hp id b (subH_spec hs id b hb)
    refine ⟨n, c, o, by simp [onlyLive, hb, h1], h2, h3, h4, ?_⟩
    have hids := heapIn_spec hi id b hb
    cases b with
    | lit e cs =>
      simp only [B] at *
      obtain ⟨vs, rfl, hv⟩ := h5
      exact ⟨vs, rfl, VL_sub cs vs (fun j hj p hp => by simp only [onlyLive, hids j (by simpa [idsB] using hj), if_true, hp]) hv⟩
    | sym e cs => simpa [B] using h5
    | row e sz kn cs => simpa [B] using h5
  · intro i j n c c' hi' hj'
    unfold onlyLive at hi' hj'
    split at hi'
    · split at hj'
      · exact h.inj _ _ _ _ _ hi' hj'
      · simp at hj'
    · simp at hi'
theorem Rel.le {E : Env} {T : Fx} {β : Places} {st st' : St} {a : Act} {w : World} {n : Nat} (h : Rel E.W0 T β st a w) (hl : Le n st st') (hn : T.N0 ≤ n) : ∃ β', Rel E.W0 T β' st' a w := by
  obtain ⟨h1, h2, h3⟩ := hl
  simp only [Bool.and_eq_true, decide_eq_true_eq, List.all_eq_true] at h3
  refine ⟨onlyLive st'.hp β, VL_sub _ _ (fun id hid p hp => by simp only [onlyLive, h3.1.1 id hid, if_true, hp]) (leF_VL h1 h.fr), h.df, h.hp.less h2 h3.1.2, Nat.le_trans hn h3.2, ?_⟩
  intro id p hi hp hs
  obtain ⟨b, hb⟩ := Option.isSome_iff_exists.1 hs
  have := h.keep id p hi hp (by rw [subH_spec h2 id b hb]; rfl)
  simp only [onlyLive, hs, if_true, this]

/-! ### Functions -/
def St.init (args : List AV) (n : Nat) (hp : Heap) : St := { fr := args ++ List.replicate (n - args.length) .junk, hp }
/-- A function's whole run: its result, and memory behind it. -/
def runF (E : Env) (F : Fn) (fn : Func) (c : Code) (args : List AV) (hp : Heap) : Tree (AV × Heap) :=
  (exec E F c (St.init args fn.ntmps hp)).bind fun r => match r.1 with
    | .exit _ => .stop
    | _ => (resA E fn r.2).bind fun v => .leaf (v, r.2.hp)
/-- The run's result is v, and memory is at least hp'. -/
def Fits (hp' : Heap) (v : AV) (q : AV × Heap) : Prop := q.1 = v ∧ subH hp' q.2 ∧ (idsIn hp' v && heapIn hp' hp') = true
def noRev : Heap → Heap → Bool
  | [], _ => true
  | none :: h, some _ :: _ => false
  | _ :: h, [] => true
  | _ :: h, _ :: g => noRev h g
theorem noRev_spec : ∀ {h g : Heap}, noRev h g = true → ∀ i, i < h.length → (hget g i).isSome → (hget h i).isSome
  | [], _, _, i, hi, _ => by simp at hi
  | none :: h, some _ :: _, hn, _, _, _ => by simp [noRev] at hn
  | none :: h, [], hn, i, _, hs => by simp [hget] at hs
  | some _ :: h, [], hn, i, _, hs => by simp [hget] at hs
  | none :: h, none :: g, hn, 0, _, hs => by simp [hget] at hs
  | none :: h, none :: g, hn, i + 1, hi, hs => by simp only [noRev] at hn; simp only [hget] at *; exact noRev_spec hn i (by simpa using hi) hs
  | some _ :: h, none :: g, hn, 0, _, hs => by simp [hget]
  | some _ :: h, none :: g, hn, i + 1, hi, hs => by simp only [noRev] at hn; simp only [hget] at *; exact noRev_spec hn i (by simpa using hi) hs
  | some _ :: h, some _ :: g, hn, 0, _, hs => by simp [hget]
  | some _ :: h, some _ :: g, hn, i + 1, hi, hs => by simp only [noRev] at hn; simp only [hget] at *; exact noRev_spec hn i (by simpa using hi) hs
structure FunOk (E : Env) (F : Fn) (f : FuncId) (fn : Func) (c : Code) : Prop where
  hE : EnvOk E
  hP : PureOk E F
  fun_ : E.P.funcs[f]? = some fn
  body : fn.body = some c
  loops : LoopsOk E F c
theorem run_ok {E : Env} {F : Fn} {f : FuncId} {fn : Func} {c : Code} (H : FunOk E F f fn c) {args : List AV} {hp : Heap} {K : AV × Heap → Prop} (hk : (runF E F fn c args hp).sem K) (hn : args.length ≤ fn.ntmps) (hN : hp.length ≤ F.n0)
    {T : Frz} {β : Places} {argv : List Value} {w : World} (hv : VL β args argv) (h : HRel E.W0 T β hp w) :
    Calls E.P f argv.toArray w fun e w' => ∃ q x β', K q ∧ e = .returned x ∧ V β' q.1 x ∧ HRel E.W0 T β' q.2 w' ∧ ∀ id p, id < hp.length → β id = some p → (hget q.2 id).isSome → β' id = some p := by
  have hrel : Rel E.W0 ⟨T, β, hp.length⟩ β (St.init args fn.ntmps hp) { tmps := argv.toArray ++ Array.replicate (fn.ntmps - argv.toArray.size) undef, defers := [] } w := by
    refine ⟨?_, rfl, h, Nat.le_refl _, fun id p _ hp _ => hp⟩
    have hl := hv.length
    simp only [St.init, Array.toList_append, Array.toList_replicate, List.size_toArray]
    refine hv.append ?_
    have := VL.junks β (List.replicate (fn.ntmps - args.length) undef)
    rw [hl]
    simpa using this
  unfold runF at hk
  rw [Tree.sem_bind] at hk
  refine calls_of_wp H.fun_ H.body (wp_mono (exec_ok H.hE H.hP (T := ⟨T, β, hp.length⟩) hN c H.loops _ _ hk β _ w hrel) ?_)
  rintro e a' w' ⟨x, st', β', rfl, hk', h'⟩
  have fin : ∀ {t : Tree (AV × Heap)}, t = ((resA E fn st').bind fun v => .leaf (v, st'.hp)) → t.sem K → a'.defers = [] ∧ ∃ v, (results fn a'.tmps).run E.P w' = .ok v w' ∧
      ∃ q x β', K q ∧ Ending.returned v = .returned x ∧ V β' q.1 x ∧ HRel E.W0 T β' q.2 w' ∧ ∀ id p, id < hp.length → β id = some p → (hget q.2 id).isSome → β' id = some p := fun ht hk => by
    rw [ht, Tree.sem_bind] at hk
    obtain ⟨y, v, h1, h2, h3⟩ := resA_ok h' hk
    exact ⟨h'.df, v, h3, (y, st'.hp), v, β', h1, rfl, h2, h'.hp, h'.keep⟩
  cases x with
  | normal => exact fin rfl hk'
  | exit id => exact hk'.elim
  | ret => exact fin rfl hk'
theorem pure_ok {E : Env} {F : Fn} {f : FuncId} {fn : Func} {c : Code} (H : FunOk E F f fn c) {args : List AV} {hp : Heap} {t : Tree AV} (ht : t.Ang) (hn : args.length ≤ fn.ntmps) (hN : hp.length ≤ F.n0)
    (h : ∀ K : AV → Prop, t.sem K → (runF E F fn c args hp).sem fun q => ∃ v, K v ∧ Fits hp v q) : CallOk E.P E.W0 f args hp (.pure t) := by
  refine ⟨ht, fun K hk T β argv w hv hr => (run_ok H (h K hk) hn hN hv hr).mono ?_⟩
  rintro e w' ⟨q, x, β', ⟨v, hK, rfl, hs, hi⟩, rfl, hV, hR, hkeep⟩
  simp only [Bool.and_eq_true] at hi
  have hβ : onlyLive hp β' = β := by
    funext id
    unfold onlyLive
    cases hg : hget hp id with
    | none => simp [hr.none_of hg]
    | some b =>
      obtain ⟨n, c', o, h1, _⟩ := hr.hp id b hg
      simp [h1, hkeep id _ (hget_lt hg) h1 (by rw [subH_spec hs id b hg]; rfl)]
  have hless := hR.less hs hi.2
  rw [hβ] at hless
  refine ⟨q.1, x, hK, rfl, ?_, hless⟩
  have := V_sub (β := β') (β' := onlyLive hp β') q.1 x (fun j hj p hp => by
    simp only [onlyLive, List.all_eq_true.1 hi.1 j hj, if_true, hp]) hV
  rwa [hβ] at this
theorem eff_ok {E : Env} {F : Fn} {f : FuncId} {fn : Func} {c : Code} (H : FunOk E F f fn c) {args : List AV} {hp : Heap} {t : Tree (AV × Heap)} (hn : args.length ≤ fn.ntmps) (hN : hp.length ≤ F.n0)
    (h : ∀ K : AV × Heap → Prop, t.sem K → (runF E F fn c args hp).sem fun q => ∃ v hp', K (v, hp') ∧ Fits hp' v q ∧ (decide (hp.length ≤ hp'.length) && noRev hp hp') = true) : CallOk E.P E.W0 f args hp (.eff t) := by
  refine fun K hk T β argv w hv hr => (run_ok H (h K hk) hn hN hv hr).mono ?_
  rintro e w' ⟨q, x, β', ⟨v, hp', hK, ⟨rfl, hs, hi⟩, hchk⟩, rfl, hV, hR, hkeep⟩
  simp only [Bool.and_eq_true, decide_eq_true_eq] at hi hchk
  refine ⟨q.1, x, hp', onlyLive hp' β', hK, rfl, ?_, hR.less hs hi.2, ?_, hchk.1, fun id => noRev_spec hchk.2 id⟩
  · exact V_sub q.1 x (fun j hj p hp => by simp only [onlyLive, List.all_eq_true.1 hi.1 j hj, if_true, hp]) hV
  · intro id p hid hl
    obtain ⟨b, hb⟩ := hr.live id p hid
    obtain ⟨b', hb'⟩ := Option.isSome_iff_exists.1 hl
    simp only [onlyLive, hl, if_true]
    exact hkeep id p (hget_lt hb) hid (by rw [subH_spec hs id b' hb']; rfl)

/-! ### Loops -/
/-- A loop whose state is told by an index that no slot need bear. -/
theorem wp_loop_by {P : Program} {c : Code} {X : Type} (I : X → Act → World → Prop) (μ : X → Nat) {Q : Exit → Act → World → Prop}
    (round : ∀ x a w, I x a w → c.wp P (Exit.then (fun a' w' => ∃ x', I x' a' w' ∧ μ x' < μ x) Q) a w) (x : X) {a : Act} {w : World} (h : I x a w) : (Code.loop c).wp P Q a w := by
  intro b k cs
  have key : ∀ (n : Nat) (x : X) (a : Act) (w : World), μ x = n → I x a w → ∃ e a' w', Q e a' w' ∧ Arrives P (lone (b.at a (.code c :: .inLoop c :: k)) cs w) b k cs e a' w' := by
    intro n
    induction n using Nat.strongRecOn with
    | _ n ih =>
      intro x a w hn hI
      obtain ⟨e, a₁, w₁, hq, harr⟩ := round x a w hI b (.inLoop c :: k) cs
      have out : ∀ {e}, (∀ a w, e ≠ Exit.normal ∨ Arrives P (lone (b.at a (.code c :: .inLoop c :: k)) cs w) b k cs e a w) → True := fun _ => trivial
      cases e with
      | normal =>
        obtain ⟨x₁, hI₁, hlt⟩ := hq
        obtain ⟨e₂, a₂, w₂, hq₂, harr₂⟩ := ih (μ x₁) (hn ▸ hlt) x₁ a₁ w₁ rfl hI₁
        exact ⟨e₂, a₂, w₂, hq₂, .of_steps (Steps.trans harr (.one step_inLoop)) harr₂⟩
      | exit id => exact ⟨_, a₁, w₁, hq, .pass (x := .inLoop c) rfl (fun _ _ => .inl (by simp)) harr⟩
      | goto l => exact ⟨_, a₁, w₁, hq, .pass (x := .inLoop c) rfl (fun _ _ => .inl (by simp)) harr⟩
      | ret => exact ⟨_, a₁, w₁, hq, .pass (x := .inLoop c) rfl (fun _ _ => .inl (by simp)) harr⟩
      | panic ch => exact ⟨_, a₁, w₁, hq, .pass (x := .inLoop c) rfl (fun _ _ => .inl (by simp)) harr⟩
      | outgrown => exact ⟨_, a₁, w₁, hq, .pass (x := .inLoop c) rfl (fun _ _ => .inl (by simp)) harr⟩
  obtain ⟨e, a', w', hq, harr⟩ := key _ x a w rfl h
  exact ⟨e, a', w', hq, .of_steps (.one step_loop) harr⟩
theorem loop_sum {E : Env} {F : Fn} (hE : EnvOk E) (hP : PureOk E F) {b : Code} (hL : LoopsOk E F b) {X : Type} (S : X → St) (good : X → Prop) (μ : X → Nat) {Kx : Res1 → Prop}
    (round : ∀ x, good x → (exec E F b (S x)).sem fun r => match r.1 with
      | .normal => ∃ x', good x' ∧ μ x' < μ x ∧ Le (S x).hp.length r.2 (S x')
      | _ => Kx r) (x0 : X) (h0 : good x0) {T : Fx} (hN : T.N0 ≤ F.n0) {β : Places} {a : Act} {w : World} (h : Rel E.W0 T β (S x0) a w) : (Code.loop b).wp E.P (Post E T Kx) a w := by
  refine wp_loop_by (fun x a w => good x ∧ ∃ β, Rel E.W0 T β (S x) a w) μ ?_ x0 ⟨h0, β, h⟩
  rintro x a w ⟨hx, β, hr⟩
  refine wp_mono (exec_ok hE hP hN b hL _ _ (round x hx) β a w hr) ?_
  rintro e a' w' ⟨x', st', β2, rfl, hk, h2⟩
  cases x' with
  | normal =>
    obtain ⟨z, hz, hlt, hle⟩ := hk
    obtain ⟨β3, h3⟩ := h2.le hle hr.len
    exact ⟨z, ⟨hz, β3, h3⟩, hlt⟩
  | exit id => exact ⟨_, st', β2, rfl, hk, h2⟩
  | ret => exact ⟨_, st', β2, rfl, hk, h2⟩
/-- A loop's summary: at the entry what S x0 says is known; it ends so, in a state that says what 'out' says. -/
def sumT {Y : Type} (pre : Prop) (entry : St) (post : Y → Prop) (out : Y → Res1) (st : St) : Tree Res1 :=
  .req (pre ∧ Le st.hp.length st entry) (.all post fun y => .leaf (out y))
theorem sumT_ok {E : Env} {F : Fn} (hE : EnvOk E) (hP : PureOk E F) {b : Code} (hL : LoopsOk E F b) {X Y : Type} (S : X → St) (good : X → Prop) (μ : X → Nat) {pre : Prop} (x0 : X) {post : Y → Prop} {out : Y → Res1}
    (h0 : pre → good x0)
    (round : pre → ∀ x, good x → (exec E F b (S x)).sem fun r => match r.1 with
      | .normal => ∃ x', good x' ∧ μ x' < μ x ∧ Le (S x).hp.length r.2 (S x')
      | e => ∃ y, post y ∧ (out y).1 = e ∧ Le (S x).hp.length r.2 (out y).2)
    (hlen : ∀ x, (S x0).hp.length ≤ (S x).hp.length) : LoopOk E F.n0 b (sumT pre (S x0) post out) := by
  intro T hN K st hk β a w h
  obtain ⟨⟨hp, hle⟩, hk⟩ := hk
  obtain ⟨β0, h1⟩ := h.le hle h.len
  refine wp_mono (loop_sum (T := T) (Kx := fun r => ∃ y, post y ∧ (out y).1 = r.1 ∧ Le (S x0).hp.length r.2 (out y).2) hE hP hL S good μ ?_ x0 (h0 hp) hN h1) ?_
  · intro x hx
    refine Tree.sem_mono (fun r hr => ?_) (round hp x hx)
    obtain ⟨ex, s⟩ := r
    have conv : (∃ y, post y ∧ (out y).1 = ex ∧ Le (S x).hp.length s (out y).2) → ∃ y, post y ∧ (out y).1 = ex ∧ Le (S x0).hp.length s (out y).2 := fun ⟨y, g1, g2, g3, g4, g5⟩ =>
      ⟨y, g1, g2, g3, g4, by
        simp only [Bool.and_eq_true, decide_eq_true_eq] at g5 ⊢
        exact ⟨g5.1, Nat.le_trans (hlen x) g5.2⟩⟩
    cases ex with
    | normal => exact hr
    | exit id => exact conv hr
    | ret => exact conv hr
  · rintro e a' w' ⟨x', st', β', rfl, ⟨y, hy, he, hle'⟩, h'⟩
    obtain ⟨β3, h3⟩ := h'.le hle' h1.len
    dsimp only at he
    subst he
    exact ⟨(out y).1, (out y).2, β3, rfl, hk y hy, h3⟩

/-! ### At the start, and at the end -/
theorem HRel.start (w : World) : HRel w (fun _ => none) (fun _ => none) [] w :=
  ⟨fun _ _ => rfl, Nat.le_refl _, fun _ _ h => by simp at h, fun _ _ h => by simp at h, fun _ _ h => by simp [hget] at h, fun _ _ _ _ _ h => by simp at h, rfl, rfl, rfl, fun a ha => by
    simp only [World.frozen?]
    rw [Array.getElem?_eq_none ha]⟩
/-- The specs that are proved so far. -/
def look : List (FuncId × Spec) → FuncId → Option Spec
  | [], _ => none
  | (k, S) :: l, f => if f = k then some S else look l f
def mkEnv (P : Program) (W0 : World) (l : List (FuncId × Spec)) : Env := ⟨P, W0, look l⟩
theorem envOk_nil {P : Program} {W0 : World} (h : P.follows .mixedOrders = true) : EnvOk (mkEnv P W0 []) := ⟨h, fun f S hS => by simp [mkEnv, look] at hS⟩
theorem envOk_cons {P : Program} {W0 : World} {l : List (FuncId × Spec)} (h : EnvOk (mkEnv P W0 l)) {f : FuncId} {S : Spec} (hS : SpecOk P W0 f S) : EnvOk (mkEnv P W0 ((f, S) :: l)) :=
  ⟨h.mixed, fun g S' hg => by
    simp only [mkEnv, look] at hg
    split at hg
    · rename_i e
      subst e
      obtain rfl := by simpa using hg
      exact hS
    · exact h.ok g S' hg⟩
end Go.Sx
