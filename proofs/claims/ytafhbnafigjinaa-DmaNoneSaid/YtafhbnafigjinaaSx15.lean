/-
  Contracts that are the run itself.
-/
import Derived.Test.YtafhbnafigjinaaSx14
set_option linter.unusedSimpArgs false
set_option linter.unusedVariables false
namespace Go.Sx
def angelic {α : Type} : Tree α → Tree α
  | .leaf a => .leaf a
  | .stop => .stop
  | .req p t => .req p (angelic t)
  | .ask p t => .ask p (angelic t)
  | .ite b t e => .ite b (angelic t) (angelic e)
  | .ex X f => .ex X fun x => angelic (f x)
  | .all _ _ => .stop
theorem angelic_ang {α : Type} : ∀ t : Tree α, (angelic t).Ang
  | .leaf _ => trivial
  | .stop => trivial
  | .req _ t => angelic_ang t
  | .ask _ t => angelic_ang t
  | .ite _ t e => ⟨angelic_ang t, angelic_ang e⟩
  | .ex _ f => fun x => angelic_ang (f x)
  | .all _ _ => trivial
theorem angelic_sem {α : Type} {K : α → Prop} : ∀ {t : Tree α}, (angelic t).sem K → t.sem K
  | .leaf _, h => h
  | .stop, h => h
  | .req _ t, h => ⟨h.1, angelic_sem h.2⟩
  | .ask _ t, h => ⟨h.1, angelic_sem h.2⟩
  | .ite _ t e, h => ⟨fun hb => angelic_sem (h.1 hb), fun hb => angelic_sem (h.2 hb)⟩
  | .ex _ f, h => by obtain ⟨x, hx, hk⟩ := h; exact ⟨x, hx, angelic_sem hk⟩
  | .all _ _, h => h.elim
/-- Results that hang together. -/
def chkT (hp : Heap) (t : Tree (AV × Heap)) : Tree (AV × Heap) := t.bind fun q => if (idsIn q.2 q.1 && heapIn q.2 q.2 && decide (hp.length ≤ q.2.length) && noRev hp q.2) = true then .leaf q else .stop
theorem subH_refl : ∀ h : Heap, subH h h
  | [] => trivial
  | none :: h => subH_refl h
  | some _ :: h => ⟨rfl, subH_refl h⟩
theorem chkT_sem {hp : Heap} {t : Tree (AV × Heap)} {K : AV × Heap → Prop} (h : (chkT hp t).sem K) : t.sem fun q => ∃ v hp', K (v, hp') ∧ Fits hp' v q ∧ (decide (hp.length ≤ hp'.length) && noRev hp hp') = true := by
  rw [chkT, Tree.sem_bind] at h
  refine Tree.sem_mono (fun q hq => ?_) h
  split at hq
  · rename_i hc
    simp only [Bool.and_eq_true] at hc
    exact ⟨q.1, q.2, hq, ⟨rfl, subH_refl _, by simp [hc.1.1.1, hc.1.1.2]⟩, by simp [hc.1.2, hc.2]⟩
  · exact hq.elim
/-- What a function does is what its run does. -/
def inlE (P : Program) (W0 : World) (L : List (FuncId × Con)) (fn : Func) (c : Code) (n d : Nat) : Con :=
  .eff fun args hp => if args.length ≤ fn.ntmps then chkT hp (runAuto P W0 L fn c n d args hp) else .stop
/-- The same of a function that is handed no memory. -/
def inlP (P : Program) (W0 : World) (L : List (FuncId × Con)) (fn : Func) (c : Code) (n d : Nat) : Con :=
  .pure fun args hp => match hp with
    | [] => if args.length ≤ fn.ntmps then angelic (val (runAuto P W0 L fn c n d args [])) else .stop
    | _ => .stop
theorem inlE_ok {P : Program} {W0 : World} {L : List (FuncId × Con)} (hE : EnvOk (mkE P W0 L)) {f : FuncId} {fn : Func} {c : Code} (hf : P.funcs[f]? = some fn) (hb : fn.body = some c) (h1 : once (loopsOf c) = true) (h2 : (fn.name == "runtime.NumGoroutine") = false) (n d : Nat) :
    SpecOk P W0 f (inlE P W0 L fn c n d).spec := by
  refine ⟨⟨fn, hf, h2, by rw [hb]; rfl⟩, fun args hp => ?_⟩
  show CallOk _ _ _ _ _ (.eff _)
  dsimp only
  split
  · rename_i hn
    exact auto_effOk hE hf hb h1 n d (decide_eq_true hn) fun K hk => chkT_sem hk
  · exact noSpecE
theorem inlP_ok {P : Program} {W0 : World} {L : List (FuncId × Con)} (hE : EnvOk (mkE P W0 L)) {f : FuncId} {fn : Func} {c : Code} (hf : P.funcs[f]? = some fn) (hb : fn.body = some c) (h1 : once (loopsOf c) = true) (h2 : (fn.name == "runtime.NumGoroutine") = false) (n d : Nat) :
    SpecOk P W0 f (inlP P W0 L fn c n d).spec := by
  refine ⟨⟨fn, hf, h2, by rw [hb]; rfl⟩, fun args hp => ?_⟩
  show CallOk _ _ _ _ _ (.pure _)
  dsimp only
  split
  · split
    · rename_i hn
      exact auto_pureOk hE hf hb h1 n d (angelic_ang _) (decide_eq_true hn) fun K hk => val_sem (angelic_sem hk)
    · exact noSpec
  · exact noSpec
/-- Which way a run goes where its tests are plain; what it asks that is plain. -/
inductive G where
  | all
  | left (g : G)
  | right (g : G)
  | both (g h : G)
  | drop (g : G)
  | keep (g : G)
  | no
/-- (A part that is not looked at.) -/
def sel {α : Type} (g : G) (t : Tree α) : Tree α := match g with
  | .no => .stop
  | _ => t
def cut {α : Type} : Tree α → G → Tree α
  | .leaf a, _ => .leaf a
  | .stop, _ => .stop
  | .req p t, .all => .req p t
  | .req p t, g => .req p (sel g (cut t g))
  | .ask r t, .drop g => sel g (cut t g)
  | .ask r t, .keep g => .ask r (sel g (cut t g))
  | .ask r t, .all => .ask r t
  | .ask _ _, _ => .stop
  | .ex p f, .all => .ex p f
  | .ex p f, g => .ex p fun x => sel g (cut (f x) g)
  | .all p f, .all => .all p f
  | .all p f, g => .all p fun x => sel g (cut (f x) g)
  | .ite b t e, .left g => match b with
    | true => sel g (cut t g)
    | false => .stop
  | .ite b t e, .right g => match b with
    | true => .stop
    | false => sel g (cut e g)
  | .ite b t e, .both g h => .ite b (sel g (cut t g)) (sel h (cut e h))
  | .ite b t e, .all => .ite b t e
  | .ite _ _ _, _ => .stop
/-- The two sides of what is dropped. -/
def Rq.side (w : Bool) : Rq → Bool
  | .p _ => w
  | .n g => if w then g else true
  | .i b c g => b && if w then c else g
  | @Rq.d q h => if w then @decide q h else true
  | .e _ _ => w
theorem Rq.side_eq {r : Rq} (h : r.side true = r.side false) : r.holds := by
  cases r with
  | p q => simp [Rq.side] at h
  | n g => simpa [Rq.side, Rq.holds] using h
  | i b c g => simp only [Rq.side, if_true, Bool.false_eq_true, if_false] at h; exact fun hb hc => by subst hb; subst hc; simpa using h.symm
  | d q => simpa [Rq.side, Rq.holds] using h
  | e x y => simp [Rq.side] at h
def obl {α : Type} (w : Bool) : Tree α → G → Tree Unit
  | .leaf _, _ => .stop
  | .stop, _ => .stop
  | .req _ _, .all => .stop
  | .req _ t, g => sel g (obl w t g)
  | .ask r t, .drop g => match r with
    | .e x y => .ex (fun z => z = if w then x else y) fun _ => sel g (obl w t g)
    | r => .ite (r.side w) (sel g (obl w t g)) .stop
  | .ask _ t, .keep g => sel g (obl w t g)
  | .ask _ _, _ => .stop
  | .ex _ _, .all => .stop
  | .ex p f, g => .ex p fun x => sel g (obl w (f x) g)
  | .all _ _, .all => .stop
  | .all p f, g => .all p fun x => sel g (obl w (f x) g)
  | .ite b t e, .left g => match b with
    | true => sel g (obl w t g)
    | false => .stop
  | .ite b t e, .right g => match b with
    | true => .stop
    | false => sel g (obl w e g)
  | .ite _ t e, .both g h => .ite true (sel g (obl w t g)) (sel h (obl w e h))
  | .ite _ _ _, _ => .stop
theorem sel_sem {α : Type} {g : G} {t : Tree α} {K : α → Prop} (h : (sel g t).sem K) : g ≠ .no ∧ t.sem K := by
  cases g <;> first | exact h.elim | exact ⟨by simp, h⟩
theorem sel_eq {α : Type} {g : G} {t u : Tree α} (hg : g ≠ .no) (h : sel g t = sel g u) : t = u := by
  cases g <;> first | exact absurd rfl hg | exact h
theorem cut_sem {α : Type} {K : α → Prop} {t : Tree α} : ∀ {g : G}, obl true t g = obl false t g → (cut t g).sem K → t.sem K := by
  induction t with
  | leaf a => intro g _ h; cases g <;> exact h
  | stop => intro g _ h; cases g <;> exact h
  | req p t ih =>
    intro g ho h
    have key : ∀ g, sel g (obl true t g) = sel g (obl false t g) → p ∧ (sel g (cut t g)).sem K → p ∧ t.sem K := fun g ho h => by
      obtain ⟨h1, h2⟩ := sel_sem h.2
      exact ⟨h.1, ih (sel_eq h1 ho) h2⟩
    cases g <;> first | exact h | exact key _ ho h
  | ask r t ih =>
    intro g ho h
    cases g with
    | all => exact h
    | no => exact h.elim
    | left => exact h.elim
    | right => exact h.elim
    | both => exact h.elim
    | keep g =>
      obtain ⟨h1, h2⟩ := sel_sem h.2
      exact ⟨h.1, ih (sel_eq h1 ho) h2⟩
    | drop g =>
      obtain ⟨h1, h2⟩ := sel_sem h
      cases r with
      | e x y =>
        simp only [obl, if_true, Bool.false_eq_true, if_false, Tree.ex.injEq, heq_eq_eq, true_and] at ho
        have h3 := congrFun ho.1 x
        exact ⟨h3.mp rfl, ih (sel_eq h1 (congrFun ho.2 x)) h2⟩
      | _ =>
        simp only [obl, Tree.ite.injEq] at ho
        exact ⟨Rq.side_eq ho.1, ih (sel_eq h1 ho.2.1) h2⟩
  | ite b t e ih1 ih2 =>
    intro g ho h
    cases g with
    | all => exact h
    | left g =>
      cases b with
      | true =>
        obtain ⟨h1, h2⟩ := sel_sem h
        exact ⟨fun _ => ih1 (sel_eq h1 ho) h2, fun hf => by simp at hf⟩
      | false => exact h.elim
    | right g =>
      cases b with
      | true => exact h.elim
      | false =>
        obtain ⟨h1, h2⟩ := sel_sem h
        exact ⟨fun hf => by simp at hf, fun _ => ih2 (sel_eq h1 ho) h2⟩
    | both g g' =>
      simp only [obl, Tree.ite.injEq] at ho
      refine ⟨fun hb => ?_, fun hb => ?_⟩
      · obtain ⟨h1, h2⟩ := sel_sem (h.1 hb)
        exact ih1 (sel_eq h1 ho.2.1) h2
      · obtain ⟨h1, h2⟩ := sel_sem (h.2 hb)
        exact ih2 (sel_eq h1 ho.2.2) h2
    | drop => exact h.elim
    | keep => exact h.elim
    | no => exact h.elim
  | ex p f ih =>
    intro g ho h
    have key : ∀ g, (Tree.ex p fun x => sel g (obl true (f x) g)) = (Tree.ex p fun x => sel g (obl false (f x) g)) → (∃ x, p x ∧ (sel g (cut (f x) g)).sem K) → ∃ x, p x ∧ (f x).sem K := by
      intro g ho h
      obtain ⟨x, hx, hk⟩ := h
      simp only [Tree.ex.injEq, heq_eq_eq, true_and] at ho
      obtain ⟨h1, h2⟩ := sel_sem hk
      exact ⟨x, hx, ih x (sel_eq h1 (congrFun ho x)) h2⟩
    cases g <;> first | exact h | exact key _ ho h
  | all p f ih =>
    intro g ho h
    have key : ∀ g, (Tree.all p fun x => sel g (obl true (f x) g)) = (Tree.all p fun x => sel g (obl false (f x) g)) → (∀ x, p x → (sel g (cut (f x) g)).sem K) → ∀ x, p x → (f x).sem K := by
      intro g ho h x hx
      simp only [Tree.all.injEq, heq_eq_eq, true_and] at ho
      obtain ⟨h1, h2⟩ := sel_sem (h x hx)
      exact ih x (sel_eq h1 (congrFun ho x)) h2
    cases g <;> first | exact h | exact key _ ho h
/-- A run, cut. -/
structure Cut {α : Type} (t : Tree α) (g : G) (u : Tree α) : Prop where
  cut : Go.Sx.cut t g = u
  obl : Go.Sx.obl true t g = Go.Sx.obl false t g
theorem Cut.holds {α : Type} {t u : Tree α} {g : G} {K : α → Prop} (h : Cut t g u) (hk : u.sem K) : Holds t K := ⟨cut_sem h.obl (h.cut ▸ hk)⟩
theorem Cut.sem {α : Type} {t u : Tree α} {g : G} {K : α → Prop} (h : Cut t g u) (hk : u.sem K) : t.sem K := cut_sem h.obl (h.cut ▸ hk)
end Go.Sx
