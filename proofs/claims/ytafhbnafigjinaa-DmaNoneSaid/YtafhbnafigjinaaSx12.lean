/-
  Loops that are gone through so many times at most; functions without loops.
-/
import Derived.LoopN
import Derived.Test.YtafhbnafigjinaaSx11
set_option linter.unusedSimpArgs false
set_option linter.unusedVariables false
namespace Go.Sx
/-- A loop's body again and again, n times at most. -/
def unroll (E : Env) (F : Fn) (b : Code) : Nat → St → Tree Res1
  | 0, _ => .stop
  | n + 1, st => (exec E F b st).bind fun r => match r.1 with
    | .normal => unroll E F b n r.2
    | _ => .leaf r
theorem unroll_rounds {E : Env} {F : Fn} (hE : EnvOk E) (hP : PureOk E F) {b : Code} (hL : LoopsOk E F b) {T : Fx} (hN : T.N0 ≤ F.n0) {K : Res1 → Prop} : ∀ (n : Nat) (st : St), (unroll E F b n st).sem K → ∀ (β : Places) (a : Act) (w : World), Rel E.W0 T β st a w → Code.rounds E.P b (Post E T K) n a w
  | 0, _, h, _, _, _, _ => h.elim
  | n + 1, st, hk, β, a, w, h => by
    rw [rounds_succ]
    rw [unroll, Tree.sem_bind] at hk
    refine wp_mono (exec_ok hE hP hN b hL _ _ hk β a w h) ?_
    rintro e a' w' ⟨x, st', β', rfl, hk', h'⟩
    cases x with
    | normal => exact unroll_rounds hE hP hL hN n st' hk' β' a' w' h'
    | exit id => exact ⟨_, st', β', rfl, hk', h'⟩
    | ret => exact ⟨_, st', β', rfl, hk', h'⟩
theorem unroll_ok {E : Env} {F : Fn} (hE : EnvOk E) (hP : PureOk E F) {b : Code} (hL : LoopsOk E F b) (n : Nat) : LoopOk E F.n0 b (unroll E F b n) :=
  fun T hN K st hk β a w h => wp_loop_rounds n (unroll_rounds hE hP hL hN n st hk β a w h)
/-- The bodies of a code's loops. -/
def loopsOf : Code → List Code
  | .seq a b => loopsOf a ++ loopsOf b
  | .cond _ t e => loopsOf t ++ loopsOf e
  | .block _ b => loopsOf b
  | .scope b => loopsOf b
  | .loop b => b :: loopsOf b
  | _ => []
theorem loopsOf_sub : ∀ (c : Code) (b : Code), b ∈ loopsOf c → ∀ x, x ∈ loopsOf b → x ∈ loopsOf c
  | .seq a b, d, hd, x, hx => by
    simp only [loopsOf, List.mem_append] at *
    exact hd.elim (fun h => .inl (loopsOf_sub a d h x hx)) (fun h => .inr (loopsOf_sub b d h x hx))
  | .cond _ t e, d, hd, x, hx => by
    simp only [loopsOf, List.mem_append] at *
    exact hd.elim (fun h => .inl (loopsOf_sub t d h x hx)) (fun h => .inr (loopsOf_sub e d h x hx))
  | .block _ b, d, hd, x, hx => loopsOf_sub b d hd x hx
  | .scope b, d, hd, x, hx => loopsOf_sub b d hd x hx
  | .loop b, d, hd, x, hx => by
    simp only [loopsOf, List.mem_cons] at hd ⊢
    rcases hd with rfl | hd
    · exact .inr hx
    · exact .inr (loopsOf_sub b d hd x hx)
  | .skip, d, hd, _, _ | .region .., d, hd, _, _ | .exit _, d, hd, _, _ | .ret, d, hd, _, _ => by simp [loopsOf] at hd
  | .label .., d, hd, _, _ => by simp [loopsOf] at hd
  | .goto .., d, hd, _, _ => by simp [loopsOf] at hd
  | .rangeFunc .., d, hd, _, _ => by simp [loopsOf] at hd
  | .refuse .., d, hd, _, _ => by simp [loopsOf] at hd
theorem loopsOk_of {E : Env} {F : Fn} : ∀ (c : Code), (∀ b ∈ loopsOf c, ∀ k h, firstReg b = some k → F.loops k = some h → LoopOk E F.n0 b h) → LoopsOk E F c
  | .seq a b, h => ⟨loopsOk_of a fun x hx => h x (by simp [loopsOf, hx]), loopsOk_of b fun x hx => h x (by simp [loopsOf, hx])⟩
  | .cond _ t e, h => ⟨loopsOk_of t fun x hx => h x (by simp [loopsOf, hx]), loopsOk_of e fun x hx => h x (by simp [loopsOf, hx])⟩
  | .block _ b, h => loopsOk_of b h
  | .scope b, h => loopsOk_of b h
  | .loop b, h => h b (by simp [loopsOf])
  | .skip, _ | .region .., _ | .exit _, _ | .ret, _ => trivial
  | .label .., _ => trivial
  | .goto .., _ => trivial
  | .rangeFunc .., _ => trivial
  | .refuse .., _ => trivial
/-- All loops that have no summary are gone through, n rounds at most, so deep. -/
def auto (E : Env) (F : Fn) (all : List Code) (n : Nat) : Nat → Fn
  | 0 => F
  | d + 1 => { F with loops := fun k => match F.loops k with
    | some h => some h
    | none => (all.find? (fun b => firstReg b == some k)).map fun b => unroll E (auto E F all n d) b n }
theorem auto_n0 {E : Env} {F : Fn} {all : List Code} {n : Nat} : ∀ d, (auto E F all n d).n0 = F.n0
  | 0 => rfl
  | d + 1 => rfl
theorem auto_pure {E : Env} {F : Fn} {all : List Code} {n : Nat} : ∀ d, (auto E F all n d).pureF = F.pureF
  | 0 => rfl
  | d + 1 => rfl
def once : List Code → Bool
  | [] => true
  | b :: l => l.all (fun x => firstReg x != firstReg b) && once l
theorem once_eq : ∀ {l : List Code}, once l = true → ∀ x ∈ l, ∀ y ∈ l, firstReg x = firstReg y → x = y
  | [], _, _, hx, _, _, _ => by simp at hx
  | b :: l, h, x, hx, y, hy, e => by
    simp only [once, Bool.and_eq_true, List.all_eq_true, bne_iff_ne] at h
    simp only [List.mem_cons] at hx hy
    rcases hx with rfl | hx
    · rcases hy with rfl | hy
      · rfl
      · exact absurd e.symm (h.1 y hy)
    · rcases hy with rfl | hy
      · exact absurd e (h.1 x hx)
      · exact once_eq h.2 x hx y hy e
theorem auto_ok {E : Env} {F : Fn} (hE : EnvOk E) (hP : PureOk E F) {c : Code} {n : Nat} (h1 : once (loopsOf c) = true)
    (hF : ∀ b ∈ loopsOf c, ∀ k h, firstReg b = some k → F.loops k = some h → LoopOk E F.n0 b h) : ∀ d, ∀ b ∈ loopsOf c, ∀ k h, firstReg b = some k → (auto E F (loopsOf c) n d).loops k = some h → LoopOk E F.n0 b h
  | 0 => hF
  | d + 1 => fun b hb k h hk hl => by
    simp only [auto] at hl
    split at hl
    · rename_i h' he
      obtain rfl := Option.some.inj hl
      exact hF b hb k _ hk he
    · simp only [Option.map_eq_some_iff] at hl
      obtain ⟨b', hf, rfl⟩ := hl
      have hm := List.mem_of_find?_eq_some hf
      have hq := List.find?_some hf
      simp only [beq_iff_eq] at hq
      obtain rfl := once_eq h1 b' hm b hb (hq.trans hk.symm)
      have := unroll_ok (F := auto E F (loopsOf c) n d) hE (by unfold PureOk; rw [auto_pure]; exact hP) (loopsOk_of b' fun x hx => by rw [auto_n0]; exact auto_ok hE hP h1 hF d x (loopsOf_sub c b' hb x hx)) n
      rwa [auto_n0] at this
/-- All that a function's contract asks for, if no loop has a summary of its own. -/
theorem FunOk.auto {E : Env} {n0 : Nat} {pf : FuncId → Bool} {f : FuncId} {fn : Func} {c : Code} (hE : EnvOk E) (hP : PureOk E ⟨n0, fun _ => none, pf⟩) (hf : E.P.funcs[f]? = some fn) (hb : fn.body = some c) (h1 : once (loopsOf c) = true) (n d : Nat) :
    FunOk E (auto E ⟨n0, fun _ => none, pf⟩ (loopsOf c) n d) f fn c :=
  ⟨hE, by unfold PureOk; rw [auto_pure]; exact hP, hf, hb, loopsOk_of c (by rw [auto_n0]; exact auto_ok hE hP h1 (fun b _ k h _ hh => by simp at hh) d)⟩
/-- The same, with summaries of some loops. -/
theorem FunOk.auto' {E : Env} {F : Fn} {f : FuncId} {fn : Func} {c : Code} (hE : EnvOk E) (hP : PureOk E F) (hf : E.P.funcs[f]? = some fn) (hb : fn.body = some c) (h1 : once (loopsOf c) = true)
    (hF : ∀ b ∈ loopsOf c, ∀ k h, firstReg b = some k → F.loops k = some h → LoopOk E F.n0 b h) (n d : Nat) :
    FunOk E (Go.Sx.auto E F (loopsOf c) n d) f fn c :=
  ⟨hE, by unfold PureOk; rw [auto_pure]; exact hP, hf, hb, loopsOk_of c (by rw [auto_n0]; exact auto_ok hE hP h1 hF d)⟩
/-- Which functions are known to leave memory alone. -/
def pureOf : List (FuncId × Spec) → List FuncId → FuncId → Bool := fun _ l f => l.contains f
end Go.Sx
namespace Go.Sx
/-- A contract: it leaves memory alone, or it says what it does to it. -/
inductive Con where
  | pure (g : List AV → Heap → Tree AV)
  | eff (S : List AV → Heap → Tree (AV × Heap))
def Con.spec : Con → Spec
  | .pure g => fun a h => .pure (g a h)
  | .eff S => fun a h => .eff (S a h)
def mkE (P : Program) (W0 : World) (L : List (FuncId × Con)) : Env := mkEnv P W0 (L.map fun x => (x.1, x.2.spec))
def pureL : List (FuncId × Con) → FuncId → Bool
  | [], _ => true
  | (k, .pure _) :: l, f => f == k || pureL l f
  | (k, .eff _) :: l, f => f != k && pureL l f
theorem pureL_ok {P : Program} {W0 : World} {n0 : Nat} {loops : Nat → Option (St → Tree Res1)} : ∀ (L : List (FuncId × Con)), PureOk (mkE P W0 L) ⟨n0, loops, pureL L⟩ := by
  intro L f hf S hS
  simp only [mkE, mkEnv] at hS
  induction L with
  | nil => simp [look] at hS
  | cons x L ih =>
    obtain ⟨k, c⟩ := x
    simp only [List.map_cons, look] at hS
    cases c with
    | pure g =>
      split at hS
      · obtain rfl := Option.some.inj hS
        exact fun a h => ⟨g a h, rfl⟩
      · rename_i hne
        simp only [pureL, Bool.or_eq_true, beq_iff_eq, hne, false_or] at hf
        exact ih hf hS
    | eff g =>
      simp only [pureL, Bool.and_eq_true, bne_iff_ne] at hf
      simp only [hf.1, if_false] at hS
      exact ih hf.2 hS
theorem mkE_nil {P : Program} {W0 : World} (h : P.follows .mixedOrders = true) : EnvOk (mkE P W0 []) := envOk_nil h
theorem mkE_cons {P : Program} {W0 : World} {L : List (FuncId × Con)} (h : EnvOk (mkE P W0 L)) {f : FuncId} {c : Con} (hS : SpecOk P W0 f c.spec) : EnvOk (mkE P W0 ((f, c) :: L)) :=
  envOk_cons (l := L.map fun (x : FuncId × Con) => (x.1, x.2.spec)) h hS
/-- The functions of L are known, loops are gone through n rounds at most, d deep. -/
def fnL (P : Program) (W0 : World) (L : List (FuncId × Con)) (loops : Nat → Option (St → Tree Res1)) (n0 : Nat) (c : Code) (n d : Nat) : Fn := auto (mkE P W0 L) ⟨n0, loops, pureL L⟩ (loopsOf c) n d
def fnAuto (P : Program) (W0 : World) (L : List (FuncId × Con)) (n0 : Nat) (c : Code) (n d : Nat) : Fn := fnL P W0 L (fun _ => none) n0 c n d
def runAuto (P : Program) (W0 : World) (L : List (FuncId × Con)) (fn : Func) (c : Code) (n d : Nat) (args : List AV) (hp : Heap) : Tree (AV × Heap) :=
  runF (mkE P W0 L) (fnAuto P W0 L hp.length c n d) fn c args hp
/-- The same, where some loops have summaries. -/
def runL (P : Program) (W0 : World) (L : List (FuncId × Con)) (loops : Nat → Option (St → Tree Res1)) (fn : Func) (c : Code) (n d : Nat) (args : List AV) (hp : Heap) : Tree (AV × Heap) :=
  runF (mkE P W0 L) (fnL P W0 L loops hp.length c n d) fn c args hp
/-- The summaries of a code's loops hold. -/
def SumsOk (P : Program) (W0 : World) (L : List (FuncId × Con)) (n0 : Nat) (c : Code) (loops : Nat → Option (St → Tree Res1)) : Prop :=
  ∀ b ∈ loopsOf c, ∀ k h, firstReg b = some k → loops k = some h → LoopOk (mkE P W0 L) n0 b h
theorem FunOk.sums {P : Program} {W0 : World} {L : List (FuncId × Con)} (hE : EnvOk (mkE P W0 L)) {f : FuncId} {fn : Func} {c : Code} (hf : P.funcs[f]? = some fn) (hb : fn.body = some c) (h1 : once (loopsOf c) = true)
    {loops : Nat → Option (St → Tree Res1)} {n0 : Nat} (hs : SumsOk P W0 L n0 c loops) (n d : Nat) : FunOk (mkE P W0 L) (fnL P W0 L loops n0 c n d) f fn c :=
  FunOk.auto' (F := ⟨n0, loops, pureL L⟩) hE (pureL_ok L) hf hb h1 hs n d
theorem fnL_n0 {P : Program} {W0 : World} {L : List (FuncId × Con)} {loops : Nat → Option (St → Tree Res1)} {n0 : Nat} {c : Code} {n d : Nat} : (fnL P W0 L loops n0 c n d).n0 = n0 := auto_n0 d
theorem noSpec {P : Program} {W0 : World} {f : FuncId} {args : List AV} {hp : Heap} : CallOk P W0 f args hp (.pure .stop) := ⟨trivial, fun _ hk => hk.elim⟩
theorem noSpecE {P : Program} {W0 : World} {f : FuncId} {args : List AV} {hp : Heap} : CallOk P W0 f args hp (.eff .stop) := fun _ hk => hk.elim
/-- A contract out of a run: memory is left alone. -/
theorem auto_pureOk {P : Program} {W0 : World} {L : List (FuncId × Con)} (hE : EnvOk (mkE P W0 L)) {f : FuncId} {fn : Func} {c : Code} (hf : P.funcs[f]? = some fn) (hb : fn.body = some c) (h1 : once (loopsOf c) = true) (n d : Nat) {args : List AV} {hp : Heap} {t : Tree AV} (ht : t.Ang) (hn : decide (args.length ≤ fn.ntmps) = true)
    (h : ∀ K : AV → Prop, t.sem K → (runAuto P W0 L fn c n d args hp).sem fun q => ∃ v, K v ∧ Fits hp v q) : CallOk P W0 f args hp (.pure t) :=
  pure_ok (E := mkE P W0 L) (F := fnAuto P W0 L hp.length c n d) (FunOk.auto hE (pureL_ok L) hf hb h1 n d) ht (of_decide_eq_true hn) (by unfold fnAuto; rw [fnL_n0]; exact Nat.le_refl _) h
theorem auto_effOk {P : Program} {W0 : World} {L : List (FuncId × Con)} (hE : EnvOk (mkE P W0 L)) {f : FuncId} {fn : Func} {c : Code} (hf : P.funcs[f]? = some fn) (hb : fn.body = some c) (h1 : once (loopsOf c) = true) (n d : Nat) {args : List AV} {hp : Heap} {t : Tree (AV × Heap)} (hn : decide (args.length ≤ fn.ntmps) = true)
    (h : ∀ K : AV × Heap → Prop, t.sem K → (runAuto P W0 L fn c n d args hp).sem fun q => ∃ v hp', K (v, hp') ∧ Fits hp' v q ∧ (decide (hp.length ≤ hp'.length) && noRev hp hp') = true) : CallOk P W0 f args hp (.eff t) :=
  eff_ok (E := mkE P W0 L) (F := fnAuto P W0 L hp.length c n d) (FunOk.auto hE (pureL_ok L) hf hb h1 n d) (of_decide_eq_true hn) (by unfold fnAuto; rw [fnL_n0]; exact Nat.le_refl _) h
/-- A tree's meaning, not to be unfolded. -/
structure Holds {α : Type} (t : Tree α) (K : α → Prop) : Prop where
  is : t.sem K
theorem holds_of {α : Type} {t u : Tree α} {K : α → Prop} (h : t = u) (hk : u.sem K) : Holds t K := ⟨h ▸ hk⟩
/-- Values of results that name no memory. -/
def val (t : Tree (AV × Heap)) : Tree AV := t.bind fun q => if idsIn [] q.1 then .leaf q.1 else .stop
theorem val_sem {t : Tree (AV × Heap)} {K : AV → Prop} (h : (val t).sem K) : t.sem fun q => ∃ v, K v ∧ Fits [] v q := by
  rw [val, Tree.sem_bind] at h
  refine Tree.sem_mono (fun q hq => ?_) h
  split at hq
  · rename_i hi
    exact ⟨q.1, hq, rfl, trivial, by simp [hi, heapIn]⟩
  · exact hq.elim
theorem auto_valOk {P : Program} {W0 : World} {L : List (FuncId × Con)} (hE : EnvOk (mkE P W0 L)) {f : FuncId} {fn : Func} {c : Code} (hf : P.funcs[f]? = some fn) (hb : fn.body = some c) (h1 : once (loopsOf c) = true) (n d : Nat) {args : List AV} {t : Tree AV} (ht : t.Ang) (hn : decide (args.length ≤ fn.ntmps) = true)
    (h : ∀ K : AV → Prop, t.sem K → Holds (val (runAuto P W0 L fn c n d args [])) K) : CallOk P W0 f args [] (.pure t) :=
  auto_pureOk hE hf hb h1 n d ht hn fun K hk => val_sem (h K hk).is
theorem SpecOk.mk' {P : Program} {W0 : World} {f : FuncId} {fn : Func} {c : Con} (hf : P.funcs[f]? = some fn) (h1 : (fn.name == "runtime.NumGoroutine") = false) (h2 : fn.body.isNone = false)
    (h : ∀ args hp, CallOk P W0 f args hp (c.spec args hp)) : SpecOk P W0 f c.spec := ⟨⟨fn, hf, h1, h2⟩, h⟩
end Go.Sx
