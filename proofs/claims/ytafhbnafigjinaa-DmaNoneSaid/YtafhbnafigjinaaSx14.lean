/-
  From a run to what the frame of a statement asks for.
-/
import Derived.RowKit3
import Derived.Test.YtafhbnafigjinaaSx13
set_option linter.unusedSimpArgs false
set_option linter.unusedVariables false
namespace Go.Sx
open Go.RowKit
theorem HRel.grown {w w' : World} {T : Frz} {β : Places} {hp : Heap} (h : HRel w T β hp w') : Grown w w' := by
  refine ⟨⟨h.os, h.out, fun i hi => ?_⟩, fun a => ?_, h.sz⟩
  · rw [h.ro i hi]
    cases w.heap[i]? with
    | none => rfl
    | some o =>
      cases o with
      | cells c t fr => exact ⟨rfl, rfl, rfl, fun _ _ => rfl⟩
      | map es clock => exact .inr ⟨rfl, rfl⟩
      | _ => rfl
  · rcases Nat.lt_or_ge a.block w.heap.size with hl | hl
    · simp only [World.frozen?, h.ro _ hl]
    · rw [h.nofz a hl]
      have : w.heap[a.block]? = none := Array.getElem?_eq_none hl
      simp only [World.frozen?, this]
theorem has_of_wf {k : IntKind} {n : Int} (h : (Lit.int k n).wf = true) : has k n := by
  simp only [Lit.wf, Bool.and_eq_true, decide_eq_true_eq] at h
  have e1 : k.min = lo k := by cases k <;> decide
  have e2 : k.max = hi k := by cases k <;> decide
  unfold has
  omega
theorem VL_nil {β : Places} : VL β [] [] := rfl
theorem VL_cons {β : Places} {a : AV} {v : Value} {as : List AV} {vs : List Value} (h : V β a v) (hs : VL β as vs) : VL β (a :: as) (v :: vs) := by
  simp only [VL]; exact ⟨v, vs, rfl, h, hs⟩
/-- A statement's walk out of a run. -/
theorem law_walkL {P : Program} {w : World} {L : List (FuncId × Con)} (hE : EnvOk (mkE P w L)) {f : FuncId} {fn : Func} {c : Code} (hf : P.funcs[f]? = some fn) (hb : fn.body = some c) (h1 : once (loopsOf c) = true) {loops : Nat → Option (St → Tree Res1)} (hs : SumsOk P w L 0 c loops) (n d : Nat) {args : List AV} {argv : List Value}
    (hn : decide (args.length ≤ fn.ntmps) = true) (hv : VL (fun _ => none) args argv) (h : Holds (val (runL P w L loops fn c n d args [])) fun v => v = .bool true) :
    Calls P f argv.toArray w fun e w' => e = .returned (.bool true) ∧ Grown w w' := by
  refine (run_ok (E := mkE P w L) (F := fnL P w L loops 0 c n d) (FunOk.sums hE hf hb h1 hs n d) (val_sem h.is) (of_decide_eq_true hn) (by rw [fnL_n0]; exact Nat.le_refl _) hv (HRel.start w)).mono ?_
  rintro e w' ⟨q, x, β', ⟨v, rfl, hq, _⟩, rfl, hV, hR, _⟩
  rw [hq] at hV
  simp only [V] at hV
  subst hV
  exact ⟨rfl, hR.grown⟩
theorem sumsNone {P : Program} {W0 : World} {L : List (FuncId × Con)} {n0 : Nat} {c : Code} : SumsOk P W0 L n0 c (fun _ => none) := fun b _ k h _ hh => by simp at hh
theorem law_walk {P : Program} {w : World} {L : List (FuncId × Con)} (hE : EnvOk (mkE P w L)) {f : FuncId} {fn : Func} {c : Code} (hf : P.funcs[f]? = some fn) (hb : fn.body = some c) (h1 : once (loopsOf c) = true) (n d : Nat) {args : List AV} {argv : List Value}
    (hn : decide (args.length ≤ fn.ntmps) = true) (hv : VL (fun _ => none) args argv) (h : Holds (val (runAuto P w L fn c n d args [])) fun v => v = .bool true) :
    Calls P f argv.toArray w fun e w' => e = .returned (.bool true) ∧ Grown w w' := law_walkL hE hf hb h1 sumsNone n d hn hv h
end Go.Sx
