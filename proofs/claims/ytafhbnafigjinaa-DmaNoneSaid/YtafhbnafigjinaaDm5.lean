/-
  The unit wakes.
-/
import Derived.Test.YtafhbnafigjinaaProg
import Derived.KernelRfl
import Derived.Test.YtafhbnafigjinaaDm4
set_option linter.unusedSimpArgs false
set_option linter.unusedVariables false
set_option maxRecDepth 100000
namespace Go.Sx.Dma
open Go Go.Sx Go.Proofs
noncomputable def N10 (W0 : World) : List (FuncId × Con) := (25, inlE Try.prog W0 (N9 W0) Try.f25 (body Try.f25) 0 0) :: N9 W0
theorem nenv10 (W0 : World) : EnvOk (mkE Try.prog W0 (N10 W0)) := mkE_cons (nenv9 W0) (inlE_ok (nenv9 W0) Try.func25 (by kernel_rfl) (by kernel_rfl) (by kernel_rfl) 0 0)
theorem run22 (W0 : World) : Cut (runP Try.prog W0 (N10 W0) Try.f22 (body Try.f22) 0 0 [] [])
    (G.all.drop.drop.drop.drop.drop.drop.drop.drop.drop.drop.drop.drop.drop.drop.drop.drop.drop.drop.drop.drop.drop.drop.drop.drop.drop.drop.drop.drop.drop.drop.right.drop.drop.drop.right.drop.drop.drop.drop.drop.drop.drop.drop.drop.drop.drop.drop.drop.drop.drop.left.drop.drop.drop.drop.drop.drop.drop.drop.drop.drop.drop.drop.drop.drop.drop.drop.drop.drop.drop.drop.drop.drop.drop.drop.drop.drop.drop.drop.drop.drop.drop.drop.drop.drop.drop.drop.drop.drop.drop.drop.drop.drop.drop.drop.drop.drop.left.drop.right.drop.drop.drop.drop.drop.drop.drop.drop.drop.drop.drop.drop.drop.right.drop.drop.left.drop.drop.drop.drop.drop.drop.drop.drop.drop.drop.drop.drop.drop.drop.left.drop.drop.drop.drop.drop.drop.drop.drop.drop.drop.drop.drop.drop.drop.drop.drop.drop.drop.drop.drop.drop.drop.drop.drop.drop.drop.drop.drop.drop.drop.drop.drop.drop.drop.drop.drop.drop.drop.drop.drop.drop.drop.drop.drop.drop.left.drop.left.drop.drop.drop.drop.drop.drop.drop.drop.drop.drop.drop.drop.drop.right.drop.drop)
    (Tree.leaf (AV.bool true)) := ⟨by kernel_rfl, by kernel_rfl⟩
def g22 : List AV → Heap → Tree AV
  | [], [] => .leaf (.bool true)
  | _, _ => .stop
theorem ok22 (W0 : World) : SpecOk Try.prog W0 22 (Con.pure g22).spec := SpecOk.mk' Try.func22 (by kernel_rfl) (by kernel_rfl) fun args hp => by
  show CallOk _ _ _ _ _ (.pure (g22 args hp))
  unfold g22
  split
  · exact runP_ok (c := body Try.f22) (nenv10 W0) Try.func22 (by kernel_rfl) (by kernel_rfl) 0 0 trivial fun _ _ K hk => (run22 W0).holds hk
  · exact noSpec
noncomputable def N11 (W0 : World) : List (FuncId × Con) := (22, .pure g22) :: N10 W0
theorem nenv11 (W0 : World) : EnvOk (mkE Try.prog W0 (N11 W0)) := mkE_cons (nenv10 W0) (ok22 W0)
end Go.Sx.Dma
