import Derived.Test.YtafhbnafigjinaaProg
import Derived.KernelRfl
import Derived.Test.YtafhbnafigjinaaSx16
set_option linter.unusedSimpArgs false
set_option linter.unusedVariables false
namespace Go.Sx.Dma
open Go Go.Sx Go.Proofs
noncomputable def body (f : Func) : Code := f.body.getD .skip
theorem mixed : Try.prog.follows .mixedOrders = true := by kernel_rfl
noncomputable def M0 (W0 : World) : List (FuncId × Con) := []
theorem env0 (W0 : World) : EnvOk (mkE Try.prog W0 (M0 W0)) := mkE_nil mixed
noncomputable def M1 (W0 : World) : List (FuncId × Con) := (48, inlJ Try.prog W0 (M0 W0) Try.f48 (body Try.f48) 0 0) :: M0 W0
theorem env1 (W0 : World) : EnvOk (mkE Try.prog W0 (M1 W0)) := mkE_cons (env0 W0) (inlJ_ok (env0 W0) Try.func48 (by kernel_rfl) (by kernel_rfl) (by kernel_rfl) 0 0)
noncomputable def M2 (W0 : World) : List (FuncId × Con) := (49, inlQ Try.prog W0 (M1 W0) Try.f49 (body Try.f49)) :: M1 W0
theorem env2 (W0 : World) : EnvOk (mkE Try.prog W0 (M2 W0)) := mkE_cons (env1 W0) (inlQ_ok (env1 W0) Try.func49 (by kernel_rfl) (by kernel_rfl) (by kernel_rfl))
noncomputable def M3 (W0 : World) : List (FuncId × Con) := (51, inlQ Try.prog W0 (M2 W0) Try.f51 (body Try.f51)) :: M2 W0
theorem env3 (W0 : World) : EnvOk (mkE Try.prog W0 (M3 W0)) := mkE_cons (env2 W0) (inlQ_ok (env2 W0) Try.func51 (by kernel_rfl) (by kernel_rfl) (by kernel_rfl))
noncomputable def M4 (W0 : World) : List (FuncId × Con) := (52, inlQ Try.prog W0 (M3 W0) Try.f52 (body Try.f52)) :: M3 W0
theorem env4 (W0 : World) : EnvOk (mkE Try.prog W0 (M4 W0)) := mkE_cons (env3 W0) (inlQ_ok (env3 W0) Try.func52 (by kernel_rfl) (by kernel_rfl) (by kernel_rfl))
noncomputable def M5 (W0 : World) : List (FuncId × Con) := (50, inlE Try.prog W0 (M4 W0) Try.f50 (body Try.f50) 0 0) :: M4 W0
theorem env5 (W0 : World) : EnvOk (mkE Try.prog W0 (M5 W0)) := mkE_cons (env4 W0) (inlE_ok (env4 W0) Try.func50 (by kernel_rfl) (by kernel_rfl) (by kernel_rfl) 0 0)
noncomputable def M6 (W0 : World) : List (FuncId × Con) := (23, inlE Try.prog W0 (M5 W0) Try.f23 (body Try.f23) 0 0) :: M5 W0
theorem env6 (W0 : World) : EnvOk (mkE Try.prog W0 (M6 W0)) := mkE_cons (env5 W0) (inlE_ok (env5 W0) Try.func23 (by kernel_rfl) (by kernel_rfl) (by kernel_rfl) 0 0)
noncomputable def M7 (W0 : World) : List (FuncId × Con) := (53, inlJ Try.prog W0 (M6 W0) Try.f53 (body Try.f53) 0 0) :: M6 W0
theorem env7 (W0 : World) : EnvOk (mkE Try.prog W0 (M7 W0)) := mkE_cons (env6 W0) (inlJ_ok (env6 W0) Try.func53 (by kernel_rfl) (by kernel_rfl) (by kernel_rfl) 0 0)
noncomputable def M8 (W0 : World) : List (FuncId × Con) := (26, inlJ Try.prog W0 (M7 W0) Try.f26 (body Try.f26) 0 0) :: M7 W0
theorem env8 (W0 : World) : EnvOk (mkE Try.prog W0 (M8 W0)) := mkE_cons (env7 W0) (inlJ_ok (env7 W0) Try.func26 (by kernel_rfl) (by kernel_rfl) (by kernel_rfl) 0 0)
noncomputable def M9 (W0 : World) : List (FuncId × Con) := (87, inlE Try.prog W0 (M8 W0) Try.f87 (body Try.f87) 0 0) :: M8 W0
theorem env9 (W0 : World) : EnvOk (mkE Try.prog W0 (M9 W0)) := mkE_cons (env8 W0) (inlE_ok (env8 W0) Try.func87 (by kernel_rfl) (by kernel_rfl) (by kernel_rfl) 0 0)
noncomputable def M10 (W0 : World) : List (FuncId × Con) := (88, inlE Try.prog W0 (M9 W0) Try.f88 (body Try.f88) 0 0) :: M9 W0
theorem env10 (W0 : World) : EnvOk (mkE Try.prog W0 (M10 W0)) := mkE_cons (env9 W0) (inlE_ok (env9 W0) Try.func88 (by kernel_rfl) (by kernel_rfl) (by kernel_rfl) 0 0)
noncomputable def M11 (W0 : World) : List (FuncId × Con) := (67, inlJ Try.prog W0 (M10 W0) Try.f67 (body Try.f67) 0 0) :: M10 W0
theorem env11 (W0 : World) : EnvOk (mkE Try.prog W0 (M11 W0)) := mkE_cons (env10 W0) (inlJ_ok (env10 W0) Try.func67 (by kernel_rfl) (by kernel_rfl) (by kernel_rfl) 0 0)
noncomputable def M12 (W0 : World) : List (FuncId × Con) := (65, inlQ Try.prog W0 (M11 W0) Try.f65 (body Try.f65)) :: M11 W0
theorem env12 (W0 : World) : EnvOk (mkE Try.prog W0 (M12 W0)) := mkE_cons (env11 W0) (inlQ_ok (env11 W0) Try.func65 (by kernel_rfl) (by kernel_rfl) (by kernel_rfl))
noncomputable def M13 (W0 : World) : List (FuncId × Con) := (68, inlQ Try.prog W0 (M12 W0) Try.f68 (body Try.f68)) :: M12 W0
theorem env13 (W0 : World) : EnvOk (mkE Try.prog W0 (M13 W0)) := mkE_cons (env12 W0) (inlQ_ok (env12 W0) Try.func68 (by kernel_rfl) (by kernel_rfl) (by kernel_rfl))
noncomputable def M14 (W0 : World) : List (FuncId × Con) := (66, inlE Try.prog W0 (M13 W0) Try.f66 (body Try.f66) 0 0) :: M13 W0
theorem env14 (W0 : World) : EnvOk (mkE Try.prog W0 (M14 W0)) := mkE_cons (env13 W0) (inlE_ok (env13 W0) Try.func66 (by kernel_rfl) (by kernel_rfl) (by kernel_rfl) 0 0)
noncomputable def M15 (W0 : World) : List (FuncId × Con) := (69, inlJ Try.prog W0 (M14 W0) Try.f69 (body Try.f69) 0 0) :: M14 W0
theorem env15 (W0 : World) : EnvOk (mkE Try.prog W0 (M15 W0)) := mkE_cons (env14 W0) (inlJ_ok (env14 W0) Try.func69 (by kernel_rfl) (by kernel_rfl) (by kernel_rfl) 0 0)
end Go.Sx.Dma
