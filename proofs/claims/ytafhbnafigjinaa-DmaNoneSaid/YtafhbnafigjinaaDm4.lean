/-
  The operations of a unit as contracts.
-/
import Derived.Test.YtafhbnafigjinaaDm3
import Derived.Test.YtafhbnafigjinaaSx18
set_option linter.unusedSimpArgs false
set_option linter.unusedVariables false
set_option maxRecDepth 100000
set_option maxHeartbeats 1000000
namespace Go.Sx.Dma
open Go Go.Sx Go.Proofs
theorem chOf_inv {l r : List AV} {c : Ch} (h : chOf l = some (c, r)) : l = c.av r := by
  unfold chOf at h
  split at h
  · simp only [Option.some.injEq, Prod.mk.injEq] at h
    obtain ⟨rfl, rfl⟩ := h
    rfl
  · simp at h
theorem uOf_inv {l : List AV} {u : U} (h : uOf l = some u) : l = u.av := by
  unfold uOf at h
  split at h
  · rename_i a l1 h1
    split at h
    · rename_i b l2 h2
      split at h
      · rename_i c l3 h3
        split at h
        · rename_i d h4
          simp only [Option.some.injEq] at h
          subst h
          rw [chOf_inv h1, chOf_inv h2, chOf_inv h3, chOf_inv h4]
          rfl
        · simp at h
      · simp at h
    · simp at h
  · simp at h
def g24 : List AV → Heap → Tree (AV × Heap)
  | [.ptr 0 0, .int .i64 i, .int .i64 part, .int .u16 x], [some (.lit 106 cs)] => match uOf cs with
    | some u => .leaf (.tup [], [some (.lit 106 (uWrite u i part x).av)])
    | none => .stop
  | [.raw (.pointer none), .int .i64 i, .int .i64 part, .int .u16 x], [] => .leaf (.tup [], [])
  | _, _ => .stop
theorem ok24 (W0 : World) : SpecOk Try.prog W0 24 (Con.eff g24).spec := SpecOk.mk' Try.func24 (by kernel_rfl) (by kernel_rfl) fun args hp => by
  show CallOk _ _ _ _ _ (.eff (g24 args hp))
  unfold g24
  split
  · rename_i i part x cs
    split
    · rename_i u hu
      obtain rfl := uOf_inv hu
      refine runE_ok (c := body Try.f24) (env15 W0) Try.func24 (by kernel_rfl) (by kernel_rfl) 0 0 fun ha hh K hk => ?_
      have hu := val_of hh
      simp only [factL, factA, true_and, and_true] at ha
      by_cases i0 : i = 0
      · subst i0; exact w24_0 W0 u part x hu ha.2.2 K hk
      by_cases i1 : i = 1
      · subst i1; exact w24_1 W0 u part x hu ha.2.2 K hk
      by_cases i2 : i = 2
      · subst i2; exact w24_2 W0 u part x hu ha.2.2 K hk
      by_cases i3 : i = 3
      · subst i3; exact w24_3 W0 u part x hu ha.2.2 K hk
      refine w24_x W0 u i part x (by omega) K ?_
      simpa only [Tree.sem, uWrite, i0, i1, i2, i3, if_false] using hk
    · exact noSpecE
  · rename_i i part x
    refine runE_ok (c := body Try.f24) (env15 W0) Try.func24 (by kernel_rfl) (by kernel_rfl) 0 0 fun ha hh K hk => ?_
    exact (run24_nil W0 i part x).holds hk
  · exact noSpecE
def g55 : List AV → Heap → Tree (AV × Heap)
  | [.ptr 0 0, .int .i64 i, .int .i64 part, .int .u16 x], [some (.lit 80 cs)] => match uOf cs with
    | some u => .leaf (.tup [], [some (.lit 80 (uWrite u i part x).av)])
    | none => .stop
  | _, _ => .stop
theorem ok55 (W0 : World) : SpecOk Try.prog W0 55 (Con.eff g55).spec := SpecOk.mk' Try.func55 (by kernel_rfl) (by kernel_rfl) fun args hp => by
  show CallOk _ _ _ _ _ (.eff (g55 args hp))
  unfold g55
  split
  · rename_i i part x cs
    split
    · rename_i u hu
      obtain rfl := uOf_inv hu
      refine runE_ok (c := body Try.f55) (env15 W0) Try.func55 (by kernel_rfl) (by kernel_rfl) 0 0 fun ha hh K hk => ?_
      have hu := val_of hh
      simp only [factL, factA, true_and, and_true] at ha
      by_cases i0 : i = 0
      · subst i0; exact w55_0 W0 u part x hu ha.2.2 K hk
      by_cases i1 : i = 1
      · subst i1; exact w55_1 W0 u part x hu ha.2.2 K hk
      by_cases i2 : i = 2
      · subst i2; exact w55_2 W0 u part x hu ha.2.2 K hk
      by_cases i3 : i = 3
      · subst i3; exact w55_3 W0 u part x hu ha.2.2 K hk
      refine w55_x W0 u i part x (by omega) K ?_
      simpa only [Tree.sem, uWrite, i0, i1, i2, i3, if_false] using hk
    · exact noSpecE
  · exact noSpecE
def g36 : List AV → Heap → Tree (AV × Heap)
  | [.ptr 0 0, .int .i64 x], [some (.lit 106 cs)] => match uOf cs with
    | some u => .leaf (.tup [], [some (.lit 106 (uMoment u x).av)])
    | none => .stop
  | [.raw (.pointer none), .int .i64 x], [] => .leaf (.tup [], [])
  | _, _ => .stop
theorem ok36 (W0 : World) : SpecOk Try.prog W0 36 (Con.eff g36).spec := SpecOk.mk' Try.func36 (by kernel_rfl) (by kernel_rfl) fun args hp => by
  show CallOk _ _ _ _ _ (.eff (g36 args hp))
  unfold g36
  split
  · rename_i x cs
    split
    · rename_i u hu
      obtain rfl := uOf_inv hu
      refine runE_ok (c := body Try.f36) (env15 W0) Try.func36 (by kernel_rfl) (by kernel_rfl) 5 1 fun ha hh K hk => ?_
      have hu := val_of hh
      exact w36 W0 u x hu K hk
    · exact noSpecE
  · rename_i x
    refine runE_ok (c := body Try.f36) (env15 W0) Try.func36 (by kernel_rfl) (by kernel_rfl) 5 1 fun ha hh K hk => ?_
    exact (run36_nil W0 x).holds hk
  · exact noSpecE
def g56 : List AV → Heap → Tree (AV × Heap)
  | [.ptr 0 0, .int .i64 x], [some (.lit 80 cs)] => match uOf cs with
    | some u => .leaf (.tup [], [some (.lit 80 (uMoment u x).av)])
    | none => .stop
  | _, _ => .stop
theorem ok56 (W0 : World) : SpecOk Try.prog W0 56 (Con.eff g56).spec := SpecOk.mk' Try.func56 (by kernel_rfl) (by kernel_rfl) fun args hp => by
  show CallOk _ _ _ _ _ (.eff (g56 args hp))
  unfold g56
  split
  · rename_i x cs
    split
    · rename_i u hu
      obtain rfl := uOf_inv hu
      refine runE_ok (c := body Try.f56) (env15 W0) Try.func56 (by kernel_rfl) (by kernel_rfl) 5 1 fun ha hh K hk => ?_
      have hu := val_of hh
      exact w56 W0 u x hu K hk
    · exact noSpecE
  · exact noSpecE
def g38 : List AV → Heap → Tree (AV × Heap)
  | [.ptr 0 0, .int .u32 x], [some (.lit 106 cs)] => match uOf cs with
    | some u => .leaf (.tup [], [some (.lit 106 (uHungry u x).av)])
    | none => .stop
  | [.raw (.pointer none), .int .u32 x], [] => .leaf (.tup [], [])
  | _, _ => .stop
theorem ok38 (W0 : World) : SpecOk Try.prog W0 38 (Con.eff g38).spec := SpecOk.mk' Try.func38 (by kernel_rfl) (by kernel_rfl) fun args hp => by
  show CallOk _ _ _ _ _ (.eff (g38 args hp))
  unfold g38
  split
  · rename_i x cs
    split
    · rename_i u hu
      obtain rfl := uOf_inv hu
      refine runE_ok (c := body Try.f38) (env15 W0) Try.func38 (by kernel_rfl) (by kernel_rfl) 5 1 fun ha hh K hk => ?_
      have hu := val_of hh
      exact w38 W0 u x hu K hk
    · exact noSpecE
  · rename_i x
    refine runE_ok (c := body Try.f38) (env15 W0) Try.func38 (by kernel_rfl) (by kernel_rfl) 5 1 fun ha hh K hk => ?_
    exact (run38_nil W0 x).holds hk
  · exact noSpecE
def g57 : List AV → Heap → Tree (AV × Heap)
  | [.ptr 0 0, .int .u32 x], [some (.lit 80 cs)] => match uOf cs with
    | some u => .leaf (.tup [], [some (.lit 80 (uHungry u x).av)])
    | none => .stop
  | _, _ => .stop
theorem ok57 (W0 : World) : SpecOk Try.prog W0 57 (Con.eff g57).spec := SpecOk.mk' Try.func57 (by kernel_rfl) (by kernel_rfl) fun args hp => by
  show CallOk _ _ _ _ _ (.eff (g57 args hp))
  unfold g57
  split
  · rename_i x cs
    split
    · rename_i u hu
      obtain rfl := uOf_inv hu
      refine runE_ok (c := body Try.f57) (env15 W0) Try.func57 (by kernel_rfl) (by kernel_rfl) 5 1 fun ha hh K hk => ?_
      have hu := val_of hh
      exact w57 W0 u x hu K hk
    · exact noSpecE
  · exact noSpecE
def g27 : List AV → Heap → Tree AV
  | [.ptr 0 0], [some (.lit 106 cs)] => match uOf cs with
    | some u => .leaf (.int .i64 (uReady u))
    | none => .stop
  | [.raw (.pointer none)], [] => .leaf (.int .i64 (-1))
  | _, _ => .stop
theorem ok27 (W0 : World) : SpecOk Try.prog W0 27 (Con.pure g27).spec := SpecOk.mk' Try.func27 (by kernel_rfl) (by kernel_rfl) fun args hp => by
  show CallOk _ _ _ _ _ (.pure (g27 args hp))
  unfold g27
  split
  · rename_i  cs
    split
    · rename_i u hu
      obtain rfl := uOf_inv hu
      refine runP_ok (c := body Try.f27) (env15 W0) Try.func27 (by kernel_rfl) (by kernel_rfl) 5 1 trivial fun ha hh K hk => ?_
      have hu := val_of hh
      exact w27 W0 u K hk
    · exact noSpec
  · refine runP_ok (c := body Try.f27) (env15 W0) Try.func27 (by kernel_rfl) (by kernel_rfl) 5 1 trivial fun ha hh K hk => ?_
    exact (run27_nil W0).holds hk
  · exact noSpec
def g58 : List AV → Heap → Tree AV
  | [.ptr 0 0], [some (.lit 80 cs)] => match uOf cs with
    | some u => .leaf (.int .i64 (uReady u))
    | none => .stop
  | _, _ => .stop
theorem ok58 (W0 : World) : SpecOk Try.prog W0 58 (Con.pure g58).spec := SpecOk.mk' Try.func58 (by kernel_rfl) (by kernel_rfl) fun args hp => by
  show CallOk _ _ _ _ _ (.pure (g58 args hp))
  unfold g58
  split
  · rename_i  cs
    split
    · rename_i u hu
      obtain rfl := uOf_inv hu
      refine runP_ok (c := body Try.f58) (env15 W0) Try.func58 (by kernel_rfl) (by kernel_rfl) 5 1 trivial fun ha hh K hk => ?_
      have hu := val_of hh
      exact w58 W0 u K hk
    · exact noSpec
  · exact noSpec
def g28 : List AV → Heap → Tree AV
  | [.ptr 0 0, .int .i64 i], [some (.lit 106 cs)] => match uOf cs with
    | some u => .leaf (.int .u16 (uControl u i))
    | none => .stop
  | [.raw (.pointer none), .int .i64 i], [] => .leaf (.int .u16 0)
  | _, _ => .stop
theorem ok28 (W0 : World) : SpecOk Try.prog W0 28 (Con.pure g28).spec := SpecOk.mk' Try.func28 (by kernel_rfl) (by kernel_rfl) fun args hp => by
  show CallOk _ _ _ _ _ (.pure (g28 args hp))
  unfold g28
  split
  · rename_i i cs
    split
    · rename_i u hu
      obtain rfl := uOf_inv hu
      refine runP_ok (c := body Try.f28) (env15 W0) Try.func28 (by kernel_rfl) (by kernel_rfl) 0 0 trivial fun ha hh K hk => ?_
      have hu := val_of hh
      by_cases i0 : i = 0
      · subst i0; exact w28_0 W0 u K hk
      by_cases i1 : i = 1
      · subst i1; exact w28_1 W0 u K hk
      by_cases i2 : i = 2
      · subst i2; exact w28_2 W0 u K hk
      by_cases i3 : i = 3
      · subst i3; exact w28_3 W0 u K hk
      refine w28_x W0 u i (by omega) K ?_
      simpa only [Tree.sem, uControl, i0, i1, i2, i3, if_false] using hk
    · exact noSpec
  · rename_i i
    refine runP_ok (c := body Try.f28) (env15 W0) Try.func28 (by kernel_rfl) (by kernel_rfl) 0 0 trivial fun ha hh K hk => ?_
    exact (run28_nil W0 i).holds hk
  · exact noSpec
noncomputable def N0 (W0 : World) : List (FuncId × Con) := M15 W0
theorem nenv0 (W0 : World) : EnvOk (mkE Try.prog W0 (N0 W0)) := env15 W0
noncomputable def N1 (W0 : World) : List (FuncId × Con) := (24, .eff g24) :: N0 W0
theorem nenv1 (W0 : World) : EnvOk (mkE Try.prog W0 (N1 W0)) := mkE_cons (nenv0 W0) (ok24 W0)
noncomputable def N2 (W0 : World) : List (FuncId × Con) := (55, .eff g55) :: N1 W0
theorem nenv2 (W0 : World) : EnvOk (mkE Try.prog W0 (N2 W0)) := mkE_cons (nenv1 W0) (ok55 W0)
noncomputable def N3 (W0 : World) : List (FuncId × Con) := (36, .eff g36) :: N2 W0
theorem nenv3 (W0 : World) : EnvOk (mkE Try.prog W0 (N3 W0)) := mkE_cons (nenv2 W0) (ok36 W0)
noncomputable def N4 (W0 : World) : List (FuncId × Con) := (56, .eff g56) :: N3 W0
theorem nenv4 (W0 : World) : EnvOk (mkE Try.prog W0 (N4 W0)) := mkE_cons (nenv3 W0) (ok56 W0)
noncomputable def N5 (W0 : World) : List (FuncId × Con) := (38, .eff g38) :: N4 W0
theorem nenv5 (W0 : World) : EnvOk (mkE Try.prog W0 (N5 W0)) := mkE_cons (nenv4 W0) (ok38 W0)
noncomputable def N6 (W0 : World) : List (FuncId × Con) := (57, .eff g57) :: N5 W0
theorem nenv6 (W0 : World) : EnvOk (mkE Try.prog W0 (N6 W0)) := mkE_cons (nenv5 W0) (ok57 W0)
noncomputable def N7 (W0 : World) : List (FuncId × Con) := (27, .pure g27) :: N6 W0
theorem nenv7 (W0 : World) : EnvOk (mkE Try.prog W0 (N7 W0)) := mkE_cons (nenv6 W0) (ok27 W0)
noncomputable def N8 (W0 : World) : List (FuncId × Con) := (58, .pure g58) :: N7 W0
theorem nenv8 (W0 : World) : EnvOk (mkE Try.prog W0 (N8 W0)) := mkE_cons (nenv7 W0) (ok58 W0)
noncomputable def N9 (W0 : World) : List (FuncId × Con) := (28, .pure g28) :: N8 W0
theorem nenv9 (W0 : World) : EnvOk (mkE Try.prog W0 (N9 W0)) := mkE_cons (nenv8 W0) (ok28 W0)
end Go.Sx.Dma
