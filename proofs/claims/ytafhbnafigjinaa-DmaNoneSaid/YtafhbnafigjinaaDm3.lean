/-
  Contracts of the operations of a unit, out of their runs.
-/
import Derived.Test.YtafhbnafigjinaaDm1
import Derived.Test.YtafhbnafigjinaaDm2
set_option linter.unusedSimpArgs false
set_option linter.unusedVariables false
set_option maxRecDepth 100000
set_option maxHeartbeats 1000000
namespace Go.Sx.Dma
open Go Go.Sx Go.Proofs
theorem msk_def (x : Int) : iand .u16 x 63456 = msk x := rfl
theorem on_def (x : Int) : (x / 32768 == 1) = on x := rfl
theorem whn_def (x : Int) : x / 4096 % 4 = whn x := rfl
theorem whn_msk {x : Int} (h : has .u16 x) : whn (msk x) = whn x := by unfold whn; rw [msk_whn h]
theorem Kp {K : AV → Prop} {k : IntKind} {m n : Int} (hk : K (.int k m)) (h : m = n) : K (.int k n) := h ▸ hk
theorem tm15 {x : Int} (h : has .u16 x) : (x / 32768).tmod 2 = x / 32768 % 2 := tm (u16_0 h) (by decide)
theorem tm12 {x : Int} (h : has .u16 x) : (x / 4096).tmod 4 = x / 4096 % 4 := tm (u16_0 h) (by decide)
theorem w24_0 (W0 : World) (u : U) (part x : Int) (hu : u.Val) (hx : has .u16 x) (K : AV × Heap → Prop) (hk : K (.tup [], [some (.lit 106 (uWrite u 0 part x).av)])) :
    Holds (runE Try.prog W0 (M15 W0) Try.f24 (body Try.f24) 0 0 [.ptr 0 0, .int .i64 0, .int .i64 part, .int .u16 x] [some (.lit 106 u.av)]) K := by
  refine (run24_0 W0 u part x).holds ?_
  have m1 : 0 ≤ x % 2048 ∧ x % 2048 < 65536 := by omega
  have m2 : 0 ≤ x % 4096 ∧ x % 4096 < 65536 := by omega
  have mm : x % 2048 % 4096 = x % 2048 := by omega
  have m5 : x % 65536 = x := by simp only [has, lo, hi] at hx; omega
  simp only [Tree.sem, Rq.holds, sh_u16_15, sh_u16_12, sh_u16_shl16, sh_i64_15, sh_i64_12, an_u16_1, an_u16_3, an_u16_2047, an_u16_4095, an_i64_16383, an_i64_65535, an_u32_65535, msk_def, d0 hu.a.src hx, d0 hu.a.dst hx, d1 hu.a.src m1, d1 hu.a.src m2, d1 hu.a.dst m1, d1 hu.a.dst m2, on_def, whn_def]
  repeat' first | (with_reducible refine And.intro ?_ ?_) | intro _
  all_goals first
    | (refine Kw hk ?_; simp only [uWrite, chWrite, chLoad, snd, whn_msk hx, *, if_true, if_false, Bool.false_eq_true, Int.reduceEq, Int.reduceBEq, Bool.or_self, Bool.and_false, Bool.and_true, Bool.or_false, Bool.or_true, Bool.false_and, Bool.true_and, Bool.not_true, Bool.not_false, or_true, true_or, or_self, not_true, not_false_iff]; done)
    | (refine Kw hk ?_; clear hk; simp_all [uWrite, chWrite, chLoad, snd, whn_msk hx]; done)
    | (clear hk; simp_all; done)
theorem w24_1 (W0 : World) (u : U) (part x : Int) (hu : u.Val) (hx : has .u16 x) (K : AV × Heap → Prop) (hk : K (.tup [], [some (.lit 106 (uWrite u 1 part x).av)])) :
    Holds (runE Try.prog W0 (M15 W0) Try.f24 (body Try.f24) 0 0 [.ptr 0 0, .int .i64 1, .int .i64 part, .int .u16 x] [some (.lit 106 u.av)]) K := by
  refine (run24_1 W0 u part x).holds ?_
  have m1 : 0 ≤ x % 2048 ∧ x % 2048 < 65536 := by omega
  have m2 : 0 ≤ x % 4096 ∧ x % 4096 < 65536 := by omega
  have mm : x % 2048 % 4096 = x % 2048 := by omega
  have m5 : x % 65536 = x := by simp only [has, lo, hi] at hx; omega
  simp only [Tree.sem, Rq.holds, sh_u16_15, sh_u16_12, sh_u16_shl16, sh_i64_15, sh_i64_12, an_u16_1, an_u16_3, an_u16_2047, an_u16_4095, an_i64_16383, an_i64_65535, an_u32_65535, msk_def, d0 hu.b.src hx, d0 hu.b.dst hx, d1 hu.b.src m1, d1 hu.b.src m2, d1 hu.b.dst m1, d1 hu.b.dst m2, on_def, whn_def]
  repeat' first | (with_reducible refine And.intro ?_ ?_) | intro _
  all_goals first
    | (refine Kw hk ?_; simp only [uWrite, chWrite, chLoad, snd, whn_msk hx, *, if_true, if_false, Bool.false_eq_true, Int.reduceEq, Int.reduceBEq, Bool.or_self, Bool.and_false, Bool.and_true, Bool.or_false, Bool.or_true, Bool.false_and, Bool.true_and, Bool.not_true, Bool.not_false, or_true, true_or, or_self, not_true, not_false_iff]; done)
    | (refine Kw hk ?_; clear hk; simp_all [uWrite, chWrite, chLoad, snd, whn_msk hx]; done)
    | (clear hk; simp_all; done)
theorem w24_2 (W0 : World) (u : U) (part x : Int) (hu : u.Val) (hx : has .u16 x) (K : AV × Heap → Prop) (hk : K (.tup [], [some (.lit 106 (uWrite u 2 part x).av)])) :
    Holds (runE Try.prog W0 (M15 W0) Try.f24 (body Try.f24) 0 0 [.ptr 0 0, .int .i64 2, .int .i64 part, .int .u16 x] [some (.lit 106 u.av)]) K := by
  refine (run24_2 W0 u part x).holds ?_
  have m1 : 0 ≤ x % 2048 ∧ x % 2048 < 65536 := by omega
  have m2 : 0 ≤ x % 4096 ∧ x % 4096 < 65536 := by omega
  have mm : x % 2048 % 4096 = x % 2048 := by omega
  have m5 : x % 65536 = x := by simp only [has, lo, hi] at hx; omega
  simp only [Tree.sem, Rq.holds, sh_u16_15, sh_u16_12, sh_u16_shl16, sh_i64_15, sh_i64_12, an_u16_1, an_u16_3, an_u16_2047, an_u16_4095, an_i64_16383, an_i64_65535, an_u32_65535, msk_def, d0 hu.c.src hx, d0 hu.c.dst hx, d1 hu.c.src m1, d1 hu.c.src m2, d1 hu.c.dst m1, d1 hu.c.dst m2, on_def, whn_def]
  repeat' first | (with_reducible refine And.intro ?_ ?_) | intro _
  all_goals first
    | (refine Kw hk ?_; simp only [uWrite, chWrite, chLoad, snd, whn_msk hx, *, if_true, if_false, Bool.false_eq_true, Int.reduceEq, Int.reduceBEq, Bool.or_self, Bool.and_false, Bool.and_true, Bool.or_false, Bool.or_true, Bool.false_and, Bool.true_and, Bool.not_true, Bool.not_false, or_true, true_or, or_self, not_true, not_false_iff]; done)
    | (refine Kw hk ?_; clear hk; simp_all [uWrite, chWrite, chLoad, snd, whn_msk hx]; done)
    | (clear hk; simp_all; done)
theorem w24_3 (W0 : World) (u : U) (part x : Int) (hu : u.Val) (hx : has .u16 x) (K : AV × Heap → Prop) (hk : K (.tup [], [some (.lit 106 (uWrite u 3 part x).av)])) :
    Holds (runE Try.prog W0 (M15 W0) Try.f24 (body Try.f24) 0 0 [.ptr 0 0, .int .i64 3, .int .i64 part, .int .u16 x] [some (.lit 106 u.av)]) K := by
  refine (run24_3 W0 u part x).holds ?_
  have m1 : 0 ≤ x % 2048 ∧ x % 2048 < 65536 := by omega
  have m2 : 0 ≤ x % 4096 ∧ x % 4096 < 65536 := by omega
  have mm : x % 2048 % 4096 = x % 2048 := by omega
  have m5 : x % 65536 = x := by simp only [has, lo, hi] at hx; omega
  simp only [Tree.sem, Rq.holds, sh_u16_15, sh_u16_12, sh_u16_shl16, sh_i64_15, sh_i64_12, an_u16_1, an_u16_3, an_u16_2047, an_u16_4095, an_i64_16383, an_i64_65535, an_u32_65535, msk_def, d0 hu.d.src hx, d0 hu.d.dst hx, d1 hu.d.src m1, d1 hu.d.src m2, d1 hu.d.dst m1, d1 hu.d.dst m2, on_def, whn_def]
  repeat' first | (with_reducible refine And.intro ?_ ?_) | intro _
  all_goals first
    | (refine Kw hk ?_; simp only [uWrite, chWrite, chLoad, snd, whn_msk hx, *, if_true, if_false, Bool.false_eq_true, Int.reduceEq, Int.reduceBEq, Bool.or_self, Bool.and_false, Bool.and_true, Bool.or_false, Bool.or_true, Bool.false_and, Bool.true_and, Bool.not_true, Bool.not_false, or_true, true_or, or_self, not_true, not_false_iff]; done)
    | (refine Kw hk ?_; clear hk; simp_all [uWrite, chWrite, chLoad, snd, whn_msk hx]; done)
    | (clear hk; simp_all; done)
theorem w24_x (W0 : World) (u : U) (i part x : Int) (hi : i < 0 ∨ 3 < i) (K : AV × Heap → Prop) (hk : K (.tup [], [some (.lit 106 u.av)])) :
    Holds (runE Try.prog W0 (M15 W0) Try.f24 (body Try.f24) 0 0 [.ptr 0 0, .int .i64 i, .int .i64 part, .int .u16 x] [some (.lit 106 u.av)]) K := by
  refine (run24_x W0 u i part x).holds ?_
  simp only [Tree.sem]
  refine ⟨fun _ => hk, fun h => ?_⟩
  exfalso
  simp at h
  omega
theorem w55_0 (W0 : World) (u : U) (part x : Int) (hu : u.Val) (hx : has .u16 x) (K : AV × Heap → Prop) (hk : K (.tup [], [some (.lit 80 (uWrite u 0 part x).av)])) :
    Holds (runE Try.prog W0 (M15 W0) Try.f55 (body Try.f55) 0 0 [.ptr 0 0, .int .i64 0, .int .i64 part, .int .u16 x] [some (.lit 80 u.av)]) K := by
  refine (run55_0 W0 u part x).holds ?_
  have m1 : 0 ≤ x % 2048 ∧ x % 2048 < 65536 := by omega
  have m2 : 0 ≤ x % 4096 ∧ x % 4096 < 65536 := by omega
  have mm : x % 2048 % 4096 = x % 2048 := by omega
  have m5 : x % 65536 = x := by simp only [has, lo, hi] at hx; omega
  simp only [Tree.sem, Rq.holds, sh_u16_15, sh_u16_12, sh_u16_shl16, sh_i64_15, sh_i64_12, an_u16_1, an_u16_3, an_u16_2047, an_u16_4095, an_i64_16383, an_i64_65535, an_u32_65535, msk_def, r0 hu.a.src hx, r0 hu.a.dst hx, r1 m1, r1 m2, tm15 (msk_has x), tm15 hu.a.ctl, tm12 (msk_has x), tm12 hx, on_mod (msk_has x), on_mod hu.a.ctl, tm0 (u16_0 hx), mm, on_def, whn_def]
  repeat' first | (with_reducible refine And.intro ?_ ?_) | intro _
  all_goals first
    | (refine Kw hk ?_; simp only [uWrite, chWrite, chLoad, snd, whn_msk hx, *, if_true, if_false, Bool.false_eq_true, Int.reduceEq, Int.reduceBEq, Bool.or_self, Bool.and_false, Bool.and_true, Bool.or_false, Bool.or_true, Bool.false_and, Bool.true_and, Bool.not_true, Bool.not_false, or_true, true_or, or_self, not_true, not_false_iff]; done)
    | (refine Kw hk ?_; clear hk; simp_all [uWrite, chWrite, chLoad, snd, whn_msk hx]; done)
    | (clear hk; simp_all; done)
theorem w55_1 (W0 : World) (u : U) (part x : Int) (hu : u.Val) (hx : has .u16 x) (K : AV × Heap → Prop) (hk : K (.tup [], [some (.lit 80 (uWrite u 1 part x).av)])) :
    Holds (runE Try.prog W0 (M15 W0) Try.f55 (body Try.f55) 0 0 [.ptr 0 0, .int .i64 1, .int .i64 part, .int .u16 x] [some (.lit 80 u.av)]) K := by
  refine (run55_1 W0 u part x).holds ?_
  have m1 : 0 ≤ x % 2048 ∧ x % 2048 < 65536 := by omega
  have m2 : 0 ≤ x % 4096 ∧ x % 4096 < 65536 := by omega
  have mm : x % 2048 % 4096 = x % 2048 := by omega
  have m5 : x % 65536 = x := by simp only [has, lo, hi] at hx; omega
  simp only [Tree.sem, Rq.holds, sh_u16_15, sh_u16_12, sh_u16_shl16, sh_i64_15, sh_i64_12, an_u16_1, an_u16_3, an_u16_2047, an_u16_4095, an_i64_16383, an_i64_65535, an_u32_65535, msk_def, r0 hu.b.src hx, r0 hu.b.dst hx, r1 m1, r1 m2, tm15 (msk_has x), tm15 hu.b.ctl, tm12 (msk_has x), tm12 hx, on_mod (msk_has x), on_mod hu.b.ctl, tm0 (u16_0 hx), mm, on_def, whn_def]
  repeat' first | (with_reducible refine And.intro ?_ ?_) | intro _
  all_goals first
    | (refine Kw hk ?_; simp only [uWrite, chWrite, chLoad, snd, whn_msk hx, *, if_true, if_false, Bool.false_eq_true, Int.reduceEq, Int.reduceBEq, Bool.or_self, Bool.and_false, Bool.and_true, Bool.or_false, Bool.or_true, Bool.false_and, Bool.true_and, Bool.not_true, Bool.not_false, or_true, true_or, or_self, not_true, not_false_iff]; done)
    | (refine Kw hk ?_; clear hk; simp_all [uWrite, chWrite, chLoad, snd, whn_msk hx]; done)
    | (clear hk; simp_all; done)
theorem w55_2 (W0 : World) (u : U) (part x : Int) (hu : u.Val) (hx : has .u16 x) (K : AV × Heap → Prop) (hk : K (.tup [], [some (.lit 80 (uWrite u 2 part x).av)])) :
    Holds (runE Try.prog W0 (M15 W0) Try.f55 (body Try.f55) 0 0 [.ptr 0 0, .int .i64 2, .int .i64 part, .int .u16 x] [some (.lit 80 u.av)]) K := by
  refine (run55_2 W0 u part x).holds ?_
  have m1 : 0 ≤ x % 2048 ∧ x % 2048 < 65536 := by omega
  have m2 : 0 ≤ x % 4096 ∧ x % 4096 < 65536 := by omega
  have mm : x % 2048 % 4096 = x % 2048 := by omega
  have m5 : x % 65536 = x := by simp only [has, lo, hi] at hx; omega
  simp only [Tree.sem, Rq.holds, sh_u16_15, sh_u16_12, sh_u16_shl16, sh_i64_15, sh_i64_12, an_u16_1, an_u16_3, an_u16_2047, an_u16_4095, an_i64_16383, an_i64_65535, an_u32_65535, msk_def, r0 hu.c.src hx, r0 hu.c.dst hx, r1 m1, r1 m2, tm15 (msk_has x), tm15 hu.c.ctl, tm12 (msk_has x), tm12 hx, on_mod (msk_has x), on_mod hu.c.ctl, tm0 (u16_0 hx), mm, on_def, whn_def]
  repeat' first | (with_reducible refine And.intro ?_ ?_) | intro _
  all_goals first
    | (refine Kw hk ?_; simp only [uWrite, chWrite, chLoad, snd, whn_msk hx, *, if_true, if_false, Bool.false_eq_true, Int.reduceEq, Int.reduceBEq, Bool.or_self, Bool.and_false, Bool.and_true, Bool.or_false, Bool.or_true, Bool.false_and, Bool.true_and, Bool.not_true, Bool.not_false, or_true, true_or, or_self, not_true, not_false_iff]; done)
    | (refine Kw hk ?_; clear hk; simp_all [uWrite, chWrite, chLoad, snd, whn_msk hx]; done)
    | (clear hk; simp_all; done)
theorem w55_3 (W0 : World) (u : U) (part x : Int) (hu : u.Val) (hx : has .u16 x) (K : AV × Heap → Prop) (hk : K (.tup [], [some (.lit 80 (uWrite u 3 part x).av)])) :
    Holds (runE Try.prog W0 (M15 W0) Try.f55 (body Try.f55) 0 0 [.ptr 0 0, .int .i64 3, .int .i64 part, .int .u16 x] [some (.lit 80 u.av)]) K := by
  refine (run55_3 W0 u part x).holds ?_
  have m1 : 0 ≤ x % 2048 ∧ x % 2048 < 65536 := by omega
  have m2 : 0 ≤ x % 4096 ∧ x % 4096 < 65536 := by omega
  have mm : x % 2048 % 4096 = x % 2048 := by omega
  have m5 : x % 65536 = x := by simp only [has, lo, hi] at hx; omega
  simp only [Tree.sem, Rq.holds, sh_u16_15, sh_u16_12, sh_u16_shl16, sh_i64_15, sh_i64_12, an_u16_1, an_u16_3, an_u16_2047, an_u16_4095, an_i64_16383, an_i64_65535, an_u32_65535, msk_def, r0 hu.d.src hx, r0 hu.d.dst hx, r1 m1, r1 m2, tm15 (msk_has x), tm15 hu.d.ctl, tm12 (msk_has x), tm12 hx, on_mod (msk_has x), on_mod hu.d.ctl, tm0 (u16_0 hx), mm, on_def, whn_def]
  repeat' first | (with_reducible refine And.intro ?_ ?_) | intro _
  all_goals first
    | (refine Kw hk ?_; simp only [uWrite, chWrite, chLoad, snd, whn_msk hx, *, if_true, if_false, Bool.false_eq_true, Int.reduceEq, Int.reduceBEq, Bool.or_self, Bool.and_false, Bool.and_true, Bool.or_false, Bool.or_true, Bool.false_and, Bool.true_and, Bool.not_true, Bool.not_false, or_true, true_or, or_self, not_true, not_false_iff]; done)
    | (refine Kw hk ?_; clear hk; simp_all [uWrite, chWrite, chLoad, snd, whn_msk hx]; done)
    | (clear hk; simp_all; done)
theorem w55_x (W0 : World) (u : U) (i part x : Int) (hi : i < 0 ∨ 3 < i) (K : AV × Heap → Prop) (hk : K (.tup [], [some (.lit 80 u.av)])) :
    Holds (runE Try.prog W0 (M15 W0) Try.f55 (body Try.f55) 0 0 [.ptr 0 0, .int .i64 i, .int .i64 part, .int .u16 x] [some (.lit 80 u.av)]) K := by
  refine (run55_x W0 u i part x).holds ?_
  simp only [Tree.sem]
  refine ⟨fun _ => hk, fun h => ?_⟩
  exfalso
  simp at h
  omega
theorem w36 (W0 : World) (u : U) (x : Int) (hu : u.Val) (K : AV × Heap → Prop) (hk : K (.tup [], [some (.lit 106 (uMoment u x).av)])) :
    Holds (runE Try.prog W0 (M15 W0) Try.f36 (body Try.f36) 5 1 [.ptr 0 0, .int .i64 x] [some (.lit 106 u.av)]) K := by
  refine (run36 W0 u x).holds ?_
  by_cases hx : x = 1 ∨ x = 2
  · simp only [Tree.sem, Rq.holds, sh_u16_15, sh_u16_12, sh_u16_shl16, sh_i64_15, sh_i64_12, an_u16_1, an_u16_3, an_u16_2047, an_u16_4095, an_i64_16383, an_i64_65535, an_u32_65535, msk_def, tm15 hu.a.ctl, tm12 hu.a.ctl, on_mod hu.a.ctl, tm15 hu.b.ctl, tm12 hu.b.ctl, on_mod hu.b.ctl, tm15 hu.c.ctl, tm12 hu.c.ctl, on_mod hu.c.ctl, tm15 hu.d.ctl, tm12 hu.d.ctl, on_mod hu.d.ctl, on_def, whn_def]
    have e : ((x == 1 || x == 2)) = true := by simpa using hx
    have e2 : ((x != 1 && x != 2)) = false := by rcases hx with rfl | rfl <;> rfl
    simp only [e, e2, Bool.true_and, Bool.false_eq_true, false_imp_iff, true_and, and_true, Bool.true_eq_false, forall_const]
    repeat' first | (with_reducible refine And.intro ?_ ?_) | intro _
    all_goals first
      | (refine Kw hk ?_; simp only [uMoment, chMoment, *, if_true, if_false, Bool.false_eq_true, Int.reduceEq, Int.reduceBEq, Bool.or_self, Bool.and_false, Bool.and_true, Bool.or_false, Bool.or_true, Bool.false_and, Bool.true_and, Bool.not_true, Bool.not_false, or_true, true_or, or_self, not_true, not_false_iff]; done)
      | (refine Kw hk ?_; clear hk; simp_all [uMoment, chMoment]; done)
      | (clear hk; simp_all; done)
  · have e : ((x == 1 || x == 2)) = false := by simpa [not_or] using hx
    have e2 : ((x != 1 && x != 2)) = true := by simpa [not_or] using hx
    simp only [uMoment, if_neg hx] at hk
    simp only [Tree.sem, Rq.holds, sh_u16_15, sh_u16_12, sh_u16_shl16, sh_i64_15, sh_i64_12, an_u16_1, an_u16_3, an_u16_2047, an_u16_4095, an_i64_16383, an_i64_65535, an_u32_65535, msk_def, tm15 hu.a.ctl, tm12 hu.a.ctl, on_mod hu.a.ctl, tm15 hu.b.ctl, tm12 hu.b.ctl, on_mod hu.b.ctl, tm15 hu.c.ctl, tm12 hu.c.ctl, on_mod hu.c.ctl, tm15 hu.d.ctl, tm12 hu.d.ctl, on_mod hu.d.ctl, on_def, whn_def]
    simp only [e, e2, Bool.false_and, Bool.false_eq_true, false_imp_iff, true_and, and_true, Bool.true_eq_false, forall_const]
    repeat' first | (with_reducible refine And.intro ?_ ?_) | intro _
    all_goals first | exact hk | (simp_all; done)
theorem w56 (W0 : World) (u : U) (x : Int) (hu : u.Val) (K : AV × Heap → Prop) (hk : K (.tup [], [some (.lit 80 (uMoment u x).av)])) :
    Holds (runE Try.prog W0 (M15 W0) Try.f56 (body Try.f56) 5 1 [.ptr 0 0, .int .i64 x] [some (.lit 80 u.av)]) K := by
  refine (run56 W0 u x).holds ?_
  by_cases hx : x = 1 ∨ x = 2
  · simp only [Tree.sem, Rq.holds, sh_u16_15, sh_u16_12, sh_u16_shl16, sh_i64_15, sh_i64_12, an_u16_1, an_u16_3, an_u16_2047, an_u16_4095, an_i64_16383, an_i64_65535, an_u32_65535, msk_def, tm15 hu.a.ctl, tm12 hu.a.ctl, on_mod hu.a.ctl, tm15 hu.b.ctl, tm12 hu.b.ctl, on_mod hu.b.ctl, tm15 hu.c.ctl, tm12 hu.c.ctl, on_mod hu.c.ctl, tm15 hu.d.ctl, tm12 hu.d.ctl, on_mod hu.d.ctl, on_def, whn_def]
    have e : ((x == 1 || x == 2)) = true := by simpa using hx
    have e2 : ((x != 1 && x != 2)) = false := by rcases hx with rfl | rfl <;> rfl
    simp only [e, e2, Bool.true_and, Bool.false_eq_true, false_imp_iff, true_and, and_true, Bool.true_eq_false, forall_const]
    repeat' first | (with_reducible refine And.intro ?_ ?_) | intro _
    all_goals first
      | (refine Kw hk ?_; simp only [uMoment, chMoment, *, if_true, if_false, Bool.false_eq_true, Int.reduceEq, Int.reduceBEq, Bool.or_self, Bool.and_false, Bool.and_true, Bool.or_false, Bool.or_true, Bool.false_and, Bool.true_and, Bool.not_true, Bool.not_false, or_true, true_or, or_self, not_true, not_false_iff]; done)
      | (refine Kw hk ?_; clear hk; simp_all [uMoment, chMoment]; done)
      | (clear hk; simp_all; done)
  · have e : ((x == 1 || x == 2)) = false := by simpa [not_or] using hx
    have e2 : ((x != 1 && x != 2)) = true := by simpa [not_or] using hx
    simp only [uMoment, if_neg hx] at hk
    simp only [Tree.sem, Rq.holds, sh_u16_15, sh_u16_12, sh_u16_shl16, sh_i64_15, sh_i64_12, an_u16_1, an_u16_3, an_u16_2047, an_u16_4095, an_i64_16383, an_i64_65535, an_u32_65535, msk_def, tm15 hu.a.ctl, tm12 hu.a.ctl, on_mod hu.a.ctl, tm15 hu.b.ctl, tm12 hu.b.ctl, on_mod hu.b.ctl, tm15 hu.c.ctl, tm12 hu.c.ctl, on_mod hu.c.ctl, tm15 hu.d.ctl, tm12 hu.d.ctl, on_mod hu.d.ctl, on_def, whn_def]
    simp only [e, e2, Bool.false_and, Bool.false_eq_true, false_imp_iff, true_and, and_true, Bool.true_eq_false, forall_const]
    repeat' first | (with_reducible refine And.intro ?_ ?_) | intro _
    all_goals first | exact hk | (simp_all; done)
theorem w38 (W0 : World) (u : U) (x : Int) (hu : u.Val) (K : AV × Heap → Prop) (hk : K (.tup [], [some (.lit 106 (uHungry u x).av)])) :
    Holds (runE Try.prog W0 (M15 W0) Try.f38 (body Try.f38) 5 1 [.ptr 0 0, .int .u32 x] [some (.lit 106 u.av)]) K := by
  refine (run38 W0 u x).holds ?_
  obtain ⟨a, b, c, d⟩ := u
  simp only [Tree.sem, Rq.holds, sh_u16_15, sh_u16_12, sh_u16_shl16, sh_i64_15, sh_i64_12, an_u16_1, an_u16_3, an_u16_2047, an_u16_4095, an_i64_16383, an_i64_65535, an_u32_65535, msk_def, tm15 hu.a.ctl, tm12 hu.a.ctl, on_mod hu.a.ctl, tm15 hu.b.ctl, tm12 hu.b.ctl, on_mod hu.b.ctl, tm15 hu.c.ctl, tm12 hu.c.ctl, on_mod hu.c.ctl, tm15 hu.d.ctl, tm12 hu.d.ctl, on_mod hu.d.ctl, on_def, whn_def]
  repeat' first | (with_reducible refine And.intro ?_ ?_) | intro _
  all_goals first
    | (refine Kw hk ?_; simp only [uHungry, chHungry, snd, *, if_true, if_false, Bool.false_eq_true, Int.reduceEq, Int.reduceBEq, Bool.or_self, Bool.and_false, Bool.and_true, Bool.or_false, Bool.or_true, Bool.false_and, Bool.true_and, Bool.not_true, Bool.not_false, or_true, true_or, or_self, not_true, not_false_iff]; done)
    | (refine Kw hk ?_; clear hk; simp_all [uHungry, chHungry, snd]; done)
    | (clear hk; simp_all; done)
theorem w57 (W0 : World) (u : U) (x : Int) (hu : u.Val) (K : AV × Heap → Prop) (hk : K (.tup [], [some (.lit 80 (uHungry u x).av)])) :
    Holds (runE Try.prog W0 (M15 W0) Try.f57 (body Try.f57) 5 1 [.ptr 0 0, .int .u32 x] [some (.lit 80 u.av)]) K := by
  refine (run57 W0 u x).holds ?_
  obtain ⟨a, b, c, d⟩ := u
  simp only [Tree.sem, Rq.holds, sh_u16_15, sh_u16_12, sh_u16_shl16, sh_i64_15, sh_i64_12, an_u16_1, an_u16_3, an_u16_2047, an_u16_4095, an_i64_16383, an_i64_65535, an_u32_65535, msk_def, tm15 hu.a.ctl, tm12 hu.a.ctl, on_mod hu.a.ctl, tm15 hu.b.ctl, tm12 hu.b.ctl, on_mod hu.b.ctl, tm15 hu.c.ctl, tm12 hu.c.ctl, on_mod hu.c.ctl, tm15 hu.d.ctl, tm12 hu.d.ctl, on_mod hu.d.ctl, on_def, whn_def]
  repeat' first | (with_reducible refine And.intro ?_ ?_) | intro _
  all_goals first
    | (refine Kw hk ?_; simp only [uHungry, chHungry, snd, *, if_true, if_false, Bool.false_eq_true, Int.reduceEq, Int.reduceBEq, Bool.or_self, Bool.and_false, Bool.and_true, Bool.or_false, Bool.or_true, Bool.false_and, Bool.true_and, Bool.not_true, Bool.not_false, or_true, true_or, or_self, not_true, not_false_iff]; done)
    | (refine Kw hk ?_; clear hk; simp_all [uHungry, chHungry, snd]; done)
    | (clear hk; simp_all; done)
theorem w27 (W0 : World) (u : U) (K : AV → Prop) (hk : K (.int .i64 (uReady u))) :
    Holds (runP Try.prog W0 (M15 W0) Try.f27 (body Try.f27) 5 1 [.ptr 0 0] [some (.lit 106 u.av)]) K := by
  refine (run27 W0 u).holds ?_
  simp only [Tree.sem, Rq.holds, sh_u16_15, sh_u16_12, sh_u16_shl16, sh_i64_15, sh_i64_12, an_u16_1, an_u16_3, an_u16_2047, an_u16_4095, an_i64_16383, an_i64_65535, an_u32_65535, msk_def]
  repeat' first | (with_reducible refine And.intro ?_ ?_) | intro _
  all_goals first
    | (refine Kp hk ?_; simp only [uReady, *, if_true, if_false, Bool.false_eq_true, Int.reduceEq, Int.reduceBEq, Bool.or_self, Bool.and_false, Bool.and_true, Bool.or_false, Bool.or_true, Bool.false_and, Bool.true_and, Bool.not_true, Bool.not_false, or_true, true_or, or_self, not_true, not_false_iff]; done)
    | (refine Kp hk ?_; clear hk; simp_all [uReady]; done)
    | (clear hk; simp_all; done)
theorem w58 (W0 : World) (u : U) (K : AV → Prop) (hk : K (.int .i64 (uReady u))) :
    Holds (runP Try.prog W0 (M15 W0) Try.f58 (body Try.f58) 5 1 [.ptr 0 0] [some (.lit 80 u.av)]) K := by
  refine (run58 W0 u).holds ?_
  simp only [Tree.sem, Rq.holds, sh_u16_15, sh_u16_12, sh_u16_shl16, sh_i64_15, sh_i64_12, an_u16_1, an_u16_3, an_u16_2047, an_u16_4095, an_i64_16383, an_i64_65535, an_u32_65535, msk_def]
  repeat' first | (with_reducible refine And.intro ?_ ?_) | intro _
  all_goals first
    | (refine Kp hk ?_; simp only [uReady, *, if_true, if_false, Bool.false_eq_true, Int.reduceEq, Int.reduceBEq, Bool.or_self, Bool.and_false, Bool.and_true, Bool.or_false, Bool.or_true, Bool.false_and, Bool.true_and, Bool.not_true, Bool.not_false, or_true, true_or, or_self, not_true, not_false_iff]; done)
    | (refine Kp hk ?_; clear hk; simp_all [uReady]; done)
    | (clear hk; simp_all; done)
theorem w28_0 (W0 : World) (u : U) (K : AV → Prop) (hk : K (.int .u16 (uControl u 0))) :
    Holds (runP Try.prog W0 (M15 W0) Try.f28 (body Try.f28) 0 0 [.ptr 0 0, .int .i64 0] [some (.lit 106 u.av)]) K := (run28_0 W0 u).holds hk
theorem w28_1 (W0 : World) (u : U) (K : AV → Prop) (hk : K (.int .u16 (uControl u 1))) :
    Holds (runP Try.prog W0 (M15 W0) Try.f28 (body Try.f28) 0 0 [.ptr 0 0, .int .i64 1] [some (.lit 106 u.av)]) K := (run28_1 W0 u).holds hk
theorem w28_2 (W0 : World) (u : U) (K : AV → Prop) (hk : K (.int .u16 (uControl u 2))) :
    Holds (runP Try.prog W0 (M15 W0) Try.f28 (body Try.f28) 0 0 [.ptr 0 0, .int .i64 2] [some (.lit 106 u.av)]) K := (run28_2 W0 u).holds hk
theorem w28_3 (W0 : World) (u : U) (K : AV → Prop) (hk : K (.int .u16 (uControl u 3))) :
    Holds (runP Try.prog W0 (M15 W0) Try.f28 (body Try.f28) 0 0 [.ptr 0 0, .int .i64 3] [some (.lit 106 u.av)]) K := (run28_3 W0 u).holds hk
theorem w28_x (W0 : World) (u : U) (i : Int) (hi : i < 0 ∨ 3 < i) (K : AV → Prop) (hk : K (.int .u16 0)) :
    Holds (runP Try.prog W0 (M15 W0) Try.f28 (body Try.f28) 0 0 [.ptr 0 0, .int .i64 i] [some (.lit 106 u.av)]) K := by
  refine (run28_x W0 u i).holds ?_
  simp only [Tree.sem]
  refine ⟨fun _ => hk, fun h => ?_⟩
  exfalso
  simp at h
  omega
end Go.Sx.Dma
