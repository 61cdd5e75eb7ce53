/-
  What each operation of a unit does to its channels, in plain arithmetic; the text's masks are these.
-/
import Derived.Test.YtafhbnafigjinaaSx17
import Derived.Test.YtafhbnafigjinaaDm0
set_option linter.unusedSimpArgs false
set_option linter.unusedVariables false
namespace Go.Sx.Dma
open Go Go.Sx
structure Ch.Val (c : Ch) : Prop where
  src : has .u32 c.src
  dst : has .u32 c.dst
  count : has .i64 c.count
  ctl : has .u16 c.ctl
  at_ : has .u32 c.at_
  to : has .u32 c.to
  left : has .i64 c.left
  latch : has .u32 c.latch
structure U.Val (u : U) : Prop where
  a : u.a.Val
  b : u.b.Val
  c : u.c.Val
  d : u.d.Val
theorem val_of {T : Nat} {u : U} {h : Heap} (h : factH (some (.lit T u.av) :: h)) : u.Val := by
  obtain ⟨⟨a1, a2, a3, a4, a5, a6, a7, a8, a9, a10⟩, ⟨b1, b2, b3, b4, b5, b6, b7, b8, b9, b10⟩, ⟨c1, c2, c3, c4, c5, c6, c7, c8, c9, c10⟩, ⟨d1, d2, d3, d4, d5, d6, d7, d8, d9, d10⟩⟩ := u
  simp only [factH, factL, factA, U.av, Ch.av, true_and, and_true] at h
  obtain ⟨⟨h1, h2, h3, h4, h5, h6, h7, h8, i1, i2, i3, i4, i5, i6, i7, i8, j1, j2, j3, j4, j5, j6, j7, j8, k1, k2, k3, k4, k5, k6, k7, k8⟩, _⟩ := h
  exact ⟨⟨h1, h2, h3, h4, h5, h6, h7, h8⟩, ⟨i1, i2, i3, i4, i5, i6, i7, i8⟩, ⟨j1, j2, j3, j4, j5, j6, j7, j8⟩, ⟨k1, k2, k3, k4, k5, k6, k7, k8⟩⟩
/-! ### Operations -/
def on (x : Int) : Bool := x / 32768 == 1
def whn (x : Int) : Int := x / 4096 % 4
def snd (i x : Int) : Bool := on x && whn x == 3 && (i == 1 || i == 2)
def msk (x : Int) : Int := iand .u16 x 63456
def chLoad (i : Int) (c : Ch) : Ch :=
  { c with left := if snd i c.ctl = true then 4 else if (c.count == 0) = true then (if i = 3 then 65536 else 16384) else c.count, first := true }
def chWrite (i part x : Int) (c : Ch) : Ch :=
  if (part == 0) = true then { c with src := c.src / 65536 * 65536 + x } else
  if (part == 1) = true then { c with src := c.src % 65536 + x % (if i = 0 then 2048 else 4096) * 65536 } else
  if (part == 2) = true then { c with dst := c.dst / 65536 * 65536 + x } else
  if (part == 3) = true then { c with dst := c.dst % 65536 + x % (if i = 3 then 4096 else 2048) * 65536 } else
  if (part == 4) = true then { c with count := x % (if i = 3 then 65536 else 16384) } else
  if (part == 5) = true then
    if (!on (msk x)) = true then { c with ctl := msk x, pending := false } else
    if (!on c.ctl) = true then { chLoad i { c with ctl := msk x, at_ := c.src, to := c.dst } with pending := whn (msk x) == 0 } else
    { c with ctl := msk x }
  else c
def uWrite (u : U) (i part x : Int) : U :=
  if i = 0 then { u with a := chWrite 0 part x u.a } else if i = 1 then { u with b := chWrite 1 part x u.b } else
  if i = 2 then { u with c := chWrite 2 part x u.c } else if i = 3 then { u with d := chWrite 3 part x u.d } else u
def chMoment (w : Int) (c : Ch) : Ch := if (on c.ctl && whn c.ctl == w) = true then { c with pending := true } else c
def uMoment (u : U) (w : Int) : U := if w = 1 ∨ w = 2 then ⟨chMoment w u.a, chMoment w u.b, chMoment w u.c, chMoment w u.d⟩ else u
def chHungry (i x : Int) (c : Ch) : Ch := if (snd i c.ctl && c.to == x) = true then { c with pending := true } else c
def uHungry (u : U) (x : Int) : U := ⟨u.a, chHungry 1 x u.b, chHungry 2 x u.c, u.d⟩
def uReady (u : U) : Int := if u.a.pending = true then 0 else if u.b.pending = true then 1 else if u.c.pending = true then 2 else if u.d.pending = true then 3 else -1
def uControl (u : U) (i : Int) : Int := if i = 0 then u.a.ctl else if i = 1 then u.b.ctl else if i = 2 then u.c.ctl else if i = 3 then u.d.ctl else 0
/-! ### The text's arithmetic -/
theorem sh_u16_15 (x : Int) : ishr .u16 x 15 = x / 32768 := ishr_lit 15 _ rfl rfl
theorem sh_u16_14 (x : Int) : ishr .u16 x 14 = x / 16384 := ishr_lit 14 _ rfl rfl
theorem sh_u16_12 (x : Int) : ishr .u16 x 12 = x / 4096 := ishr_lit 12 _ rfl rfl
theorem sh_u16_10 (x : Int) : ishr .u16 x 10 = x / 1024 := ishr_lit 10 _ rfl rfl
theorem sh_u16_9 (x : Int) : ishr .u16 x 9 = x / 512 := ishr_lit 9 _ rfl rfl
theorem sh_u16_7 (x : Int) : ishr .u16 x 7 = x / 128 := ishr_lit 7 _ rfl rfl
theorem sh_u16_5 (x : Int) : ishr .u16 x 5 = x / 32 := ishr_lit 5 _ rfl rfl
theorem sh_i64_15 (x : Int) : ishr .i64 x 15 = x / 32768 := ishr_lit 15 _ rfl rfl
theorem sh_i64_14 (x : Int) : ishr .i64 x 14 = x / 16384 := ishr_lit 14 _ rfl rfl
theorem sh_i64_12 (x : Int) : ishr .i64 x 12 = x / 4096 := ishr_lit 12 _ rfl rfl
theorem sh_i64_10 (x : Int) : ishr .i64 x 10 = x / 1024 := ishr_lit 10 _ rfl rfl
theorem sh_i64_9 (x : Int) : ishr .i64 x 9 = x / 512 := ishr_lit 9 _ rfl rfl
theorem sh_i64_7 (x : Int) : ishr .i64 x 7 = x / 128 := ishr_lit 7 _ rfl rfl
theorem sh_i64_5 (x : Int) : ishr .i64 x 5 = x / 32 := ishr_lit 5 _ rfl rfl
theorem sh_u16_shl16 (x : Int) : ishl .u32 x 16 = wr .u32 (x * 65536) := ishl_lit 16 _ rfl rfl
theorem an_u16_1 (x : Int) : iand .u16 x 1 = x % 2 := iand_mask 1 (by decide) (by decide) (by decide)
theorem an_u16_3 (x : Int) : iand .u16 x 3 = x % 4 := iand_mask 2 (by decide) (by decide) (by decide)
theorem an_u16_2047 (x : Int) : iand .u16 x 2047 = x % 2048 := iand_mask 11 (by decide) (by decide) (by decide)
theorem an_u16_4095 (x : Int) : iand .u16 x 4095 = x % 4096 := iand_mask 12 (by decide) (by decide) (by decide)
theorem an_i64_16383 (x : Int) : iand .i64 x 16383 = x % 16384 := iand_mask 14 (by decide) (by decide) (by decide)
theorem an_i64_65535 (x : Int) : iand .i64 x 65535 = x % 65536 := iand_mask 16 (by decide) (by decide) (by decide)
theorem an_u32_65535 (x : Int) : iand .u32 x 65535 = x % 65536 := iand_mask 16 (by decide) (by decide) (by decide)
theorem ior_comm (k : IntKind) (a b : Int) : ior k a b = ior k b a := by unfold ior; rw [BitVec.or_comm]
theorem wr_u32 {n : Int} (h : 0 ≤ n ∧ n ≤ 4294967295) : wr .u32 n = n := wr_of_has h
theorem d0 {s x : Int} (hs : has .u32 s) (hx : has .u16 x) : ior .u32 (iand .u32 s 4294901760) x = s / 65536 * 65536 + x := by
  rw [iand_hi rfl 16 (by decide) (by decide) hs]
  simp only [has, lo, hi] at hs hx
  exact ior_apart 16 (by omega) (by omega) (by omega) (by omega) ⟨by simp only [lo]; omega, by simp only [hi]; omega⟩
theorem d1 {s m : Int} (hs : has .u32 s) (hm : 0 ≤ m ∧ m < 65536) : ior .u32 (s % 65536) (wr .u32 (m * 65536)) = s % 65536 + m * 65536 := by
  rw [ior_comm, wr_u32 (by omega), ior_apart 16 (by omega) (by omega) (by omega) (by omega) ⟨by simp only [lo]; omega, by simp only [hi]; omega⟩]
  omega
theorem r0 {s x : Int} (hs : has .u32 s) (hx : has .u16 x) : wr .u32 (wr .u32 (s / 65536 * 65536) + x) = s / 65536 * 65536 + x := by
  simp only [has, lo, hi] at hs hx
  rw [wr_u32 (n := s / 65536 * 65536) (by omega), wr_u32 (by omega)]
theorem r1 {s m : Int} (hm : 0 ≤ m ∧ m < 65536) : wr .u32 (s % 65536 + wr .u32 (m * 65536)) = s % 65536 + m * 65536 := by
  rw [wr_u32 (n := m * 65536) (by omega), wr_u32 (by omega)]
theorem tm {x p q : Int} (h : 0 ≤ x) (hp : 0 < p) : (x / p).tmod q = x / p % q := by
  rw [Int.tmod_eq_emod_of_nonneg (Int.ediv_nonneg h (Int.le_of_lt hp))]
theorem tm0 {x q : Int} (h : 0 ≤ x) : x.tmod q = x % q := Int.tmod_eq_emod_of_nonneg h
theorem u16_0 {x : Int} (h : has .u16 x) : 0 ≤ x := h.1
theorem on_mod {x : Int} (h : has .u16 x) : (x / 32768 % 2 == 1) = on x := by
  have : x / 32768 % 2 = x / 32768 := by simp only [has, lo, hi] at h; omega
  rw [this, on]
theorem msk_has (x : Int) : has .u16 (msk x) := has_iand _ _ _
theorem msk_whn {x : Int} (h : has .u16 x) : msk x / 4096 = x / 4096 := by
  have := iand_div (k := .u16) rfl 12 h (m := 63456) (by decide)
  have e : (63456 / 2 ^ 12 : Int).toNat = 2 ^ 4 - 1 := by decide
  rw [e, Nat.and_two_pow_sub_one_eq_mod] at this
  show iand .u16 x 63456 / 2 ^ 12 = _
  rw [this]
  have h2 : (x / 2 ^ 12).toNat < 2 ^ 4 := by simp only [has, lo, hi] at h; omega
  rw [Nat.mod_eq_of_lt h2]
  simp only [has, lo, hi] at h
  omega
/-- What a leaf says of a unit. -/
theorem Kw {K : AV × Heap → Prop} {T : Nat} {u v : U} (hk : K (.tup [], [some (.lit T u.av)])) (h : u = v) : K (.tup [], [some (.lit T v.av)]) := h ▸ hk
end Go.Sx.Dma
