/-
  More of masks, as plain arithmetic.
-/
import Derived.Test.YtafhbnafigjinaaSx13
set_option linter.unusedSimpArgs false
set_option linter.unusedVariables false
namespace Go.Sx
theorem bits_hi {k : IntKind} (hu : unsigned k = true) : hi k + 1 = 2 ^ k.bits := by
  cases k <;> first | (simp [unsigned] at hu; done) | decide
/-- Unsigned numbers are anded as naturals. -/
theorem iand_nat {k : IntKind} (hu : unsigned k = true) {a b : Int} (ha : has k a) (hb : has k b) : iand k a b = ((a.toNat &&& b.toNat : Nat) : Int) := by
  have hh := bits_hi hu
  have ha0 := unsigned_nonneg hu ha
  have hb0 := unsigned_nonneg hu hb
  unfold iand
  have e : ∀ c : Int, has k c → 0 ≤ c → (BitVec.ofInt k.bits c).toNat = c.toNat := fun c hc hc0 => by
    have := ofInt_toNat k.bits c
    have h2 := hc.2
    rw [Int.emod_eq_of_lt hc0 (by omega)] at this
    omega
  rw [BitVec.toNat_and, e a ha ha0, e b hb hb0]
  refine wr_fits ⟨?_, ?_⟩
  · have : lo k = 0 := by cases k <;> first | (simp [unsigned] at hu; done) | rfl
    omega
  · have h1 : a.toNat &&& b.toNat ≤ a.toNat := Nat.and_le_left
    have h2 := ha.2
    omega
/-- A mask of high bits. -/
theorem iand_hi {k : IntKind} (hu : unsigned k = true) {a m : Int} (n : Nat) (hn : n ≤ k.bits) (hm : m = 2 ^ k.bits - 2 ^ n) (ha : has k a) : iand k a m = a / 2 ^ n * 2 ^ n := by
  have hh := bits_hi hu
  have ha0 := unsigned_nonneg hu ha
  have hlo : lo k = 0 := by cases k <;> first | (simp [unsigned] at hu; done) | rfl
  have hp : (2 : Int) ^ n ≤ 2 ^ k.bits := by exact_mod_cast Nat.pow_le_pow_right (by decide) hn
  have hp0 : (0 : Int) < 2 ^ n := Int.pow_pos (by decide)
  have hM : has k m := ⟨by rw [hlo, hm]; omega, by rw [hm]; omega⟩
  rw [iand_nat hu ha hM]
  have hmn : m.toNat = (2 ^ (k.bits - n) - 1) * 2 ^ n := by
    have h1 : 2 ^ k.bits = 2 ^ (k.bits - n) * 2 ^ n := by rw [← Nat.pow_add]; congr 1; omega
    have h2 := two_pow_cast k.bits
    have h3 := two_pow_cast n
    rw [Nat.sub_mul, Nat.one_mul, ← h1]
    omega
  have hdiv : a / 2 ^ n * 2 ^ n = ((a.toNat / 2 ^ n * 2 ^ n : Nat) : Int) := by
    push_cast
    rw [Int.toNat_of_nonneg ha0]
  rw [hdiv, hmn]
  congr 1
  apply Nat.eq_of_testBit_eq
  intro j
  rw [Nat.testBit_and, Nat.testBit_mul_two_pow, Nat.testBit_mul_two_pow, Nat.testBit_two_pow_sub_one]
  by_cases hj : n ≤ j
  · have e2 : (a.toNat / 2 ^ n).testBit (j - n) = a.toNat.testBit j := by
      rw [Nat.testBit_div_two_pow]; congr 1; omega
    rw [e2]
    by_cases hlt : j - n < k.bits - n
    · simp [hj, hlt]
    · have hb : a.toNat.testBit j = false := by
        apply Nat.testBit_lt_two_pow
        have h1 : a.toNat < 2 ^ k.bits := by
          have h2 := two_pow_cast k.bits
          have := ha.2
          omega
        exact Nat.lt_of_lt_of_le h1 (Nat.pow_le_pow_right (by decide) (by omega))
      simp [hj, hlt, hb]
  · simp [hj]
/-- The high bits of what is masked. -/
theorem iand_div {k : IntKind} (hu : unsigned k = true) {a m : Int} (n : Nat) (ha : has k a) (hm : has k m) : iand k a m / 2 ^ n = (((a / 2 ^ n).toNat &&& (m / 2 ^ n).toNat : Nat) : Int) := by
  have ha0 := unsigned_nonneg hu ha
  have hm0 := unsigned_nonneg hu hm
  rw [iand_nat hu ha hm]
  have e : ∀ c : Int, 0 ≤ c → (c / 2 ^ n).toNat = c.toNat >>> n := fun c hc => by
    rw [Nat.shiftRight_eq_div_pow]
    have : (((c / 2 ^ n).toNat : Nat) : Int) = ((c.toNat / 2 ^ n : Nat) : Int) := by
      rw [Int.toNat_of_nonneg (Int.ediv_nonneg hc (Int.le_of_lt (Int.pow_pos (by decide))))]
      push_cast
      rw [Int.toNat_of_nonneg hc]
    exact_mod_cast this
  rw [e a ha0, e m hm0, ← Nat.shiftRight_and_distrib, Nat.shiftRight_eq_div_pow]
  push_cast
  rfl
theorem has_iand (k : IntKind) (a b : Int) : has k (iand k a b) := wr_has _ _
end Go.Sx
