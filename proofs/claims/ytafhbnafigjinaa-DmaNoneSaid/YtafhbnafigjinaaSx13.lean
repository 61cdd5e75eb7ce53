/-
  Masks, shifts and joins of bits, as plain arithmetic.
-/
import Derived.Test.YtafhbnafigjinaaSx12
set_option linter.unusedSimpArgs false
set_option linter.unusedVariables false
namespace Go.Sx
theorem wr_fits {k : IntKind} {n : Int} (h : has k n) : wr k n = n := by
  cases k <;> simp only [has, lo, hi, wr] at * <;> (try split) <;> omega
theorem two_pow_cast (n : Nat) : ((2 ^ n : Nat) : Int) = (2 : Int) ^ n := by push_cast; rfl
theorem ofInt_toNat (b : Nat) (a : Int) : ((BitVec.ofInt b a).toNat : Int) = a % 2 ^ b := by
  rw [BitVec.toNat_ofInt, Int.toNat_of_nonneg (Int.emod_nonneg _ (by have : (0 : Int) < ((2 ^ b : Nat) : Int) := by exact_mod_cast Nat.two_pow_pos b
                                                                     omega)), two_pow_cast]
/-- A mask of n low bits. -/
theorem iand_mask {k : IntKind} {a m : Int} (n : Nat) (hm : m = 2 ^ n - 1) (hn : n ≤ k.bits) (hh : has k m) : iand k a m = a % 2 ^ n := by
  subst hm
  unfold iand
  have e : ((BitVec.ofInt k.bits a &&& BitVec.ofInt k.bits (2 ^ n - 1)).toNat : Int) = a % 2 ^ n := by
    rw [BitVec.toNat_and]
    have h2 : (BitVec.ofInt k.bits (2 ^ n - 1)).toNat = 2 ^ n - 1 := by
      have := ofInt_toNat k.bits (2 ^ n - 1)
      rw [Int.emod_eq_of_lt (by have := Int.pow_pos (n := 2) (m := n) (by decide); omega) (by
        have : (2 : Int) ^ n ≤ 2 ^ k.bits := by exact_mod_cast Nat.pow_le_pow_right (by decide) hn
        omega)] at this
      have h3 := two_pow_cast n
      have := Nat.two_pow_pos n
      omega
    rw [h2, Nat.and_two_pow_sub_one_eq_mod]
    have h4 := ofInt_toNat k.bits a
    push_cast
    rw [h4]
    exact Int.emod_emod_of_dvd a (by
      obtain ⟨c, hc⟩ := Nat.exists_eq_add_of_le hn
      exact ⟨2 ^ c, by rw [hc, Int.pow_add]⟩)
  rw [e]
  apply wr_fits
  have h0 : (0 : Int) ≤ a % 2 ^ n := Int.emod_nonneg _ (by have := Int.pow_pos (n := 2) (m := n) (by decide); omega)
  have h1 : a % 2 ^ n < 2 ^ n := Int.emod_lt_of_pos _ (Int.pow_pos (by decide))
  have := Int.pow_pos (n := 2) (m := n) (by decide)
  unfold has at hh ⊢
  have : lo k ≤ 0 := by cases k <;> decide
  omega
/-- Bits that lie apart are added. -/
theorem ior_apart {k : IntKind} {a b : Int} (n : Nat) (ha : a % 2 ^ n = 0) (ha0 : 0 ≤ a) (hb0 : 0 ≤ b) (hb : b < 2 ^ n) (hs : has k (a + b)) : ior k a b = a + b := by
  unfold ior
  have hhi : hi k < 2 ^ k.bits := by cases k <;> decide
  have hs' := hs.2
  have ea : (BitVec.ofInt k.bits a).toNat = a.toNat := by
    have := ofInt_toNat k.bits a
    rw [Int.emod_eq_of_lt ha0 (by omega)] at this
    omega
  have eb : (BitVec.ofInt k.bits b).toNat = b.toNat := by
    have := ofInt_toNat k.bits b
    rw [Int.emod_eq_of_lt hb0 (by omega)] at this
    omega
  rw [BitVec.toNat_or, ea, eb]
  obtain ⟨c, hc⟩ := Int.dvd_of_emod_eq_zero ha
  have hp : (0 : Int) < 2 ^ n := Int.pow_pos (by decide)
  have hc0 : 0 ≤ c := by
    rcases Int.lt_or_le c 0 with h | h
    · have := Int.mul_neg_of_pos_of_neg hp h; omega
    · exact h
  have hac : a.toNat = 2 ^ n * c.toNat := by
    have : ((2 ^ n * c.toNat : Nat) : Int) = a := by push_cast; rw [Int.toNat_of_nonneg hc0, hc]
    omega
  have hbn : b.toNat < 2 ^ n := by have := two_pow_cast n; omega
  rw [hac, ← Nat.two_pow_add_eq_or_of_lt hbn, ← hac]
  have : ((a.toNat + b.toNat : Nat) : Int) = a + b := by omega
  rw [this]
  exact wr_fits hs
theorem ishr_lit {k : IntKind} {a b : Int} (n : Nat) (p : Int) (hn : min b.toNat k.bits = n) (hp : 2 ^ n = p) : ishr k a b = a / p := by
  unfold ishr
  rw [hn, hp, Int.fdiv_eq_ediv_of_nonneg]
  rw [← hp]
  exact Int.le_of_lt (Int.pow_pos (by decide))
theorem ishl_lit {k : IntKind} {a b : Int} (n : Nat) (p : Int) (hn : min b.toNat k.bits = n) (hp : 2 ^ n = p) : ishl k a b = wr k (a * p) := by
  unfold ishl
  rw [hn, hp]
end Go.Sx
