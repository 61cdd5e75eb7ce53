import Derived.Test.YtafhbnafigjinaaProg
import Derived.KernelRfl
import Derived.Test.YtafhbnafigjinaaArm1
import Derived.Test.YtafhbnafigjinaaSx13
set_option linter.unusedSimpArgs false
set_option linter.unusedVariables false
set_option maxHeartbeats 4000000
set_option maxRecDepth 100000
namespace Go.Sx.Arm
open Go Go.Sx Go.Proofs
theorem fine25 : CanEq Try.prog 25 := ⟨eqFine_of (by kernel_rfl), by kernel_rfl⟩
theorem dec1 : dec 3818914561 = { kind := 1, cond := 14, code := 13, hasImm := true, imm := 1, amount := 3 } := by kernel_rfl
theorem run13 (d : Int → Ins) (W0 : World) : val (runAuto Try.prog W0 (L13 d) Try.f13 (body Try.f13) 0 0 [] []) =
  Tree.req (CanEq (mkE Try.prog W0 (L13 d)).P (25 : Nat))
    (Tree.req
      (((d (3818914561 : Int)).kind == (1 : Int) &&
            ((d (3818914561 : Int)).cond == (14 : Int) &&
              ((d (3818914561 : Int)).code == (13 : Int) &&
                ((d (3818914561 : Int)).flags == false &&
                  ((d (3818914561 : Int)).rd == (0 : Int) &&
                    ((d (3818914561 : Int)).rn == (0 : Int) &&
                      ((d (3818914561 : Int)).rs == (0 : Int) &&
                        ((d (3818914561 : Int)).rm == (0 : Int) &&
                          ((d (3818914561 : Int)).imm == (1 : Int) &&
                            ((d (3818914561 : Int)).hasImm == true &&
                              ((d (3818914561 : Int)).shift == (0 : Int) &&
                                ((d (3818914561 : Int)).amount == (3 : Int) &&
                                  ((d (3818914561 : Int)).byReg == false &&
                                    ((d (3818914561 : Int)).load == false &&
                                      ((d (3818914561 : Int)).byte == false &&
                                        ((d (3818914561 : Int)).signed == false &&
                                          ((d (3818914561 : Int)).pre == false &&
                                            ((d (3818914561 : Int)).up == false &&
                                              ((d (3818914561 : Int)).back == false &&
                                                ((d (3818914561 : Int)).user == false &&
                                                  ((d (3818914561 : Int)).list == (0 : Int) &&
                                                    ((d (3818914561 : Int)).link == false &&
                                                      ((d (3818914561 : Int)).long == false &&
                                                        (d (3818914561 : Int)).align == false))))))))))))))))))))))) =
          true →
        ((d (3818914561 : Int)).kind == (1 : Int) &&
            ((d (3818914561 : Int)).cond == (14 : Int) &&
              ((d (3818914561 : Int)).code == (13 : Int) &&
                ((d (3818914561 : Int)).flags == false &&
                  ((d (3818914561 : Int)).rd == (0 : Int) &&
                    ((d (3818914561 : Int)).rn == (0 : Int) &&
                      ((d (3818914561 : Int)).rs == (0 : Int) &&
                        ((d (3818914561 : Int)).rm == (0 : Int) &&
                          ((d (3818914561 : Int)).imm == (1 : Int) &&
                            ((d (3818914561 : Int)).hasImm == true &&
                              ((d (3818914561 : Int)).shift == (0 : Int) &&
                                ((d (3818914561 : Int)).amount == (3 : Int) &&
                                  ((d (3818914561 : Int)).byReg == false &&
                                    ((d (3818914561 : Int)).load == false &&
                                      ((d (3818914561 : Int)).byte == false &&
                                        ((d (3818914561 : Int)).signed == false &&
                                          ((d (3818914561 : Int)).pre == false &&
                                            ((d (3818914561 : Int)).up == false &&
                                              ((d (3818914561 : Int)).back == false &&
                                                ((d (3818914561 : Int)).user == false &&
                                                  ((d (3818914561 : Int)).list == (0 : Int) &&
                                                    ((d (3818914561 : Int)).link == false &&
                                                      ((d (3818914561 : Int)).long == false &&
                                                        (d (3818914561 : Int)).align == false))))))))))))))))))))))) =
          true)
      (Tree.req
        (((d (3818914561 : Int)).kind == (1 : Int) &&
              ((d (3818914561 : Int)).cond == (14 : Int) &&
                ((d (3818914561 : Int)).code == (13 : Int) &&
                  ((d (3818914561 : Int)).flags == false &&
                    ((d (3818914561 : Int)).rd == (0 : Int) &&
                      ((d (3818914561 : Int)).rn == (0 : Int) &&
                        ((d (3818914561 : Int)).rs == (0 : Int) &&
                          ((d (3818914561 : Int)).rm == (0 : Int) &&
                            ((d (3818914561 : Int)).imm == (1 : Int) &&
                              ((d (3818914561 : Int)).hasImm == true &&
                                ((d (3818914561 : Int)).shift == (0 : Int) &&
                                  ((d (3818914561 : Int)).amount == (3 : Int) &&
                                    ((d (3818914561 : Int)).byReg == false &&
                                      ((d (3818914561 : Int)).load == false &&
                                        ((d (3818914561 : Int)).byte == false &&
                                          ((d (3818914561 : Int)).signed == false &&
                                            ((d (3818914561 : Int)).pre == false &&
                                              ((d (3818914561 : Int)).up == false &&
                                                ((d (3818914561 : Int)).back == false &&
                                                  ((d (3818914561 : Int)).user == false &&
                                                    ((d (3818914561 : Int)).list == (0 : Int) &&
                                                      ((d (3818914561 : Int)).link == false &&
                                                        ((d (3818914561 : Int)).long == false &&
                                                          (d (3818914561 : Int)).align == false))))))))))))))))))))))) =
            true →
          ((d (3818914561 : Int)).kind == (1 : Int) &&
              ((d (3818914561 : Int)).cond == (14 : Int) &&
                ((d (3818914561 : Int)).code == (13 : Int) &&
                  ((d (3818914561 : Int)).flags == false &&
                    ((d (3818914561 : Int)).rd == (0 : Int) &&
                      ((d (3818914561 : Int)).rn == (0 : Int) &&
                        ((d (3818914561 : Int)).rs == (0 : Int) &&
                          ((d (3818914561 : Int)).rm == (0 : Int) &&
                            ((d (3818914561 : Int)).imm == (1 : Int) &&
                              ((d (3818914561 : Int)).hasImm == true &&
                                ((d (3818914561 : Int)).shift == (0 : Int) &&
                                  ((d (3818914561 : Int)).amount == (3 : Int) &&
                                    ((d (3818914561 : Int)).byReg == false &&
                                      ((d (3818914561 : Int)).load == false &&
                                        ((d (3818914561 : Int)).byte == false &&
                                          ((d (3818914561 : Int)).signed == false &&
                                            ((d (3818914561 : Int)).pre == false &&
                                              ((d (3818914561 : Int)).up == false &&
                                                ((d (3818914561 : Int)).back == false &&
                                                  ((d (3818914561 : Int)).user == false &&
                                                    ((d (3818914561 : Int)).list == (0 : Int) &&
                                                      ((d (3818914561 : Int)).link == false &&
                                                        ((d (3818914561 : Int)).long == false &&
                                                          (d (3818914561 : Int)).align == false))))))))))))))))))))))) =
            true)
        (Tree.req
          (((d (3818914561 : Int)).kind == (1 : Int) &&
                ((d (3818914561 : Int)).cond == (14 : Int) &&
                  ((d (3818914561 : Int)).code == (13 : Int) &&
                    ((d (3818914561 : Int)).flags == false &&
                      ((d (3818914561 : Int)).rd == (0 : Int) &&
                        ((d (3818914561 : Int)).rn == (0 : Int) &&
                          ((d (3818914561 : Int)).rs == (0 : Int) &&
                            ((d (3818914561 : Int)).rm == (0 : Int) &&
                              ((d (3818914561 : Int)).imm == (1 : Int) &&
                                ((d (3818914561 : Int)).hasImm == true &&
                                  ((d (3818914561 : Int)).shift == (0 : Int) &&
                                    ((d (3818914561 : Int)).amount == (3 : Int) &&
                                      ((d (3818914561 : Int)).byReg == false &&
                                        ((d (3818914561 : Int)).load == false &&
                                          ((d (3818914561 : Int)).byte == false &&
                                            ((d (3818914561 : Int)).signed == false &&
                                              ((d (3818914561 : Int)).pre == false &&
                                                ((d (3818914561 : Int)).up == false &&
                                                  ((d (3818914561 : Int)).back == false &&
                                                    ((d (3818914561 : Int)).user == false &&
                                                      ((d (3818914561 : Int)).list == (0 : Int) &&
                                                        ((d (3818914561 : Int)).link == false &&
                                                          ((d (3818914561 : Int)).long == false &&
                                                            (d (3818914561 : Int)).align ==
                                                              false))))))))))))))))))))))) =
              true →
            CanEq (mkE Try.prog W0 (L13 d)).P (25 : Nat))
          (Tree.req
            (((d (3818914561 : Int)).kind == (1 : Int) &&
                  ((d (3818914561 : Int)).cond == (14 : Int) &&
                    ((d (3818914561 : Int)).code == (13 : Int) &&
                      ((d (3818914561 : Int)).flags == false &&
                        ((d (3818914561 : Int)).rd == (0 : Int) &&
                          ((d (3818914561 : Int)).rn == (0 : Int) &&
                            ((d (3818914561 : Int)).rs == (0 : Int) &&
                              ((d (3818914561 : Int)).rm == (0 : Int) &&
                                ((d (3818914561 : Int)).imm == (1 : Int) &&
                                  ((d (3818914561 : Int)).hasImm == true &&
                                    ((d (3818914561 : Int)).shift == (0 : Int) &&
                                      ((d (3818914561 : Int)).amount == (3 : Int) &&
                                        ((d (3818914561 : Int)).byReg == false &&
                                          ((d (3818914561 : Int)).load == false &&
                                            ((d (3818914561 : Int)).byte == false &&
                                              ((d (3818914561 : Int)).signed == false &&
                                                ((d (3818914561 : Int)).pre == false &&
                                                  ((d (3818914561 : Int)).up == false &&
                                                    ((d (3818914561 : Int)).back == false &&
                                                      ((d (3818914561 : Int)).user == false &&
                                                        ((d (3818914561 : Int)).list == (0 : Int) &&
                                                          ((d (3818914561 : Int)).link == false &&
                                                            ((d (3818914561 : Int)).long == false &&
                                                              (d (3818914561 : Int)).align ==
                                                                false))))))))))))))))))))))) =
                true →
              ((d (3818914561 : Int)).kind == (1 : Int) &&
                  ((d (3818914561 : Int)).cond == (14 : Int) &&
                    ((d (3818914561 : Int)).code == (13 : Int) &&
                      ((d (3818914561 : Int)).flags == false &&
                        ((d (3818914561 : Int)).rd == (0 : Int) &&
                          ((d (3818914561 : Int)).rn == (0 : Int) &&
                            ((d (3818914561 : Int)).rs == (0 : Int) &&
                              ((d (3818914561 : Int)).rm == (0 : Int) &&
                                ((d (3818914561 : Int)).imm == (1 : Int) &&
                                  ((d (3818914561 : Int)).hasImm == true &&
                                    ((d (3818914561 : Int)).shift == (0 : Int) &&
                                      ((d (3818914561 : Int)).amount == (3 : Int) &&
                                        ((d (3818914561 : Int)).byReg == false &&
                                          ((d (3818914561 : Int)).load == false &&
                                            ((d (3818914561 : Int)).byte == false &&
                                              ((d (3818914561 : Int)).signed == false &&
                                                ((d (3818914561 : Int)).pre == false &&
                                                  ((d (3818914561 : Int)).up == false &&
                                                    ((d (3818914561 : Int)).back == false &&
                                                      ((d (3818914561 : Int)).user == false &&
                                                        ((d (3818914561 : Int)).list == (0 : Int) &&
                                                          ((d (3818914561 : Int)).link == false &&
                                                            ((d (3818914561 : Int)).long == false &&
                                                              (d (3818914561 : Int)).align ==
                                                                false))))))))))))))))))))))) =
                true)
            (Tree.leaf
              (AV.bool
                ((d (3818914561 : Int)).kind == (1 : Int) &&
                    ((d (3818914561 : Int)).cond == (14 : Int) &&
                      ((d (3818914561 : Int)).code == (13 : Int) &&
                        ((d (3818914561 : Int)).flags == false &&
                          ((d (3818914561 : Int)).rd == (0 : Int) &&
                            ((d (3818914561 : Int)).rn == (0 : Int) &&
                              ((d (3818914561 : Int)).rs == (0 : Int) &&
                                ((d (3818914561 : Int)).rm == (0 : Int) &&
                                  ((d (3818914561 : Int)).imm == (1 : Int) &&
                                    ((d (3818914561 : Int)).hasImm == true &&
                                      ((d (3818914561 : Int)).shift == (0 : Int) &&
                                        ((d (3818914561 : Int)).amount == (3 : Int) &&
                                          ((d (3818914561 : Int)).byReg == false &&
                                            ((d (3818914561 : Int)).load == false &&
                                              ((d (3818914561 : Int)).byte == false &&
                                                ((d (3818914561 : Int)).signed == false &&
                                                  ((d (3818914561 : Int)).pre == false &&
                                                    ((d (3818914561 : Int)).up == false &&
                                                      ((d (3818914561 : Int)).back == false &&
                                                        ((d (3818914561 : Int)).user == false &&
                                                          ((d (3818914561 : Int)).list == (0 : Int) &&
                                                            ((d (3818914561 : Int)).link == false &&
                                                              ((d (3818914561 : Int)).long == false &&
                                                                (d (3818914561 : Int)).align ==
                                                                  false)))))))))))))))))))))) &&
                  ((d (3891265776 : Int)).kind == (0 : Int) &&
                    ((d (3891265776 : Int)).cond == (14 : Int) &&
                      ((d (3891265776 : Int)).code == (0 : Int) &&
                        ((d (3891265776 : Int)).flags == false &&
                          ((d (3891265776 : Int)).rd == (0 : Int) &&
                            ((d (3891265776 : Int)).rn == (0 : Int) &&
                              ((d (3891265776 : Int)).rs == (0 : Int) &&
                                ((d (3891265776 : Int)).rm == (0 : Int) &&
                                  ((d (3891265776 : Int)).imm == (0 : Int) &&
                                    ((d (3891265776 : Int)).hasImm == false &&
                                      ((d (3891265776 : Int)).shift == (0 : Int) &&
                                        ((d (3891265776 : Int)).amount == (0 : Int) &&
                                          ((d (3891265776 : Int)).byReg == false &&
                                            ((d (3891265776 : Int)).load == false &&
                                              ((d (3891265776 : Int)).byte == false &&
                                                ((d (3891265776 : Int)).signed == false &&
                                                  ((d (3891265776 : Int)).pre == false &&
                                                    ((d (3891265776 : Int)).up == false &&
                                                      ((d (3891265776 : Int)).back == false &&
                                                        ((d (3891265776 : Int)).user == false &&
                                                          ((d (3891265776 : Int)).list == (0 : Int) &&
                                                            ((d (3891265776 : Int)).link == false &&
                                                              ((d (3891265776 : Int)).long == false &&
                                                                (d (3891265776 : Int)).align ==
                                                                  false)))))))))))))))))))))))))))))) := by kernel_rfl

theorem ok13 {W0 : World} : SpecOk Try.prog W0 13 (Con.pure g13).spec where
  there := ⟨Try.f13, Try.func13, by kernel_rfl, by kernel_rfl⟩
  ok := fun args hp => by
    show CallOk _ _ _ _ _ (.pure (g13 args hp))
    unfold g13
    split
    · refine auto_valOk (c := body Try.f13) (env13 W0) Try.func13 (by kernel_rfl) (by kernel_rfl) 0 0 trivial (by kernel_rfl) ?_
      intro K hk
      refine holds_of (run13 dec W0) ?_
      simp only [Tree.sem, dec1]
      repeat' with_reducible refine And.intro ?_ ?_
      all_goals first | (show CanEq Try.prog 25; exact fine25) | (show _ → CanEq Try.prog 25; exact fun _ => fine25) | with_reducible exact fun h => h | with_reducible exact hk | (simp only [dec1]; decide) | decide | exact hk
    · exact noSpec
theorem env3 (W0 : World) : EnvOk (mkE Try.prog W0 (L3 dec)) := mkE_cons (env13 W0) ok13

theorem fld_eq (w : Int) (a n : Nat) (p q : Int) (ha : a ≤ 32) (hn : n ≤ 31) (hp : 2 ^ a = p) (hq : 2 ^ n = q) : fld w a n = w / p % q := by
  unfold fld
  rw [ishr_lit (k := .u32) (a := w) (b := (a : Int)) a p (Nat.min_eq_left ha) hp, ishl_lit (k := .u32) (a := 1) (b := (n : Int)) n q (Nat.min_eq_left (Nat.le_trans hn (by decide))) hq]
  have h1 : q ≤ 2147483648 := by
    rw [← hq, ← two_pow_cast]
    have h : 2 ^ n ≤ 2147483648 := Nat.pow_le_pow_right (n := 2) (by decide) hn
    exact Int.ofNat_le.2 h
  have h2 : 1 ≤ q := by
    rw [← hq]
    have := Int.pow_pos (n := 2) (m := n) (by decide)
    omega
  have e : wr .u32 (wr .u32 (1 * q) - 1) = q - 1 := by simp only [wr]; omega
  rw [e, iand_mask (k := .u32) n (by rw [hq]) (Nat.le_trans hn (by decide)) (by unfold has; simp only [lo, hi]; omega), hq]
theorem btB_eq (w : Int) (a : Nat) (p : Int) (ha : a ≤ 32) (hp : 2 ^ a = p) : btB w a = (w / p % 2 == 1) := by
  unfold btB
  rw [ishr_lit (k := .u32) (a := w) (b := (a : Int)) a p (Nat.min_eq_left ha) hp, iand_mask (k := .u32) (m := 1) 1 (by decide) (by decide) (by decide)]
  rfl
end Go.Sx.Arm
