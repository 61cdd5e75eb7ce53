import Derived.Test.YtafhbnafigjinaaProg
import Derived.KernelRfl
import Derived.Test.YtafhbnafigjinaaArm0
set_option linter.unusedSimpArgs false
set_option linter.unusedVariables false
set_option maxHeartbeats 4000000
set_option maxRecDepth 100000
namespace Go.Sx.Arm
open Go Go.Sx Go.Proofs
noncomputable def body (f : Func) : Code := f.body.getD .skip
theorem mixed : Try.prog.follows .mixedOrders = true := by kernel_rfl
theorem run39 (W0 : World) (w a n : Int) : val (runAuto Try.prog W0 [] Try.f39 (body Try.f39) 0 0 [.int .u32 w, .int .i64 a, .int .i64 n] []) =
  Tree.req ((0 : Int) ≤ a)
    (Tree.req ((0 : Int) ≤ n)
      (Tree.leaf
        (AV.int IntKind.i64
          (iand IntKind.u32 (ishr IntKind.u32 w a) (wr IntKind.u32 (ishl IntKind.u32 (1 : Int) n - (1 : Int))))))) := by kernel_rfl
theorem run40 (W0 : World) (w a : Int) : val (runAuto Try.prog W0 L40 Try.f40 (body Try.f40) 0 0 [.int .u32 w, .int .i64 a] []) =
  Tree.req ((0 : Int) ≤ a) (Tree.leaf (AV.bool (iand IntKind.u32 (ishr IntKind.u32 w a) (1 : Int) == (1 : Int)))) := by kernel_rfl
theorem run61 (W0 : World) (w : Int) : val (runAuto Try.prog W0 L61 Try.f61 (body Try.f61) 0 0 [.int .u32 w, (base w).av] []) =
  Tree.req ((0 : Int) ≤ (5 : Int) ∧ (0 : Int) ≤ (2 : Int))
    (Tree.req ((0 : Int) ≤ (20 : Int))
      (Tree.req ((!btB w (20 : Int)) = true → (!btB w (20 : Int)) = true)
        (Tree.req ((!btB w (20 : Int)) = true → (!btB w (20 : Int)) = true)
          (Tree.ite (!btB w (20 : Int) && fld w (5 : Int) (2 : Int) != (1 : Int))
            (Tree.leaf
              (AV.agg
                [AV.int IntKind.i64 (0 : Int), AV.int IntKind.i64 (base w).cond, AV.int IntKind.i64 (0 : Int),
                  AV.bool false, AV.int IntKind.i64 (0 : Int), AV.int IntKind.i64 (0 : Int),
                  AV.int IntKind.i64 (0 : Int), AV.int IntKind.i64 (0 : Int), AV.int IntKind.u32 (0 : Int),
                  AV.bool false, AV.int IntKind.i64 (0 : Int), AV.int IntKind.i64 (0 : Int), AV.bool false,
                  AV.bool false, AV.bool false, AV.bool false, AV.bool false, AV.bool false, AV.bool false,
                  AV.bool false, AV.int IntKind.i64 (0 : Int), AV.bool false, AV.bool false, AV.bool false]))
            (Tree.req ((0 : Int) ≤ (24 : Int))
              (Tree.req ((0 : Int) ≤ (23 : Int))
                (Tree.req ((0 : Int) ≤ (21 : Int))
                  (Tree.req ((!btB w (21 : Int)) = true → (!btB w (21 : Int)) = true)
                    (Tree.req ((!btB w (21 : Int)) = true → (0 : Int) ≤ (24 : Int))
                      (Tree.req ((!btB w (21 : Int)) = true → (!btB w (21 : Int)) = true)
                        (Tree.req (btB w (21 : Int) = false → (!btB w (21 : Int)) = true)
                          (Tree.req ((0 : Int) ≤ (22 : Int))
                            (Tree.ite (btB w (22 : Int))
                              (Tree.leaf
                                (AV.agg
                                  [AV.int IntKind.i64 (6 : Int), AV.int IntKind.i64 (base w).cond,
                                    AV.int IntKind.i64 (fld w (5 : Int) (2 : Int)), AV.bool false,
                                    AV.int IntKind.i64 (base w).rd, AV.int IntKind.i64 (base w).rn,
                                    AV.int IntKind.i64 (0 : Int), AV.int IntKind.i64 (0 : Int),
                                    AV.int IntKind.u32
                                      (ior IntKind.u32 (iand IntKind.u32 (ishr IntKind.u32 w (4 : Int)) (240 : Int))
                                        (iand IntKind.u32 w (15 : Int))),
                                    AV.bool true, AV.int IntKind.i64 (0 : Int), AV.int IntKind.i64 (0 : Int),
                                    AV.bool false, AV.bool (btB w (20 : Int)), AV.bool false, AV.bool false,
                                    AV.bool (btB w (24 : Int)), AV.bool (btB w (23 : Int)),
                                    AV.bool (btB w (21 : Int) || !btB w (24 : Int)), AV.bool false,
                                    AV.int IntKind.i64 (0 : Int), AV.bool false, AV.bool false, AV.bool false]))
                              (Tree.leaf
                                (AV.agg
                                  [AV.int IntKind.i64 (6 : Int), AV.int IntKind.i64 (base w).cond,
                                    AV.int IntKind.i64 (fld w (5 : Int) (2 : Int)), AV.bool false,
                                    AV.int IntKind.i64 (base w).rd, AV.int IntKind.i64 (base w).rn,
                                    AV.int IntKind.i64 (0 : Int), AV.int IntKind.i64 (base w).rm,
                                    AV.int IntKind.u32 (0 : Int), AV.bool false, AV.int IntKind.i64 (0 : Int),
                                    AV.int IntKind.i64 (0 : Int), AV.bool false, AV.bool (btB w (20 : Int)),
                                    AV.bool false, AV.bool false, AV.bool (btB w (24 : Int)),
                                    AV.bool (btB w (23 : Int)), AV.bool (btB w (21 : Int) || !btB w (24 : Int)),
                                    AV.bool false, AV.int IntKind.i64 (0 : Int), AV.bool false, AV.bool false,
                                    AV.bool false]))))))))))))))) := by kernel_rfl
theorem run62 (W0 : World) (w : Int) (i : Bool) : val (runAuto Try.prog W0 L62 Try.f62 (body Try.f62) 0 0 [.int .u32 w, (base w).av, .bool i] []) =
  Tree.req ((!i) = true → (!i) = true)
    (Tree.req ((!i) = true → (!i) = true)
      (Tree.req ((!i) = true → (!i) = true)
        (Tree.req ((!i) = true → (!i) = true)
          (Tree.ite (!i && iand IntKind.u32 (ishr IntKind.u32 w (4 : Int)) (16777215 : Int) == (1245169 : Int))
            (Tree.leaf
              (AV.agg
                [AV.int IntKind.i64 (5 : Int), AV.int IntKind.i64 (base w).cond, AV.int IntKind.i64 (0 : Int),
                  AV.bool false, AV.int IntKind.i64 (0 : Int), AV.int IntKind.i64 (0 : Int),
                  AV.int IntKind.i64 (0 : Int), AV.int IntKind.i64 (base w).rm, AV.int IntKind.u32 (0 : Int),
                  AV.bool false, AV.int IntKind.i64 (0 : Int), AV.int IntKind.i64 (0 : Int), AV.bool false,
                  AV.bool false, AV.bool false, AV.bool false, AV.bool false, AV.bool false, AV.bool false,
                  AV.bool false, AV.int IntKind.i64 (0 : Int), AV.bool false, AV.bool false, AV.bool false]))
            (Tree.req ((!i) = true → (!i) = true)
              (Tree.req ((!i) = true → (!i) = true)
                (Tree.req ((!i) = true → (!i) = true)
                  (Tree.ite (!i && iand IntKind.u32 w (264179711 : Int) == (17760256 : Int))
                    (Tree.req ((0 : Int) ≤ (22 : Int))
                      (Tree.leaf
                        (AV.agg
                          [AV.int IntKind.i64 (11 : Int), AV.int IntKind.i64 (base w).cond,
                            AV.int IntKind.i64 (0 : Int), AV.bool false, AV.int IntKind.i64 (base w).rd,
                            AV.int IntKind.i64 (0 : Int), AV.int IntKind.i64 (0 : Int), AV.int IntKind.i64 (0 : Int),
                            AV.int IntKind.u32 (0 : Int), AV.bool false, AV.int IntKind.i64 (0 : Int),
                            AV.int IntKind.i64 (0 : Int), AV.bool false, AV.bool false, AV.bool false, AV.bool false,
                            AV.bool false, AV.bool false, AV.bool false, AV.bool (btB w (22 : Int)),
                            AV.int IntKind.i64 (0 : Int), AV.bool false, AV.bool false, AV.bool false])))
                    (Tree.req ((0 : Int) ≤ (21 : Int))
                      (Tree.req (btB w (21 : Int) = true → btB w (21 : Int) = true)
                        (Tree.req (btB w (21 : Int) = true → btB w (21 : Int) = true)
                          (Tree.req (btB w (21 : Int) = true → btB w (21 : Int) = true)
                            (Tree.req
                              ((btB w (21 : Int) && (base w).rd == (15 : Int)) = true →
                                (btB w (21 : Int) && (base w).rd == (15 : Int)) = true)
                              (Tree.req
                                ((btB w (21 : Int) && (base w).rd == (15 : Int) && !i) = true →
                                  (btB w (21 : Int) && (base w).rd == (15 : Int) && !i) = true)
                                (Tree.req
                                  ((btB w (21 : Int) && (base w).rd == (15 : Int) && !i) = true →
                                    (btB w (21 : Int) && (base w).rd == (15 : Int) && !i) = true)
                                  (Tree.req
                                    ((btB w (21 : Int) && (base w).rd == (15 : Int) && !i) = true →
                                      (btB w (21 : Int) && (base w).rd == (15 : Int) && !i) = true)
                                    (Tree.req
                                      ((btB w (21 : Int) && (base w).rd == (15 : Int)) = true →
                                        (btB w (21 : Int) && (base w).rd == (15 : Int)) = true)
                                      (Tree.req
                                        ((btB w (21 : Int) && (base w).rd == (15 : Int)) = true →
                                          i = false → (btB w (21 : Int) && (base w).rd == (15 : Int) && !i) = true)
                                        (Tree.req
                                          ((btB w (21 : Int) && (base w).rd == (15 : Int)) = true →
                                            (btB w (21 : Int) && (base w).rd == (15 : Int)) = true)
                                          (Tree.ite
                                            (btB w (21 : Int) && (base w).rd == (15 : Int) &&
                                              (i ||
                                                iand IntKind.u32 (ishr IntKind.u32 w (4 : Int)) (255 : Int) ==
                                                  (0 : Int)))
                                            (Tree.req ((0 : Int) ≤ (22 : Int))
                                              (Tree.ite i
                                                (Tree.leaf
                                                  (AV.agg
                                                    [AV.int IntKind.i64 (12 : Int), AV.int IntKind.i64 (base w).cond,
                                                      AV.int IntKind.i64 (0 : Int), AV.bool false,
                                                      AV.int IntKind.i64 (0 : Int), AV.int IntKind.i64 (0 : Int),
                                                      AV.int IntKind.i64 (0 : Int), AV.int IntKind.i64 (0 : Int),
                                                      AV.int IntKind.u32 (iand IntKind.u32 w (255 : Int)), AV.bool true,
                                                      AV.int IntKind.i64 (0 : Int), AV.int IntKind.i64 (base w).rs,
                                                      AV.bool false, AV.bool false, AV.bool false, AV.bool false,
                                                      AV.bool false, AV.bool false, AV.bool false,
                                                      AV.bool (btB w (22 : Int)), AV.int IntKind.i64 (base w).rn,
                                                      AV.bool false, AV.bool false, AV.bool false]))
                                                (Tree.leaf
                                                  (AV.agg
                                                    [AV.int IntKind.i64 (12 : Int), AV.int IntKind.i64 (base w).cond,
                                                      AV.int IntKind.i64 (0 : Int), AV.bool false,
                                                      AV.int IntKind.i64 (0 : Int), AV.int IntKind.i64 (0 : Int),
                                                      AV.int IntKind.i64 (0 : Int), AV.int IntKind.i64 (base w).rm,
                                                      AV.int IntKind.u32 (0 : Int), AV.bool false,
                                                      AV.int IntKind.i64 (0 : Int), AV.int IntKind.i64 (0 : Int),
                                                      AV.bool false, AV.bool false, AV.bool false, AV.bool false,
                                                      AV.bool false, AV.bool false, AV.bool false,
                                                      AV.bool (btB w (22 : Int)), AV.int IntKind.i64 (base w).rn,
                                                      AV.bool false, AV.bool false, AV.bool false]))))
                                            (Tree.leaf
                                              (AV.agg
                                                [AV.int IntKind.i64 (0 : Int), AV.int IntKind.i64 (base w).cond,
                                                  AV.int IntKind.i64 (0 : Int), AV.bool false,
                                                  AV.int IntKind.i64 (0 : Int), AV.int IntKind.i64 (0 : Int),
                                                  AV.int IntKind.i64 (0 : Int), AV.int IntKind.i64 (0 : Int),
                                                  AV.int IntKind.u32 (0 : Int), AV.bool false,
                                                  AV.int IntKind.i64 (0 : Int), AV.int IntKind.i64 (0 : Int),
                                                  AV.bool false, AV.bool false, AV.bool false, AV.bool false,
                                                  AV.bool false, AV.bool false, AV.bool false, AV.bool false,
                                                  AV.int IntKind.i64 (0 : Int), AV.bool false, AV.bool false,
                                                  AV.bool false])))))))))))))))))))))) := by kernel_rfl
theorem run41 (W0 : World) (w : Int) : val (runAuto Try.prog W0 L41 Try.f41 (body Try.f41) 0 0 [.int .u32 w, (base w).av] []) =
  Tree.req ((0 : Int) ≤ (5 : Int) ∧ (0 : Int) ≤ (2 : Int))
    (Tree.ite (fld w (5 : Int) (2 : Int) != (0 : Int))
      (Tree.req
        (AV.agg
            [AV.int IntKind.i64 (base w).kind, AV.int IntKind.i64 (base w).cond, AV.int IntKind.i64 (base w).code,
              AV.bool (base w).flags, AV.int IntKind.i64 (base w).rd, AV.int IntKind.i64 (base w).rn,
              AV.int IntKind.i64 (base w).rs, AV.int IntKind.i64 (base w).rm, AV.int IntKind.u32 (base w).imm,
              AV.bool (base w).hasImm, AV.int IntKind.i64 (base w).shift, AV.int IntKind.i64 (base w).amount,
              AV.bool (base w).byReg, AV.bool (base w).load, AV.bool (base w).byte, AV.bool (base w).signed,
              AV.bool (base w).pre, AV.bool (base w).up, AV.bool (base w).back, AV.bool (base w).user,
              AV.int IntKind.i64 (base w).list, AV.bool (base w).link, AV.bool (base w).long, AV.bool (base w).align] =
          (base w).av)
        (Tree.leaf
          (AV.agg
            [AV.int IntKind.i64 (halfI w).kind, AV.int IntKind.i64 (halfI w).cond, AV.int IntKind.i64 (halfI w).code,
              AV.bool (halfI w).flags, AV.int IntKind.i64 (halfI w).rd, AV.int IntKind.i64 (halfI w).rn,
              AV.int IntKind.i64 (halfI w).rs, AV.int IntKind.i64 (halfI w).rm, AV.int IntKind.u32 (halfI w).imm,
              AV.bool (halfI w).hasImm, AV.int IntKind.i64 (halfI w).shift, AV.int IntKind.i64 (halfI w).amount,
              AV.bool (halfI w).byReg, AV.bool (halfI w).load, AV.bool (halfI w).byte, AV.bool (halfI w).signed,
              AV.bool (halfI w).pre, AV.bool (halfI w).up, AV.bool (halfI w).back, AV.bool (halfI w).user,
              AV.int IntKind.i64 (halfI w).list, AV.bool (halfI w).link, AV.bool (halfI w).long,
              AV.bool (halfI w).align])))
      (Tree.req ((0 : Int) ≤ (22 : Int) ∧ (0 : Int) ≤ (6 : Int))
        (Tree.ite (fld w (22 : Int) (6 : Int) == (0 : Int))
          (Tree.req ((0 : Int) ≤ (20 : Int))
            (Tree.req ((0 : Int) ≤ (21 : Int))
              (Tree.leaf
                (AV.agg
                  [AV.int IntKind.i64 (2 : Int), AV.int IntKind.i64 (base w).cond, AV.int IntKind.i64 (0 : Int),
                    AV.bool (btB w (20 : Int)), AV.int IntKind.i64 (base w).rn, AV.int IntKind.i64 (base w).rd,
                    AV.int IntKind.i64 (base w).rs, AV.int IntKind.i64 (base w).rm, AV.int IntKind.u32 (0 : Int),
                    AV.bool false, AV.int IntKind.i64 (0 : Int), AV.int IntKind.i64 (0 : Int), AV.bool false,
                    AV.bool false, AV.bool false, AV.bool false, AV.bool false, AV.bool false, AV.bool false,
                    AV.bool false, AV.int IntKind.i64 (0 : Int), AV.bool false, AV.bool (btB w (21 : Int)),
                    AV.bool false]))))
          (Tree.req ((0 : Int) ≤ (23 : Int) ∧ (0 : Int) ≤ (5 : Int))
            (Tree.ite (fld w (23 : Int) (5 : Int) == (1 : Int))
              (Tree.req ((0 : Int) ≤ (20 : Int))
                (Tree.req ((0 : Int) ≤ (21 : Int))
                  (Tree.req ((0 : Int) ≤ (22 : Int))
                    (Tree.leaf
                      (AV.agg
                        [AV.int IntKind.i64 (3 : Int), AV.int IntKind.i64 (base w).cond, AV.int IntKind.i64 (0 : Int),
                          AV.bool (btB w (20 : Int)), AV.int IntKind.i64 (base w).rn, AV.int IntKind.i64 (base w).rd,
                          AV.int IntKind.i64 (base w).rs, AV.int IntKind.i64 (base w).rm, AV.int IntKind.u32 (0 : Int),
                          AV.bool false, AV.int IntKind.i64 (0 : Int), AV.int IntKind.i64 (0 : Int), AV.bool false,
                          AV.bool false, AV.bool false, AV.bool (btB w (22 : Int)), AV.bool false, AV.bool false,
                          AV.bool false, AV.bool false, AV.int IntKind.i64 (0 : Int), AV.bool false,
                          AV.bool (btB w (21 : Int)), AV.bool false])))))
              (Tree.req ((0 : Int) ≤ (23 : Int) ∧ (0 : Int) ≤ (5 : Int))
                (Tree.req
                  ((fld w (23 : Int) (5 : Int) == (2 : Int)) = true → (fld w (23 : Int) (5 : Int) == (2 : Int)) = true)
                  (Tree.req
                    ((fld w (23 : Int) (5 : Int) == (2 : Int)) = true → (0 : Int) ≤ (20 : Int) ∧ (0 : Int) ≤ (2 : Int))
                    (Tree.req
                      ((fld w (23 : Int) (5 : Int) == (2 : Int)) = true →
                        (fld w (23 : Int) (5 : Int) == (2 : Int)) = true)
                      (Tree.req
                        ((fld w (23 : Int) (5 : Int) == (2 : Int)) = true →
                          (fld w (23 : Int) (5 : Int) == (2 : Int)) = true)
                        (Tree.req
                          ((fld w (23 : Int) (5 : Int) == (2 : Int) && fld w (20 : Int) (2 : Int) == (0 : Int)) = true →
                            (fld w (23 : Int) (5 : Int) == (2 : Int) && fld w (20 : Int) (2 : Int) == (0 : Int)) = true)
                          (Tree.req
                            ((fld w (23 : Int) (5 : Int) == (2 : Int) && fld w (20 : Int) (2 : Int) == (0 : Int)) =
                                true →
                              (fld w (23 : Int) (5 : Int) == (2 : Int) && fld w (20 : Int) (2 : Int) == (0 : Int)) =
                                true)
                            (Tree.req
                              ((fld w (23 : Int) (5 : Int) == (2 : Int) && fld w (20 : Int) (2 : Int) == (0 : Int)) =
                                  true →
                                (fld w (23 : Int) (5 : Int) == (2 : Int) && fld w (20 : Int) (2 : Int) == (0 : Int)) =
                                  true)
                              (Tree.ite
                                (fld w (23 : Int) (5 : Int) == (2 : Int) && fld w (20 : Int) (2 : Int) == (0 : Int) &&
                                  (base w).rs == (0 : Int))
                                (Tree.req ((0 : Int) ≤ (22 : Int))
                                  (Tree.leaf
                                    (AV.agg
                                      [AV.int IntKind.i64 (4 : Int), AV.int IntKind.i64 (base w).cond,
                                        AV.int IntKind.i64 (0 : Int), AV.bool false, AV.int IntKind.i64 (base w).rd,
                                        AV.int IntKind.i64 (base w).rn, AV.int IntKind.i64 (0 : Int),
                                        AV.int IntKind.i64 (base w).rm, AV.int IntKind.u32 (0 : Int), AV.bool false,
                                        AV.int IntKind.i64 (0 : Int), AV.int IntKind.i64 (0 : Int), AV.bool false,
                                        AV.bool false, AV.bool (btB w (22 : Int)), AV.bool false, AV.bool false,
                                        AV.bool false, AV.bool false, AV.bool false, AV.int IntKind.i64 (0 : Int),
                                        AV.bool false, AV.bool false, AV.bool false])))
                                (Tree.leaf
                                  (AV.agg
                                    [AV.int IntKind.i64 (0 : Int), AV.int IntKind.i64 (base w).cond,
                                      AV.int IntKind.i64 (0 : Int), AV.bool false, AV.int IntKind.i64 (0 : Int),
                                      AV.int IntKind.i64 (0 : Int), AV.int IntKind.i64 (0 : Int),
                                      AV.int IntKind.i64 (0 : Int), AV.int IntKind.u32 (0 : Int), AV.bool false,
                                      AV.int IntKind.i64 (0 : Int), AV.int IntKind.i64 (0 : Int), AV.bool false,
                                      AV.bool false, AV.bool false, AV.bool false, AV.bool false, AV.bool false,
                                      AV.bool false, AV.bool false, AV.int IntKind.i64 (0 : Int), AV.bool false,
                                      AV.bool false, AV.bool false])))))))))))))))) := by kernel_rfl
theorem run42 (W0 : World) (w : Int) (i : Bool) : val (runAuto Try.prog W0 L42 Try.f42 (body Try.f42) 0 0 [.int .u32 w, (base w).av, .bool i] []) =
  Tree.req ((0 : Int) ≤ (21 : Int) ∧ (0 : Int) ≤ (4 : Int))
    (Tree.req
      ((ishr IntKind.i64 (fld w (21 : Int) (4 : Int)) (2 : Int) == (2 : Int)) = true →
        (ishr IntKind.i64 (fld w (21 : Int) (4 : Int)) (2 : Int) == (2 : Int)) = true)
      (Tree.req ((ishr IntKind.i64 (fld w (21 : Int) (4 : Int)) (2 : Int) == (2 : Int)) = true → (0 : Int) ≤ (20 : Int))
        (Tree.req
          ((ishr IntKind.i64 (fld w (21 : Int) (4 : Int)) (2 : Int) == (2 : Int)) = true →
            (ishr IntKind.i64 (fld w (21 : Int) (4 : Int)) (2 : Int) == (2 : Int)) = true)
          (Tree.req
            ((ishr IntKind.i64 (fld w (21 : Int) (4 : Int)) (2 : Int) == (2 : Int)) = true →
              (ishr IntKind.i64 (fld w (21 : Int) (4 : Int)) (2 : Int) == (2 : Int)) = true)
            (Tree.ite (ishr IntKind.i64 (fld w (21 : Int) (4 : Int)) (2 : Int) == (2 : Int) && !btB w (20 : Int))
              (Tree.req
                (AV.agg
                    [AV.int IntKind.i64 (base w).kind, AV.int IntKind.i64 (base w).cond,
                      AV.int IntKind.i64 (base w).code, AV.bool (base w).flags, AV.int IntKind.i64 (base w).rd,
                      AV.int IntKind.i64 (base w).rn, AV.int IntKind.i64 (base w).rs, AV.int IntKind.i64 (base w).rm,
                      AV.int IntKind.u32 (base w).imm, AV.bool (base w).hasImm, AV.int IntKind.i64 (base w).shift,
                      AV.int IntKind.i64 (base w).amount, AV.bool (base w).byReg, AV.bool (base w).load,
                      AV.bool (base w).byte, AV.bool (base w).signed, AV.bool (base w).pre, AV.bool (base w).up,
                      AV.bool (base w).back, AV.bool (base w).user, AV.int IntKind.i64 (base w).list,
                      AV.bool (base w).link, AV.bool (base w).long, AV.bool (base w).align] =
                  (base w).av)
                (Tree.leaf
                  (AV.agg
                    [AV.int IntKind.i64 (statusI w i).kind, AV.int IntKind.i64 (statusI w i).cond,
                      AV.int IntKind.i64 (statusI w i).code, AV.bool (statusI w i).flags,
                      AV.int IntKind.i64 (statusI w i).rd, AV.int IntKind.i64 (statusI w i).rn,
                      AV.int IntKind.i64 (statusI w i).rs, AV.int IntKind.i64 (statusI w i).rm,
                      AV.int IntKind.u32 (statusI w i).imm, AV.bool (statusI w i).hasImm,
                      AV.int IntKind.i64 (statusI w i).shift, AV.int IntKind.i64 (statusI w i).amount,
                      AV.bool (statusI w i).byReg, AV.bool (statusI w i).load, AV.bool (statusI w i).byte,
                      AV.bool (statusI w i).signed, AV.bool (statusI w i).pre, AV.bool (statusI w i).up,
                      AV.bool (statusI w i).back, AV.bool (statusI w i).user, AV.int IntKind.i64 (statusI w i).list,
                      AV.bool (statusI w i).link, AV.bool (statusI w i).long, AV.bool (statusI w i).align])))
              (Tree.req ((0 : Int) ≤ (20 : Int))
                (Tree.ite i
                  (Tree.leaf
                    (AV.agg
                      [AV.int IntKind.i64 (1 : Int), AV.int IntKind.i64 (base w).cond,
                        AV.int IntKind.i64 (fld w (21 : Int) (4 : Int)), AV.bool (btB w (20 : Int)),
                        AV.int IntKind.i64 (base w).rd, AV.int IntKind.i64 (base w).rn, AV.int IntKind.i64 (0 : Int),
                        AV.int IntKind.i64 (0 : Int), AV.int IntKind.u32 (iand IntKind.u32 w (255 : Int)), AV.bool true,
                        AV.int IntKind.i64 (0 : Int), AV.int IntKind.i64 (base w).rs, AV.bool false, AV.bool false,
                        AV.bool false, AV.bool false, AV.bool false, AV.bool false, AV.bool false, AV.bool false,
                        AV.int IntKind.i64 (0 : Int), AV.bool false, AV.bool false, AV.bool false]))
                  (Tree.req ((0 : Int) ≤ (5 : Int) ∧ (0 : Int) ≤ (2 : Int))
                    (Tree.req ((0 : Int) ≤ (4 : Int))
                      (Tree.ite (btB w (4 : Int))
                        (Tree.leaf
                          (AV.agg
                            [AV.int IntKind.i64 (1 : Int), AV.int IntKind.i64 (base w).cond,
                              AV.int IntKind.i64 (fld w (21 : Int) (4 : Int)), AV.bool (btB w (20 : Int)),
                              AV.int IntKind.i64 (base w).rd, AV.int IntKind.i64 (base w).rn,
                              AV.int IntKind.i64 (base w).rs, AV.int IntKind.i64 (base w).rm,
                              AV.int IntKind.u32 (0 : Int), AV.bool false,
                              AV.int IntKind.i64 (fld w (5 : Int) (2 : Int)), AV.int IntKind.i64 (0 : Int),
                              AV.bool true, AV.bool false, AV.bool false, AV.bool false, AV.bool false, AV.bool false,
                              AV.bool false, AV.bool false, AV.int IntKind.i64 (0 : Int), AV.bool false, AV.bool false,
                              AV.bool false]))
                        (Tree.req ((0 : Int) ≤ (7 : Int) ∧ (0 : Int) ≤ (5 : Int))
                          (Tree.leaf
                            (AV.agg
                              [AV.int IntKind.i64 (1 : Int), AV.int IntKind.i64 (base w).cond,
                                AV.int IntKind.i64 (fld w (21 : Int) (4 : Int)), AV.bool (btB w (20 : Int)),
                                AV.int IntKind.i64 (base w).rd, AV.int IntKind.i64 (base w).rn,
                                AV.int IntKind.i64 (0 : Int), AV.int IntKind.i64 (base w).rm,
                                AV.int IntKind.u32 (0 : Int), AV.bool false,
                                AV.int IntKind.i64 (fld w (5 : Int) (2 : Int)),
                                AV.int IntKind.i64 (fld w (7 : Int) (5 : Int)), AV.bool false, AV.bool false,
                                AV.bool false, AV.bool false, AV.bool false, AV.bool false, AV.bool false,
                                AV.bool false, AV.int IntKind.i64 (0 : Int), AV.bool false, AV.bool false,
                                AV.bool false]))))))))))))) := by kernel_rfl
theorem run43 (W0 : World) (w : Int) : val (runAuto Try.prog W0 L43 Try.f43 (body Try.f43) 0 0 [.int .u32 w, (base w).av] []) =
  Tree.req ((0 : Int) ≤ (25 : Int))
    (Tree.req (btB w (25 : Int) = true → btB w (25 : Int) = true)
      (Tree.req (btB w (25 : Int) = true → (0 : Int) ≤ (4 : Int))
        (Tree.req (btB w (25 : Int) = true → btB w (25 : Int) = true)
          (Tree.ite (btB w (25 : Int) && btB w (4 : Int))
            (Tree.leaf
              (AV.agg
                [AV.int IntKind.i64 (0 : Int), AV.int IntKind.i64 (base w).cond, AV.int IntKind.i64 (0 : Int),
                  AV.bool false, AV.int IntKind.i64 (0 : Int), AV.int IntKind.i64 (0 : Int),
                  AV.int IntKind.i64 (0 : Int), AV.int IntKind.i64 (0 : Int), AV.int IntKind.u32 (0 : Int),
                  AV.bool false, AV.int IntKind.i64 (0 : Int), AV.int IntKind.i64 (0 : Int), AV.bool false,
                  AV.bool false, AV.bool false, AV.bool false, AV.bool false, AV.bool false, AV.bool false,
                  AV.bool false, AV.int IntKind.i64 (0 : Int), AV.bool false, AV.bool false, AV.bool false]))
            (Tree.req ((0 : Int) ≤ (20 : Int))
              (Tree.req ((0 : Int) ≤ (22 : Int))
                (Tree.req ((0 : Int) ≤ (24 : Int))
                  (Tree.req ((0 : Int) ≤ (23 : Int))
                    (Tree.req ((0 : Int) ≤ (21 : Int))
                      (Tree.req ((!btB w (21 : Int)) = true → (!btB w (21 : Int)) = true)
                        (Tree.req ((!btB w (21 : Int)) = true → (0 : Int) ≤ (24 : Int))
                          (Tree.req ((!btB w (21 : Int)) = true → (!btB w (21 : Int)) = true)
                            (Tree.req (btB w (21 : Int) = false → (!btB w (21 : Int)) = true)
                              (Tree.req ((0 : Int) ≤ (25 : Int))
                                (Tree.ite (!btB w (25 : Int))
                                  (Tree.leaf
                                    (AV.agg
                                      [AV.int IntKind.i64 (7 : Int), AV.int IntKind.i64 (base w).cond,
                                        AV.int IntKind.i64 (0 : Int), AV.bool false, AV.int IntKind.i64 (base w).rd,
                                        AV.int IntKind.i64 (base w).rn, AV.int IntKind.i64 (0 : Int),
                                        AV.int IntKind.i64 (0 : Int),
                                        AV.int IntKind.u32 (iand IntKind.u32 w (4095 : Int)), AV.bool true,
                                        AV.int IntKind.i64 (0 : Int), AV.int IntKind.i64 (0 : Int), AV.bool false,
                                        AV.bool (btB w (20 : Int)), AV.bool (btB w (22 : Int)), AV.bool false,
                                        AV.bool (btB w (24 : Int)), AV.bool (btB w (23 : Int)),
                                        AV.bool (btB w (21 : Int) || !btB w (24 : Int)), AV.bool false,
                                        AV.int IntKind.i64 (0 : Int), AV.bool false, AV.bool false, AV.bool false]))
                                  (Tree.req ((0 : Int) ≤ (5 : Int) ∧ (0 : Int) ≤ (2 : Int))
                                    (Tree.req ((0 : Int) ≤ (7 : Int) ∧ (0 : Int) ≤ (5 : Int))
                                      (Tree.leaf
                                        (AV.agg
                                          [AV.int IntKind.i64 (7 : Int), AV.int IntKind.i64 (base w).cond,
                                            AV.int IntKind.i64 (0 : Int), AV.bool false, AV.int IntKind.i64 (base w).rd,
                                            AV.int IntKind.i64 (base w).rn, AV.int IntKind.i64 (0 : Int),
                                            AV.int IntKind.i64 (base w).rm, AV.int IntKind.u32 (0 : Int), AV.bool false,
                                            AV.int IntKind.i64 (fld w (5 : Int) (2 : Int)),
                                            AV.int IntKind.i64 (fld w (7 : Int) (5 : Int)), AV.bool false,
                                            AV.bool (btB w (20 : Int)), AV.bool (btB w (22 : Int)), AV.bool false,
                                            AV.bool (btB w (24 : Int)), AV.bool (btB w (23 : Int)),
                                            AV.bool (btB w (21 : Int) || !btB w (24 : Int)), AV.bool false,
                                            AV.int IntKind.i64 (0 : Int), AV.bool false, AV.bool false,
                                            AV.bool false]))))))))))))))))))) := by kernel_rfl
theorem run44 (W0 : World) (w : Int) : val (runAuto Try.prog W0 L44 Try.f44 (body Try.f44) 0 0 [.int .u32 w, (base w).av] []) =
  Tree.req ((0 : Int) ≤ (20 : Int))
    (Tree.req ((0 : Int) ≤ (24 : Int))
      (Tree.req ((0 : Int) ≤ (23 : Int))
        (Tree.req ((0 : Int) ≤ (22 : Int))
          (Tree.req ((0 : Int) ≤ (21 : Int))
            (Tree.leaf
              (AV.agg
                [AV.int IntKind.i64 (8 : Int), AV.int IntKind.i64 (base w).cond, AV.int IntKind.i64 (0 : Int),
                  AV.bool false, AV.int IntKind.i64 (0 : Int), AV.int IntKind.i64 (base w).rn,
                  AV.int IntKind.i64 (0 : Int), AV.int IntKind.i64 (0 : Int), AV.int IntKind.u32 (0 : Int),
                  AV.bool false, AV.int IntKind.i64 (0 : Int), AV.int IntKind.i64 (0 : Int), AV.bool false,
                  AV.bool (btB w (20 : Int)), AV.bool false, AV.bool false, AV.bool (btB w (24 : Int)),
                  AV.bool (btB w (23 : Int)), AV.bool (btB w (21 : Int)), AV.bool (btB w (22 : Int)),
                  AV.int IntKind.i64 (iand IntKind.u32 w (65535 : Int)), AV.bool false, AV.bool false,
                  AV.bool false])))))) := by kernel_rfl
theorem run14 (W0 : World) (w : Int) : val (runAuto Try.prog W0 L14 Try.f14 (body Try.f14) 0 0 [.int .u32 w] []) =
  Tree.req ((0 : Int) ≤ (28 : Int) ∧ (0 : Int) ≤ (4 : Int))
    (Tree.req ((0 : Int) ≤ (16 : Int) ∧ (0 : Int) ≤ (4 : Int))
      (Tree.req ((0 : Int) ≤ (12 : Int) ∧ (0 : Int) ≤ (4 : Int))
        (Tree.req ((0 : Int) ≤ (8 : Int) ∧ (0 : Int) ≤ (4 : Int))
          (Tree.req ((0 : Int) ≤ (0 : Int) ∧ (0 : Int) ≤ (4 : Int))
            (Tree.req ((0 : Int) ≤ (25 : Int) ∧ (0 : Int) ≤ (3 : Int))
              (Tree.ite (fld w (25 : Int) (3 : Int) == (0 : Int))
                (Tree.req ((0 : Int) ≤ (7 : Int))
                  (Tree.req (btB w (7 : Int) = true → btB w (7 : Int) = true)
                    (Tree.req (btB w (7 : Int) = true → (0 : Int) ≤ (4 : Int))
                      (Tree.req (btB w (7 : Int) = true → btB w (7 : Int) = true)
                        (Tree.ite (btB w (7 : Int) && btB w (4 : Int))
                          (Tree.req
                            (AV.agg
                                [AV.int IntKind.i64 (0 : Int), AV.int IntKind.i64 (fld w (28 : Int) (4 : Int)),
                                  AV.int IntKind.i64 (0 : Int), AV.bool false,
                                  AV.int IntKind.i64 (fld w (12 : Int) (4 : Int)),
                                  AV.int IntKind.i64 (fld w (16 : Int) (4 : Int)),
                                  AV.int IntKind.i64 (fld w (8 : Int) (4 : Int)),
                                  AV.int IntKind.i64 (fld w (0 : Int) (4 : Int)), AV.int IntKind.u32 (0 : Int),
                                  AV.bool false, AV.int IntKind.i64 (0 : Int), AV.int IntKind.i64 (0 : Int),
                                  AV.bool false, AV.bool false, AV.bool false, AV.bool false, AV.bool false,
                                  AV.bool false, AV.bool false, AV.bool false, AV.int IntKind.i64 (0 : Int),
                                  AV.bool false, AV.bool false, AV.bool false] =
                              (base w).av)
                            (Tree.leaf
                              (AV.agg
                                [AV.int IntKind.i64 (extraI w).kind, AV.int IntKind.i64 (extraI w).cond,
                                  AV.int IntKind.i64 (extraI w).code, AV.bool (extraI w).flags,
                                  AV.int IntKind.i64 (extraI w).rd, AV.int IntKind.i64 (extraI w).rn,
                                  AV.int IntKind.i64 (extraI w).rs, AV.int IntKind.i64 (extraI w).rm,
                                  AV.int IntKind.u32 (extraI w).imm, AV.bool (extraI w).hasImm,
                                  AV.int IntKind.i64 (extraI w).shift, AV.int IntKind.i64 (extraI w).amount,
                                  AV.bool (extraI w).byReg, AV.bool (extraI w).load, AV.bool (extraI w).byte,
                                  AV.bool (extraI w).signed, AV.bool (extraI w).pre, AV.bool (extraI w).up,
                                  AV.bool (extraI w).back, AV.bool (extraI w).user, AV.int IntKind.i64 (extraI w).list,
                                  AV.bool (extraI w).link, AV.bool (extraI w).long, AV.bool (extraI w).align])))
                          (Tree.req
                            (AV.agg
                                [AV.int IntKind.i64 (0 : Int), AV.int IntKind.i64 (fld w (28 : Int) (4 : Int)),
                                  AV.int IntKind.i64 (0 : Int), AV.bool false,
                                  AV.int IntKind.i64 (fld w (12 : Int) (4 : Int)),
                                  AV.int IntKind.i64 (fld w (16 : Int) (4 : Int)),
                                  AV.int IntKind.i64 (fld w (8 : Int) (4 : Int)),
                                  AV.int IntKind.i64 (fld w (0 : Int) (4 : Int)), AV.int IntKind.u32 (0 : Int),
                                  AV.bool false, AV.int IntKind.i64 (0 : Int), AV.int IntKind.i64 (0 : Int),
                                  AV.bool false, AV.bool false, AV.bool false, AV.bool false, AV.bool false,
                                  AV.bool false, AV.bool false, AV.bool false, AV.int IntKind.i64 (0 : Int),
                                  AV.bool false, AV.bool false, AV.bool false] =
                              (base w).av)
                            (Tree.leaf
                              (AV.agg
                                [AV.int IntKind.i64 (dataI w false).kind, AV.int IntKind.i64 (dataI w false).cond,
                                  AV.int IntKind.i64 (dataI w false).code, AV.bool (dataI w false).flags,
                                  AV.int IntKind.i64 (dataI w false).rd, AV.int IntKind.i64 (dataI w false).rn,
                                  AV.int IntKind.i64 (dataI w false).rs, AV.int IntKind.i64 (dataI w false).rm,
                                  AV.int IntKind.u32 (dataI w false).imm, AV.bool (dataI w false).hasImm,
                                  AV.int IntKind.i64 (dataI w false).shift, AV.int IntKind.i64 (dataI w false).amount,
                                  AV.bool (dataI w false).byReg, AV.bool (dataI w false).load,
                                  AV.bool (dataI w false).byte, AV.bool (dataI w false).signed,
                                  AV.bool (dataI w false).pre, AV.bool (dataI w false).up, AV.bool (dataI w false).back,
                                  AV.bool (dataI w false).user, AV.int IntKind.i64 (dataI w false).list,
                                  AV.bool (dataI w false).link, AV.bool (dataI w false).long,
                                  AV.bool (dataI w false).align]))))))))
                (Tree.ite (fld w (25 : Int) (3 : Int) == (1 : Int))
                  (Tree.req
                    (AV.agg
                        [AV.int IntKind.i64 (0 : Int), AV.int IntKind.i64 (fld w (28 : Int) (4 : Int)),
                          AV.int IntKind.i64 (0 : Int), AV.bool false, AV.int IntKind.i64 (fld w (12 : Int) (4 : Int)),
                          AV.int IntKind.i64 (fld w (16 : Int) (4 : Int)),
                          AV.int IntKind.i64 (fld w (8 : Int) (4 : Int)),
                          AV.int IntKind.i64 (fld w (0 : Int) (4 : Int)), AV.int IntKind.u32 (0 : Int), AV.bool false,
                          AV.int IntKind.i64 (0 : Int), AV.int IntKind.i64 (0 : Int), AV.bool false, AV.bool false,
                          AV.bool false, AV.bool false, AV.bool false, AV.bool false, AV.bool false, AV.bool false,
                          AV.int IntKind.i64 (0 : Int), AV.bool false, AV.bool false, AV.bool false] =
                      (base w).av)
                    (Tree.leaf
                      (AV.agg
                        [AV.int IntKind.i64 (dataI w true).kind, AV.int IntKind.i64 (dataI w true).cond,
                          AV.int IntKind.i64 (dataI w true).code, AV.bool (dataI w true).flags,
                          AV.int IntKind.i64 (dataI w true).rd, AV.int IntKind.i64 (dataI w true).rn,
                          AV.int IntKind.i64 (dataI w true).rs, AV.int IntKind.i64 (dataI w true).rm,
                          AV.int IntKind.u32 (dataI w true).imm, AV.bool (dataI w true).hasImm,
                          AV.int IntKind.i64 (dataI w true).shift, AV.int IntKind.i64 (dataI w true).amount,
                          AV.bool (dataI w true).byReg, AV.bool (dataI w true).load, AV.bool (dataI w true).byte,
                          AV.bool (dataI w true).signed, AV.bool (dataI w true).pre, AV.bool (dataI w true).up,
                          AV.bool (dataI w true).back, AV.bool (dataI w true).user,
                          AV.int IntKind.i64 (dataI w true).list, AV.bool (dataI w true).link,
                          AV.bool (dataI w true).long, AV.bool (dataI w true).align])))
                  (Tree.ite
                    (bif fld w (25 : Int) (3 : Int) == (2 : Int) then fld w (25 : Int) (3 : Int) == (2 : Int)
                    else fld w (25 : Int) (3 : Int) == (3 : Int))
                    (Tree.req
                      (AV.agg
                          [AV.int IntKind.i64 (0 : Int), AV.int IntKind.i64 (fld w (28 : Int) (4 : Int)),
                            AV.int IntKind.i64 (0 : Int), AV.bool false,
                            AV.int IntKind.i64 (fld w (12 : Int) (4 : Int)),
                            AV.int IntKind.i64 (fld w (16 : Int) (4 : Int)),
                            AV.int IntKind.i64 (fld w (8 : Int) (4 : Int)),
                            AV.int IntKind.i64 (fld w (0 : Int) (4 : Int)), AV.int IntKind.u32 (0 : Int), AV.bool false,
                            AV.int IntKind.i64 (0 : Int), AV.int IntKind.i64 (0 : Int), AV.bool false, AV.bool false,
                            AV.bool false, AV.bool false, AV.bool false, AV.bool false, AV.bool false, AV.bool false,
                            AV.int IntKind.i64 (0 : Int), AV.bool false, AV.bool false, AV.bool false] =
                        (base w).av)
                      (Tree.leaf
                        (AV.agg
                          [AV.int IntKind.i64 (wordI w).kind, AV.int IntKind.i64 (wordI w).cond,
                            AV.int IntKind.i64 (wordI w).code, AV.bool (wordI w).flags, AV.int IntKind.i64 (wordI w).rd,
                            AV.int IntKind.i64 (wordI w).rn, AV.int IntKind.i64 (wordI w).rs,
                            AV.int IntKind.i64 (wordI w).rm, AV.int IntKind.u32 (wordI w).imm, AV.bool (wordI w).hasImm,
                            AV.int IntKind.i64 (wordI w).shift, AV.int IntKind.i64 (wordI w).amount,
                            AV.bool (wordI w).byReg, AV.bool (wordI w).load, AV.bool (wordI w).byte,
                            AV.bool (wordI w).signed, AV.bool (wordI w).pre, AV.bool (wordI w).up,
                            AV.bool (wordI w).back, AV.bool (wordI w).user, AV.int IntKind.i64 (wordI w).list,
                            AV.bool (wordI w).link, AV.bool (wordI w).long, AV.bool (wordI w).align])))
                    (Tree.ite (fld w (25 : Int) (3 : Int) == (4 : Int))
                      (Tree.req
                        (AV.agg
                            [AV.int IntKind.i64 (0 : Int), AV.int IntKind.i64 (fld w (28 : Int) (4 : Int)),
                              AV.int IntKind.i64 (0 : Int), AV.bool false,
                              AV.int IntKind.i64 (fld w (12 : Int) (4 : Int)),
                              AV.int IntKind.i64 (fld w (16 : Int) (4 : Int)),
                              AV.int IntKind.i64 (fld w (8 : Int) (4 : Int)),
                              AV.int IntKind.i64 (fld w (0 : Int) (4 : Int)), AV.int IntKind.u32 (0 : Int),
                              AV.bool false, AV.int IntKind.i64 (0 : Int), AV.int IntKind.i64 (0 : Int), AV.bool false,
                              AV.bool false, AV.bool false, AV.bool false, AV.bool false, AV.bool false, AV.bool false,
                              AV.bool false, AV.int IntKind.i64 (0 : Int), AV.bool false, AV.bool false,
                              AV.bool false] =
                          (base w).av)
                        (Tree.leaf
                          (AV.agg
                            [AV.int IntKind.i64 (blockI w).kind, AV.int IntKind.i64 (blockI w).cond,
                              AV.int IntKind.i64 (blockI w).code, AV.bool false, AV.int IntKind.i64 (blockI w).rd,
                              AV.int IntKind.i64 (blockI w).rn, AV.int IntKind.i64 (blockI w).rs,
                              AV.int IntKind.i64 (blockI w).rm, AV.int IntKind.u32 (blockI w).imm, AV.bool false,
                              AV.int IntKind.i64 (blockI w).shift, AV.int IntKind.i64 (blockI w).amount, AV.bool false,
                              AV.bool (blockI w).load, AV.bool false, AV.bool false, AV.bool (blockI w).pre,
                              AV.bool (blockI w).up, AV.bool (blockI w).back, AV.bool (blockI w).user,
                              AV.int IntKind.i64 (blockI w).list, AV.bool false, AV.bool false, AV.bool false])))
                      (Tree.ite (fld w (25 : Int) (3 : Int) == (5 : Int))
                        (Tree.req ((0 : Int) ≤ (24 : Int))
                          (Tree.leaf
                            (AV.agg
                              [AV.int IntKind.i64 (9 : Int), AV.int IntKind.i64 (fld w (28 : Int) (4 : Int)),
                                AV.int IntKind.i64 (0 : Int), AV.bool false, AV.int IntKind.i64 (0 : Int),
                                AV.int IntKind.i64 (0 : Int), AV.int IntKind.i64 (0 : Int),
                                AV.int IntKind.i64 (0 : Int),
                                AV.int IntKind.u32
                                  (wr IntKind.u32
                                    (ishr IntKind.i32 (wr IntKind.i32 (ishl IntKind.u32 w (8 : Int))) (6 : Int))),
                                AV.bool false, AV.int IntKind.i64 (0 : Int), AV.int IntKind.i64 (0 : Int),
                                AV.bool false, AV.bool false, AV.bool false, AV.bool false, AV.bool false,
                                AV.bool false, AV.bool false, AV.bool false, AV.int IntKind.i64 (0 : Int),
                                AV.bool (btB w (24 : Int)), AV.bool false, AV.bool false])))
                        (Tree.ite (fld w (25 : Int) (3 : Int) == (7 : Int))
                          (Tree.req ((0 : Int) ≤ (24 : Int))
                            (Tree.ite (btB w (24 : Int))
                              (Tree.leaf
                                (AV.agg
                                  [AV.int IntKind.i64 (10 : Int), AV.int IntKind.i64 (fld w (28 : Int) (4 : Int)),
                                    AV.int IntKind.i64 (0 : Int), AV.bool false, AV.int IntKind.i64 (0 : Int),
                                    AV.int IntKind.i64 (0 : Int), AV.int IntKind.i64 (0 : Int),
                                    AV.int IntKind.i64 (0 : Int),
                                    AV.int IntKind.u32 (iand IntKind.u32 (ishr IntKind.u32 w (16 : Int)) (255 : Int)),
                                    AV.bool false, AV.int IntKind.i64 (0 : Int), AV.int IntKind.i64 (0 : Int),
                                    AV.bool false, AV.bool false, AV.bool false, AV.bool false, AV.bool false,
                                    AV.bool false, AV.bool false, AV.bool false, AV.int IntKind.i64 (0 : Int),
                                    AV.bool false, AV.bool false, AV.bool false]))
                              (Tree.leaf
                                (AV.agg
                                  [AV.int IntKind.i64 (0 : Int), AV.int IntKind.i64 (fld w (28 : Int) (4 : Int)),
                                    AV.int IntKind.i64 (0 : Int), AV.bool false, AV.int IntKind.i64 (0 : Int),
                                    AV.int IntKind.i64 (0 : Int), AV.int IntKind.i64 (0 : Int),
                                    AV.int IntKind.i64 (0 : Int), AV.int IntKind.u32 (0 : Int), AV.bool false,
                                    AV.int IntKind.i64 (0 : Int), AV.int IntKind.i64 (0 : Int), AV.bool false,
                                    AV.bool false, AV.bool false, AV.bool false, AV.bool false, AV.bool false,
                                    AV.bool false, AV.bool false, AV.int IntKind.i64 (0 : Int), AV.bool false,
                                    AV.bool false, AV.bool false]))))
                          (Tree.leaf
                            (AV.agg
                              [AV.int IntKind.i64 (0 : Int), AV.int IntKind.i64 (fld w (28 : Int) (4 : Int)),
                                AV.int IntKind.i64 (0 : Int), AV.bool false, AV.int IntKind.i64 (0 : Int),
                                AV.int IntKind.i64 (0 : Int), AV.int IntKind.i64 (0 : Int),
                                AV.int IntKind.i64 (0 : Int), AV.int IntKind.u32 (0 : Int), AV.bool false,
                                AV.int IntKind.i64 (0 : Int), AV.int IntKind.i64 (0 : Int), AV.bool false,
                                AV.bool false, AV.bool false, AV.bool false, AV.bool false, AV.bool false,
                                AV.bool false, AV.bool false, AV.int IntKind.i64 (0 : Int), AV.bool false,
                                AV.bool false, AV.bool false]))))))))))))) := by kernel_rfl

theorem ok39 {W0 : World} : SpecOk Try.prog W0 39 (Con.pure g39).spec where
  there := ⟨Try.f39, Try.func39, by kernel_rfl, by kernel_rfl⟩
  ok := fun args hp => by
    show CallOk _ _ _ _ _ (.pure (g39 args hp))
    unfold g39
    split
    · rename_i w a n
      refine auto_valOk (c := body Try.f39) (mkE_nil mixed) Try.func39 (by kernel_rfl) (by kernel_rfl) 0 0 trivial (by kernel_rfl) ?_
      rintro K ⟨⟨h1, h2⟩, hk⟩
      refine holds_of (run39 ..) ?_
      exact ⟨h1, h2, hk⟩
    · exact noSpec
theorem env40 (W0 : World) : EnvOk (mkE Try.prog W0 L40) := mkE_cons (mkE_nil mixed) ok39
theorem ok40 {W0 : World} : SpecOk Try.prog W0 40 (Con.pure g40).spec where
  there := ⟨Try.f40, Try.func40, by kernel_rfl, by kernel_rfl⟩
  ok := fun args hp => by
    show CallOk _ _ _ _ _ (.pure (g40 args hp))
    unfold g40
    split
    · rename_i w a
      refine auto_valOk (c := body Try.f40) (env40 W0) Try.func40 (by kernel_rfl) (by kernel_rfl) 0 0 trivial (by kernel_rfl) ?_
      rintro K ⟨h1, hk⟩
      refine holds_of (run40 ..) ?_
      exact ⟨h1, hk⟩
    · exact noSpec
theorem env61 (W0 : World) : EnvOk (mkE Try.prog W0 L61) := mkE_cons (env40 W0) ok40
theorem ok61 {W0 : World} : SpecOk Try.prog W0 61 (Con.pure g61).spec where
  there := ⟨Try.f61, Try.func61, by kernel_rfl, by kernel_rfl⟩
  ok := fun args hp => by
    show CallOk _ _ _ _ _ (.pure (g61 args hp))
    unfold g61
    split
    · rename_i w x
      refine auto_valOk (c := body Try.f61) (env61 W0) Try.func61 (by kernel_rfl) (by kernel_rfl) 0 0 trivial (by kernel_rfl) ?_
      rintro K ⟨rfl, hk⟩
      refine holds_of (run61 ..) ?_
      simp only [Tree.sem] at hk ⊢
      repeat' first | (refine ⟨?_, ?_⟩) | intro _
      all_goals first | rfl | decide | omega | assumption | (simp only [halfI, nonI, base, *, if_true, if_false, Bool.false_eq_true, reduceIte, reduceCtorEq] at hk ⊢; exact hk) | (simp_all [halfI, nonI, base]; done) | (simp only [halfI, nonI, base, blockI] at *; first | (simp only [*, Bool.false_eq_true, if_false, if_true, reduceIte] at hk; exact hk) | (exfalso; simp_all; done) | (simp_all; done))
    · exact noSpec
theorem env62 (W0 : World) : EnvOk (mkE Try.prog W0 L62) := mkE_cons (env61 W0) ok61
theorem ok62 {W0 : World} : SpecOk Try.prog W0 62 (Con.pure g62).spec where
  there := ⟨Try.f62, Try.func62, by kernel_rfl, by kernel_rfl⟩
  ok := fun args hp => by
    show CallOk _ _ _ _ _ (.pure (g62 args hp))
    unfold g62
    split
    · rename_i w x i
      refine auto_valOk (c := body Try.f62) (env62 W0) Try.func62 (by kernel_rfl) (by kernel_rfl) 0 0 trivial (by kernel_rfl) ?_
      rintro K ⟨rfl, hk⟩
      refine holds_of (run62 ..) ?_
      simp only [Tree.sem] at hk ⊢
      repeat' first | (refine ⟨?_, ?_⟩) | intro _
      all_goals first | rfl | decide | omega | assumption | (simp only [statusI, nonI, base, *, if_true, if_false, Bool.false_eq_true, reduceIte, reduceCtorEq] at hk ⊢; exact hk) | (simp_all [statusI, nonI, base]; done) | (simp only [statusI, nonI, base, blockI] at *; first | (simp only [*, Bool.false_eq_true, if_false, if_true, reduceIte] at hk; exact hk) | (exfalso; simp_all; done) | (simp_all; done))
    · exact noSpec
theorem env41 (W0 : World) : EnvOk (mkE Try.prog W0 L41) := mkE_cons (env62 W0) ok62
theorem ok41 {W0 : World} : SpecOk Try.prog W0 41 (Con.pure g41).spec where
  there := ⟨Try.f41, Try.func41, by kernel_rfl, by kernel_rfl⟩
  ok := fun args hp => by
    show CallOk _ _ _ _ _ (.pure (g41 args hp))
    unfold g41
    split
    · rename_i w x
      refine auto_valOk (c := body Try.f41) (env41 W0) Try.func41 (by kernel_rfl) (by kernel_rfl) 0 0 trivial (by kernel_rfl) ?_
      rintro K ⟨rfl, hk⟩
      refine holds_of (run41 ..) ?_
      simp only [Tree.sem] at hk ⊢
      repeat' first | (refine ⟨?_, ?_⟩) | intro _
      all_goals first | rfl | decide | omega | assumption | (simp only [extraI, nonI, base, *, if_true, if_false, Bool.false_eq_true, reduceIte, reduceCtorEq] at hk ⊢; exact hk) | (simp_all [extraI, nonI, base]; done) | (simp only [extraI, nonI, base, blockI] at *; first | (simp only [*, Bool.false_eq_true, if_false, if_true, reduceIte] at hk; exact hk) | (exfalso; simp_all; done) | (simp_all; done))
    · exact noSpec
theorem env42 (W0 : World) : EnvOk (mkE Try.prog W0 L42) := mkE_cons (env41 W0) ok41
theorem ok42 {W0 : World} : SpecOk Try.prog W0 42 (Con.pure g42).spec where
  there := ⟨Try.f42, Try.func42, by kernel_rfl, by kernel_rfl⟩
  ok := fun args hp => by
    show CallOk _ _ _ _ _ (.pure (g42 args hp))
    unfold g42
    split
    · rename_i w x i
      refine auto_valOk (c := body Try.f42) (env42 W0) Try.func42 (by kernel_rfl) (by kernel_rfl) 0 0 trivial (by kernel_rfl) ?_
      rintro K ⟨rfl, hk⟩
      refine holds_of (run42 ..) ?_
      simp only [Tree.sem] at hk ⊢
      repeat' first | (refine ⟨?_, ?_⟩) | intro _
      all_goals first | rfl | decide | omega | assumption | (simp only [dataI, nonI, base, *, if_true, if_false, Bool.false_eq_true, reduceIte, reduceCtorEq] at hk ⊢; exact hk) | (simp_all [dataI, nonI, base]; done) | (simp only [dataI, nonI, base, blockI] at *; first | (simp only [*, Bool.false_eq_true, if_false, if_true, reduceIte] at hk; exact hk) | (exfalso; simp_all; done) | (simp_all; done))
    · exact noSpec
theorem env43 (W0 : World) : EnvOk (mkE Try.prog W0 L43) := mkE_cons (env42 W0) ok42
theorem ok43 {W0 : World} : SpecOk Try.prog W0 43 (Con.pure g43).spec where
  there := ⟨Try.f43, Try.func43, by kernel_rfl, by kernel_rfl⟩
  ok := fun args hp => by
    show CallOk _ _ _ _ _ (.pure (g43 args hp))
    unfold g43
    split
    · rename_i w x
      refine auto_valOk (c := body Try.f43) (env43 W0) Try.func43 (by kernel_rfl) (by kernel_rfl) 0 0 trivial (by kernel_rfl) ?_
      rintro K ⟨rfl, hk⟩
      refine holds_of (run43 ..) ?_
      simp only [Tree.sem] at hk ⊢
      repeat' first | (refine ⟨?_, ?_⟩) | intro _
      all_goals first | rfl | decide | omega | assumption | (simp only [wordI, nonI, base, *, if_true, if_false, Bool.false_eq_true, reduceIte, reduceCtorEq] at hk ⊢; exact hk) | (simp_all [wordI, nonI, base]; done) | (simp only [wordI, nonI, base, blockI] at *; first | (simp only [*, Bool.false_eq_true, if_false, if_true, reduceIte] at hk; exact hk) | (exfalso; simp_all; done) | (simp_all; done))
    · exact noSpec
theorem env44 (W0 : World) : EnvOk (mkE Try.prog W0 L44) := mkE_cons (env43 W0) ok43
theorem ok44 {W0 : World} : SpecOk Try.prog W0 44 (Con.pure g44).spec where
  there := ⟨Try.f44, Try.func44, by kernel_rfl, by kernel_rfl⟩
  ok := fun args hp => by
    show CallOk _ _ _ _ _ (.pure (g44 args hp))
    unfold g44
    split
    · rename_i w x
      refine auto_valOk (c := body Try.f44) (env44 W0) Try.func44 (by kernel_rfl) (by kernel_rfl) 0 0 trivial (by kernel_rfl) ?_
      rintro K ⟨rfl, hk⟩
      refine holds_of (run44 ..) ?_
      simp only [Tree.sem] at hk ⊢
      repeat' first | (refine ⟨?_, ?_⟩) | intro _
      all_goals first | rfl | decide | omega | assumption | (simp only [blockI, nonI, base, *, if_true, if_false, Bool.false_eq_true, reduceIte, reduceCtorEq] at hk ⊢; exact hk) | (simp_all [blockI, nonI, base]; done) | (simp only [blockI, nonI, base, blockI] at *; first | (simp only [*, Bool.false_eq_true, if_false, if_true, reduceIte] at hk; exact hk) | (exfalso; simp_all; done) | (simp_all; done))
    · exact noSpec
theorem env14 (W0 : World) : EnvOk (mkE Try.prog W0 L14) := mkE_cons (env44 W0) ok44
theorem ok14 {W0 : World} : SpecOk Try.prog W0 14 (Con.pure (g14 dec)).spec where
  there := ⟨Try.f14, Try.func14, by kernel_rfl, by kernel_rfl⟩
  ok := fun args hp => by
    show CallOk _ _ _ _ _ (.pure (g14 dec args hp))
    unfold g14
    split
    · rename_i w
      refine auto_valOk (c := body Try.f14) (env14 W0) Try.func14 (by kernel_rfl) (by kernel_rfl) 0 0 trivial (by kernel_rfl) ?_
      rintro K hk
      refine holds_of (run14 ..) ?_
      simp only [Tree.sem] at hk ⊢
      repeat' first | (refine ⟨?_, ?_⟩) | intro _
      all_goals first | rfl | decide | omega | assumption | (simp only [dec, nonI, base, *, if_true, if_false, Bool.false_eq_true, reduceIte, reduceCtorEq] at hk ⊢; exact hk) | (simp_all [dec, nonI, base]; done) | (simp only [dec, nonI, base, blockI] at *; first | (simp only [*, Bool.false_eq_true, if_false, if_true, reduceIte] at hk; exact hk) | (exfalso; simp_all; done) | (simp_all; done))
    · exact noSpec
theorem env13 (W0 : World) : EnvOk (mkE Try.prog W0 (L13 dec)) := mkE_cons (env14 W0) ok14
end Go.Sx.Arm
