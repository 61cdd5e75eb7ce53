import Derived.Test.YtafhbnafigjinaaProg
import Derived.KernelRfl
import Derived.Test.YtafhbnafigjinaaArm2
set_option linter.unusedSimpArgs false
set_option linter.unusedVariables false
set_option maxHeartbeats 4000000
set_option maxRecDepth 100000
namespace Go.Sx.Arm
open Go Go.Sx Go.Proofs
theorem run4 (d : Int → Ins) (W0 : World) (way cond : Int) (link : Bool) : val (runAuto Try.prog W0 (L3 d) Try.f4 (body Try.f4) 0 0 [.int .i32 way, .bool link, .int .i64 cond] []) =
  Tree.ite false (Tree.leaf (AV.bool false))
    (Tree.req (CanEq (mkE Try.prog W0 (L3 d)).P (25 : Nat))
      (Tree.leaf
        (AV.bool
          ((d
                  (bif link then
                    ior IntKind.u32
                      (ior IntKind.u32
                        (ior IntKind.u32
                          (ishl IntKind.u32 (wr IntKind.u32 (iand IntKind.i64 cond (15 : Int))) (28 : Int))
                          (167772160 : Int))
                        (iand IntKind.u32 (wr IntKind.u32 (ishr IntKind.i32 (ishl IntKind.i32 way (8 : Int)) (8 : Int)))
                          (16777215 : Int)))
                      (16777216 : Int)
                  else
                    ior IntKind.u32
                      (ior IntKind.u32 (ishl IntKind.u32 (wr IntKind.u32 (iand IntKind.i64 cond (15 : Int))) (28 : Int))
                        (167772160 : Int))
                      (iand IntKind.u32 (wr IntKind.u32 (ishr IntKind.i32 (ishl IntKind.i32 way (8 : Int)) (8 : Int)))
                        (16777215 : Int)))).kind ==
              (9 : Int) &&
            ((d
                    (bif link then
                      ior IntKind.u32
                        (ior IntKind.u32
                          (ior IntKind.u32
                            (ishl IntKind.u32 (wr IntKind.u32 (iand IntKind.i64 cond (15 : Int))) (28 : Int))
                            (167772160 : Int))
                          (iand IntKind.u32
                            (wr IntKind.u32 (ishr IntKind.i32 (ishl IntKind.i32 way (8 : Int)) (8 : Int)))
                            (16777215 : Int)))
                        (16777216 : Int)
                    else
                      ior IntKind.u32
                        (ior IntKind.u32
                          (ishl IntKind.u32 (wr IntKind.u32 (iand IntKind.i64 cond (15 : Int))) (28 : Int))
                          (167772160 : Int))
                        (iand IntKind.u32 (wr IntKind.u32 (ishr IntKind.i32 (ishl IntKind.i32 way (8 : Int)) (8 : Int)))
                          (16777215 : Int)))).cond ==
                iand IntKind.i64 cond (15 : Int) &&
              ((d
                      (bif link then
                        ior IntKind.u32
                          (ior IntKind.u32
                            (ior IntKind.u32
                              (ishl IntKind.u32 (wr IntKind.u32 (iand IntKind.i64 cond (15 : Int))) (28 : Int))
                              (167772160 : Int))
                            (iand IntKind.u32
                              (wr IntKind.u32 (ishr IntKind.i32 (ishl IntKind.i32 way (8 : Int)) (8 : Int)))
                              (16777215 : Int)))
                          (16777216 : Int)
                      else
                        ior IntKind.u32
                          (ior IntKind.u32
                            (ishl IntKind.u32 (wr IntKind.u32 (iand IntKind.i64 cond (15 : Int))) (28 : Int))
                            (167772160 : Int))
                          (iand IntKind.u32
                            (wr IntKind.u32 (ishr IntKind.i32 (ishl IntKind.i32 way (8 : Int)) (8 : Int)))
                            (16777215 : Int)))).code ==
                  (0 : Int) &&
                ((d
                        (bif link then
                          ior IntKind.u32
                            (ior IntKind.u32
                              (ior IntKind.u32
                                (ishl IntKind.u32 (wr IntKind.u32 (iand IntKind.i64 cond (15 : Int))) (28 : Int))
                                (167772160 : Int))
                              (iand IntKind.u32
                                (wr IntKind.u32 (ishr IntKind.i32 (ishl IntKind.i32 way (8 : Int)) (8 : Int)))
                                (16777215 : Int)))
                            (16777216 : Int)
                        else
                          ior IntKind.u32
                            (ior IntKind.u32
                              (ishl IntKind.u32 (wr IntKind.u32 (iand IntKind.i64 cond (15 : Int))) (28 : Int))
                              (167772160 : Int))
                            (iand IntKind.u32
                              (wr IntKind.u32 (ishr IntKind.i32 (ishl IntKind.i32 way (8 : Int)) (8 : Int)))
                              (16777215 : Int)))).flags ==
                    false &&
                  ((d
                          (bif link then
                            ior IntKind.u32
                              (ior IntKind.u32
                                (ior IntKind.u32
                                  (ishl IntKind.u32 (wr IntKind.u32 (iand IntKind.i64 cond (15 : Int))) (28 : Int))
                                  (167772160 : Int))
                                (iand IntKind.u32
                                  (wr IntKind.u32 (ishr IntKind.i32 (ishl IntKind.i32 way (8 : Int)) (8 : Int)))
                                  (16777215 : Int)))
                              (16777216 : Int)
                          else
                            ior IntKind.u32
                              (ior IntKind.u32
                                (ishl IntKind.u32 (wr IntKind.u32 (iand IntKind.i64 cond (15 : Int))) (28 : Int))
                                (167772160 : Int))
                              (iand IntKind.u32
                                (wr IntKind.u32 (ishr IntKind.i32 (ishl IntKind.i32 way (8 : Int)) (8 : Int)))
                                (16777215 : Int)))).rd ==
                      (0 : Int) &&
                    ((d
                            (bif link then
                              ior IntKind.u32
                                (ior IntKind.u32
                                  (ior IntKind.u32
                                    (ishl IntKind.u32 (wr IntKind.u32 (iand IntKind.i64 cond (15 : Int))) (28 : Int))
                                    (167772160 : Int))
                                  (iand IntKind.u32
                                    (wr IntKind.u32 (ishr IntKind.i32 (ishl IntKind.i32 way (8 : Int)) (8 : Int)))
                                    (16777215 : Int)))
                                (16777216 : Int)
                            else
                              ior IntKind.u32
                                (ior IntKind.u32
                                  (ishl IntKind.u32 (wr IntKind.u32 (iand IntKind.i64 cond (15 : Int))) (28 : Int))
                                  (167772160 : Int))
                                (iand IntKind.u32
                                  (wr IntKind.u32 (ishr IntKind.i32 (ishl IntKind.i32 way (8 : Int)) (8 : Int)))
                                  (16777215 : Int)))).rn ==
                        (0 : Int) &&
                      ((d
                              (bif link then
                                ior IntKind.u32
                                  (ior IntKind.u32
                                    (ior IntKind.u32
                                      (ishl IntKind.u32 (wr IntKind.u32 (iand IntKind.i64 cond (15 : Int))) (28 : Int))
                                      (167772160 : Int))
                                    (iand IntKind.u32
                                      (wr IntKind.u32 (ishr IntKind.i32 (ishl IntKind.i32 way (8 : Int)) (8 : Int)))
                                      (16777215 : Int)))
                                  (16777216 : Int)
                              else
                                ior IntKind.u32
                                  (ior IntKind.u32
                                    (ishl IntKind.u32 (wr IntKind.u32 (iand IntKind.i64 cond (15 : Int))) (28 : Int))
                                    (167772160 : Int))
                                  (iand IntKind.u32
                                    (wr IntKind.u32 (ishr IntKind.i32 (ishl IntKind.i32 way (8 : Int)) (8 : Int)))
                                    (16777215 : Int)))).rs ==
                          (0 : Int) &&
                        ((d
                                (bif link then
                                  ior IntKind.u32
                                    (ior IntKind.u32
                                      (ior IntKind.u32
                                        (ishl IntKind.u32 (wr IntKind.u32 (iand IntKind.i64 cond (15 : Int)))
                                          (28 : Int))
                                        (167772160 : Int))
                                      (iand IntKind.u32
                                        (wr IntKind.u32 (ishr IntKind.i32 (ishl IntKind.i32 way (8 : Int)) (8 : Int)))
                                        (16777215 : Int)))
                                    (16777216 : Int)
                                else
                                  ior IntKind.u32
                                    (ior IntKind.u32
                                      (ishl IntKind.u32 (wr IntKind.u32 (iand IntKind.i64 cond (15 : Int))) (28 : Int))
                                      (167772160 : Int))
                                    (iand IntKind.u32
                                      (wr IntKind.u32 (ishr IntKind.i32 (ishl IntKind.i32 way (8 : Int)) (8 : Int)))
                                      (16777215 : Int)))).rm ==
                            (0 : Int) &&
                          ((d
                                  (bif link then
                                    ior IntKind.u32
                                      (ior IntKind.u32
                                        (ior IntKind.u32
                                          (ishl IntKind.u32 (wr IntKind.u32 (iand IntKind.i64 cond (15 : Int)))
                                            (28 : Int))
                                          (167772160 : Int))
                                        (iand IntKind.u32
                                          (wr IntKind.u32 (ishr IntKind.i32 (ishl IntKind.i32 way (8 : Int)) (8 : Int)))
                                          (16777215 : Int)))
                                      (16777216 : Int)
                                  else
                                    ior IntKind.u32
                                      (ior IntKind.u32
                                        (ishl IntKind.u32 (wr IntKind.u32 (iand IntKind.i64 cond (15 : Int)))
                                          (28 : Int))
                                        (167772160 : Int))
                                      (iand IntKind.u32
                                        (wr IntKind.u32 (ishr IntKind.i32 (ishl IntKind.i32 way (8 : Int)) (8 : Int)))
                                        (16777215 : Int)))).imm ==
                              wr IntKind.u32
                                (wr IntKind.i32
                                  (ishr IntKind.i32 (ishl IntKind.i32 way (8 : Int)) (8 : Int) * (4 : Int))) &&
                            ((d
                                    (bif link then
                                      ior IntKind.u32
                                        (ior IntKind.u32
                                          (ior IntKind.u32
                                            (ishl IntKind.u32 (wr IntKind.u32 (iand IntKind.i64 cond (15 : Int)))
                                              (28 : Int))
                                            (167772160 : Int))
                                          (iand IntKind.u32
                                            (wr IntKind.u32
                                              (ishr IntKind.i32 (ishl IntKind.i32 way (8 : Int)) (8 : Int)))
                                            (16777215 : Int)))
                                        (16777216 : Int)
                                    else
                                      ior IntKind.u32
                                        (ior IntKind.u32
                                          (ishl IntKind.u32 (wr IntKind.u32 (iand IntKind.i64 cond (15 : Int)))
                                            (28 : Int))
                                          (167772160 : Int))
                                        (iand IntKind.u32
                                          (wr IntKind.u32 (ishr IntKind.i32 (ishl IntKind.i32 way (8 : Int)) (8 : Int)))
                                          (16777215 : Int)))).hasImm ==
                                false &&
                              ((d
                                      (bif link then
                                        ior IntKind.u32
                                          (ior IntKind.u32
                                            (ior IntKind.u32
                                              (ishl IntKind.u32 (wr IntKind.u32 (iand IntKind.i64 cond (15 : Int)))
                                                (28 : Int))
                                              (167772160 : Int))
                                            (iand IntKind.u32
                                              (wr IntKind.u32
                                                (ishr IntKind.i32 (ishl IntKind.i32 way (8 : Int)) (8 : Int)))
                                              (16777215 : Int)))
                                          (16777216 : Int)
                                      else
                                        ior IntKind.u32
                                          (ior IntKind.u32
                                            (ishl IntKind.u32 (wr IntKind.u32 (iand IntKind.i64 cond (15 : Int)))
                                              (28 : Int))
                                            (167772160 : Int))
                                          (iand IntKind.u32
                                            (wr IntKind.u32
                                              (ishr IntKind.i32 (ishl IntKind.i32 way (8 : Int)) (8 : Int)))
                                            (16777215 : Int)))).shift ==
                                  (0 : Int) &&
                                ((d
                                        (bif link then
                                          ior IntKind.u32
                                            (ior IntKind.u32
                                              (ior IntKind.u32
                                                (ishl IntKind.u32 (wr IntKind.u32 (iand IntKind.i64 cond (15 : Int)))
                                                  (28 : Int))
                                                (167772160 : Int))
                                              (iand IntKind.u32
                                                (wr IntKind.u32
                                                  (ishr IntKind.i32 (ishl IntKind.i32 way (8 : Int)) (8 : Int)))
                                                (16777215 : Int)))
                                            (16777216 : Int)
                                        else
                                          ior IntKind.u32
                                            (ior IntKind.u32
                                              (ishl IntKind.u32 (wr IntKind.u32 (iand IntKind.i64 cond (15 : Int)))
                                                (28 : Int))
                                              (167772160 : Int))
                                            (iand IntKind.u32
                                              (wr IntKind.u32
                                                (ishr IntKind.i32 (ishl IntKind.i32 way (8 : Int)) (8 : Int)))
                                              (16777215 : Int)))).amount ==
                                    (0 : Int) &&
                                  ((d
                                          (bif link then
                                            ior IntKind.u32
                                              (ior IntKind.u32
                                                (ior IntKind.u32
                                                  (ishl IntKind.u32 (wr IntKind.u32 (iand IntKind.i64 cond (15 : Int)))
                                                    (28 : Int))
                                                  (167772160 : Int))
                                                (iand IntKind.u32
                                                  (wr IntKind.u32
                                                    (ishr IntKind.i32 (ishl IntKind.i32 way (8 : Int)) (8 : Int)))
                                                  (16777215 : Int)))
                                              (16777216 : Int)
                                          else
                                            ior IntKind.u32
                                              (ior IntKind.u32
                                                (ishl IntKind.u32 (wr IntKind.u32 (iand IntKind.i64 cond (15 : Int)))
                                                  (28 : Int))
                                                (167772160 : Int))
                                              (iand IntKind.u32
                                                (wr IntKind.u32
                                                  (ishr IntKind.i32 (ishl IntKind.i32 way (8 : Int)) (8 : Int)))
                                                (16777215 : Int)))).byReg ==
                                      false &&
                                    ((d
                                            (bif link then
                                              ior IntKind.u32
                                                (ior IntKind.u32
                                                  (ior IntKind.u32
                                                    (ishl IntKind.u32
                                                      (wr IntKind.u32 (iand IntKind.i64 cond (15 : Int))) (28 : Int))
                                                    (167772160 : Int))
                                                  (iand IntKind.u32
                                                    (wr IntKind.u32
                                                      (ishr IntKind.i32 (ishl IntKind.i32 way (8 : Int)) (8 : Int)))
                                                    (16777215 : Int)))
                                                (16777216 : Int)
                                            else
                                              ior IntKind.u32
                                                (ior IntKind.u32
                                                  (ishl IntKind.u32 (wr IntKind.u32 (iand IntKind.i64 cond (15 : Int)))
                                                    (28 : Int))
                                                  (167772160 : Int))
                                                (iand IntKind.u32
                                                  (wr IntKind.u32
                                                    (ishr IntKind.i32 (ishl IntKind.i32 way (8 : Int)) (8 : Int)))
                                                  (16777215 : Int)))).load ==
                                        false &&
                                      ((d
                                              (bif link then
                                                ior IntKind.u32
                                                  (ior IntKind.u32
                                                    (ior IntKind.u32
                                                      (ishl IntKind.u32
                                                        (wr IntKind.u32 (iand IntKind.i64 cond (15 : Int))) (28 : Int))
                                                      (167772160 : Int))
                                                    (iand IntKind.u32
                                                      (wr IntKind.u32
                                                        (ishr IntKind.i32 (ishl IntKind.i32 way (8 : Int)) (8 : Int)))
                                                      (16777215 : Int)))
                                                  (16777216 : Int)
                                              else
                                                ior IntKind.u32
                                                  (ior IntKind.u32
                                                    (ishl IntKind.u32
                                                      (wr IntKind.u32 (iand IntKind.i64 cond (15 : Int))) (28 : Int))
                                                    (167772160 : Int))
                                                  (iand IntKind.u32
                                                    (wr IntKind.u32
                                                      (ishr IntKind.i32 (ishl IntKind.i32 way (8 : Int)) (8 : Int)))
                                                    (16777215 : Int)))).byte ==
                                          false &&
                                        ((d
                                                (bif link then
                                                  ior IntKind.u32
                                                    (ior IntKind.u32
                                                      (ior IntKind.u32
                                                        (ishl IntKind.u32
                                                          (wr IntKind.u32 (iand IntKind.i64 cond (15 : Int)))
                                                          (28 : Int))
                                                        (167772160 : Int))
                                                      (iand IntKind.u32
                                                        (wr IntKind.u32
                                                          (ishr IntKind.i32 (ishl IntKind.i32 way (8 : Int)) (8 : Int)))
                                                        (16777215 : Int)))
                                                    (16777216 : Int)
                                                else
                                                  ior IntKind.u32
                                                    (ior IntKind.u32
                                                      (ishl IntKind.u32
                                                        (wr IntKind.u32 (iand IntKind.i64 cond (15 : Int))) (28 : Int))
                                                      (167772160 : Int))
                                                    (iand IntKind.u32
                                                      (wr IntKind.u32
                                                        (ishr IntKind.i32 (ishl IntKind.i32 way (8 : Int)) (8 : Int)))
                                                      (16777215 : Int)))).signed ==
                                            false &&
                                          ((d
                                                  (bif link then
                                                    ior IntKind.u32
                                                      (ior IntKind.u32
                                                        (ior IntKind.u32
                                                          (ishl IntKind.u32
                                                            (wr IntKind.u32 (iand IntKind.i64 cond (15 : Int)))
                                                            (28 : Int))
                                                          (167772160 : Int))
                                                        (iand IntKind.u32
                                                          (wr IntKind.u32
                                                            (ishr IntKind.i32 (ishl IntKind.i32 way (8 : Int))
                                                              (8 : Int)))
                                                          (16777215 : Int)))
                                                      (16777216 : Int)
                                                  else
                                                    ior IntKind.u32
                                                      (ior IntKind.u32
                                                        (ishl IntKind.u32
                                                          (wr IntKind.u32 (iand IntKind.i64 cond (15 : Int)))
                                                          (28 : Int))
                                                        (167772160 : Int))
                                                      (iand IntKind.u32
                                                        (wr IntKind.u32
                                                          (ishr IntKind.i32 (ishl IntKind.i32 way (8 : Int)) (8 : Int)))
                                                        (16777215 : Int)))).pre ==
                                              false &&
                                            ((d
                                                    (bif link then
                                                      ior IntKind.u32
                                                        (ior IntKind.u32
                                                          (ior IntKind.u32
                                                            (ishl IntKind.u32
                                                              (wr IntKind.u32 (iand IntKind.i64 cond (15 : Int)))
                                                              (28 : Int))
                                                            (167772160 : Int))
                                                          (iand IntKind.u32
                                                            (wr IntKind.u32
                                                              (ishr IntKind.i32 (ishl IntKind.i32 way (8 : Int))
                                                                (8 : Int)))
                                                            (16777215 : Int)))
                                                        (16777216 : Int)
                                                    else
                                                      ior IntKind.u32
                                                        (ior IntKind.u32
                                                          (ishl IntKind.u32
                                                            (wr IntKind.u32 (iand IntKind.i64 cond (15 : Int)))
                                                            (28 : Int))
                                                          (167772160 : Int))
                                                        (iand IntKind.u32
                                                          (wr IntKind.u32
                                                            (ishr IntKind.i32 (ishl IntKind.i32 way (8 : Int))
                                                              (8 : Int)))
                                                          (16777215 : Int)))).up ==
                                                false &&
                                              ((d
                                                      (bif link then
                                                        ior IntKind.u32
                                                          (ior IntKind.u32
                                                            (ior IntKind.u32
                                                              (ishl IntKind.u32
                                                                (wr IntKind.u32 (iand IntKind.i64 cond (15 : Int)))
                                                                (28 : Int))
                                                              (167772160 : Int))
                                                            (iand IntKind.u32
                                                              (wr IntKind.u32
                                                                (ishr IntKind.i32 (ishl IntKind.i32 way (8 : Int))
                                                                  (8 : Int)))
                                                              (16777215 : Int)))
                                                          (16777216 : Int)
                                                      else
                                                        ior IntKind.u32
                                                          (ior IntKind.u32
                                                            (ishl IntKind.u32
                                                              (wr IntKind.u32 (iand IntKind.i64 cond (15 : Int)))
                                                              (28 : Int))
                                                            (167772160 : Int))
                                                          (iand IntKind.u32
                                                            (wr IntKind.u32
                                                              (ishr IntKind.i32 (ishl IntKind.i32 way (8 : Int))
                                                                (8 : Int)))
                                                            (16777215 : Int)))).back ==
                                                  false &&
                                                ((d
                                                        (bif link then
                                                          ior IntKind.u32
                                                            (ior IntKind.u32
                                                              (ior IntKind.u32
                                                                (ishl IntKind.u32
                                                                  (wr IntKind.u32 (iand IntKind.i64 cond (15 : Int)))
                                                                  (28 : Int))
                                                                (167772160 : Int))
                                                              (iand IntKind.u32
                                                                (wr IntKind.u32
                                                                  (ishr IntKind.i32 (ishl IntKind.i32 way (8 : Int))
                                                                    (8 : Int)))
                                                                (16777215 : Int)))
                                                            (16777216 : Int)
                                                        else
                                                          ior IntKind.u32
                                                            (ior IntKind.u32
                                                              (ishl IntKind.u32
                                                                (wr IntKind.u32 (iand IntKind.i64 cond (15 : Int)))
                                                                (28 : Int))
                                                              (167772160 : Int))
                                                            (iand IntKind.u32
                                                              (wr IntKind.u32
                                                                (ishr IntKind.i32 (ishl IntKind.i32 way (8 : Int))
                                                                  (8 : Int)))
                                                              (16777215 : Int)))).user ==
                                                    false &&
                                                  ((d
                                                          (bif link then
                                                            ior IntKind.u32
                                                              (ior IntKind.u32
                                                                (ior IntKind.u32
                                                                  (ishl IntKind.u32
                                                                    (wr IntKind.u32 (iand IntKind.i64 cond (15 : Int)))
                                                                    (28 : Int))
                                                                  (167772160 : Int))
                                                                (iand IntKind.u32
                                                                  (wr IntKind.u32
                                                                    (ishr IntKind.i32 (ishl IntKind.i32 way (8 : Int))
                                                                      (8 : Int)))
                                                                  (16777215 : Int)))
                                                              (16777216 : Int)
                                                          else
                                                            ior IntKind.u32
                                                              (ior IntKind.u32
                                                                (ishl IntKind.u32
                                                                  (wr IntKind.u32 (iand IntKind.i64 cond (15 : Int)))
                                                                  (28 : Int))
                                                                (167772160 : Int))
                                                              (iand IntKind.u32
                                                                (wr IntKind.u32
                                                                  (ishr IntKind.i32 (ishl IntKind.i32 way (8 : Int))
                                                                    (8 : Int)))
                                                                (16777215 : Int)))).list ==
                                                      (0 : Int) &&
                                                    ((d
                                                            (bif link then
                                                              ior IntKind.u32
                                                                (ior IntKind.u32
                                                                  (ior IntKind.u32
                                                                    (ishl IntKind.u32
                                                                      (wr IntKind.u32
                                                                        (iand IntKind.i64 cond (15 : Int)))
                                                                      (28 : Int))
                                                                    (167772160 : Int))
                                                                  (iand IntKind.u32
                                                                    (wr IntKind.u32
                                                                      (ishr IntKind.i32 (ishl IntKind.i32 way (8 : Int))
                                                                        (8 : Int)))
                                                                    (16777215 : Int)))
                                                                (16777216 : Int)
                                                            else
                                                              ior IntKind.u32
                                                                (ior IntKind.u32
                                                                  (ishl IntKind.u32
                                                                    (wr IntKind.u32 (iand IntKind.i64 cond (15 : Int)))
                                                                    (28 : Int))
                                                                  (167772160 : Int))
                                                                (iand IntKind.u32
                                                                  (wr IntKind.u32
                                                                    (ishr IntKind.i32 (ishl IntKind.i32 way (8 : Int))
                                                                      (8 : Int)))
                                                                  (16777215 : Int)))).link ==
                                                        link &&
                                                      ((d
                                                              (bif link then
                                                                ior IntKind.u32
                                                                  (ior IntKind.u32
                                                                    (ior IntKind.u32
                                                                      (ishl IntKind.u32
                                                                        (wr IntKind.u32
                                                                          (iand IntKind.i64 cond (15 : Int)))
                                                                        (28 : Int))
                                                                      (167772160 : Int))
                                                                    (iand IntKind.u32
                                                                      (wr IntKind.u32
                                                                        (ishr IntKind.i32
                                                                          (ishl IntKind.i32 way (8 : Int)) (8 : Int)))
                                                                      (16777215 : Int)))
                                                                  (16777216 : Int)
                                                              else
                                                                ior IntKind.u32
                                                                  (ior IntKind.u32
                                                                    (ishl IntKind.u32
                                                                      (wr IntKind.u32
                                                                        (iand IntKind.i64 cond (15 : Int)))
                                                                      (28 : Int))
                                                                    (167772160 : Int))
                                                                  (iand IntKind.u32
                                                                    (wr IntKind.u32
                                                                      (ishr IntKind.i32 (ishl IntKind.i32 way (8 : Int))
                                                                        (8 : Int)))
                                                                    (16777215 : Int)))).long ==
                                                          false &&
                                                        (d
                                                              (bif link then
                                                                ior IntKind.u32
                                                                  (ior IntKind.u32
                                                                    (ior IntKind.u32
                                                                      (ishl IntKind.u32
                                                                        (wr IntKind.u32
                                                                          (iand IntKind.i64 cond (15 : Int)))
                                                                        (28 : Int))
                                                                      (167772160 : Int))
                                                                    (iand IntKind.u32
                                                                      (wr IntKind.u32
                                                                        (ishr IntKind.i32
                                                                          (ishl IntKind.i32 way (8 : Int)) (8 : Int)))
                                                                      (16777215 : Int)))
                                                                  (16777216 : Int)
                                                              else
                                                                ior IntKind.u32
                                                                  (ior IntKind.u32
                                                                    (ishl IntKind.u32
                                                                      (wr IntKind.u32
                                                                        (iand IntKind.i64 cond (15 : Int)))
                                                                      (28 : Int))
                                                                    (167772160 : Int))
                                                                  (iand IntKind.u32
                                                                    (wr IntKind.u32
                                                                      (ishr IntKind.i32 (ishl IntKind.i32 way (8 : Int))
                                                                        (8 : Int)))
                                                                    (16777215 : Int)))).align ==
                                                          false)))))))))))))))))))))))))) := by kernel_rfl

theorem ior_u32 (a b : Int) : ior .u32 a b = ((BitVec.ofInt 32 a ||| BitVec.ofInt 32 b).toNat : Int) := by
  unfold ior
  have := (BitVec.ofInt 32 a ||| BitVec.ofInt 32 b).isLt
  show wr .u32 ((BitVec.ofInt 32 a ||| BitVec.ofInt 32 b).toNat : Int) = _
  simp only [wr]
  omega
theorem ior_turn (a b c : Int) : ior .u32 (ior .u32 a b) c = ior .u32 (ior .u32 a c) b := by
  rw [ior_u32 a b, ior_u32 a c, ior_u32, ior_u32]
  simp only [BitVec.ofInt_natCast, BitVec.ofNat_toNat, BitVec.setWidth_eq]
  rw [BitVec.or_assoc, BitVec.or_comm (BitVec.ofInt 32 b), ← BitVec.or_assoc]
theorem shifts (way : Int) : ishr .i32 (ishl .i32 way 8) 8 = wr .i32 (way * 256) / 256 := by
  rw [ishl_lit (k := .i32) (a := way) (b := 8) 8 256 (by decide) (by decide), ishr_lit (k := .i32) (b := 8) 8 256 (by decide) (by decide)]
theorem word_eq (way cond : Int) (link : Bool) : (bif link then ior .u32 (ior .u32 (ior .u32 (ishl .u32 (wr .u32 (iand .i64 cond 15)) 28) 167772160) (iand .u32 (wr .u32 (ishr .i32 (ishl .i32 way 8) 8)) 16777215)) 16777216
    else ior .u32 (ior .u32 (ishl .u32 (wr .u32 (iand .i64 cond 15)) 28) 167772160) (iand .u32 (wr .u32 (ishr .i32 (ishl .i32 way 8) 8)) 16777215)) = cond % 16 * 268435456 + 167772160 + (if link then 16777216 else 0) + wr .i32 (way * 256) / 256 % 16777216 := by
  rw [shifts, iand_mask (k := .i64) (m := 15) 4 (by decide) (by decide) (by decide), iand_mask (k := .u32) (m := 16777215) 24 (by decide) (by decide) (by decide)]
  rw [ishl_lit (k := .u32) (b := 28) 28 268435456 (by decide) (by decide)]
  have hy : wr .u32 (wr .i32 (way * 256) / 256) % 2 ^ 24 = wr .i32 (way * 256) / 256 % 16777216 := by simp only [wr]; omega
  have hc : wr .u32 (wr .u32 (cond % 2 ^ 4) * 268435456) = cond % 16 * 268435456 := by simp only [wr]; omega
  rw [hy, hc]
  generalize hm : wr .i32 (way * 256) / 256 % 16777216 = m
  have h1 : ior .u32 (cond % 16 * 268435456) 167772160 = cond % 16 * 268435456 + 167772160 := ior_apart 28 (by omega) (by omega) (by decide) (by decide) (by unfold has; simp only [lo, hi]; omega)
  cases link with
  | false =>
    simp only [cond_false]
    rw [h1, ior_apart (k := .u32) 25 (by omega) (by omega) (by omega) (by omega) (by unfold has; simp only [lo, hi]; omega)]
    simp
  | true =>
    simp only [cond_true]
    rw [ior_turn, h1, ior_apart (k := .u32) (b := 16777216) 25 (by omega) (by omega) (by decide) (by decide) (by unfold has; simp only [lo, hi]; omega), ior_apart (k := .u32) 24 (by omega) (by omega) (by omega) (by omega) (by unfold has; simp only [lo, hi]; omega)]
    simp
theorem dec_branch (way cond : Int) (link : Bool) : dec (cond % 16 * 268435456 + 167772160 + (if link then 16777216 else 0) + wr .i32 (way * 256) / 256 % 16777216)
    = { kind := 9, cond := iand .i64 cond 15, link := link, imm := wr .u32 (wr .i32 (ishr .i32 (ishl .i32 way 8) 8 * 4)) } := by
  rw [shifts, iand_mask (k := .i64) (m := 15) 4 (by decide) (by decide) (by decide)]
  generalize hw : cond % 16 * 268435456 + 167772160 + (if link = true then 16777216 else 0) + wr .i32 (way * 256) / 256 % 16777216 = w
  have hl : (if link = true then (16777216 : Int) else 0) = 0 ∧ link = false ∨ (if link = true then (16777216 : Int) else 0) = 16777216 ∧ link = true := by cases link <;> simp
  have h5 : fld w 25 3 = 5 := by
    rw [show fld w 25 3 = w / 33554432 % 8 from fld_eq w 25 3 33554432 8 (by decide) (by decide) (by decide) (by decide)]
    omega
  have hc : fld w 28 4 = cond % 2 ^ 4 := by
    rw [show fld w 28 4 = w / 268435456 % 16 from fld_eq w 28 4 268435456 16 (by decide) (by decide) (by decide) (by decide)]
    omega
  have hb : btB w 24 = link := by
    rw [show btB w 24 = (w / 16777216 % 2 == 1) from btB_eq w 24 16777216 (by decide) (by decide)]
    rcases hl with ⟨h, rfl⟩ | ⟨h, rfl⟩
    · rw [beq_eq_false_iff_ne]; omega
    · rw [beq_iff_eq]; omega
  have hi : wr .u32 (ishr .i32 (wr .i32 (ishl .u32 w 8)) 6) = wr .u32 (wr .i32 (wr .i32 (way * 256) / 256 * 4)) := by
    rw [ishl_lit (k := .u32) (b := 8) 8 256 (by decide) (by decide), ishr_lit (k := .i32) (b := 6) 6 64 (by decide) (by decide)]
    simp only [wr] at hw ⊢
    omega
  unfold dec
  rw [h5, hc, hb, hi]
  simp
theorem holds4 (W0 : World) (way cond : Int) (link : Bool) : Holds (val (runAuto Try.prog W0 (L3 dec) Try.f4 (body Try.f4) 0 0 [.int .i32 way, .bool link, .int .i64 cond] [])) (fun v => v = .bool true) := by
  refine holds_of (run4 dec W0 way cond link) ?_
  rw [word_eq, dec_branch]
  simp only [Tree.sem]
  refine ⟨fun h => by simp at h, fun _ => ⟨fine25, ?_⟩⟩
  simp
end Go.Sx.Arm
