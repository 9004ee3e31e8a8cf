/- The choices of an operator: what two laws come to (printed by wip/Vc.lean; checked by the kernel in the next text). -/
import Derived.Test.YtfnofdgippdlaaaCfgRight
namespace Go.Proofs.Ytfnofdgippdlaaa.Cfg
open Go Go.Proofs.Ytfnofdgippdlaaa.Sx
def vc12 : Int → Int → Int → Int → Int → Int → Int → Int → Int → Int → Int → Int → Int → Int → Int → Int → Int → Int → Prop :=
  fun (x0 x1 x2 x3 x4 x5 x6 x7 x8 y0 y1 y2 y3 y4 y5 y6 y7 y8 : Int) =>
  ((!true) = true → false = true) ∧
    ((!true) = false →
      (right (mx (fc (30 : Int) x0) (fc (30 : Int) y0)) (mx (IntKind.i64.wrap (fc (30 : Int) x0 + fz (60 : Int) x1)) (IntKind.i64.wrap (fc (30 : Int) y0 + fz (60 : Int) y1))) (mx (fc (6 : Int) x2) (fc (6 : Int) y2))
              (mx (fc (20 : Int) x3) (fc (20 : Int) y3)) (mx (fc (9 : Int) x4) (fc (9 : Int) y4)) (mx (fc (6 : Int) x5) (fc (6 : Int) y5)) (mx (fz (4 : Int) x6) (fz (4 : Int) y6))
              (mx (fc (40 : Int) x7) (fc (40 : Int) y7)) (mx (fz (50 : Int) x8) (fz (50 : Int) y8)) ==
            (-1 : Int) &&
          (clamp (mx (fc (30 : Int) x0) (fc (30 : Int) y0)) (1 : Int) (1000 : Int) == mx (fc (30 : Int) x0) (fc (30 : Int) y0) &&
            (clamp (mx (IntKind.i64.wrap (fc (30 : Int) x0 + fz (60 : Int) x1)) (IntKind.i64.wrap (fc (30 : Int) y0 + fz (60 : Int) y1))) (clamp (mx (fc (30 : Int) x0) (fc (30 : Int) y0)) (1 : Int) (1000 : Int))
                  (10000 : Int) ==
                mx (IntKind.i64.wrap (fc (30 : Int) x0 + fz (60 : Int) x1)) (IntKind.i64.wrap (fc (30 : Int) y0 + fz (60 : Int) y1)) &&
              (clamp (mx (fc (6 : Int) x2) (fc (6 : Int) y2)) (1 : Int) (6 : Int) == mx (fc (6 : Int) x2) (fc (6 : Int) y2) &&
                (clamp (mx (fc (20 : Int) x3) (fc (20 : Int) y3)) (1 : Int) (1000 : Int) == mx (fc (20 : Int) x3) (fc (20 : Int) y3) &&
                  (clamp (mx (fc (9 : Int) x4) (fc (9 : Int) y4)) (1 : Int) (64 : Int) == mx (fc (9 : Int) x4) (fc (9 : Int) y4) &&
                    (clamp (mx (fc (6 : Int) x5) (fc (6 : Int) y5)) (1 : Int) (100 : Int) == mx (fc (6 : Int) x5) (fc (6 : Int) y5) &&
                      (clamp (mx (fz (4 : Int) x6) (fz (4 : Int) y6)) (0 : Int) (8 : Int) == mx (fz (4 : Int) x6) (fz (4 : Int) y6) &&
                        (clamp (mx (fc (40 : Int) x7) (fc (40 : Int) y7)) (1 : Int) (1000 : Int) == mx (fc (40 : Int) x7) (fc (40 : Int) y7) &&
                          (clamp (mx (fz (50 : Int) x8) (fz (50 : Int) y8)) (0 : Int) (1000 : Int) == mx (fz (50 : Int) x8) (fz (50 : Int) y8) && true)))))))))) =
        true)

def vc10 : Int → Int → Int → Int → Int → Int → Int → Int → Int → Int → Int → Int → Int → Int → Int → Int → Int → Int → Prop :=
  fun (c0 c1 c2 c3 c4 c5 c6 c7 c8 x0 x1 x2 x3 x4 x5 x6 x7 x8 : Int) =>
  ((!true) = true → false = true) ∧
    ((!true) = false →
      ((right (clamp c0 (1 : Int) (1000 : Int)) (clamp c1 (clamp c0 (1 : Int) (1000 : Int)) (10000 : Int)) (clamp c2 (1 : Int) (6 : Int)) (clamp c3 (1 : Int) (1000 : Int)) (clamp c4 (1 : Int) (64 : Int))
                      (clamp c5 (1 : Int) (100 : Int)) (clamp c6 (0 : Int) (8 : Int)) (clamp c7 (1 : Int) (1000 : Int)) (clamp c8 (0 : Int) (1000 : Int)) !=
                    (-1 : Int) ||
                  !(clamp (clamp c0 (1 : Int) (1000 : Int)) (1 : Int) (1000 : Int) == clamp c0 (1 : Int) (1000 : Int) &&
                      (clamp (clamp c1 (clamp c0 (1 : Int) (1000 : Int)) (10000 : Int)) (clamp (clamp c0 (1 : Int) (1000 : Int)) (1 : Int) (1000 : Int)) (10000 : Int) ==
                          clamp c1 (clamp c0 (1 : Int) (1000 : Int)) (10000 : Int) &&
                        (clamp (clamp c2 (1 : Int) (6 : Int)) (1 : Int) (6 : Int) == clamp c2 (1 : Int) (6 : Int) &&
                          (clamp (clamp c3 (1 : Int) (1000 : Int)) (1 : Int) (1000 : Int) == clamp c3 (1 : Int) (1000 : Int) &&
                            (clamp (clamp c4 (1 : Int) (64 : Int)) (1 : Int) (64 : Int) == clamp c4 (1 : Int) (64 : Int) &&
                              (clamp (clamp c5 (1 : Int) (100 : Int)) (1 : Int) (100 : Int) == clamp c5 (1 : Int) (100 : Int) &&
                                (clamp (clamp c6 (0 : Int) (8 : Int)) (0 : Int) (8 : Int) == clamp c6 (0 : Int) (8 : Int) &&
                                  (clamp (clamp c7 (1 : Int) (1000 : Int)) (1 : Int) (1000 : Int) == clamp c7 (1 : Int) (1000 : Int) &&
                                    (clamp (clamp c8 (0 : Int) (1000 : Int)) (0 : Int) (1000 : Int) == clamp c8 (0 : Int) (1000 : Int) && true))))))))) ||
                !(clamp (fc (30 : Int) x0) (1 : Int) (1000 : Int) == fc (30 : Int) x0 &&
                    (clamp (IntKind.i64.wrap (fc (30 : Int) x0 + fz (60 : Int) x1)) (clamp (fc (30 : Int) x0) (1 : Int) (1000 : Int)) (10000 : Int) == IntKind.i64.wrap (fc (30 : Int) x0 + fz (60 : Int) x1) &&
                      (clamp (fc (6 : Int) x2) (1 : Int) (6 : Int) == fc (6 : Int) x2 &&
                        (clamp (fc (20 : Int) x3) (1 : Int) (1000 : Int) == fc (20 : Int) x3 &&
                          (clamp (fc (9 : Int) x4) (1 : Int) (64 : Int) == fc (9 : Int) x4 &&
                            (clamp (fc (6 : Int) x5) (1 : Int) (100 : Int) == fc (6 : Int) x5 &&
                              (clamp (fz (4 : Int) x6) (0 : Int) (8 : Int) == fz (4 : Int) x6 &&
                                (clamp (fc (40 : Int) x7) (1 : Int) (1000 : Int) == fc (40 : Int) x7 && (clamp (fz (50 : Int) x8) (0 : Int) (1000 : Int) == fz (50 : Int) x8 && true))))))))) ||
              !(clamp c0 (1 : Int) (1000 : Int) == c0 &&
                    (clamp c1 (clamp c0 (1 : Int) (1000 : Int)) (10000 : Int) == c1 &&
                      (clamp c2 (1 : Int) (6 : Int) == c2 &&
                        (clamp c3 (1 : Int) (1000 : Int) == c3 &&
                          (clamp c4 (1 : Int) (64 : Int) == c4 &&
                            (clamp c5 (1 : Int) (100 : Int) == c5 && (clamp c6 (0 : Int) (8 : Int) == c6 && (clamp c7 (1 : Int) (1000 : Int) == c7 && (clamp c8 (0 : Int) (1000 : Int) == c8 && true))))))))) ==
                  (right c0 c1 c2 c3 c4 c5 c6 c7 c8 == (-1 : Int))) =
            true →
          false = true) ∧
        ((right (clamp c0 (1 : Int) (1000 : Int)) (clamp c1 (clamp c0 (1 : Int) (1000 : Int)) (10000 : Int)) (clamp c2 (1 : Int) (6 : Int)) (clamp c3 (1 : Int) (1000 : Int)) (clamp c4 (1 : Int) (64 : Int))
                      (clamp c5 (1 : Int) (100 : Int)) (clamp c6 (0 : Int) (8 : Int)) (clamp c7 (1 : Int) (1000 : Int)) (clamp c8 (0 : Int) (1000 : Int)) !=
                    (-1 : Int) ||
                  !(clamp (clamp c0 (1 : Int) (1000 : Int)) (1 : Int) (1000 : Int) == clamp c0 (1 : Int) (1000 : Int) &&
                      (clamp (clamp c1 (clamp c0 (1 : Int) (1000 : Int)) (10000 : Int)) (clamp (clamp c0 (1 : Int) (1000 : Int)) (1 : Int) (1000 : Int)) (10000 : Int) ==
                          clamp c1 (clamp c0 (1 : Int) (1000 : Int)) (10000 : Int) &&
                        (clamp (clamp c2 (1 : Int) (6 : Int)) (1 : Int) (6 : Int) == clamp c2 (1 : Int) (6 : Int) &&
                          (clamp (clamp c3 (1 : Int) (1000 : Int)) (1 : Int) (1000 : Int) == clamp c3 (1 : Int) (1000 : Int) &&
                            (clamp (clamp c4 (1 : Int) (64 : Int)) (1 : Int) (64 : Int) == clamp c4 (1 : Int) (64 : Int) &&
                              (clamp (clamp c5 (1 : Int) (100 : Int)) (1 : Int) (100 : Int) == clamp c5 (1 : Int) (100 : Int) &&
                                (clamp (clamp c6 (0 : Int) (8 : Int)) (0 : Int) (8 : Int) == clamp c6 (0 : Int) (8 : Int) &&
                                  (clamp (clamp c7 (1 : Int) (1000 : Int)) (1 : Int) (1000 : Int) == clamp c7 (1 : Int) (1000 : Int) &&
                                    (clamp (clamp c8 (0 : Int) (1000 : Int)) (0 : Int) (1000 : Int) == clamp c8 (0 : Int) (1000 : Int) && true))))))))) ||
                !(clamp (fc (30 : Int) x0) (1 : Int) (1000 : Int) == fc (30 : Int) x0 &&
                    (clamp (IntKind.i64.wrap (fc (30 : Int) x0 + fz (60 : Int) x1)) (clamp (fc (30 : Int) x0) (1 : Int) (1000 : Int)) (10000 : Int) == IntKind.i64.wrap (fc (30 : Int) x0 + fz (60 : Int) x1) &&
                      (clamp (fc (6 : Int) x2) (1 : Int) (6 : Int) == fc (6 : Int) x2 &&
                        (clamp (fc (20 : Int) x3) (1 : Int) (1000 : Int) == fc (20 : Int) x3 &&
                          (clamp (fc (9 : Int) x4) (1 : Int) (64 : Int) == fc (9 : Int) x4 &&
                            (clamp (fc (6 : Int) x5) (1 : Int) (100 : Int) == fc (6 : Int) x5 &&
                              (clamp (fz (4 : Int) x6) (0 : Int) (8 : Int) == fz (4 : Int) x6 &&
                                (clamp (fc (40 : Int) x7) (1 : Int) (1000 : Int) == fc (40 : Int) x7 && (clamp (fz (50 : Int) x8) (0 : Int) (1000 : Int) == fz (50 : Int) x8 && true))))))))) ||
              !(clamp c0 (1 : Int) (1000 : Int) == c0 &&
                    (clamp c1 (clamp c0 (1 : Int) (1000 : Int)) (10000 : Int) == c1 &&
                      (clamp c2 (1 : Int) (6 : Int) == c2 &&
                        (clamp c3 (1 : Int) (1000 : Int) == c3 &&
                          (clamp c4 (1 : Int) (64 : Int) == c4 &&
                            (clamp c5 (1 : Int) (100 : Int) == c5 && (clamp c6 (0 : Int) (8 : Int) == c6 && (clamp c7 (1 : Int) (1000 : Int) == c7 && (clamp c8 (0 : Int) (1000 : Int) == c8 && true))))))))) ==
                  (right c0 c1 c2 c3 c4 c5 c6 c7 c8 == (-1 : Int))) =
            false →
          (decide ((0 : Int) < (9 : Int)) = true →
              ((clamp c0 (1 : Int) (1000 : Int) != mx (1 : Int) (mn c0 (1000 : Int))) = true → false = true) ∧
                ((clamp c0 (1 : Int) (1000 : Int) != mx (1 : Int) (mn c0 (1000 : Int))) = false →
                  (decide ((1 : Int) < (9 : Int)) = true →
                      ((clamp c1 (clamp c0 (1 : Int) (1000 : Int)) (10000 : Int) != mx (clamp c0 (1 : Int) (1000 : Int)) (mn c1 (10000 : Int))) = true → false = true) ∧
                        ((clamp c1 (clamp c0 (1 : Int) (1000 : Int)) (10000 : Int) != mx (clamp c0 (1 : Int) (1000 : Int)) (mn c1 (10000 : Int))) = false →
                          (decide ((2 : Int) < (9 : Int)) = true →
                              ((clamp c2 (1 : Int) (6 : Int) != mx (1 : Int) (mn c2 (6 : Int))) = true → false = true) ∧
                                ((clamp c2 (1 : Int) (6 : Int) != mx (1 : Int) (mn c2 (6 : Int))) = false →
                                  (decide ((3 : Int) < (9 : Int)) = true →
                                      ((clamp c3 (1 : Int) (1000 : Int) != mx (1 : Int) (mn c3 (1000 : Int))) = true → false = true) ∧
                                        ((clamp c3 (1 : Int) (1000 : Int) != mx (1 : Int) (mn c3 (1000 : Int))) = false →
                                          (decide ((4 : Int) < (9 : Int)) = true →
                                              ((clamp c4 (1 : Int) (64 : Int) != mx (1 : Int) (mn c4 (64 : Int))) = true → false = true) ∧
                                                ((clamp c4 (1 : Int) (64 : Int) != mx (1 : Int) (mn c4 (64 : Int))) = false →
                                                  (decide ((5 : Int) < (9 : Int)) = true →
                                                      ((clamp c5 (1 : Int) (100 : Int) != mx (1 : Int) (mn c5 (100 : Int))) = true → false = true) ∧
                                                        ((clamp c5 (1 : Int) (100 : Int) != mx (1 : Int) (mn c5 (100 : Int))) = false →
                                                          (decide ((6 : Int) < (9 : Int)) = true →
                                                              ((clamp c6 (0 : Int) (8 : Int) != mx (0 : Int) (mn c6 (8 : Int))) = true → false = true) ∧
                                                                ((clamp c6 (0 : Int) (8 : Int) != mx (0 : Int) (mn c6 (8 : Int))) = false →
                                                                  (decide ((7 : Int) < (9 : Int)) = true →
                                                                      ((clamp c7 (1 : Int) (1000 : Int) != mx (1 : Int) (mn c7 (1000 : Int))) = true → false = true) ∧
                                                                        ((clamp c7 (1 : Int) (1000 : Int) != mx (1 : Int) (mn c7 (1000 : Int))) = false →
                                                                          (decide ((8 : Int) < (9 : Int)) = true →
                                                                              ((clamp c8 (0 : Int) (1000 : Int) != mx (0 : Int) (mn c8 (1000 : Int))) = true → false = true) ∧
                                                                                ((clamp c8 (0 : Int) (1000 : Int) != mx (0 : Int) (mn c8 (1000 : Int))) = false →
                                                                                  (decide ((9 : Int) < (9 : Int)) = true → False) ∧ (decide ((9 : Int) < (9 : Int)) = false → true = true))) ∧
                                                                            (decide ((8 : Int) < (9 : Int)) = false → true = true))) ∧
                                                                    (decide ((7 : Int) < (9 : Int)) = false → true = true))) ∧
                                                            (decide ((6 : Int) < (9 : Int)) = false → true = true))) ∧
                                                    (decide ((5 : Int) < (9 : Int)) = false → true = true))) ∧
                                            (decide ((4 : Int) < (9 : Int)) = false → true = true))) ∧
                                    (decide ((3 : Int) < (9 : Int)) = false → true = true))) ∧
                            (decide ((2 : Int) < (9 : Int)) = false → true = true))) ∧
                    (decide ((1 : Int) < (9 : Int)) = false → true = true))) ∧
            (decide ((0 : Int) < (9 : Int)) = false → true = true)))

end Go.Proofs.Ytfnofdgippdlaaa.Cfg
