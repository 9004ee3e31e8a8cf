/- The choices of an operator: what the bodies come to (printed by wip/Vc.lean; checked by the kernel in the next text). -/
import Derived.Test.YtfnofdgippdlaaaCfgSpec
namespace Go.Proofs.Ytfnofdgippdlaaa.Cfg
open Go Go.Proofs.Ytfnofdgippdlaaa.Sx
def vc25 : Int → Int → Int → Int → Int → Int → Int → Int → Int → Prop :=
  fun (c0 c1 c2 c3 c4 c5 c6 c7 c8 : Int) =>
  clamp c0 (1 : Int) (1000 : Int) = clamp c0 (1 : Int) (1000 : Int) ∧
    clamp c1 (clamp c0 (1 : Int) (1000 : Int)) (10000 : Int) = clamp c1 (clamp c0 (1 : Int) (1000 : Int)) (10000 : Int) ∧
      clamp c2 (1 : Int) (6 : Int) = clamp c2 (1 : Int) (6 : Int) ∧
        clamp c3 (1 : Int) (1000 : Int) = clamp c3 (1 : Int) (1000 : Int) ∧
          clamp c4 (1 : Int) (64 : Int) = clamp c4 (1 : Int) (64 : Int) ∧
            clamp c5 (1 : Int) (100 : Int) = clamp c5 (1 : Int) (100 : Int) ∧
              clamp c6 (0 : Int) (8 : Int) = clamp c6 (0 : Int) (8 : Int) ∧ clamp c7 (1 : Int) (1000 : Int) = clamp c7 (1 : Int) (1000 : Int) ∧ clamp c8 (0 : Int) (1000 : Int) = clamp c8 (0 : Int) (1000 : Int)

def vc24 : Prop :=
  (20 : Int) = (20 : Int) ∧
  (60 : Int) = (60 : Int) ∧ (2 : Int) = (2 : Int) ∧ (10 : Int) = (10 : Int) ∧ (4 : Int) = (4 : Int) ∧ (3 : Int) = (3 : Int) ∧ (1 : Int) = (1 : Int) ∧ (30 : Int) = (30 : Int) ∧ (40 : Int) = (40 : Int)

def vc21 : Int → Int → Int → Int → Int → Int → Int → Int → Int → Prop :=
  fun (c0 c1 c2 c3 c4 c5 c6 c7 c8 : Int) =>
  c0 = c0 ∧
    (1 : Int) = (1 : Int) ∧
      (1000 : Int) = (1000 : Int) ∧
        c1 = c1 ∧
          c0 = c0 ∧
            (10000 : Int) = (10000 : Int) ∧
              c2 = c2 ∧
                (1 : Int) = (1 : Int) ∧
                  (6 : Int) = (6 : Int) ∧
                    c3 = c3 ∧
                      (1 : Int) = (1 : Int) ∧
                        (1000 : Int) = (1000 : Int) ∧
                          c4 = c4 ∧
                            (1 : Int) = (1 : Int) ∧
                              (64 : Int) = (64 : Int) ∧
                                c5 = c5 ∧
                                  (1 : Int) = (1 : Int) ∧
                                    (100 : Int) = (100 : Int) ∧
                                      c6 = c6 ∧
                                        (0 : Int) = (0 : Int) ∧ (8 : Int) = (8 : Int) ∧ c7 = c7 ∧ (1 : Int) = (1 : Int) ∧ (1000 : Int) = (1000 : Int) ∧ c8 = c8 ∧ (0 : Int) = (0 : Int) ∧ (1000 : Int) = (1000 : Int)

def vc23 : Int → Int → Int → Int → Int → Int → Int → Int → Int → Prop :=
  fun (c0 c1 c2 c3 c4 c5 c6 c7 c8 : Int) =>
  (30 : Int) ≠ (0 : Int) ∧
    (60 : Int) ≠ (0 : Int) ∧
      (6 : Int) ≠ (0 : Int) ∧
        (20 : Int) ≠ (0 : Int) ∧
          (9 : Int) ≠ (0 : Int) ∧
            (6 : Int) ≠ (0 : Int) ∧
              (4 : Int) ≠ (0 : Int) ∧
                (40 : Int) ≠ (0 : Int) ∧
                  (50 : Int) ≠ (0 : Int) ∧
                    IntKind.i64.wrap ((1 : Int) + IntKind.i64.wrap (c0.tmod (30 : Int))) = fc (30 : Int) c0 ∧
                      IntKind.i64.wrap (IntKind.i64.wrap ((1 : Int) + IntKind.i64.wrap (c0.tmod (30 : Int))) + IntKind.i64.wrap (c1.tmod (60 : Int))) = IntKind.i64.wrap (fc (30 : Int) c0 + fz (60 : Int) c1) ∧
                        IntKind.i64.wrap ((1 : Int) + IntKind.i64.wrap (c2.tmod (6 : Int))) = fc (6 : Int) c2 ∧
                          IntKind.i64.wrap ((1 : Int) + IntKind.i64.wrap (c3.tmod (20 : Int))) = fc (20 : Int) c3 ∧
                            IntKind.i64.wrap ((1 : Int) + IntKind.i64.wrap (c4.tmod (9 : Int))) = fc (9 : Int) c4 ∧
                              IntKind.i64.wrap ((1 : Int) + IntKind.i64.wrap (c5.tmod (6 : Int))) = fc (6 : Int) c5 ∧
                                IntKind.i64.wrap (c6.tmod (4 : Int)) = fz (4 : Int) c6 ∧
                                  IntKind.i64.wrap ((1 : Int) + IntKind.i64.wrap (c7.tmod (40 : Int))) = fc (40 : Int) c7 ∧ IntKind.i64.wrap (c8.tmod (50 : Int)) = fz (50 : Int) c8

def vc22 : Int → Int → Int → Int → Int → Int → Int → Int → Int → Int → Prop :=
  fun (c0 c1 c2 c3 c4 c5 c6 c7 c8 y : Int) =>
  (∃ (g : Nat),
      (g ≤ (9 : Nat) ∧ ∀ (j : Nat), j < g → bad ((rows c0 c1 c2 c3 c4 c5 c6 c7 c8).getD j { n := (0 : Int), low := (0 : Int), high := (0 : Int) : R3 }) = false) ∧
        (((0 : Nat) = (0 : Nat) ∧ (9 : Nat) = (9 : Nat)) ∧ (9 : Int) = (9 : Int) ∧ (0 : Int) = (↑g : Int)) ∧
          [{ n := c0, low := (1 : Int), high := (1000 : Int) : R3 }, { n := c1, low := c0, high := (10000 : Int) : R3 }, { n := c2, low := (1 : Int), high := (6 : Int) : R3 },
              { n := c3, low := (1 : Int), high := (1000 : Int) : R3 }, { n := c4, low := (1 : Int), high := (64 : Int) : R3 }, { n := c5, low := (1 : Int), high := (100 : Int) : R3 },
              { n := c6, low := (0 : Int), high := (8 : Int) : R3 }, { n := c7, low := (1 : Int), high := (1000 : Int) : R3 }, { n := c8, low := (0 : Int), high := (1000 : Int) : R3 }] =
            [{ n := c0, low := (1 : Int), high := (1000 : Int) : R3 }, { n := c1, low := c0, high := (10000 : Int) : R3 }, { n := c2, low := (1 : Int), high := (6 : Int) : R3 },
              { n := c3, low := (1 : Int), high := (1000 : Int) : R3 }, { n := c4, low := (1 : Int), high := (64 : Int) : R3 }, { n := c5, low := (1 : Int), high := (100 : Int) : R3 },
              { n := c6, low := (0 : Int), high := (8 : Int) : R3 }, { n := c7, low := (1 : Int), high := (1000 : Int) : R3 }, { n := c8, low := (0 : Int), high := (1000 : Int) : R3 }]) ∧
    ∀ (g : Nat),
      (g ≤ (9 : Nat) ∧ ∀ (j : Nat), j < g → bad ((rows c0 c1 c2 c3 c4 c5 c6 c7 c8).getD j { n := (0 : Int), low := (0 : Int), high := (0 : Int) : R3 }) = false) →
        (decide ((↑g : Int) < (9 : Int)) = true →
            ((0 : Int) ≤ (↑g : Int) ∧ (↑g : Int) < (9 : Int)) ∧
              ((decide
                        (([{ n := c0, low := (1 : Int), high := (1000 : Int) : R3 }, { n := c1, low := c0, high := (10000 : Int) : R3 }, { n := c2, low := (1 : Int), high := (6 : Int) : R3 },
                                  { n := c3, low := (1 : Int), high := (1000 : Int) : R3 }, { n := c4, low := (1 : Int), high := (64 : Int) : R3 }, { n := c5, low := (1 : Int), high := (100 : Int) : R3 },
                                  { n := c6, low := (0 : Int), high := (8 : Int) : R3 }, { n := c7, low := (1 : Int), high := (1000 : Int) : R3 }, { n := c8, low := (0 : Int), high := (1000 : Int) : R3 }].getD
                              ((0 : Nat) + (↑g : Int).toNat) (u.dflt (46 : Nat))).n <
                          ([{ n := c0, low := (1 : Int), high := (1000 : Int) : R3 }, { n := c1, low := c0, high := (10000 : Int) : R3 }, { n := c2, low := (1 : Int), high := (6 : Int) : R3 },
                                  { n := c3, low := (1 : Int), high := (1000 : Int) : R3 }, { n := c4, low := (1 : Int), high := (64 : Int) : R3 }, { n := c5, low := (1 : Int), high := (100 : Int) : R3 },
                                  { n := c6, low := (0 : Int), high := (8 : Int) : R3 }, { n := c7, low := (1 : Int), high := (1000 : Int) : R3 }, { n := c8, low := (0 : Int), high := (1000 : Int) : R3 }].getD
                              ((0 : Nat) + (↑g : Int).toNat) (u.dflt (46 : Nat))).low) ||
                      decide
                        (([{ n := c0, low := (1 : Int), high := (1000 : Int) : R3 }, { n := c1, low := c0, high := (10000 : Int) : R3 }, { n := c2, low := (1 : Int), high := (6 : Int) : R3 },
                                  { n := c3, low := (1 : Int), high := (1000 : Int) : R3 }, { n := c4, low := (1 : Int), high := (64 : Int) : R3 }, { n := c5, low := (1 : Int), high := (100 : Int) : R3 },
                                  { n := c6, low := (0 : Int), high := (8 : Int) : R3 }, { n := c7, low := (1 : Int), high := (1000 : Int) : R3 }, { n := c8, low := (0 : Int), high := (1000 : Int) : R3 }].getD
                              ((0 : Nat) + (↑g : Int).toNat) (u.dflt (46 : Nat))).n >
                          ([{ n := c0, low := (1 : Int), high := (1000 : Int) : R3 }, { n := c1, low := c0, high := (10000 : Int) : R3 }, { n := c2, low := (1 : Int), high := (6 : Int) : R3 },
                                  { n := c3, low := (1 : Int), high := (1000 : Int) : R3 }, { n := c4, low := (1 : Int), high := (64 : Int) : R3 }, { n := c5, low := (1 : Int), high := (100 : Int) : R3 },
                                  { n := c6, low := (0 : Int), high := (8 : Int) : R3 }, { n := c7, low := (1 : Int), high := (1000 : Int) : R3 }, { n := c8, low := (0 : Int), high := (1000 : Int) : R3 }].getD
                              ((0 : Nat) + (↑g : Int).toNat) (u.dflt (46 : Nat))).high)) =
                    true →
                  (↑g : Int) = y) ∧
                ((decide
                        (([{ n := c0, low := (1 : Int), high := (1000 : Int) : R3 }, { n := c1, low := c0, high := (10000 : Int) : R3 }, { n := c2, low := (1 : Int), high := (6 : Int) : R3 },
                                  { n := c3, low := (1 : Int), high := (1000 : Int) : R3 }, { n := c4, low := (1 : Int), high := (64 : Int) : R3 }, { n := c5, low := (1 : Int), high := (100 : Int) : R3 },
                                  { n := c6, low := (0 : Int), high := (8 : Int) : R3 }, { n := c7, low := (1 : Int), high := (1000 : Int) : R3 }, { n := c8, low := (0 : Int), high := (1000 : Int) : R3 }].getD
                              ((0 : Nat) + (↑g : Int).toNat) (u.dflt (46 : Nat))).n <
                          ([{ n := c0, low := (1 : Int), high := (1000 : Int) : R3 }, { n := c1, low := c0, high := (10000 : Int) : R3 }, { n := c2, low := (1 : Int), high := (6 : Int) : R3 },
                                  { n := c3, low := (1 : Int), high := (1000 : Int) : R3 }, { n := c4, low := (1 : Int), high := (64 : Int) : R3 }, { n := c5, low := (1 : Int), high := (100 : Int) : R3 },
                                  { n := c6, low := (0 : Int), high := (8 : Int) : R3 }, { n := c7, low := (1 : Int), high := (1000 : Int) : R3 }, { n := c8, low := (0 : Int), high := (1000 : Int) : R3 }].getD
                              ((0 : Nat) + (↑g : Int).toNat) (u.dflt (46 : Nat))).low) ||
                      decide
                        (([{ n := c0, low := (1 : Int), high := (1000 : Int) : R3 }, { n := c1, low := c0, high := (10000 : Int) : R3 }, { n := c2, low := (1 : Int), high := (6 : Int) : R3 },
                                  { n := c3, low := (1 : Int), high := (1000 : Int) : R3 }, { n := c4, low := (1 : Int), high := (64 : Int) : R3 }, { n := c5, low := (1 : Int), high := (100 : Int) : R3 },
                                  { n := c6, low := (0 : Int), high := (8 : Int) : R3 }, { n := c7, low := (1 : Int), high := (1000 : Int) : R3 }, { n := c8, low := (0 : Int), high := (1000 : Int) : R3 }].getD
                              ((0 : Nat) + (↑g : Int).toNat) (u.dflt (46 : Nat))).n >
                          ([{ n := c0, low := (1 : Int), high := (1000 : Int) : R3 }, { n := c1, low := c0, high := (10000 : Int) : R3 }, { n := c2, low := (1 : Int), high := (6 : Int) : R3 },
                                  { n := c3, low := (1 : Int), high := (1000 : Int) : R3 }, { n := c4, low := (1 : Int), high := (64 : Int) : R3 }, { n := c5, low := (1 : Int), high := (100 : Int) : R3 },
                                  { n := c6, low := (0 : Int), high := (8 : Int) : R3 }, { n := c7, low := (1 : Int), high := (1000 : Int) : R3 }, { n := c8, low := (0 : Int), high := (1000 : Int) : R3 }].getD
                              ((0 : Nat) + (↑g : Int).toNat) (u.dflt (46 : Nat))).high)) =
                    false →
                  ∃ (g_1 : Nat),
                    (g_1 ≤ (9 : Nat) ∧ ∀ (j : Nat), j < g_1 → bad ((rows c0 c1 c2 c3 c4 c5 c6 c7 c8).getD j { n := (0 : Int), low := (0 : Int), high := (0 : Int) : R3 }) = false) ∧
                      (ann22 c0 c1 c2 c3 c4 c5 c6 c7 c8).μ g_1 < (ann22 c0 c1 c2 c3 c4 c5 c6 c7 c8).μ g ∧
                        (((0 : Nat) = (0 : Nat) ∧ (9 : Nat) = (9 : Nat)) ∧ (9 : Int) = (9 : Int) ∧ IntKind.i64.wrap ((↑g : Int) + (1 : Int)) = (↑g_1 : Int)) ∧
                          [{ n := c0, low := (1 : Int), high := (1000 : Int) : R3 }, { n := c1, low := c0, high := (10000 : Int) : R3 }, { n := c2, low := (1 : Int), high := (6 : Int) : R3 },
                              { n := c3, low := (1 : Int), high := (1000 : Int) : R3 }, { n := c4, low := (1 : Int), high := (64 : Int) : R3 }, { n := c5, low := (1 : Int), high := (100 : Int) : R3 },
                              { n := c6, low := (0 : Int), high := (8 : Int) : R3 }, { n := c7, low := (1 : Int), high := (1000 : Int) : R3 }, { n := c8, low := (0 : Int), high := (1000 : Int) : R3 }] =
                            [{ n := c0, low := (1 : Int), high := (1000 : Int) : R3 }, { n := c1, low := c0, high := (10000 : Int) : R3 }, { n := c2, low := (1 : Int), high := (6 : Int) : R3 },
                              { n := c3, low := (1 : Int), high := (1000 : Int) : R3 }, { n := c4, low := (1 : Int), high := (64 : Int) : R3 }, { n := c5, low := (1 : Int), high := (100 : Int) : R3 },
                              { n := c6, low := (0 : Int), high := (8 : Int) : R3 }, { n := c7, low := (1 : Int), high := (1000 : Int) : R3 }, { n := c8, low := (0 : Int), high := (1000 : Int) : R3 }])) ∧
          (decide ((↑g : Int) < (9 : Int)) = false → (-1 : Int) = y)

def vc20 : Prop :=
  ((-1 : Int) == (-1 : Int) && (0 : Int) == (0 : Int) && (1 : Int) == (1 : Int) && (1 : Int) == (1 : Int) && (1 : Int) == (1 : Int) && (0 : Int) == (0 : Int)) = true

def vc9 : Int → Int → Int → Int → Int → Int → Int → Int → Int → Int → Int → Int → Int → Int → Int → Int → Int → Int → Prop :=
  fun (c0 c1 c2 c3 c4 c5 c6 c7 c8 x0 x1 x2 x3 x4 x5 x6 x7 x8 : Int) =>
  ((!true) = true → false = true) ∧
    ((!true) = false →
      (decide ((0 : Int) < (9 : Int)) = true →
          ((decide ((-1 : Int) < (0 : Int)) && (decide (c0 < (1 : Int)) || decide (c0 > (1000 : Int)))) = true → True) ∧
            ((decide ((-1 : Int) < (0 : Int)) && (decide (c0 < (1 : Int)) || decide (c0 > (1000 : Int)))) = false → True) ∧
              ∀ (v : Int),
                (v = if (decide ((-1 : Int) < (0 : Int)) && (decide (c0 < (1 : Int)) || decide (c0 > (1000 : Int)))) = true then (0 : Int) else (-1 : Int)) →
                  (decide ((1 : Int) < (9 : Int)) = true →
                      ((decide (v < (0 : Int)) && (decide (c1 < c0) || decide (c1 > (10000 : Int)))) = true → True) ∧
                        ((decide (v < (0 : Int)) && (decide (c1 < c0) || decide (c1 > (10000 : Int)))) = false → True) ∧
                          ∀ (v_1 : Int),
                            (v_1 = if (decide (v < (0 : Int)) && (decide (c1 < c0) || decide (c1 > (10000 : Int)))) = true then (1 : Int) else v) →
                              (decide ((2 : Int) < (9 : Int)) = true →
                                  ((decide (v_1 < (0 : Int)) && (decide (c2 < (1 : Int)) || decide (c2 > (6 : Int)))) = true → True) ∧
                                    ((decide (v_1 < (0 : Int)) && (decide (c2 < (1 : Int)) || decide (c2 > (6 : Int)))) = false → True) ∧
                                      ∀ (v : Int),
                                        (v = if (decide (v_1 < (0 : Int)) && (decide (c2 < (1 : Int)) || decide (c2 > (6 : Int)))) = true then (2 : Int) else v_1) →
                                          (decide ((3 : Int) < (9 : Int)) = true →
                                              ((decide (v < (0 : Int)) && (decide (c3 < (1 : Int)) || decide (c3 > (1000 : Int)))) = true → True) ∧
                                                ((decide (v < (0 : Int)) && (decide (c3 < (1 : Int)) || decide (c3 > (1000 : Int)))) = false → True) ∧
                                                  ∀ (v_2 : Int),
                                                    (v_2 = if (decide (v < (0 : Int)) && (decide (c3 < (1 : Int)) || decide (c3 > (1000 : Int)))) = true then (3 : Int) else v) →
                                                      (decide ((4 : Int) < (9 : Int)) = true →
                                                          ((decide (v_2 < (0 : Int)) && (decide (c4 < (1 : Int)) || decide (c4 > (64 : Int)))) = true → True) ∧
                                                            ((decide (v_2 < (0 : Int)) && (decide (c4 < (1 : Int)) || decide (c4 > (64 : Int)))) = false → True) ∧
                                                              ∀ (v : Int),
                                                                (v = if (decide (v_2 < (0 : Int)) && (decide (c4 < (1 : Int)) || decide (c4 > (64 : Int)))) = true then (4 : Int) else v_2) →
                                                                  (decide ((5 : Int) < (9 : Int)) = true →
                                                                      ((decide (v < (0 : Int)) && (decide (c5 < (1 : Int)) || decide (c5 > (100 : Int)))) = true → True) ∧
                                                                        ((decide (v < (0 : Int)) && (decide (c5 < (1 : Int)) || decide (c5 > (100 : Int)))) = false → True) ∧
                                                                          ∀ (v_3 : Int),
                                                                            (v_3 = if (decide (v < (0 : Int)) && (decide (c5 < (1 : Int)) || decide (c5 > (100 : Int)))) = true then (5 : Int) else v) →
                                                                              (decide ((6 : Int) < (9 : Int)) = true →
                                                                                  ((decide (v_3 < (0 : Int)) && (decide (c6 < (0 : Int)) || decide (c6 > (8 : Int)))) = true → True) ∧
                                                                                    ((decide (v_3 < (0 : Int)) && (decide (c6 < (0 : Int)) || decide (c6 > (8 : Int)))) = false → True) ∧
                                                                                      ∀ (v : Int),
                                                                                        (v = if (decide (v_3 < (0 : Int)) && (decide (c6 < (0 : Int)) || decide (c6 > (8 : Int)))) = true then (6 : Int) else v_3) →
                                                                                          (decide ((7 : Int) < (9 : Int)) = true →
                                                                                              ((decide (v < (0 : Int)) && (decide (c7 < (1 : Int)) || decide (c7 > (1000 : Int)))) = true → True) ∧
                                                                                                ((decide (v < (0 : Int)) && (decide (c7 < (1 : Int)) || decide (c7 > (1000 : Int)))) = false → True) ∧
                                                                                                  ∀ (v_4 : Int),
                                                                                                    (v_4 =
                                                                                                        if (decide (v < (0 : Int)) && (decide (c7 < (1 : Int)) || decide (c7 > (1000 : Int)))) = true then (7 : Int)
                                                                                                        else v) →
                                                                                                      (decide ((8 : Int) < (9 : Int)) = true →
                                                                                                          ((decide (v_4 < (0 : Int)) && (decide (c8 < (0 : Int)) || decide (c8 > (1000 : Int)))) = true → True) ∧
                                                                                                            ((decide (v_4 < (0 : Int)) && (decide (c8 < (0 : Int)) || decide (c8 > (1000 : Int)))) = false → True) ∧
                                                                                                              ∀ (v : Int),
                                                                                                                (v =
                                                                                                                    if (decide (v_4 < (0 : Int)) && (decide (c8 < (0 : Int)) || decide (c8 > (1000 : Int)))) = true then
                                                                                                                      (8 : Int)
                                                                                                                    else v_4) →
                                                                                                                  (decide ((9 : Int) < (9 : Int)) = true → False) ∧
                                                                                                                    (decide ((9 : Int) < (9 : Int)) = false →
                                                                                                                      (right c0 c1 c2 c3 c4 c5 c6 c7 c8 == v &&
                                                                                                                            right (fc (30 : Int) x0) (IntKind.i64.wrap (fc (30 : Int) x0 + fz (60 : Int) x1))
                                                                                                                                (fc (6 : Int) x2) (fc (20 : Int) x3) (fc (9 : Int) x4) (fc (6 : Int) x5) (fz (4 : Int) x6)
                                                                                                                                (fc (40 : Int) x7) (fz (50 : Int) x8) ==
                                                                                                                              (-1 : Int) &&
                                                                                                                          ((20 : Int) == (20 : Int) &&
                                                                                                                            ((60 : Int) == (60 : Int) &&
                                                                                                                              ((2 : Int) == (2 : Int) &&
                                                                                                                                ((10 : Int) == (10 : Int) &&
                                                                                                                                  ((4 : Int) == (4 : Int) &&
                                                                                                                                    ((3 : Int) == (3 : Int) &&
                                                                                                                                      ((1 : Int) == (1 : Int) &&
                                                                                                                                        ((30 : Int) == (30 : Int) && ((40 : Int) == (40 : Int) && true)))))))))) =
                                                                                                                        true)) ∧
                                                                                                        (decide ((8 : Int) < (9 : Int)) = false →
                                                                                                          (right c0 c1 c2 c3 c4 c5 c6 c7 c8 == v_4 &&
                                                                                                                right (fc (30 : Int) x0) (IntKind.i64.wrap (fc (30 : Int) x0 + fz (60 : Int) x1)) (fc (6 : Int) x2)
                                                                                                                    (fc (20 : Int) x3) (fc (9 : Int) x4) (fc (6 : Int) x5) (fz (4 : Int) x6) (fc (40 : Int) x7)
                                                                                                                    (fz (50 : Int) x8) ==
                                                                                                                  (-1 : Int) &&
                                                                                                              ((20 : Int) == (20 : Int) &&
                                                                                                                ((60 : Int) == (60 : Int) &&
                                                                                                                  ((2 : Int) == (2 : Int) &&
                                                                                                                    ((10 : Int) == (10 : Int) &&
                                                                                                                      ((4 : Int) == (4 : Int) &&
                                                                                                                        ((3 : Int) == (3 : Int) &&
                                                                                                                          ((1 : Int) == (1 : Int) &&
                                                                                                                            ((30 : Int) == (30 : Int) && ((40 : Int) == (40 : Int) && true)))))))))) =
                                                                                                            true)) ∧
                                                                                            (decide ((7 : Int) < (9 : Int)) = false →
                                                                                              (right c0 c1 c2 c3 c4 c5 c6 c7 c8 == v &&
                                                                                                    right (fc (30 : Int) x0) (IntKind.i64.wrap (fc (30 : Int) x0 + fz (60 : Int) x1)) (fc (6 : Int) x2) (fc (20 : Int) x3)
                                                                                                        (fc (9 : Int) x4) (fc (6 : Int) x5) (fz (4 : Int) x6) (fc (40 : Int) x7) (fz (50 : Int) x8) ==
                                                                                                      (-1 : Int) &&
                                                                                                  ((20 : Int) == (20 : Int) &&
                                                                                                    ((60 : Int) == (60 : Int) &&
                                                                                                      ((2 : Int) == (2 : Int) &&
                                                                                                        ((10 : Int) == (10 : Int) &&
                                                                                                          ((4 : Int) == (4 : Int) &&
                                                                                                            ((3 : Int) == (3 : Int) &&
                                                                                                              ((1 : Int) == (1 : Int) && ((30 : Int) == (30 : Int) && ((40 : Int) == (40 : Int) && true)))))))))) =
                                                                                                true)) ∧
                                                                                (decide ((6 : Int) < (9 : Int)) = false →
                                                                                  (right c0 c1 c2 c3 c4 c5 c6 c7 c8 == v_3 &&
                                                                                        right (fc (30 : Int) x0) (IntKind.i64.wrap (fc (30 : Int) x0 + fz (60 : Int) x1)) (fc (6 : Int) x2) (fc (20 : Int) x3)
                                                                                            (fc (9 : Int) x4) (fc (6 : Int) x5) (fz (4 : Int) x6) (fc (40 : Int) x7) (fz (50 : Int) x8) ==
                                                                                          (-1 : Int) &&
                                                                                      ((20 : Int) == (20 : Int) &&
                                                                                        ((60 : Int) == (60 : Int) &&
                                                                                          ((2 : Int) == (2 : Int) &&
                                                                                            ((10 : Int) == (10 : Int) &&
                                                                                              ((4 : Int) == (4 : Int) &&
                                                                                                ((3 : Int) == (3 : Int) &&
                                                                                                  ((1 : Int) == (1 : Int) && ((30 : Int) == (30 : Int) && ((40 : Int) == (40 : Int) && true)))))))))) =
                                                                                    true)) ∧
                                                                    (decide ((5 : Int) < (9 : Int)) = false →
                                                                      (right c0 c1 c2 c3 c4 c5 c6 c7 c8 == v &&
                                                                            right (fc (30 : Int) x0) (IntKind.i64.wrap (fc (30 : Int) x0 + fz (60 : Int) x1)) (fc (6 : Int) x2) (fc (20 : Int) x3) (fc (9 : Int) x4)
                                                                                (fc (6 : Int) x5) (fz (4 : Int) x6) (fc (40 : Int) x7) (fz (50 : Int) x8) ==
                                                                              (-1 : Int) &&
                                                                          ((20 : Int) == (20 : Int) &&
                                                                            ((60 : Int) == (60 : Int) &&
                                                                              ((2 : Int) == (2 : Int) &&
                                                                                ((10 : Int) == (10 : Int) &&
                                                                                  ((4 : Int) == (4 : Int) &&
                                                                                    ((3 : Int) == (3 : Int) && ((1 : Int) == (1 : Int) && ((30 : Int) == (30 : Int) && ((40 : Int) == (40 : Int) && true)))))))))) =
                                                                        true)) ∧
                                                        (decide ((4 : Int) < (9 : Int)) = false →
                                                          (right c0 c1 c2 c3 c4 c5 c6 c7 c8 == v_2 &&
                                                                right (fc (30 : Int) x0) (IntKind.i64.wrap (fc (30 : Int) x0 + fz (60 : Int) x1)) (fc (6 : Int) x2) (fc (20 : Int) x3) (fc (9 : Int) x4) (fc (6 : Int) x5)
                                                                    (fz (4 : Int) x6) (fc (40 : Int) x7) (fz (50 : Int) x8) ==
                                                                  (-1 : Int) &&
                                                              ((20 : Int) == (20 : Int) &&
                                                                ((60 : Int) == (60 : Int) &&
                                                                  ((2 : Int) == (2 : Int) &&
                                                                    ((10 : Int) == (10 : Int) &&
                                                                      ((4 : Int) == (4 : Int) &&
                                                                        ((3 : Int) == (3 : Int) && ((1 : Int) == (1 : Int) && ((30 : Int) == (30 : Int) && ((40 : Int) == (40 : Int) && true)))))))))) =
                                                            true)) ∧
                                            (decide ((3 : Int) < (9 : Int)) = false →
                                              (right c0 c1 c2 c3 c4 c5 c6 c7 c8 == v &&
                                                    right (fc (30 : Int) x0) (IntKind.i64.wrap (fc (30 : Int) x0 + fz (60 : Int) x1)) (fc (6 : Int) x2) (fc (20 : Int) x3) (fc (9 : Int) x4) (fc (6 : Int) x5)
                                                        (fz (4 : Int) x6) (fc (40 : Int) x7) (fz (50 : Int) x8) ==
                                                      (-1 : Int) &&
                                                  ((20 : Int) == (20 : Int) &&
                                                    ((60 : Int) == (60 : Int) &&
                                                      ((2 : Int) == (2 : Int) &&
                                                        ((10 : Int) == (10 : Int) &&
                                                          ((4 : Int) == (4 : Int) && ((3 : Int) == (3 : Int) && ((1 : Int) == (1 : Int) && ((30 : Int) == (30 : Int) && ((40 : Int) == (40 : Int) && true)))))))))) =
                                                true)) ∧
                                (decide ((2 : Int) < (9 : Int)) = false →
                                  (right c0 c1 c2 c3 c4 c5 c6 c7 c8 == v_1 &&
                                        right (fc (30 : Int) x0) (IntKind.i64.wrap (fc (30 : Int) x0 + fz (60 : Int) x1)) (fc (6 : Int) x2) (fc (20 : Int) x3) (fc (9 : Int) x4) (fc (6 : Int) x5) (fz (4 : Int) x6)
                                            (fc (40 : Int) x7) (fz (50 : Int) x8) ==
                                          (-1 : Int) &&
                                      ((20 : Int) == (20 : Int) &&
                                        ((60 : Int) == (60 : Int) &&
                                          ((2 : Int) == (2 : Int) &&
                                            ((10 : Int) == (10 : Int) &&
                                              ((4 : Int) == (4 : Int) && ((3 : Int) == (3 : Int) && ((1 : Int) == (1 : Int) && ((30 : Int) == (30 : Int) && ((40 : Int) == (40 : Int) && true)))))))))) =
                                    true)) ∧
                    (decide ((1 : Int) < (9 : Int)) = false →
                      (right c0 c1 c2 c3 c4 c5 c6 c7 c8 == v &&
                            right (fc (30 : Int) x0) (IntKind.i64.wrap (fc (30 : Int) x0 + fz (60 : Int) x1)) (fc (6 : Int) x2) (fc (20 : Int) x3) (fc (9 : Int) x4) (fc (6 : Int) x5) (fz (4 : Int) x6) (fc (40 : Int) x7)
                                (fz (50 : Int) x8) ==
                              (-1 : Int) &&
                          ((20 : Int) == (20 : Int) &&
                            ((60 : Int) == (60 : Int) &&
                              ((2 : Int) == (2 : Int) &&
                                ((10 : Int) == (10 : Int) && ((4 : Int) == (4 : Int) && ((3 : Int) == (3 : Int) && ((1 : Int) == (1 : Int) && ((30 : Int) == (30 : Int) && ((40 : Int) == (40 : Int) && true)))))))))) =
                        true)) ∧
        (decide ((0 : Int) < (9 : Int)) = false →
          (right c0 c1 c2 c3 c4 c5 c6 c7 c8 == (-1 : Int) &&
                right (fc (30 : Int) x0) (IntKind.i64.wrap (fc (30 : Int) x0 + fz (60 : Int) x1)) (fc (6 : Int) x2) (fc (20 : Int) x3) (fc (9 : Int) x4) (fc (6 : Int) x5) (fz (4 : Int) x6) (fc (40 : Int) x7)
                    (fz (50 : Int) x8) ==
                  (-1 : Int) &&
              ((20 : Int) == (20 : Int) &&
                ((60 : Int) == (60 : Int) &&
                  ((2 : Int) == (2 : Int) &&
                    ((10 : Int) == (10 : Int) && ((4 : Int) == (4 : Int) && ((3 : Int) == (3 : Int) && ((1 : Int) == (1 : Int) && ((30 : Int) == (30 : Int) && ((40 : Int) == (40 : Int) && true)))))))))) =
            true))

end Go.Proofs.Ytfnofdgippdlaaa.Cfg
