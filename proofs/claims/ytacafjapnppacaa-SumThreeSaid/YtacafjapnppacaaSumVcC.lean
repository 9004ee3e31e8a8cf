/- Sums of bytes: what the bodies of four laws come to (printed by wip/Vc.lean; checked by the kernel in the next text). -/
import Derived.Test.YtacafjapnppacaaSumWalkB
namespace Go.Proofs.Ytacafjapnppacaa.Sum
open Go Go.Proofs.Ytacafjapnppacaa.Sx
def vc4 : List Int → Int → Int → Prop :=
  fun (xs : List Int) (at' by' : Int) =>
  ((!true) = true → false = true) ∧
    ((!true) = false →
      (((↑xs.length : Int) == (0 : Int)) = true → xs.length.succ.le (9223372036854775808 : Nat) ∧ (notU (foldA xs) == (0 : Int)) = true) ∧
        (((↑xs.length : Int) == (0 : Int)) = false →
          xs.length * (1 : Nat) ≤ (140737488355328 : Nat) ∧
            (↑xs.length : Int) ≠ (0 : Int) ∧
              ((0 : Int) ≤ (IntKind.i64.wrap at').tmod (↑xs.length : Int) ∧ (IntKind.i64.wrap at').tmod (↑xs.length : Int) < (↑xs.length : Int)) ∧
                ((0 : Int) ≤ (IntKind.i64.wrap at').tmod (↑xs.length : Int) ∧ (IntKind.i64.wrap at').tmod (↑xs.length : Int) < (↑xs.length : Int)) ∧
                  ∀ (v : List Int),
                    v = xs.set ((IntKind.i64.wrap at').tmod (↑xs.length : Int)).toNat (bitsI BinOp.xor IntKind.u8 (xs.getD ((IntKind.i64.wrap at').tmod (↑xs.length : Int)).toNat (u.dflt (5 : Nat))) by') →
                      v.length.succ.le (9223372036854775808 : Nat) ∧ xs.length.succ.le (9223372036854775808 : Nat) ∧ ((notU (foldA v) == notU (foldA xs)) == (by' == (0 : Int))) = true))

def vc5 : Int → Int → Int → Prop :=
  fun (a b c : Int) =>
  ((!true) = true → false = true) ∧
    ((!true) = false →
      (∃ (g : Nat),
          g.le (8 : Nat) ∧
            (a = a ∧ b = b ∧ c = c ∧ (0 : Int) = (8 : Int) * (↑g : Int) ∧ True ∧ True ∧ True ∧ True) ∧
              bsOf a g = [] ∧ bsOf b g = [] ∧ bsOf c g = [] ∧ bsOf (bitsI BinOp.xor IntKind.u64 (bitsI BinOp.xor IntKind.u64 a b) c) g = []) ∧
        ∀ (g : Nat),
          g.le (8 : Nat) →
            (decide ((8 : Int) * (↑g : Int) < (64 : Int)) = true →
                (0 : Int) ≤ (8 : Int) * (↑g : Int) ∧
                  ((bsOf a g).length + [IntKind.u8.wrap (shr IntKind.u64 a ((8 : Int) * (↑g : Int)))].length) * (1 : Nat) ≤ (140737488355328 : Nat) ∧
                    (0 : Int) ≤ (8 : Int) * (↑g : Int) ∧
                      ((bsOf b g).length + [IntKind.u8.wrap (shr IntKind.u64 b ((8 : Int) * (↑g : Int)))].length) * (1 : Nat) ≤ (140737488355328 : Nat) ∧
                        (0 : Int) ≤ (8 : Int) * (↑g : Int) ∧
                          ((bsOf c g).length + [IntKind.u8.wrap (shr IntKind.u64 c ((8 : Int) * (↑g : Int)))].length) * (1 : Nat) ≤ (140737488355328 : Nat) ∧
                            (0 : Int) ≤ (8 : Int) * (↑g : Int) ∧
                              ((bsOf (bitsI BinOp.xor IntKind.u64 (bitsI BinOp.xor IntKind.u64 a b) c) g).length +
                                      [IntKind.u8.wrap (shr IntKind.u64 (bitsI BinOp.xor IntKind.u64 (bitsI BinOp.xor IntKind.u64 a b) c) ((8 : Int) * (↑g : Int)))].length) *
                                    (1 : Nat) ≤
                                  (140737488355328 : Nat) ∧
                                ∃ (g_1 : Nat),
                                  g_1.le (8 : Nat) ∧
                                    (ann5 a b c).μ g_1 < (ann5 a b c).μ g ∧
                                      (a = a ∧ b = b ∧ c = c ∧ IntKind.i64.wrap ((8 : Int) * (↑g : Int) + (8 : Int)) = (8 : Int) * (↑g_1 : Int) ∧ True ∧ True ∧ True ∧ True) ∧
                                        bsOf a g ++ [IntKind.u8.wrap (shr IntKind.u64 a ((8 : Int) * (↑g : Int)))] = bsOf a g_1 ∧
                                          bsOf b g ++ [IntKind.u8.wrap (shr IntKind.u64 b ((8 : Int) * (↑g : Int)))] = bsOf b g_1 ∧
                                            bsOf c g ++ [IntKind.u8.wrap (shr IntKind.u64 c ((8 : Int) * (↑g : Int)))] = bsOf c g_1 ∧
                                              bsOf (bitsI BinOp.xor IntKind.u64 (bitsI BinOp.xor IntKind.u64 a b) c) g ++
                                                  [IntKind.u8.wrap (shr IntKind.u64 (bitsI BinOp.xor IntKind.u64 (bitsI BinOp.xor IntKind.u64 a b) c) ((8 : Int) * (↑g : Int)))] =
                                                bsOf (bitsI BinOp.xor IntKind.u64 (bitsI BinOp.xor IntKind.u64 a b) c) g_1) ∧
              (decide ((8 : Int) * (↑g : Int) < (64 : Int)) = false →
                (bsOf (bitsI BinOp.xor IntKind.u64 (bitsI BinOp.xor IntKind.u64 a b) c) g).length.succ.le (9223372036854775808 : Nat) ∧
                  (bsOf a g).length.succ.le (9223372036854775808 : Nat) ∧
                    (bsOf b g).length.succ.le (9223372036854775808 : Nat) ∧
                      (bsOf c g).length.succ.le (9223372036854775808 : Nat) ∧
                        (notU (foldA (bsOf (bitsI BinOp.xor IntKind.u64 (bitsI BinOp.xor IntKind.u64 a b) c) g)) ==
                            bitsI BinOp.xor IntKind.u32 (bitsI BinOp.xor IntKind.u32 (notU (foldA (bsOf a g))) (notU (foldA (bsOf b g)))) (notU (foldA (bsOf c g)))) =
                          true))

def vc7 : List Int → Int → Prop :=
  fun (xs : List Int) (at' : Int) =>
  ((!true) = true → false = true) ∧
    ((!true) = false →
      ((0 : Int) ≤ (0 : Int) ∧ (0 : Int) ≤ mn (↑xs.length : Int) (200 : Int) ∧ mn (↑xs.length : Int) (200 : Int) ≤ (↑xs.length : Int)) ∧
        ∀ (v : List Int),
          v = List.drop (0 : Nat) (List.take (mn (↑xs.length : Int) (200 : Int)).toNat xs) →
            ([(1 : Int), IntKind.u8.wrap (↑v.length : Int)].length + v.length) * (1 : Nat) ≤ (140737488355328 : Nat) ∧
              ∀ (v_1 : List Int),
                v_1 = [(1 : Int), IntKind.u8.wrap (↑v.length : Int)] ++ v →
                  (2 : Int) ≠ (0 : Int) ∧
                    (((↑v_1.length : Int).tmod (2 : Int) == (1 : Int)) = true →
                        (v_1.length + (1 : Nat)) * (1 : Nat) ≤ (140737488355328 : Nat) ∧
                          ∀ (v : List Int),
                            v = v_1 ++ [(0 : Int)] →
                              (↑v.length : Int) ≠ (0 : Int) ∧
                                (2 : Int) ≠ (0 : Int) ∧
                                  ∀ (v_2 : Int),
                                    v_2 = IntKind.i64.wrap ((2 : Int) + IntKind.i64.wrap (IntKind.i64.wrap (((IntKind.i64.wrap at').tmod (↑v.length : Int)).tdiv (2 : Int)) * (2 : Int))) →
                                      ((0 : Int) ≤ (0 : Int) ∧ (0 : Int) ≤ mn v_2 (↑v.length : Int) ∧ mn v_2 (↑v.length : Int) ≤ (↑v.length : Int)) ∧
                                        (List.take ((mn v_2 (↑v.length : Int)).toNat - (0 : Nat)) (List.drop (0 : Nat) v)).length * (1 : Nat) ≤ (140737488355328 : Nat) ∧
                                          ((List.take ((mn v_2 (↑v.length : Int)).toNat - (0 : Nat)) (List.drop (0 : Nat) v)).length + (2 : Nat)) * (1 : Nat) ≤ (140737488355328 : Nat) ∧
                                            ((0 : Int) ≤ mn v_2 (↑v.length : Int) ∧ mn v_2 (↑v.length : Int) ≤ (↑v.length : Int) ∧ (↑v.length : Int) ≤ (↑v.length : Int)) ∧
                                              ((List.take ((mn v_2 (↑v.length : Int)).toNat - (0 : Nat)) (List.drop (0 : Nat) v) ++ [(0 : Int), (0 : Int)]).length +
                                                      (List.take ((↑v.length : Int).toNat - (mn v_2 (↑v.length : Int)).toNat) (List.drop ((0 : Nat) + (mn v_2 (↑v.length : Int)).toNat) v)).length) *
                                                    (1 : Nat) ≤
                                                  (140737488355328 : Nat) ∧
                                                ∀ (v_3 : List Int),
                                                  v_3 =
                                                      List.take ((mn v_2 (↑v.length : Int)).toNat - (0 : Nat)) (List.drop (0 : Nat) v) ++ [(0 : Int), (0 : Int)] ++
                                                        List.take ((↑v.length : Int).toNat - (mn v_2 (↑v.length : Int)).toNat) (List.drop ((0 : Nat) + (mn v_2 (↑v.length : Int)).toNat) v) →
                                                    ∀ (v : Int),
                                                      v = mn v_2 (IntKind.i64.wrap ((↑v_3.length : Int) - (2 : Int))) →
                                                        v_3.length.succ.le (9223372036854775808 : Nat) ∧
                                                          ∀ (v_4 : Int),
                                                            v_4 = notW (IntKind.u16.wrap (wAt v_3 v_3.length)) →
                                                              (0 : Int) ≤ (8 : Int) ∧
                                                                ((0 : Int) ≤ v ∧ v < (↑v_3.length : Int)) ∧
                                                                  ((0 : Int) ≤ IntKind.i64.wrap (v + (1 : Int)) ∧
                                                                      IntKind.i64.wrap (v + (1 : Int)) < (↑(v_3.set v.toNat (IntKind.u8.wrap (shr IntKind.u16 v_4 (8 : Int)))).length : Int)) ∧
                                                                    ∀ (v_5 : List Int),
                                                                      v_5 = (v_3.set v.toNat (IntKind.u8.wrap (shr IntKind.u16 v_4 (8 : Int)))).set (IntKind.i64.wrap (v + (1 : Int))).toNat (IntKind.u8.wrap v_4) →
                                                                        v_5.length.succ.le (9223372036854775808 : Nat) ∧ (notW (IntKind.u16.wrap (wAt v_5 v_5.length)) == (0 : Int)) = true) ∧
                      (((↑v_1.length : Int).tmod (2 : Int) == (1 : Int)) = false →
                        (↑v_1.length : Int) ≠ (0 : Int) ∧
                          (2 : Int) ≠ (0 : Int) ∧
                            ∀ (v : Int),
                              v = IntKind.i64.wrap ((2 : Int) + IntKind.i64.wrap (IntKind.i64.wrap (((IntKind.i64.wrap at').tmod (↑v_1.length : Int)).tdiv (2 : Int)) * (2 : Int))) →
                                ((0 : Int) ≤ (0 : Int) ∧ (0 : Int) ≤ mn v (↑v_1.length : Int) ∧ mn v (↑v_1.length : Int) ≤ (↑v_1.length : Int)) ∧
                                  (List.take ((mn v (↑v_1.length : Int)).toNat - (0 : Nat)) (List.drop (0 : Nat) v_1)).length * (1 : Nat) ≤ (140737488355328 : Nat) ∧
                                    ((List.take ((mn v (↑v_1.length : Int)).toNat - (0 : Nat)) (List.drop (0 : Nat) v_1)).length + (2 : Nat)) * (1 : Nat) ≤ (140737488355328 : Nat) ∧
                                      ((0 : Int) ≤ mn v (↑v_1.length : Int) ∧ mn v (↑v_1.length : Int) ≤ (↑v_1.length : Int) ∧ (↑v_1.length : Int) ≤ (↑v_1.length : Int)) ∧
                                        ((List.take ((mn v (↑v_1.length : Int)).toNat - (0 : Nat)) (List.drop (0 : Nat) v_1) ++ [(0 : Int), (0 : Int)]).length +
                                                (List.take ((↑v_1.length : Int).toNat - (mn v (↑v_1.length : Int)).toNat) (List.drop ((0 : Nat) + (mn v (↑v_1.length : Int)).toNat) v_1)).length) *
                                              (1 : Nat) ≤
                                            (140737488355328 : Nat) ∧
                                          ∀ (v_2 : List Int),
                                            v_2 =
                                                List.take ((mn v (↑v_1.length : Int)).toNat - (0 : Nat)) (List.drop (0 : Nat) v_1) ++ [(0 : Int), (0 : Int)] ++
                                                  List.take ((↑v_1.length : Int).toNat - (mn v (↑v_1.length : Int)).toNat) (List.drop ((0 : Nat) + (mn v (↑v_1.length : Int)).toNat) v_1) →
                                              ∀ (v_3 : Int),
                                                v_3 = mn v (IntKind.i64.wrap ((↑v_2.length : Int) - (2 : Int))) →
                                                  v_2.length.succ.le (9223372036854775808 : Nat) ∧
                                                    ∀ (v : Int),
                                                      v = notW (IntKind.u16.wrap (wAt v_2 v_2.length)) →
                                                        (0 : Int) ≤ (8 : Int) ∧
                                                          ((0 : Int) ≤ v_3 ∧ v_3 < (↑v_2.length : Int)) ∧
                                                            ((0 : Int) ≤ IntKind.i64.wrap (v_3 + (1 : Int)) ∧
                                                                IntKind.i64.wrap (v_3 + (1 : Int)) < (↑(v_2.set v_3.toNat (IntKind.u8.wrap (shr IntKind.u16 v (8 : Int)))).length : Int)) ∧
                                                              ∀ (v_4 : List Int),
                                                                v_4 = (v_2.set v_3.toNat (IntKind.u8.wrap (shr IntKind.u16 v (8 : Int)))).set (IntKind.i64.wrap (v_3 + (1 : Int))).toNat (IntKind.u8.wrap v) →
                                                                  v_4.length.succ.le (9223372036854775808 : Nat) ∧ (notW (IntKind.u16.wrap (wAt v_4 v_4.length)) == (0 : Int)) = true))

def vc8 : List Int → Int → Int → Prop :=
  fun (xs : List Int) (at' by' : Int) =>
  ((!true) = true → false = true) ∧
    ((!true) = false →
      (2 : Int) ≠ (0 : Int) ∧
        ((0 : Int) ≤ (0 : Int) ∧
            (0 : Int) ≤ IntKind.i64.wrap (IntKind.i64.wrap ((mn (↑xs.length : Int) (100 : Int)).tdiv (2 : Int)) * (2 : Int)) ∧
              IntKind.i64.wrap (IntKind.i64.wrap ((mn (↑xs.length : Int) (100 : Int)).tdiv (2 : Int)) * (2 : Int)) ≤ (↑xs.length : Int)) ∧
          ((2 : Nat) + (List.drop (0 : Nat) (List.take (IntKind.i64.wrap (IntKind.i64.wrap ((mn (↑xs.length : Int) (100 : Int)).tdiv (2 : Int)) * (2 : Int))).toNat xs)).length) * (1 : Nat) ≤ (140737488355328 : Nat) ∧
            ∀ (v : List Int),
              v = [(69 : Int), (0 : Int)] ++ List.drop (0 : Nat) (List.take (IntKind.i64.wrap (IntKind.i64.wrap ((mn (↑xs.length : Int) (100 : Int)).tdiv (2 : Int)) * (2 : Int))).toNat xs) →
                v.length.succ.le (9223372036854775808 : Nat) ∧
                  ∀ (v_1 : Int),
                    v_1 = notW (IntKind.u16.wrap (wAt v v.length)) →
                      (0 : Int) ≤ (8 : Int) ∧
                        (v.length + [IntKind.u8.wrap (shr IntKind.u16 v_1 (8 : Int)), IntKind.u8.wrap v_1].length) * (1 : Nat) ≤ (140737488355328 : Nat) ∧
                          ∀ (v_2 : List Int),
                            v_2 = v ++ [IntKind.u8.wrap (shr IntKind.u16 v_1 (8 : Int)), IntKind.u8.wrap v_1] →
                              v_2.length.succ.le (9223372036854775808 : Nat) ∧
                                ((!notW (IntKind.u16.wrap (wAt v_2 v_2.length)) == (0 : Int)) = true → false = true) ∧
                                  ((!notW (IntKind.u16.wrap (wAt v_2 v_2.length)) == (0 : Int)) = false →
                                    (↑v_2.length : Int) ≠ (0 : Int) ∧
                                      ∀ (v : Int),
                                        v = (IntKind.i64.wrap at').tmod (↑v_2.length : Int) →
                                          ((0 : Int) ≤ v ∧ v < (↑v_2.length : Int)) ∧
                                            ∀ (v_3 : Int),
                                              v_3 = v_2.getD v.toNat (u.dflt (5 : Nat)) →
                                                ((0 : Int) ≤ v ∧ v < (↑v_2.length : Int)) ∧
                                                  ∀ (v_4 : List Int),
                                                    v_4 = v_2.set v.toNat (IntKind.u8.wrap (v_3 + by')) →
                                                      v_4.length.succ.le (9223372036854775808 : Nat) ∧
                                                        ((0 : Int) ≤ v ∧ v < (↑v_4.length : Int)) ∧ ((notW (IntKind.u16.wrap (wAt v_4 v_4.length)) == (0 : Int)) == (v_3 == v_4.getD v.toNat (u.dflt (5 : Nat)))) = true))

end Go.Proofs.Ytacafjapnppacaa.Sum
