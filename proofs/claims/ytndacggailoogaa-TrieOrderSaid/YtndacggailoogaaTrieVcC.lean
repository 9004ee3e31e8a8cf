/- Tries: what the laws of one trie ask (printed by wip/Vc.lean; checked by the kernel in the next text). -/
import Derived.Test.YtndacggailoogaaTrieSpecB
namespace Go.Proofs.Ytndacggailoogaa.Tri
open Go Go.Proofs.Ytndacggailoogaa.Sx

def vcAwake : Prop :=
  ((1 : Nat) ≤ (1 : Nat) ∧ ∀ (j b i : Nat), kidN (getN [nd0] j) b = some i → i < (1 : Nat)) ∧
  ((1 : Nat) ≤ (9 : Nat) ∧ ∀ (j b i : Nat), kidN (getN (putM (0 : Int) [nd0] (167772160 : Int) (8 : Int)).snd j) b = some i → i < (9 : Nat)) ∧
    ((0 : Int) == (0 : Int) && (0 : Int) == (0 : Int) && (lonB (putM (1 : Int) (putM (0 : Int) [nd0] (167772160 : Int) (8 : Int)).snd (167837696 : Int) (16 : Int)).snd (167838211 : Int) && makeB (16 : Int)) &&
          (16 : Int) == (16 : Int) &&
        (2 : Int) == (2 : Int)) =
      true

def vcLTwo : Int → Int → Int → Int → Prop :=
  fun (a b c m : Int) =>
  ((!true) = true → false = true) ∧
    ((!true) = false →
      (0 : Int) ≤ b ∧
        (512 : Int) ≠ (0 : Int) ∧
          (0 : Int) ≤ m ∧
            (overM [nd0] (baseL (bitsI BinOp.xor IntKind.u32 a (c.tmod (512 : Int))) (bitsL m)) (bitsL m) = true → false = true) ∧
              (overM [nd0] (baseL (bitsI BinOp.xor IntKind.u32 a (c.tmod (512 : Int))) (bitsL m)) (bitsL m) = false →
                ((1 : Nat) ≤ (1 : Nat) ∧ ∀ (j b i : Nat), kidN (getN [nd0] j) b = some i → i < (1 : Nat)) ∧
                  ((putE [nd0] (baseL a (bitsL b)) (bitsL b) != (0 : Int)) = true → false = true) ∧
                    ((putE [nd0] (baseL a (bitsL b)) (bitsL b) != (0 : Int)) = false →
                      ((1 : Nat) ≤ (putM (0 : Int) [nd0] (baseL a (bitsL b)) (bitsL b)).snd.length ∧
                          ∀ (j b_1 i : Nat), kidN (getN (putM (0 : Int) [nd0] (baseL a (bitsL b)) (bitsL b)).snd j) b_1 = some i → i < (putM (0 : Int) [nd0] (baseL a (bitsL b)) (bitsL b)).snd.length) ∧
                        ((putE (putM (0 : Int) [nd0] (baseL a (bitsL b)) (bitsL b)).snd (baseL a (bitsL b)) (bitsL b) != (6 : Int)) = true → false = true) ∧
                          ((putE (putM (0 : Int) [nd0] (baseL a (bitsL b)) (bitsL b)).snd (baseL a (bitsL b)) (bitsL b) != (6 : Int)) = false →
                            ((!overM (putM (putM (0 : Int) [nd0] (baseL a (bitsL b)) (bitsL b)).fst (putM (0 : Int) [nd0] (baseL a (bitsL b)) (bitsL b)).snd (baseL a (bitsL b)) (bitsL b)).snd
                                            (baseL (bitsI BinOp.xor IntKind.u32 a (c.tmod (512 : Int))) (bitsL m)) (bitsL m) ==
                                          lapA (baseL a (bitsL b)) (bitsL b) (baseL (bitsI BinOp.xor IntKind.u32 a (c.tmod (512 : Int))) (bitsL m)) (bitsL m) ||
                                      !hasM (putM (putM (0 : Int) [nd0] (baseL a (bitsL b)) (bitsL b)).fst (putM (0 : Int) [nd0] (baseL a (bitsL b)) (bitsL b)).snd (baseL a (bitsL b)) (bitsL b)).snd
                                            (baseL (bitsI BinOp.xor IntKind.u32 a (c.tmod (512 : Int))) (bitsL m)) (bitsL m) ==
                                          (baseL a (bitsL b) == baseL (bitsI BinOp.xor IntKind.u32 a (c.tmod (512 : Int))) (bitsL m) && (bitsL b == bitsL m && true)) ||
                                    !overM (putM (putM (0 : Int) [nd0] (baseL a (bitsL b)) (bitsL b)).fst (putM (0 : Int) [nd0] (baseL a (bitsL b)) (bitsL b)).snd (baseL a (bitsL b)) (bitsL b)).snd (baseL a (bitsL b))
                                          (bitsL b) ==
                                        true) =
                                  true →
                                false = true) ∧
                              ((!overM (putM (putM (0 : Int) [nd0] (baseL a (bitsL b)) (bitsL b)).fst (putM (0 : Int) [nd0] (baseL a (bitsL b)) (bitsL b)).snd (baseL a (bitsL b)) (bitsL b)).snd
                                            (baseL (bitsI BinOp.xor IntKind.u32 a (c.tmod (512 : Int))) (bitsL m)) (bitsL m) ==
                                          lapA (baseL a (bitsL b)) (bitsL b) (baseL (bitsI BinOp.xor IntKind.u32 a (c.tmod (512 : Int))) (bitsL m)) (bitsL m) ||
                                      !hasM (putM (putM (0 : Int) [nd0] (baseL a (bitsL b)) (bitsL b)).fst (putM (0 : Int) [nd0] (baseL a (bitsL b)) (bitsL b)).snd (baseL a (bitsL b)) (bitsL b)).snd
                                            (baseL (bitsI BinOp.xor IntKind.u32 a (c.tmod (512 : Int))) (bitsL m)) (bitsL m) ==
                                          (baseL a (bitsL b) == baseL (bitsI BinOp.xor IntKind.u32 a (c.tmod (512 : Int))) (bitsL m) && (bitsL b == bitsL m && true)) ||
                                    !overM (putM (putM (0 : Int) [nd0] (baseL a (bitsL b)) (bitsL b)).fst (putM (0 : Int) [nd0] (baseL a (bitsL b)) (bitsL b)).snd (baseL a (bitsL b)) (bitsL b)).snd (baseL a (bitsL b))
                                          (bitsL b) ==
                                        true) =
                                  false →
                                ((1 : Nat) ≤ (putM (putM (0 : Int) [nd0] (baseL a (bitsL b)) (bitsL b)).fst (putM (0 : Int) [nd0] (baseL a (bitsL b)) (bitsL b)).snd (baseL a (bitsL b)) (bitsL b)).snd.length ∧
                                    ∀ (j b_1 i : Nat),
                                      kidN (getN (putM (putM (0 : Int) [nd0] (baseL a (bitsL b)) (bitsL b)).fst (putM (0 : Int) [nd0] (baseL a (bitsL b)) (bitsL b)).snd (baseL a (bitsL b)) (bitsL b)).snd j) b_1 =
                                          some i →
                                        i < (putM (putM (0 : Int) [nd0] (baseL a (bitsL b)) (bitsL b)).fst (putM (0 : Int) [nd0] (baseL a (bitsL b)) (bitsL b)).snd (baseL a (bitsL b)) (bitsL b)).snd.length) ∧
                                  ((putE (putM (putM (0 : Int) [nd0] (baseL a (bitsL b)) (bitsL b)).fst (putM (0 : Int) [nd0] (baseL a (bitsL b)) (bitsL b)).snd (baseL a (bitsL b)) (bitsL b)).snd
                                          (baseL (bitsI BinOp.xor IntKind.u32 a (c.tmod (512 : Int))) (bitsL m)) (bitsL m) ==
                                        (0 : Int)) ==
                                      !(baseL a (bitsL b) == baseL (bitsI BinOp.xor IntKind.u32 a (c.tmod (512 : Int))) (bitsL m) && (bitsL b == bitsL m && true))) =
                                    true)))))

def vcLHalves : Int → Int → Int → Prop :=
  fun (a b k : Int) =>
  ((!true) = true → false = true) ∧
    ((!true) = false →
      (0 : Int) ≤ b ∧
        ((!halfB (baseL a (bitsL b)) (bitsL b)) = true → (bitsL b == (32 : Int)) = true) ∧
          ((!halfB (baseL a (bitsL b)) (bitsL b)) = false →
            ((1 : Nat) ≤ (1 : Nat) ∧ ∀ (j b i : Nat), kidN (getN [nd0] j) b = some i → i < (1 : Nat)) ∧
              ((putE [nd0] (if halfB (baseL a (bitsL b)) (bitsL b) = true then baseL a (bitsL b) else (0 : Int)) (if halfB (baseL a (bitsL b)) (bitsL b) = true then halfN (bitsL b) else (0 : Int)) != (0 : Int)) = true →
                  false = true) ∧
                ((putE [nd0] (if halfB (baseL a (bitsL b)) (bitsL b) = true then baseL a (bitsL b) else (0 : Int)) (if halfB (baseL a (bitsL b)) (bitsL b) = true then halfN (bitsL b) else (0 : Int)) != (0 : Int)) =
                    false →
                  ((1 : Nat) ≤
                        (putM (0 : Int) [nd0] (if halfB (baseL a (bitsL b)) (bitsL b) = true then baseL a (bitsL b) else (0 : Int))
                              (if halfB (baseL a (bitsL b)) (bitsL b) = true then halfN (bitsL b) else (0 : Int))).snd.length ∧
                      ∀ (j b_1 i : Nat),
                        kidN
                              (getN
                                (putM (0 : Int) [nd0] (if halfB (baseL a (bitsL b)) (bitsL b) = true then baseL a (bitsL b) else (0 : Int))
                                    (if halfB (baseL a (bitsL b)) (bitsL b) = true then halfN (bitsL b) else (0 : Int))).snd
                                j)
                              b_1 =
                            some i →
                          i <
                            (putM (0 : Int) [nd0] (if halfB (baseL a (bitsL b)) (bitsL b) = true then baseL a (bitsL b) else (0 : Int))
                                  (if halfB (baseL a (bitsL b)) (bitsL b) = true then halfN (bitsL b) else (0 : Int))).snd.length) ∧
                    ((putE
                              (putM (0 : Int) [nd0] (if halfB (baseL a (bitsL b)) (bitsL b) = true then baseL a (bitsL b) else (0 : Int))
                                  (if halfB (baseL a (bitsL b)) (bitsL b) = true then halfN (bitsL b) else (0 : Int))).snd
                              (if halfB (baseL a (bitsL b)) (bitsL b) = true then highA (baseL a (bitsL b)) (bitsL b) else (0 : Int)) (if halfB (baseL a (bitsL b)) (bitsL b) = true then halfN (bitsL b) else (0 : Int)) !=
                            (0 : Int)) =
                          true →
                        false = true) ∧
                      ((putE
                              (putM (0 : Int) [nd0] (if halfB (baseL a (bitsL b)) (bitsL b) = true then baseL a (bitsL b) else (0 : Int))
                                  (if halfB (baseL a (bitsL b)) (bitsL b) = true then halfN (bitsL b) else (0 : Int))).snd
                              (if halfB (baseL a (bitsL b)) (bitsL b) = true then highA (baseL a (bitsL b)) (bitsL b) else (0 : Int)) (if halfB (baseL a (bitsL b)) (bitsL b) = true then halfN (bitsL b) else (0 : Int)) !=
                            (0 : Int)) =
                          false →
                        sizeA (baseL a (bitsL b)) (bitsL b) ≠ (0 : Int) ∧
                          (hasA (if halfB (baseL a (bitsL b)) (bitsL b) = true then highA (baseL a (bitsL b)) (bitsL b) else (0 : Int)) (if halfB (baseL a (bitsL b)) (bitsL b) = true then halfN (bitsL b) else (0 : Int))
                                  (if atB (baseL a (bitsL b)) (bitsL b) ((IntKind.i64.wrap k).tmod (sizeA (baseL a (bitsL b)) (bitsL b))) = true then
                                    atA (baseL a (bitsL b)) ((IntKind.i64.wrap k).tmod (sizeA (baseL a (bitsL b)) (bitsL b)))
                                  else (0 : Int)) =
                                true →
                              (0 : Int) ≤ IntKind.i64.wrap ((32 : Int) - bitsL b) ∧
                                ((lonB
                                                  (putM
                                                      (putM (0 : Int) [nd0] (if halfB (baseL a (bitsL b)) (bitsL b) = true then baseL a (bitsL b) else (0 : Int))
                                                          (if halfB (baseL a (bitsL b)) (bitsL b) = true then halfN (bitsL b) else (0 : Int))).fst
                                                      (putM (0 : Int) [nd0] (if halfB (baseL a (bitsL b)) (bitsL b) = true then baseL a (bitsL b) else (0 : Int))
                                                          (if halfB (baseL a (bitsL b)) (bitsL b) = true then halfN (bitsL b) else (0 : Int))).snd
                                                      (if halfB (baseL a (bitsL b)) (bitsL b) = true then highA (baseL a (bitsL b)) (bitsL b) else (0 : Int))
                                                      (if halfB (baseL a (bitsL b)) (bitsL b) = true then halfN (bitsL b) else (0 : Int))).snd
                                                  (if atB (baseL a (bitsL b)) (bitsL b) ((IntKind.i64.wrap k).tmod (sizeA (baseL a (bitsL b)) (bitsL b))) = true then
                                                    atA (baseL a (bitsL b)) ((IntKind.i64.wrap k).tmod (sizeA (baseL a (bitsL b)) (bitsL b)))
                                                  else (0 : Int)) &&
                                                makeB
                                                  (lonK
                                                    (putM
                                                        (putM (0 : Int) [nd0] (if halfB (baseL a (bitsL b)) (bitsL b) = true then baseL a (bitsL b) else (0 : Int))
                                                            (if halfB (baseL a (bitsL b)) (bitsL b) = true then halfN (bitsL b) else (0 : Int))).fst
                                                        (putM (0 : Int) [nd0] (if halfB (baseL a (bitsL b)) (bitsL b) = true then baseL a (bitsL b) else (0 : Int))
                                                            (if halfB (baseL a (bitsL b)) (bitsL b) = true then halfN (bitsL b) else (0 : Int))).snd
                                                        (if halfB (baseL a (bitsL b)) (bitsL b) = true then highA (baseL a (bitsL b)) (bitsL b) else (0 : Int))
                                                        (if halfB (baseL a (bitsL b)) (bitsL b) = true then halfN (bitsL b) else (0 : Int))).snd
                                                    (if atB (baseL a (bitsL b)) (bitsL b) ((IntKind.i64.wrap k).tmod (sizeA (baseL a (bitsL b)) (bitsL b))) = true then
                                                      atA (baseL a (bitsL b)) ((IntKind.i64.wrap k).tmod (sizeA (baseL a (bitsL b)) (bitsL b)))
                                                    else (0 : Int))) &&
                                              (((lonM
                                                      (putM
                                                          (putM (0 : Int) [nd0] (if halfB (baseL a (bitsL b)) (bitsL b) = true then baseL a (bitsL b) else (0 : Int))
                                                              (if halfB (baseL a (bitsL b)) (bitsL b) = true then halfN (bitsL b) else (0 : Int))).fst
                                                          (putM (0 : Int) [nd0] (if halfB (baseL a (bitsL b)) (bitsL b) = true then baseL a (bitsL b) else (0 : Int))
                                                              (if halfB (baseL a (bitsL b)) (bitsL b) = true then halfN (bitsL b) else (0 : Int))).snd
                                                          (if halfB (baseL a (bitsL b)) (bitsL b) = true then highA (baseL a (bitsL b)) (bitsL b) else (0 : Int))
                                                          (if halfB (baseL a (bitsL b)) (bitsL b) = true then halfN (bitsL b) else (0 : Int))).snd
                                                      (if atB (baseL a (bitsL b)) (bitsL b) ((IntKind.i64.wrap k).tmod (sizeA (baseL a (bitsL b)) (bitsL b))) = true then
                                                        atA (baseL a (bitsL b)) ((IntKind.i64.wrap k).tmod (sizeA (baseL a (bitsL b)) (bitsL b)))
                                                      else (0 : Int))).base ==
                                                  if halfB (baseL a (bitsL b)) (bitsL b) = true then highA (baseL a (bitsL b)) (bitsL b) else (0 : Int)) &&
                                                (((lonM
                                                        (putM
                                                            (putM (0 : Int) [nd0] (if halfB (baseL a (bitsL b)) (bitsL b) = true then baseL a (bitsL b) else (0 : Int))
                                                                (if halfB (baseL a (bitsL b)) (bitsL b) = true then halfN (bitsL b) else (0 : Int))).fst
                                                            (putM (0 : Int) [nd0] (if halfB (baseL a (bitsL b)) (bitsL b) = true then baseL a (bitsL b) else (0 : Int))
                                                                (if halfB (baseL a (bitsL b)) (bitsL b) = true then halfN (bitsL b) else (0 : Int))).snd
                                                            (if halfB (baseL a (bitsL b)) (bitsL b) = true then highA (baseL a (bitsL b)) (bitsL b) else (0 : Int))
                                                            (if halfB (baseL a (bitsL b)) (bitsL b) = true then halfN (bitsL b) else (0 : Int))).snd
                                                        (if atB (baseL a (bitsL b)) (bitsL b) ((IntKind.i64.wrap k).tmod (sizeA (baseL a (bitsL b)) (bitsL b))) = true then
                                                          atA (baseL a (bitsL b)) ((IntKind.i64.wrap k).tmod (sizeA (baseL a (bitsL b)) (bitsL b)))
                                                        else (0 : Int))).bits ==
                                                    if halfB (baseL a (bitsL b)) (bitsL b) = true then halfN (bitsL b) else (0 : Int)) &&
                                                  true)) &&
                                            overM
                                              (putM
                                                  (putM (0 : Int) [nd0] (if halfB (baseL a (bitsL b)) (bitsL b) = true then baseL a (bitsL b) else (0 : Int))
                                                      (if halfB (baseL a (bitsL b)) (bitsL b) = true then halfN (bitsL b) else (0 : Int))).fst
                                                  (putM (0 : Int) [nd0] (if halfB (baseL a (bitsL b)) (bitsL b) = true then baseL a (bitsL b) else (0 : Int))
                                                      (if halfB (baseL a (bitsL b)) (bitsL b) = true then halfN (bitsL b) else (0 : Int))).snd
                                                  (if halfB (baseL a (bitsL b)) (bitsL b) = true then highA (baseL a (bitsL b)) (bitsL b) else (0 : Int))
                                                  (if halfB (baseL a (bitsL b)) (bitsL b) = true then halfN (bitsL b) else (0 : Int))).snd
                                              (baseL a (bitsL b)) (bitsL b) &&
                                          !overM
                                              (putM
                                                  (putM (0 : Int) [nd0] (if halfB (baseL a (bitsL b)) (bitsL b) = true then baseL a (bitsL b) else (0 : Int))
                                                      (if halfB (baseL a (bitsL b)) (bitsL b) = true then halfN (bitsL b) else (0 : Int))).fst
                                                  (putM (0 : Int) [nd0] (if halfB (baseL a (bitsL b)) (bitsL b) = true then baseL a (bitsL b) else (0 : Int))
                                                      (if halfB (baseL a (bitsL b)) (bitsL b) = true then halfN (bitsL b) else (0 : Int))).snd
                                                  (if halfB (baseL a (bitsL b)) (bitsL b) = true then highA (baseL a (bitsL b)) (bitsL b) else (0 : Int))
                                                  (if halfB (baseL a (bitsL b)) (bitsL b) = true then halfN (bitsL b) else (0 : Int))).snd
                                              (bitsI BinOp.xor IntKind.u32 (baseL a (bitsL b)) (shl IntKind.u32 (1 : Int) (IntKind.i64.wrap ((32 : Int) - bitsL b)))) (bitsL b) &&
                                        !hasM
                                            (putM
                                                (putM (0 : Int) [nd0] (if halfB (baseL a (bitsL b)) (bitsL b) = true then baseL a (bitsL b) else (0 : Int))
                                                    (if halfB (baseL a (bitsL b)) (bitsL b) = true then halfN (bitsL b) else (0 : Int))).fst
                                                (putM (0 : Int) [nd0] (if halfB (baseL a (bitsL b)) (bitsL b) = true then baseL a (bitsL b) else (0 : Int))
                                                    (if halfB (baseL a (bitsL b)) (bitsL b) = true then halfN (bitsL b) else (0 : Int))).snd
                                                (if halfB (baseL a (bitsL b)) (bitsL b) = true then highA (baseL a (bitsL b)) (bitsL b) else (0 : Int))
                                                (if halfB (baseL a (bitsL b)) (bitsL b) = true then halfN (bitsL b) else (0 : Int))).snd
                                            (baseL a (bitsL b)) (bitsL b)) =
                                      true →
                                    ((1 : Nat) ≤
                                          (putM
                                                (putM (0 : Int) [nd0] (if halfB (baseL a (bitsL b)) (bitsL b) = true then baseL a (bitsL b) else (0 : Int))
                                                    (if halfB (baseL a (bitsL b)) (bitsL b) = true then halfN (bitsL b) else (0 : Int))).fst
                                                (putM (0 : Int) [nd0] (if halfB (baseL a (bitsL b)) (bitsL b) = true then baseL a (bitsL b) else (0 : Int))
                                                    (if halfB (baseL a (bitsL b)) (bitsL b) = true then halfN (bitsL b) else (0 : Int))).snd
                                                (if halfB (baseL a (bitsL b)) (bitsL b) = true then highA (baseL a (bitsL b)) (bitsL b) else (0 : Int))
                                                (if halfB (baseL a (bitsL b)) (bitsL b) = true then halfN (bitsL b) else (0 : Int))).snd.length ∧
                                        ∀ (j b_1 i : Nat),
                                          kidN
                                                (getN
                                                  (putM
                                                      (putM (0 : Int) [nd0] (if halfB (baseL a (bitsL b)) (bitsL b) = true then baseL a (bitsL b) else (0 : Int))
                                                          (if halfB (baseL a (bitsL b)) (bitsL b) = true then halfN (bitsL b) else (0 : Int))).fst
                                                      (putM (0 : Int) [nd0] (if halfB (baseL a (bitsL b)) (bitsL b) = true then baseL a (bitsL b) else (0 : Int))
                                                          (if halfB (baseL a (bitsL b)) (bitsL b) = true then halfN (bitsL b) else (0 : Int))).snd
                                                      (if halfB (baseL a (bitsL b)) (bitsL b) = true then highA (baseL a (bitsL b)) (bitsL b) else (0 : Int))
                                                      (if halfB (baseL a (bitsL b)) (bitsL b) = true then halfN (bitsL b) else (0 : Int))).snd
                                                  j)
                                                b_1 =
                                              some i →
                                            i <
                                              (putM
                                                    (putM (0 : Int) [nd0] (if halfB (baseL a (bitsL b)) (bitsL b) = true then baseL a (bitsL b) else (0 : Int))
                                                        (if halfB (baseL a (bitsL b)) (bitsL b) = true then halfN (bitsL b) else (0 : Int))).fst
                                                    (putM (0 : Int) [nd0] (if halfB (baseL a (bitsL b)) (bitsL b) = true then baseL a (bitsL b) else (0 : Int))
                                                        (if halfB (baseL a (bitsL b)) (bitsL b) = true then halfN (bitsL b) else (0 : Int))).snd
                                                    (if halfB (baseL a (bitsL b)) (bitsL b) = true then highA (baseL a (bitsL b)) (bitsL b) else (0 : Int))
                                                    (if halfB (baseL a (bitsL b)) (bitsL b) = true then halfN (bitsL b) else (0 : Int))).snd.length) ∧
                                      (putE
                                              (putM
                                                  (putM (0 : Int) [nd0] (if halfB (baseL a (bitsL b)) (bitsL b) = true then baseL a (bitsL b) else (0 : Int))
                                                      (if halfB (baseL a (bitsL b)) (bitsL b) = true then halfN (bitsL b) else (0 : Int))).fst
                                                  (putM (0 : Int) [nd0] (if halfB (baseL a (bitsL b)) (bitsL b) = true then baseL a (bitsL b) else (0 : Int))
                                                      (if halfB (baseL a (bitsL b)) (bitsL b) = true then halfN (bitsL b) else (0 : Int))).snd
                                                  (if halfB (baseL a (bitsL b)) (bitsL b) = true then highA (baseL a (bitsL b)) (bitsL b) else (0 : Int))
                                                  (if halfB (baseL a (bitsL b)) (bitsL b) = true then halfN (bitsL b) else (0 : Int))).snd
                                              (baseL a (bitsL b)) (bitsL b) ==
                                            (0 : Int) &&
                                          (putM
                                                (putM
                                                    (putM (0 : Int) [nd0] (if halfB (baseL a (bitsL b)) (bitsL b) = true then baseL a (bitsL b) else (0 : Int))
                                                        (if halfB (baseL a (bitsL b)) (bitsL b) = true then halfN (bitsL b) else (0 : Int))).fst
                                                    (putM (0 : Int) [nd0] (if halfB (baseL a (bitsL b)) (bitsL b) = true then baseL a (bitsL b) else (0 : Int))
                                                        (if halfB (baseL a (bitsL b)) (bitsL b) = true then halfN (bitsL b) else (0 : Int))).snd
                                                    (if halfB (baseL a (bitsL b)) (bitsL b) = true then highA (baseL a (bitsL b)) (bitsL b) else (0 : Int))
                                                    (if halfB (baseL a (bitsL b)) (bitsL b) = true then halfN (bitsL b) else (0 : Int))).fst
                                                (putM
                                                    (putM (0 : Int) [nd0] (if halfB (baseL a (bitsL b)) (bitsL b) = true then baseL a (bitsL b) else (0 : Int))
                                                        (if halfB (baseL a (bitsL b)) (bitsL b) = true then halfN (bitsL b) else (0 : Int))).fst
                                                    (putM (0 : Int) [nd0] (if halfB (baseL a (bitsL b)) (bitsL b) = true then baseL a (bitsL b) else (0 : Int))
                                                        (if halfB (baseL a (bitsL b)) (bitsL b) = true then halfN (bitsL b) else (0 : Int))).snd
                                                    (if halfB (baseL a (bitsL b)) (bitsL b) = true then highA (baseL a (bitsL b)) (bitsL b) else (0 : Int))
                                                    (if halfB (baseL a (bitsL b)) (bitsL b) = true then halfN (bitsL b) else (0 : Int))).snd
                                                (baseL a (bitsL b)) (bitsL b)).fst ==
                                            (3 : Int)) =
                                        true) ∧
                                  ((lonB
                                                  (putM
                                                      (putM (0 : Int) [nd0] (if halfB (baseL a (bitsL b)) (bitsL b) = true then baseL a (bitsL b) else (0 : Int))
                                                          (if halfB (baseL a (bitsL b)) (bitsL b) = true then halfN (bitsL b) else (0 : Int))).fst
                                                      (putM (0 : Int) [nd0] (if halfB (baseL a (bitsL b)) (bitsL b) = true then baseL a (bitsL b) else (0 : Int))
                                                          (if halfB (baseL a (bitsL b)) (bitsL b) = true then halfN (bitsL b) else (0 : Int))).snd
                                                      (if halfB (baseL a (bitsL b)) (bitsL b) = true then highA (baseL a (bitsL b)) (bitsL b) else (0 : Int))
                                                      (if halfB (baseL a (bitsL b)) (bitsL b) = true then halfN (bitsL b) else (0 : Int))).snd
                                                  (if atB (baseL a (bitsL b)) (bitsL b) ((IntKind.i64.wrap k).tmod (sizeA (baseL a (bitsL b)) (bitsL b))) = true then
                                                    atA (baseL a (bitsL b)) ((IntKind.i64.wrap k).tmod (sizeA (baseL a (bitsL b)) (bitsL b)))
                                                  else (0 : Int)) &&
                                                makeB
                                                  (lonK
                                                    (putM
                                                        (putM (0 : Int) [nd0] (if halfB (baseL a (bitsL b)) (bitsL b) = true then baseL a (bitsL b) else (0 : Int))
                                                            (if halfB (baseL a (bitsL b)) (bitsL b) = true then halfN (bitsL b) else (0 : Int))).fst
                                                        (putM (0 : Int) [nd0] (if halfB (baseL a (bitsL b)) (bitsL b) = true then baseL a (bitsL b) else (0 : Int))
                                                            (if halfB (baseL a (bitsL b)) (bitsL b) = true then halfN (bitsL b) else (0 : Int))).snd
                                                        (if halfB (baseL a (bitsL b)) (bitsL b) = true then highA (baseL a (bitsL b)) (bitsL b) else (0 : Int))
                                                        (if halfB (baseL a (bitsL b)) (bitsL b) = true then halfN (bitsL b) else (0 : Int))).snd
                                                    (if atB (baseL a (bitsL b)) (bitsL b) ((IntKind.i64.wrap k).tmod (sizeA (baseL a (bitsL b)) (bitsL b))) = true then
                                                      atA (baseL a (bitsL b)) ((IntKind.i64.wrap k).tmod (sizeA (baseL a (bitsL b)) (bitsL b)))
                                                    else (0 : Int))) &&
                                              (((lonM
                                                      (putM
                                                          (putM (0 : Int) [nd0] (if halfB (baseL a (bitsL b)) (bitsL b) = true then baseL a (bitsL b) else (0 : Int))
                                                              (if halfB (baseL a (bitsL b)) (bitsL b) = true then halfN (bitsL b) else (0 : Int))).fst
                                                          (putM (0 : Int) [nd0] (if halfB (baseL a (bitsL b)) (bitsL b) = true then baseL a (bitsL b) else (0 : Int))
                                                              (if halfB (baseL a (bitsL b)) (bitsL b) = true then halfN (bitsL b) else (0 : Int))).snd
                                                          (if halfB (baseL a (bitsL b)) (bitsL b) = true then highA (baseL a (bitsL b)) (bitsL b) else (0 : Int))
                                                          (if halfB (baseL a (bitsL b)) (bitsL b) = true then halfN (bitsL b) else (0 : Int))).snd
                                                      (if atB (baseL a (bitsL b)) (bitsL b) ((IntKind.i64.wrap k).tmod (sizeA (baseL a (bitsL b)) (bitsL b))) = true then
                                                        atA (baseL a (bitsL b)) ((IntKind.i64.wrap k).tmod (sizeA (baseL a (bitsL b)) (bitsL b)))
                                                      else (0 : Int))).base ==
                                                  if halfB (baseL a (bitsL b)) (bitsL b) = true then highA (baseL a (bitsL b)) (bitsL b) else (0 : Int)) &&
                                                (((lonM
                                                        (putM
                                                            (putM (0 : Int) [nd0] (if halfB (baseL a (bitsL b)) (bitsL b) = true then baseL a (bitsL b) else (0 : Int))
                                                                (if halfB (baseL a (bitsL b)) (bitsL b) = true then halfN (bitsL b) else (0 : Int))).fst
                                                            (putM (0 : Int) [nd0] (if halfB (baseL a (bitsL b)) (bitsL b) = true then baseL a (bitsL b) else (0 : Int))
                                                                (if halfB (baseL a (bitsL b)) (bitsL b) = true then halfN (bitsL b) else (0 : Int))).snd
                                                            (if halfB (baseL a (bitsL b)) (bitsL b) = true then highA (baseL a (bitsL b)) (bitsL b) else (0 : Int))
                                                            (if halfB (baseL a (bitsL b)) (bitsL b) = true then halfN (bitsL b) else (0 : Int))).snd
                                                        (if atB (baseL a (bitsL b)) (bitsL b) ((IntKind.i64.wrap k).tmod (sizeA (baseL a (bitsL b)) (bitsL b))) = true then
                                                          atA (baseL a (bitsL b)) ((IntKind.i64.wrap k).tmod (sizeA (baseL a (bitsL b)) (bitsL b)))
                                                        else (0 : Int))).bits ==
                                                    if halfB (baseL a (bitsL b)) (bitsL b) = true then halfN (bitsL b) else (0 : Int)) &&
                                                  true)) &&
                                            overM
                                              (putM
                                                  (putM (0 : Int) [nd0] (if halfB (baseL a (bitsL b)) (bitsL b) = true then baseL a (bitsL b) else (0 : Int))
                                                      (if halfB (baseL a (bitsL b)) (bitsL b) = true then halfN (bitsL b) else (0 : Int))).fst
                                                  (putM (0 : Int) [nd0] (if halfB (baseL a (bitsL b)) (bitsL b) = true then baseL a (bitsL b) else (0 : Int))
                                                      (if halfB (baseL a (bitsL b)) (bitsL b) = true then halfN (bitsL b) else (0 : Int))).snd
                                                  (if halfB (baseL a (bitsL b)) (bitsL b) = true then highA (baseL a (bitsL b)) (bitsL b) else (0 : Int))
                                                  (if halfB (baseL a (bitsL b)) (bitsL b) = true then halfN (bitsL b) else (0 : Int))).snd
                                              (baseL a (bitsL b)) (bitsL b) &&
                                          !overM
                                              (putM
                                                  (putM (0 : Int) [nd0] (if halfB (baseL a (bitsL b)) (bitsL b) = true then baseL a (bitsL b) else (0 : Int))
                                                      (if halfB (baseL a (bitsL b)) (bitsL b) = true then halfN (bitsL b) else (0 : Int))).fst
                                                  (putM (0 : Int) [nd0] (if halfB (baseL a (bitsL b)) (bitsL b) = true then baseL a (bitsL b) else (0 : Int))
                                                      (if halfB (baseL a (bitsL b)) (bitsL b) = true then halfN (bitsL b) else (0 : Int))).snd
                                                  (if halfB (baseL a (bitsL b)) (bitsL b) = true then highA (baseL a (bitsL b)) (bitsL b) else (0 : Int))
                                                  (if halfB (baseL a (bitsL b)) (bitsL b) = true then halfN (bitsL b) else (0 : Int))).snd
                                              (bitsI BinOp.xor IntKind.u32 (baseL a (bitsL b)) (shl IntKind.u32 (1 : Int) (IntKind.i64.wrap ((32 : Int) - bitsL b)))) (bitsL b) &&
                                        !hasM
                                            (putM
                                                (putM (0 : Int) [nd0] (if halfB (baseL a (bitsL b)) (bitsL b) = true then baseL a (bitsL b) else (0 : Int))
                                                    (if halfB (baseL a (bitsL b)) (bitsL b) = true then halfN (bitsL b) else (0 : Int))).fst
                                                (putM (0 : Int) [nd0] (if halfB (baseL a (bitsL b)) (bitsL b) = true then baseL a (bitsL b) else (0 : Int))
                                                    (if halfB (baseL a (bitsL b)) (bitsL b) = true then halfN (bitsL b) else (0 : Int))).snd
                                                (if halfB (baseL a (bitsL b)) (bitsL b) = true then highA (baseL a (bitsL b)) (bitsL b) else (0 : Int))
                                                (if halfB (baseL a (bitsL b)) (bitsL b) = true then halfN (bitsL b) else (0 : Int))).snd
                                            (baseL a (bitsL b)) (bitsL b)) =
                                      false →
                                    false = true)) ∧
                            (hasA (if halfB (baseL a (bitsL b)) (bitsL b) = true then highA (baseL a (bitsL b)) (bitsL b) else (0 : Int))
                                  (if halfB (baseL a (bitsL b)) (bitsL b) = true then halfN (bitsL b) else (0 : Int))
                                  (if atB (baseL a (bitsL b)) (bitsL b) ((IntKind.i64.wrap k).tmod (sizeA (baseL a (bitsL b)) (bitsL b))) = true then
                                    atA (baseL a (bitsL b)) ((IntKind.i64.wrap k).tmod (sizeA (baseL a (bitsL b)) (bitsL b)))
                                  else (0 : Int)) =
                                false →
                              (0 : Int) ≤ IntKind.i64.wrap ((32 : Int) - bitsL b) ∧
                                ((lonB
                                                  (putM
                                                      (putM (0 : Int) [nd0] (if halfB (baseL a (bitsL b)) (bitsL b) = true then baseL a (bitsL b) else (0 : Int))
                                                          (if halfB (baseL a (bitsL b)) (bitsL b) = true then halfN (bitsL b) else (0 : Int))).fst
                                                      (putM (0 : Int) [nd0] (if halfB (baseL a (bitsL b)) (bitsL b) = true then baseL a (bitsL b) else (0 : Int))
                                                          (if halfB (baseL a (bitsL b)) (bitsL b) = true then halfN (bitsL b) else (0 : Int))).snd
                                                      (if halfB (baseL a (bitsL b)) (bitsL b) = true then highA (baseL a (bitsL b)) (bitsL b) else (0 : Int))
                                                      (if halfB (baseL a (bitsL b)) (bitsL b) = true then halfN (bitsL b) else (0 : Int))).snd
                                                  (if atB (baseL a (bitsL b)) (bitsL b) ((IntKind.i64.wrap k).tmod (sizeA (baseL a (bitsL b)) (bitsL b))) = true then
                                                    atA (baseL a (bitsL b)) ((IntKind.i64.wrap k).tmod (sizeA (baseL a (bitsL b)) (bitsL b)))
                                                  else (0 : Int)) &&
                                                makeB
                                                  (lonK
                                                    (putM
                                                        (putM (0 : Int) [nd0] (if halfB (baseL a (bitsL b)) (bitsL b) = true then baseL a (bitsL b) else (0 : Int))
                                                            (if halfB (baseL a (bitsL b)) (bitsL b) = true then halfN (bitsL b) else (0 : Int))).fst
                                                        (putM (0 : Int) [nd0] (if halfB (baseL a (bitsL b)) (bitsL b) = true then baseL a (bitsL b) else (0 : Int))
                                                            (if halfB (baseL a (bitsL b)) (bitsL b) = true then halfN (bitsL b) else (0 : Int))).snd
                                                        (if halfB (baseL a (bitsL b)) (bitsL b) = true then highA (baseL a (bitsL b)) (bitsL b) else (0 : Int))
                                                        (if halfB (baseL a (bitsL b)) (bitsL b) = true then halfN (bitsL b) else (0 : Int))).snd
                                                    (if atB (baseL a (bitsL b)) (bitsL b) ((IntKind.i64.wrap k).tmod (sizeA (baseL a (bitsL b)) (bitsL b))) = true then
                                                      atA (baseL a (bitsL b)) ((IntKind.i64.wrap k).tmod (sizeA (baseL a (bitsL b)) (bitsL b)))
                                                    else (0 : Int))) &&
                                              (((lonM
                                                      (putM
                                                          (putM (0 : Int) [nd0] (if halfB (baseL a (bitsL b)) (bitsL b) = true then baseL a (bitsL b) else (0 : Int))
                                                              (if halfB (baseL a (bitsL b)) (bitsL b) = true then halfN (bitsL b) else (0 : Int))).fst
                                                          (putM (0 : Int) [nd0] (if halfB (baseL a (bitsL b)) (bitsL b) = true then baseL a (bitsL b) else (0 : Int))
                                                              (if halfB (baseL a (bitsL b)) (bitsL b) = true then halfN (bitsL b) else (0 : Int))).snd
                                                          (if halfB (baseL a (bitsL b)) (bitsL b) = true then highA (baseL a (bitsL b)) (bitsL b) else (0 : Int))
                                                          (if halfB (baseL a (bitsL b)) (bitsL b) = true then halfN (bitsL b) else (0 : Int))).snd
                                                      (if atB (baseL a (bitsL b)) (bitsL b) ((IntKind.i64.wrap k).tmod (sizeA (baseL a (bitsL b)) (bitsL b))) = true then
                                                        atA (baseL a (bitsL b)) ((IntKind.i64.wrap k).tmod (sizeA (baseL a (bitsL b)) (bitsL b)))
                                                      else (0 : Int))).base ==
                                                  if halfB (baseL a (bitsL b)) (bitsL b) = true then baseL a (bitsL b) else (0 : Int)) &&
                                                (((lonM
                                                        (putM
                                                            (putM (0 : Int) [nd0] (if halfB (baseL a (bitsL b)) (bitsL b) = true then baseL a (bitsL b) else (0 : Int))
                                                                (if halfB (baseL a (bitsL b)) (bitsL b) = true then halfN (bitsL b) else (0 : Int))).fst
                                                            (putM (0 : Int) [nd0] (if halfB (baseL a (bitsL b)) (bitsL b) = true then baseL a (bitsL b) else (0 : Int))
                                                                (if halfB (baseL a (bitsL b)) (bitsL b) = true then halfN (bitsL b) else (0 : Int))).snd
                                                            (if halfB (baseL a (bitsL b)) (bitsL b) = true then highA (baseL a (bitsL b)) (bitsL b) else (0 : Int))
                                                            (if halfB (baseL a (bitsL b)) (bitsL b) = true then halfN (bitsL b) else (0 : Int))).snd
                                                        (if atB (baseL a (bitsL b)) (bitsL b) ((IntKind.i64.wrap k).tmod (sizeA (baseL a (bitsL b)) (bitsL b))) = true then
                                                          atA (baseL a (bitsL b)) ((IntKind.i64.wrap k).tmod (sizeA (baseL a (bitsL b)) (bitsL b)))
                                                        else (0 : Int))).bits ==
                                                    if halfB (baseL a (bitsL b)) (bitsL b) = true then halfN (bitsL b) else (0 : Int)) &&
                                                  true)) &&
                                            overM
                                              (putM
                                                  (putM (0 : Int) [nd0] (if halfB (baseL a (bitsL b)) (bitsL b) = true then baseL a (bitsL b) else (0 : Int))
                                                      (if halfB (baseL a (bitsL b)) (bitsL b) = true then halfN (bitsL b) else (0 : Int))).fst
                                                  (putM (0 : Int) [nd0] (if halfB (baseL a (bitsL b)) (bitsL b) = true then baseL a (bitsL b) else (0 : Int))
                                                      (if halfB (baseL a (bitsL b)) (bitsL b) = true then halfN (bitsL b) else (0 : Int))).snd
                                                  (if halfB (baseL a (bitsL b)) (bitsL b) = true then highA (baseL a (bitsL b)) (bitsL b) else (0 : Int))
                                                  (if halfB (baseL a (bitsL b)) (bitsL b) = true then halfN (bitsL b) else (0 : Int))).snd
                                              (baseL a (bitsL b)) (bitsL b) &&
                                          !overM
                                              (putM
                                                  (putM (0 : Int) [nd0] (if halfB (baseL a (bitsL b)) (bitsL b) = true then baseL a (bitsL b) else (0 : Int))
                                                      (if halfB (baseL a (bitsL b)) (bitsL b) = true then halfN (bitsL b) else (0 : Int))).fst
                                                  (putM (0 : Int) [nd0] (if halfB (baseL a (bitsL b)) (bitsL b) = true then baseL a (bitsL b) else (0 : Int))
                                                      (if halfB (baseL a (bitsL b)) (bitsL b) = true then halfN (bitsL b) else (0 : Int))).snd
                                                  (if halfB (baseL a (bitsL b)) (bitsL b) = true then highA (baseL a (bitsL b)) (bitsL b) else (0 : Int))
                                                  (if halfB (baseL a (bitsL b)) (bitsL b) = true then halfN (bitsL b) else (0 : Int))).snd
                                              (bitsI BinOp.xor IntKind.u32 (baseL a (bitsL b)) (shl IntKind.u32 (1 : Int) (IntKind.i64.wrap ((32 : Int) - bitsL b)))) (bitsL b) &&
                                        !hasM
                                            (putM
                                                (putM (0 : Int) [nd0] (if halfB (baseL a (bitsL b)) (bitsL b) = true then baseL a (bitsL b) else (0 : Int))
                                                    (if halfB (baseL a (bitsL b)) (bitsL b) = true then halfN (bitsL b) else (0 : Int))).fst
                                                (putM (0 : Int) [nd0] (if halfB (baseL a (bitsL b)) (bitsL b) = true then baseL a (bitsL b) else (0 : Int))
                                                    (if halfB (baseL a (bitsL b)) (bitsL b) = true then halfN (bitsL b) else (0 : Int))).snd
                                                (if halfB (baseL a (bitsL b)) (bitsL b) = true then highA (baseL a (bitsL b)) (bitsL b) else (0 : Int))
                                                (if halfB (baseL a (bitsL b)) (bitsL b) = true then halfN (bitsL b) else (0 : Int))).snd
                                            (baseL a (bitsL b)) (bitsL b)) =
                                      true →
                                    ((1 : Nat) ≤
                                          (putM
                                                (putM (0 : Int) [nd0] (if halfB (baseL a (bitsL b)) (bitsL b) = true then baseL a (bitsL b) else (0 : Int))
                                                    (if halfB (baseL a (bitsL b)) (bitsL b) = true then halfN (bitsL b) else (0 : Int))).fst
                                                (putM (0 : Int) [nd0] (if halfB (baseL a (bitsL b)) (bitsL b) = true then baseL a (bitsL b) else (0 : Int))
                                                    (if halfB (baseL a (bitsL b)) (bitsL b) = true then halfN (bitsL b) else (0 : Int))).snd
                                                (if halfB (baseL a (bitsL b)) (bitsL b) = true then highA (baseL a (bitsL b)) (bitsL b) else (0 : Int))
                                                (if halfB (baseL a (bitsL b)) (bitsL b) = true then halfN (bitsL b) else (0 : Int))).snd.length ∧
                                        ∀ (j b_1 i : Nat),
                                          kidN
                                                (getN
                                                  (putM
                                                      (putM (0 : Int) [nd0] (if halfB (baseL a (bitsL b)) (bitsL b) = true then baseL a (bitsL b) else (0 : Int))
                                                          (if halfB (baseL a (bitsL b)) (bitsL b) = true then halfN (bitsL b) else (0 : Int))).fst
                                                      (putM (0 : Int) [nd0] (if halfB (baseL a (bitsL b)) (bitsL b) = true then baseL a (bitsL b) else (0 : Int))
                                                          (if halfB (baseL a (bitsL b)) (bitsL b) = true then halfN (bitsL b) else (0 : Int))).snd
                                                      (if halfB (baseL a (bitsL b)) (bitsL b) = true then highA (baseL a (bitsL b)) (bitsL b) else (0 : Int))
                                                      (if halfB (baseL a (bitsL b)) (bitsL b) = true then halfN (bitsL b) else (0 : Int))).snd
                                                  j)
                                                b_1 =
                                              some i →
                                            i <
                                              (putM
                                                    (putM (0 : Int) [nd0] (if halfB (baseL a (bitsL b)) (bitsL b) = true then baseL a (bitsL b) else (0 : Int))
                                                        (if halfB (baseL a (bitsL b)) (bitsL b) = true then halfN (bitsL b) else (0 : Int))).fst
                                                    (putM (0 : Int) [nd0] (if halfB (baseL a (bitsL b)) (bitsL b) = true then baseL a (bitsL b) else (0 : Int))
                                                        (if halfB (baseL a (bitsL b)) (bitsL b) = true then halfN (bitsL b) else (0 : Int))).snd
                                                    (if halfB (baseL a (bitsL b)) (bitsL b) = true then highA (baseL a (bitsL b)) (bitsL b) else (0 : Int))
                                                    (if halfB (baseL a (bitsL b)) (bitsL b) = true then halfN (bitsL b) else (0 : Int))).snd.length) ∧
                                      (putE
                                              (putM
                                                  (putM (0 : Int) [nd0] (if halfB (baseL a (bitsL b)) (bitsL b) = true then baseL a (bitsL b) else (0 : Int))
                                                      (if halfB (baseL a (bitsL b)) (bitsL b) = true then halfN (bitsL b) else (0 : Int))).fst
                                                  (putM (0 : Int) [nd0] (if halfB (baseL a (bitsL b)) (bitsL b) = true then baseL a (bitsL b) else (0 : Int))
                                                      (if halfB (baseL a (bitsL b)) (bitsL b) = true then halfN (bitsL b) else (0 : Int))).snd
                                                  (if halfB (baseL a (bitsL b)) (bitsL b) = true then highA (baseL a (bitsL b)) (bitsL b) else (0 : Int))
                                                  (if halfB (baseL a (bitsL b)) (bitsL b) = true then halfN (bitsL b) else (0 : Int))).snd
                                              (baseL a (bitsL b)) (bitsL b) ==
                                            (0 : Int) &&
                                          (putM
                                                (putM
                                                    (putM (0 : Int) [nd0] (if halfB (baseL a (bitsL b)) (bitsL b) = true then baseL a (bitsL b) else (0 : Int))
                                                        (if halfB (baseL a (bitsL b)) (bitsL b) = true then halfN (bitsL b) else (0 : Int))).fst
                                                    (putM (0 : Int) [nd0] (if halfB (baseL a (bitsL b)) (bitsL b) = true then baseL a (bitsL b) else (0 : Int))
                                                        (if halfB (baseL a (bitsL b)) (bitsL b) = true then halfN (bitsL b) else (0 : Int))).snd
                                                    (if halfB (baseL a (bitsL b)) (bitsL b) = true then highA (baseL a (bitsL b)) (bitsL b) else (0 : Int))
                                                    (if halfB (baseL a (bitsL b)) (bitsL b) = true then halfN (bitsL b) else (0 : Int))).fst
                                                (putM
                                                    (putM (0 : Int) [nd0] (if halfB (baseL a (bitsL b)) (bitsL b) = true then baseL a (bitsL b) else (0 : Int))
                                                        (if halfB (baseL a (bitsL b)) (bitsL b) = true then halfN (bitsL b) else (0 : Int))).fst
                                                    (putM (0 : Int) [nd0] (if halfB (baseL a (bitsL b)) (bitsL b) = true then baseL a (bitsL b) else (0 : Int))
                                                        (if halfB (baseL a (bitsL b)) (bitsL b) = true then halfN (bitsL b) else (0 : Int))).snd
                                                    (if halfB (baseL a (bitsL b)) (bitsL b) = true then highA (baseL a (bitsL b)) (bitsL b) else (0 : Int))
                                                    (if halfB (baseL a (bitsL b)) (bitsL b) = true then halfN (bitsL b) else (0 : Int))).snd
                                                (baseL a (bitsL b)) (bitsL b)).fst ==
                                            (3 : Int)) =
                                        true) ∧
                                  ((lonB
                                                  (putM
                                                      (putM (0 : Int) [nd0] (if halfB (baseL a (bitsL b)) (bitsL b) = true then baseL a (bitsL b) else (0 : Int))
                                                          (if halfB (baseL a (bitsL b)) (bitsL b) = true then halfN (bitsL b) else (0 : Int))).fst
                                                      (putM (0 : Int) [nd0] (if halfB (baseL a (bitsL b)) (bitsL b) = true then baseL a (bitsL b) else (0 : Int))
                                                          (if halfB (baseL a (bitsL b)) (bitsL b) = true then halfN (bitsL b) else (0 : Int))).snd
                                                      (if halfB (baseL a (bitsL b)) (bitsL b) = true then highA (baseL a (bitsL b)) (bitsL b) else (0 : Int))
                                                      (if halfB (baseL a (bitsL b)) (bitsL b) = true then halfN (bitsL b) else (0 : Int))).snd
                                                  (if atB (baseL a (bitsL b)) (bitsL b) ((IntKind.i64.wrap k).tmod (sizeA (baseL a (bitsL b)) (bitsL b))) = true then
                                                    atA (baseL a (bitsL b)) ((IntKind.i64.wrap k).tmod (sizeA (baseL a (bitsL b)) (bitsL b)))
                                                  else (0 : Int)) &&
                                                makeB
                                                  (lonK
                                                    (putM
                                                        (putM (0 : Int) [nd0] (if halfB (baseL a (bitsL b)) (bitsL b) = true then baseL a (bitsL b) else (0 : Int))
                                                            (if halfB (baseL a (bitsL b)) (bitsL b) = true then halfN (bitsL b) else (0 : Int))).fst
                                                        (putM (0 : Int) [nd0] (if halfB (baseL a (bitsL b)) (bitsL b) = true then baseL a (bitsL b) else (0 : Int))
                                                            (if halfB (baseL a (bitsL b)) (bitsL b) = true then halfN (bitsL b) else (0 : Int))).snd
                                                        (if halfB (baseL a (bitsL b)) (bitsL b) = true then highA (baseL a (bitsL b)) (bitsL b) else (0 : Int))
                                                        (if halfB (baseL a (bitsL b)) (bitsL b) = true then halfN (bitsL b) else (0 : Int))).snd
                                                    (if atB (baseL a (bitsL b)) (bitsL b) ((IntKind.i64.wrap k).tmod (sizeA (baseL a (bitsL b)) (bitsL b))) = true then
                                                      atA (baseL a (bitsL b)) ((IntKind.i64.wrap k).tmod (sizeA (baseL a (bitsL b)) (bitsL b)))
                                                    else (0 : Int))) &&
                                              (((lonM
                                                      (putM
                                                          (putM (0 : Int) [nd0] (if halfB (baseL a (bitsL b)) (bitsL b) = true then baseL a (bitsL b) else (0 : Int))
                                                              (if halfB (baseL a (bitsL b)) (bitsL b) = true then halfN (bitsL b) else (0 : Int))).fst
                                                          (putM (0 : Int) [nd0] (if halfB (baseL a (bitsL b)) (bitsL b) = true then baseL a (bitsL b) else (0 : Int))
                                                              (if halfB (baseL a (bitsL b)) (bitsL b) = true then halfN (bitsL b) else (0 : Int))).snd
                                                          (if halfB (baseL a (bitsL b)) (bitsL b) = true then highA (baseL a (bitsL b)) (bitsL b) else (0 : Int))
                                                          (if halfB (baseL a (bitsL b)) (bitsL b) = true then halfN (bitsL b) else (0 : Int))).snd
                                                      (if atB (baseL a (bitsL b)) (bitsL b) ((IntKind.i64.wrap k).tmod (sizeA (baseL a (bitsL b)) (bitsL b))) = true then
                                                        atA (baseL a (bitsL b)) ((IntKind.i64.wrap k).tmod (sizeA (baseL a (bitsL b)) (bitsL b)))
                                                      else (0 : Int))).base ==
                                                  if halfB (baseL a (bitsL b)) (bitsL b) = true then baseL a (bitsL b) else (0 : Int)) &&
                                                (((lonM
                                                        (putM
                                                            (putM (0 : Int) [nd0] (if halfB (baseL a (bitsL b)) (bitsL b) = true then baseL a (bitsL b) else (0 : Int))
                                                                (if halfB (baseL a (bitsL b)) (bitsL b) = true then halfN (bitsL b) else (0 : Int))).fst
                                                            (putM (0 : Int) [nd0] (if halfB (baseL a (bitsL b)) (bitsL b) = true then baseL a (bitsL b) else (0 : Int))
                                                                (if halfB (baseL a (bitsL b)) (bitsL b) = true then halfN (bitsL b) else (0 : Int))).snd
                                                            (if halfB (baseL a (bitsL b)) (bitsL b) = true then highA (baseL a (bitsL b)) (bitsL b) else (0 : Int))
                                                            (if halfB (baseL a (bitsL b)) (bitsL b) = true then halfN (bitsL b) else (0 : Int))).snd
                                                        (if atB (baseL a (bitsL b)) (bitsL b) ((IntKind.i64.wrap k).tmod (sizeA (baseL a (bitsL b)) (bitsL b))) = true then
                                                          atA (baseL a (bitsL b)) ((IntKind.i64.wrap k).tmod (sizeA (baseL a (bitsL b)) (bitsL b)))
                                                        else (0 : Int))).bits ==
                                                    if halfB (baseL a (bitsL b)) (bitsL b) = true then halfN (bitsL b) else (0 : Int)) &&
                                                  true)) &&
                                            overM
                                              (putM
                                                  (putM (0 : Int) [nd0] (if halfB (baseL a (bitsL b)) (bitsL b) = true then baseL a (bitsL b) else (0 : Int))
                                                      (if halfB (baseL a (bitsL b)) (bitsL b) = true then halfN (bitsL b) else (0 : Int))).fst
                                                  (putM (0 : Int) [nd0] (if halfB (baseL a (bitsL b)) (bitsL b) = true then baseL a (bitsL b) else (0 : Int))
                                                      (if halfB (baseL a (bitsL b)) (bitsL b) = true then halfN (bitsL b) else (0 : Int))).snd
                                                  (if halfB (baseL a (bitsL b)) (bitsL b) = true then highA (baseL a (bitsL b)) (bitsL b) else (0 : Int))
                                                  (if halfB (baseL a (bitsL b)) (bitsL b) = true then halfN (bitsL b) else (0 : Int))).snd
                                              (baseL a (bitsL b)) (bitsL b) &&
                                          !overM
                                              (putM
                                                  (putM (0 : Int) [nd0] (if halfB (baseL a (bitsL b)) (bitsL b) = true then baseL a (bitsL b) else (0 : Int))
                                                      (if halfB (baseL a (bitsL b)) (bitsL b) = true then halfN (bitsL b) else (0 : Int))).fst
                                                  (putM (0 : Int) [nd0] (if halfB (baseL a (bitsL b)) (bitsL b) = true then baseL a (bitsL b) else (0 : Int))
                                                      (if halfB (baseL a (bitsL b)) (bitsL b) = true then halfN (bitsL b) else (0 : Int))).snd
                                                  (if halfB (baseL a (bitsL b)) (bitsL b) = true then highA (baseL a (bitsL b)) (bitsL b) else (0 : Int))
                                                  (if halfB (baseL a (bitsL b)) (bitsL b) = true then halfN (bitsL b) else (0 : Int))).snd
                                              (bitsI BinOp.xor IntKind.u32 (baseL a (bitsL b)) (shl IntKind.u32 (1 : Int) (IntKind.i64.wrap ((32 : Int) - bitsL b)))) (bitsL b) &&
                                        !hasM
                                            (putM
                                                (putM (0 : Int) [nd0] (if halfB (baseL a (bitsL b)) (bitsL b) = true then baseL a (bitsL b) else (0 : Int))
                                                    (if halfB (baseL a (bitsL b)) (bitsL b) = true then halfN (bitsL b) else (0 : Int))).fst
                                                (putM (0 : Int) [nd0] (if halfB (baseL a (bitsL b)) (bitsL b) = true then baseL a (bitsL b) else (0 : Int))
                                                    (if halfB (baseL a (bitsL b)) (bitsL b) = true then halfN (bitsL b) else (0 : Int))).snd
                                                (if halfB (baseL a (bitsL b)) (bitsL b) = true then highA (baseL a (bitsL b)) (bitsL b) else (0 : Int))
                                                (if halfB (baseL a (bitsL b)) (bitsL b) = true then halfN (bitsL b) else (0 : Int))).snd
                                            (baseL a (bitsL b)) (bitsL b)) =
                                      false →
                                    false = true))))))


end Go.Proofs.Ytndacggailoogaa.Tri
