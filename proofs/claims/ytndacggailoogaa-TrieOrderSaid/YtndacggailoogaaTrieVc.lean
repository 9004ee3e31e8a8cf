/- Tries: what the functions ask (printed by wip/Vc.lean; checked by the kernel in the next text). -/
import Derived.Test.YtndacggailoogaaTrieSpec
namespace Go.Proofs.Ytndacggailoogaa.Tri
open Go Go.Proofs.Ytndacggailoogaa.Sx

def vcMask : Int → Prop :=
  fun (bits : Int) => (0 : Int) ≤ IntKind.i64.wrap ((32 : Int) - bits) ∧ shl IntKind.u32 (4294967295 : Int) (IntKind.i64.wrap ((32 : Int) - bits)) = maskA bits

def vcBit : Int → Int → Prop :=
  fun (a k : Int) => (0 : Int) ≤ IntKind.i64.wrap ((31 : Int) - k) ∧ IntKind.i64.wrap (bitsI BinOp.and IntKind.u32 (shr IntKind.u32 a (IntKind.i64.wrap ((31 : Int) - k))) (1 : Int)) = bitI a k

def vcLen : Int → List Nd → Prop :=
  fun (n : Int) (ns : List Nd) => (some (0 : Nat)).isSome = true ∧ n = n ∧ (n = n ∧ ns = ns) ∧ ns.length ≤ ns.length ∧ True

def vcBlock : Int → Int → Prop :=
  fun (a n : Int) =>
  (13 : Int) ≠ (0 : Int) ∧
    (0 : Int) ≤ IntKind.i64.wrap ((32 : Int) - IntKind.i64.wrap ((20 : Int) + IntKind.i64.wrap (n.tmod (13 : Int)))) ∧
      (0 : Int) ≤ IntKind.i64.wrap ((32 : Int) - IntKind.i64.wrap ((20 : Int) + IntKind.i64.wrap (n.tmod (13 : Int)))) ∧
        shl IntKind.u32 (shr IntKind.u32 a (IntKind.i64.wrap ((32 : Int) - IntKind.i64.wrap ((20 : Int) + IntKind.i64.wrap (n.tmod (13 : Int))))))
              (IntKind.i64.wrap ((32 : Int) - IntKind.i64.wrap ((20 : Int) + IntKind.i64.wrap (n.tmod (13 : Int))))) =
            baseL a (bitsL n) ∧
          IntKind.i64.wrap ((20 : Int) + IntKind.i64.wrap (n.tmod (13 : Int))) = bitsL n

def vcAhead : Int → Int → Int → Int → Prop :=
  fun (x1 x2 y1 y2 : Int) => (decide (x1 < y1) || x1 == y1 && decide (x2 < y2)) = aheadA x1 x2 y1 y2

def vcEmpty : Int → List Nd → Nat → Prop :=
  fun (n : Int) (ns : List Nd) (j : Nat) =>
  (some j).isSome = true ∧
    ((!(ns.getD ((some j).getD (0 : Nat)) nd0).is) = true → (some j).isSome = true) ∧
      ((!(ns.getD ((some j).getD (0 : Nat)) nd0).is) = true → (0 : Int) ≤ (0 : Int) ∧ (0 : Int) < (2 : Int)) ∧
        ((!(ns.getD ((some j).getD (0 : Nat)) nd0).is) = true → nat_lit 0 < (2 : Nat)) ∧
          ((!(ns.getD ((some j).getD (0 : Nat)) nd0).is && (kidN (ns.getD ((some j).getD (0 : Nat)) nd0) (nat_lit 0)).isNone) = true → (some j).isSome = true) ∧
            ((!(ns.getD ((some j).getD (0 : Nat)) nd0).is && (kidN (ns.getD ((some j).getD (0 : Nat)) nd0) (nat_lit 0)).isNone) = true → (0 : Int) ≤ (1 : Int) ∧ (1 : Int) < (2 : Int)) ∧
              ((!(ns.getD ((some j).getD (0 : Nat)) nd0).is && (kidN (ns.getD ((some j).getD (0 : Nat)) nd0) (nat_lit 0)).isNone) = true → nat_lit 1 < (2 : Nat)) ∧
                (!(ns.getD ((some j).getD (0 : Nat)) nd0).is && (kidN (ns.getD ((some j).getD (0 : Nat)) nd0) (nat_lit 0)).isNone && (kidN (ns.getD ((some j).getD (0 : Nat)) nd0) (nat_lit 1)).isNone) =
                    emptyN (getN ns j) ∧
                  (n = n ∧ ns = ns) ∧ ns.length ≤ ns.length ∧ True

def vcRight : Int → Int → Prop :=
  fun (base bits : Int) =>
  ((decide (bits ≥ (0 : Int)) && decide (bits ≤ (32 : Int))) = true → (0 : Int) ≤ bits ∧ bits ≤ (32 : Int)) ∧
    (decide (bits ≥ (0 : Int)) && decide (bits ≤ (32 : Int)) && bitsI BinOp.andNot IntKind.u32 base (maskA bits) == (0 : Int)) = rightA base bits

def vcMake : Int → Int → Prop :=
  fun (a bits : Int) =>
  ((decide (bits < (0 : Int)) || decide (bits > (32 : Int))) = true →
      (((0 : Int) = if makeB bits = true then makeA a bits else (0 : Int)) ∧ (0 : Int) = if makeB bits = true then bits else (0 : Int)) ∧ false = makeB bits) ∧
    ((decide (bits < (0 : Int)) || decide (bits > (32 : Int))) = false →
      ((0 : Int) ≤ bits ∧ bits ≤ (32 : Int)) ∧
        ((bitsI BinOp.and IntKind.u32 a (maskA bits) = if makeB bits = true then makeA a bits else (0 : Int)) ∧ bits = if makeB bits = true then bits else (0 : Int)) ∧ true = makeB bits)

def vcActB : Int → Int → Int → Bool → Int → Int → Prop :=
  fun (o a b : Int) (r : Bool) (n m : Int) =>
  (r = true →
      n = (actB { op := o, addr := a, bits := b, raw := r, any := { base := n, bits := m : Blk } : Act }).base ∧ m = (actB { op := o, addr := a, bits := b, raw := r, any := { base := n, bits := m : Blk } : Act }).bits) ∧
    (r = false →
      (2048 : Int) ≠ (0 : Int) ∧
        (0 : Int) ≤ b ∧
          baseL (IntKind.u32.wrap ((167772160 : Int) + a.tmod (2048 : Int))) (bitsL b) = (actB { op := o, addr := a, bits := b, raw := r, any := { base := n, bits := m : Blk } : Act }).base ∧
            bitsL b = (actB { op := o, addr := a, bits := b, raw := r, any := { base := n, bits := m : Blk } : Act }).bits)

def vcWalk : Int → List Nd → Int → Int → Prop :=
  fun (n : Int) (ns : List Nd) (base bits : Int) =>
  (some (0 : Nat)).isSome = true ∧
    (some (0 : Nat)).isSome = true ∧
      (∃ (g : Nat × Option Nat × List Nat),
          ((↑g.fst : Int) ≤ max bits (0 : Int) ∧
              (∀ (j : Nat), g.snd.fst = some j → ∃ (g_1 : List Nat), g.snd.snd = g_1 ++ [j] ∧ walkN ns (0 : Nat) (pathB base bits) = g_1 ++ walkN ns j (pathA base g.fst (bits.toNat - g.fst))) ∧
                (g.snd.fst = none → g.snd.snd = walkN ns (0 : Nat) (pathB base bits))) ∧
            (True ∧ some (0 : Nat) = g.snd.fst ∧ True ∧ (0 : Int) = (↑g.fst : Int)) ∧ (base = base ∧ bits = bits) ∧ (n = n ∧ ns = ns) ∧ [(0 : Nat)] = g.snd.snd) ∧
        ∀ (g : Nat × Option Nat × List Nat),
          (↑g.fst : Int) ≤ max bits (0 : Int) ∧
              (∀ (j : Nat), g.snd.fst = some j → ∃ (g_1 : List Nat), g.snd.snd = g_1 ++ [j] ∧ walkN ns (0 : Nat) (pathB base bits) = g_1 ++ walkN ns j (pathA base g.fst (bits.toNat - g.fst))) ∧
                (g.snd.fst = none → g.snd.snd = walkN ns (0 : Nat) (pathB base bits)) →
            ((decide ((↑g.fst : Int) < bits) && g.snd.fst.isSome) = true →
                ((0 : Int) ≤ (↑g.fst : Int) ∧ (↑g.fst : Int) ≤ (31 : Int)) ∧
                  g.snd.fst.isSome = true ∧
                    ((0 : Int) ≤ bitI base (↑g.fst : Int) ∧ bitI base (↑g.fst : Int) < (2 : Int)) ∧
                      (bitI base (↑g.fst : Int)).toNat < (2 : Nat) ∧
                        ((kidN (ns.getD (g.snd.fst.getD (0 : Nat)) nd0) (bitI base (↑g.fst : Int)).toNat).isSome = true →
                            (kidN (ns.getD (g.snd.fst.getD (0 : Nat)) nd0) (bitI base (↑g.fst : Int)).toNat).isSome = true ∧
                              (g.snd.snd.length + [(kidN (ns.getD (g.snd.fst.getD (0 : Nat)) nd0) (bitI base (↑g.fst : Int)).toNat).getD (0 : Nat)].length) * (8 : Nat) ≤ (140737488355328 : Nat) ∧
                                ∃ (g_1 : Nat × Option Nat × List Nat),
                                  ((↑g_1.fst : Int) ≤ max bits (0 : Int) ∧
                                      (∀ (j : Nat), g_1.snd.fst = some j → ∃ (g : List Nat), g_1.snd.snd = g ++ [j] ∧ walkN ns (0 : Nat) (pathB base bits) = g ++ walkN ns j (pathA base g_1.fst (bits.toNat - g_1.fst))) ∧
                                        (g_1.snd.fst = none → g_1.snd.snd = walkN ns (0 : Nat) (pathB base bits))) ∧
                                    (annWalk n ns base bits).μ g_1 < (annWalk n ns base bits).μ g ∧
                                      (True ∧ kidN (ns.getD (g.snd.fst.getD (0 : Nat)) nd0) (bitI base (↑g.fst : Int)).toNat = g_1.snd.fst ∧ True ∧ IntKind.i64.wrap ((↑g.fst : Int) + (1 : Int)) = (↑g_1.fst : Int)) ∧
                                        (base = base ∧ bits = bits) ∧ (n = n ∧ ns = ns) ∧ g.snd.snd ++ [(kidN (ns.getD (g.snd.fst.getD (0 : Nat)) nd0) (bitI base (↑g.fst : Int)).toNat).getD (0 : Nat)] = g_1.snd.snd) ∧
                          ((kidN (ns.getD (g.snd.fst.getD (0 : Nat)) nd0) (bitI base (↑g.fst : Int)).toNat).isSome = false →
                            ∃ (g_1 : Nat × Option Nat × List Nat),
                              ((↑g_1.fst : Int) ≤ max bits (0 : Int) ∧
                                  (∀ (j : Nat), g_1.snd.fst = some j → ∃ (g : List Nat), g_1.snd.snd = g ++ [j] ∧ walkN ns (0 : Nat) (pathB base bits) = g ++ walkN ns j (pathA base g_1.fst (bits.toNat - g_1.fst))) ∧
                                    (g_1.snd.fst = none → g_1.snd.snd = walkN ns (0 : Nat) (pathB base bits))) ∧
                                (annWalk n ns base bits).μ g_1 < (annWalk n ns base bits).μ g ∧
                                  (True ∧ kidN (ns.getD (g.snd.fst.getD (0 : Nat)) nd0) (bitI base (↑g.fst : Int)).toNat = g_1.snd.fst ∧ True ∧ IntKind.i64.wrap ((↑g.fst : Int) + (1 : Int)) = (↑g_1.fst : Int)) ∧
                                    (base = base ∧ bits = bits) ∧ (n = n ∧ ns = ns) ∧ g.snd.snd = g_1.snd.snd)) ∧
              ((decide ((↑g.fst : Int) < bits) && g.snd.fst.isSome) = false → True ∧ ((n = n ∧ ns = ns) ∧ g.snd.snd = walkN ns (0 : Nat) (pathB base bits)) ∧ ns.length ≤ ns.length ∧ True)

def vcHasA : Int → Int → Int → Prop :=
  fun (base bits a : Int) => (rightA base bits = true → (0 : Int) ≤ bits ∧ bits ≤ (32 : Int)) ∧ (rightA base bits && bitsI BinOp.and IntKind.u32 a (maskA bits) == base) = hasA base bits a

def vcSize : Int → Int → Prop :=
  fun (base bits : Int) =>
  ((!rightA base bits) = true → (0 : Int) = sizeA base bits) ∧
    ((!rightA base bits) = false → (0 : Int) ≤ IntKind.i64.wrap ((32 : Int) - bits) ∧ shl IntKind.i64 (1 : Int) (IntKind.i64.wrap ((32 : Int) - bits)) = sizeA base bits)

def vcHalves : Int → Int → Prop :=
  fun (base bits : Int) =>
  ((!rightA base bits || bits == (32 : Int)) = true →
      (((0 : Int) = if halfB base bits = true then base else (0 : Int)) ∧ (0 : Int) = if halfB base bits = true then halfN bits else (0 : Int)) ∧
        (((0 : Int) = if halfB base bits = true then highA base bits else (0 : Int)) ∧ (0 : Int) = if halfB base bits = true then halfN bits else (0 : Int)) ∧ false = halfB base bits) ∧
    ((!rightA base bits || bits == (32 : Int)) = false →
      (0 : Int) ≤ IntKind.i64.wrap ((32 : Int) - IntKind.i64.wrap (bits + (1 : Int))) ∧
        ((base = if halfB base bits = true then base else (0 : Int)) ∧ IntKind.i64.wrap (bits + (1 : Int)) = if halfB base bits = true then halfN bits else (0 : Int)) ∧
          ((bitsI BinOp.or IntKind.u32 base (shl IntKind.u32 (1 : Int) (IntKind.i64.wrap ((32 : Int) - IntKind.i64.wrap (bits + (1 : Int))))) = if halfB base bits = true then highA base bits else (0 : Int)) ∧
              IntKind.i64.wrap (bits + (1 : Int)) = if halfB base bits = true then halfN bits else (0 : Int)) ∧
            true = halfB base bits)

def vcPut : Int → List Nd → Int → Int → Prop :=
  fun (n : Int) (ns : List Nd) (base bits : Int) =>
  ((!rightA base bits) = true → (12 : Int) = putE ns base bits ∧ (n = (putM n ns base bits).fst ∧ ns = (putM n ns base bits).snd) ∧ ns.length ≤ (putM n ns base bits).snd.length ∧ True) ∧
    ((!rightA base bits) = false →
      (some (0 : Nat)).isSome = true ∧
        (∃ (g : Nat × List Nd × Nat),
            ((↑g.fst : Int) ≤ bits ∧
                mkN ns (0 : Nat) (pathB base bits) = mkN g.snd.fst g.snd.snd (pathA base g.fst (bits.toNat - g.fst)) ∧
                  ns.length ≤ g.snd.fst.length ∧ g.snd.snd < g.snd.fst.length ∧ (1 : Nat) ≤ g.snd.fst.length ∧ ∀ (j b i : Nat), kidN (getN g.snd.fst j) b = some i → i < g.snd.fst.length) ∧
              (some (0 : Nat) = some (0 : Nat) ∧ True ∧ bits = bits ∧ some (0 : Nat) = some g.snd.snd ∧ (0 : Int) = (↑g.fst : Int)) ∧ (base = base ∧ bits = bits) ∧ n = n ∧ ns = g.snd.fst) ∧
          ∀ (g : Nat × List Nd × Nat),
            ((↑g.fst : Int) ≤ bits ∧
                mkN ns (0 : Nat) (pathB base bits) = mkN g.snd.fst g.snd.snd (pathA base g.fst (bits.toNat - g.fst)) ∧
                  ns.length ≤ g.snd.fst.length ∧ g.snd.snd < g.snd.fst.length ∧ (1 : Nat) ≤ g.snd.fst.length ∧ ∀ (j b i : Nat), kidN (getN g.snd.fst j) b = some i → i < g.snd.fst.length) →
              (decide ((↑g.fst : Int) < bits) = true →
                  ((0 : Int) ≤ (↑g.fst : Int) ∧ (↑g.fst : Int) ≤ (31 : Int)) ∧
                    (some g.snd.snd).isSome = true ∧
                      ((0 : Int) ≤ bitI base (↑g.fst : Int) ∧ bitI base (↑g.fst : Int) < (2 : Int)) ∧
                        (some ((some g.snd.snd).getD (0 : Nat))).isSome = true ∧
                          (bitI base (↑g.fst : Int)).toNat < (2 : Nat) ∧
                            ((kidN (g.snd.fst.getD ((some ((some g.snd.snd).getD (0 : Nat))).getD (0 : Nat)) nd0) (bitI base (↑g.fst : Int)).toNat).isNone = true →
                                (1 : Nat) ≤ g.snd.fst.length ∧
                                  (some ((some g.snd.snd).getD (0 : Nat))).isSome = true ∧
                                    (bitI base (↑g.fst : Int)).toNat < (2 : Nat) ∧
                                      (some ((some g.snd.snd).getD (0 : Nat))).isSome = true ∧
                                        (bitI base (↑g.fst : Int)).toNat < (2 : Nat) ∧
                                          ∃ (g_1 : Nat × List Nd × Nat),
                                            ((↑g_1.fst : Int) ≤ bits ∧
                                                mkN ns (0 : Nat) (pathB base bits) = mkN g_1.snd.fst g_1.snd.snd (pathA base g_1.fst (bits.toNat - g_1.fst)) ∧
                                                  ns.length ≤ g_1.snd.fst.length ∧
                                                    g_1.snd.snd < g_1.snd.fst.length ∧ (1 : Nat) ≤ g_1.snd.fst.length ∧ ∀ (j b i : Nat), kidN (getN g_1.snd.fst j) b = some i → i < g_1.snd.fst.length) ∧
                                              (annPut n ns base bits).μ g_1 < (annPut n ns base bits).μ g ∧
                                                (some (0 : Nat) = some (0 : Nat) ∧
                                                    True ∧
                                                      bits = bits ∧
                                                        kidN
                                                              (((g.snd.fst ++ [nd0]).set ((some ((some g.snd.snd).getD (0 : Nat))).getD (0 : Nat))
                                                                    (setK ((g.snd.fst ++ [nd0]).getD ((some ((some g.snd.snd).getD (0 : Nat))).getD (0 : Nat)) nd0) (bitI base (↑g.fst : Int)).toNat
                                                                      (some g.snd.fst.length))).getD
                                                                ((some ((some g.snd.snd).getD (0 : Nat))).getD (0 : Nat)) nd0)
                                                              (bitI base (↑g.fst : Int)).toNat =
                                                            some g_1.snd.snd ∧
                                                          IntKind.i64.wrap ((↑g.fst : Int) + (1 : Int)) = (↑g_1.fst : Int)) ∧
                                                  (base = base ∧ bits = bits) ∧
                                                    n = n ∧
                                                      (g.snd.fst ++ [nd0]).set ((some ((some g.snd.snd).getD (0 : Nat))).getD (0 : Nat))
                                                          (setK ((g.snd.fst ++ [nd0]).getD ((some ((some g.snd.snd).getD (0 : Nat))).getD (0 : Nat)) nd0) (bitI base (↑g.fst : Int)).toNat (some g.snd.fst.length)) =
                                                        g_1.snd.fst) ∧
                              ((kidN (g.snd.fst.getD ((some ((some g.snd.snd).getD (0 : Nat))).getD (0 : Nat)) nd0) (bitI base (↑g.fst : Int)).toNat).isNone = false →
                                (some ((some g.snd.snd).getD (0 : Nat))).isSome = true ∧
                                  (bitI base (↑g.fst : Int)).toNat < (2 : Nat) ∧
                                    ∃ (g_1 : Nat × List Nd × Nat),
                                      ((↑g_1.fst : Int) ≤ bits ∧
                                          mkN ns (0 : Nat) (pathB base bits) = mkN g_1.snd.fst g_1.snd.snd (pathA base g_1.fst (bits.toNat - g_1.fst)) ∧
                                            ns.length ≤ g_1.snd.fst.length ∧
                                              g_1.snd.snd < g_1.snd.fst.length ∧ (1 : Nat) ≤ g_1.snd.fst.length ∧ ∀ (j b i : Nat), kidN (getN g_1.snd.fst j) b = some i → i < g_1.snd.fst.length) ∧
                                        (annPut n ns base bits).μ g_1 < (annPut n ns base bits).μ g ∧
                                          (some (0 : Nat) = some (0 : Nat) ∧
                                              True ∧
                                                bits = bits ∧
                                                  kidN (g.snd.fst.getD ((some ((some g.snd.snd).getD (0 : Nat))).getD (0 : Nat)) nd0) (bitI base (↑g.fst : Int)).toNat = some g_1.snd.snd ∧
                                                    IntKind.i64.wrap ((↑g.fst : Int) + (1 : Int)) = (↑g_1.fst : Int)) ∧
                                            (base = base ∧ bits = bits) ∧ n = n ∧ g.snd.fst = g_1.snd.fst)) ∧
                (decide ((↑g.fst : Int) < bits) = false →
                  (some g.snd.snd).isSome = true ∧
                    ((g.snd.fst.getD ((some g.snd.snd).getD (0 : Nat)) nd0).is = true →
                        (6 : Int) = putE ns base bits ∧ (n = (putM n ns base bits).fst ∧ g.snd.fst = (putM n ns base bits).snd) ∧ ns.length ≤ (putM n ns base bits).snd.length ∧ True) ∧
                      ((g.snd.fst.getD ((some g.snd.snd).getD (0 : Nat)) nd0).is = false →
                        (some g.snd.snd).isSome = true ∧
                          (some (0 : Nat)).isSome = true ∧
                            (some (0 : Nat)).isSome = true ∧
                              (0 : Int) = putE ns base bits ∧
                                (IntKind.i64.wrap (n + (1 : Int)) = (putM n ns base bits).fst ∧
                                    (g.snd.fst.set ((some g.snd.snd).getD (0 : Nat)) (setIs (g.snd.fst.getD ((some g.snd.snd).getD (0 : Nat)) nd0) true)).set (0 : Nat)
                                        ((g.snd.fst.set ((some g.snd.snd).getD (0 : Nat)) (setIs (g.snd.fst.getD ((some g.snd.snd).getD (0 : Nat)) nd0) true)).getD (0 : Nat) nd0) =
                                      (putM n ns base bits).snd) ∧
                                  ns.length ≤ (putM n ns base bits).snd.length ∧ True)))

def vcHas : Int → List Nd → Int → Int → Prop :=
  fun (n : Int) (ns : List Nd) (base bits : Int) =>
  ((!rightA base bits) = true → false = hasM ns base bits ∧ (n = n ∧ ns = ns) ∧ ns.length ≤ ns.length ∧ True) ∧
    ((!rightA base bits) = false →
      bits ≤ (32 : Int) ∧
        (((↑(walkN ns (0 : Nat) (pathB base bits)).length : Int) == IntKind.i64.wrap (bits + (1 : Int))) = true → (0 : Int) ≤ bits ∧ bits < (↑(walkN ns (0 : Nat) (pathB base bits)).length : Int)) ∧
          (((↑(walkN ns (0 : Nat) (pathB base bits)).length : Int) == IntKind.i64.wrap (bits + (1 : Int))) = true → (some ((walkN ns (0 : Nat) (pathB base bits)).getD bits.toNat (0 : Nat))).isSome = true) ∧
            ((↑(walkN ns (0 : Nat) (pathB base bits)).length : Int) == IntKind.i64.wrap (bits + (1 : Int)) && (ns.getD ((some ((walkN ns (0 : Nat) (pathB base bits)).getD bits.toNat (0 : Nat))).getD (0 : Nat)) nd0).is) =
                hasM ns base bits ∧
              (n = n ∧ ns = ns) ∧ ns.length ≤ ns.length ∧ True)

def vcLongest : Int → List Nd → Int → Prop :=
  fun (n : Int) (ns : List Nd) (a : Int) =>
  (32 : Int) ≤ (32 : Int) ∧
    (∃ (g : Nat),
        g.le (walkN ns (0 : Nat) (pathB a (32 : Int))).length ∧
          (a = a ∧
              True ∧
                True ∧
                  (↑(walkN ns (0 : Nat) (pathB a (32 : Int))).length : Int) = (↑(walkN ns (0 : Nat) (pathB a (32 : Int))).length : Int) ∧
                    (0 : Int) = (lonN ns (walkN ns (0 : Nat) (pathB a (32 : Int))) g).fst ∧ false = (lonN ns (walkN ns (0 : Nat) (pathB a (32 : Int))) g).snd ∧ (0 : Int) = (↑g : Int)) ∧
            (n = n ∧ ns = ns) ∧ ((0 : Int) = (0 : Int) ∧ (0 : Int) = (0 : Int)) ∧ walkN ns (0 : Nat) (pathB a (32 : Int)) = walkN ns (0 : Nat) (pathB a (32 : Int))) ∧
      ∀ (g : Nat),
        g.le (walkN ns (0 : Nat) (pathB a (32 : Int))).length →
          (decide ((↑g : Int) < (↑(walkN ns (0 : Nat) (pathB a (32 : Int))).length : Int)) = true →
              ((0 : Int) ≤ (↑g : Int) ∧ (↑g : Int) < (↑(walkN ns (0 : Nat) (pathB a (32 : Int))).length : Int)) ∧
                (some ((walkN ns (0 : Nat) (pathB a (32 : Int))).getD (↑g : Int).toNat (0 : Nat))).isSome = true ∧
                  ((ns.getD ((some ((walkN ns (0 : Nat) (pathB a (32 : Int))).getD (↑g : Int).toNat (0 : Nat))).getD (0 : Nat)) nd0).is = true → True) ∧
                    ((ns.getD ((some ((walkN ns (0 : Nat) (pathB a (32 : Int))).getD (↑g : Int).toNat (0 : Nat))).getD (0 : Nat)) nd0).is = false → True) ∧
                      ∀ (v : Int),
                        (v =
                            if (ns.getD ((some ((walkN ns (0 : Nat) (pathB a (32 : Int))).getD (↑g : Int).toNat (0 : Nat))).getD (0 : Nat)) nd0).is = true then (↑g : Int)
                            else (lonN ns (walkN ns (0 : Nat) (pathB a (32 : Int))) g).fst) →
                          ∀ (v_1 : Bool),
                            (v_1 =
                                if (ns.getD ((some ((walkN ns (0 : Nat) (pathB a (32 : Int))).getD (↑g : Int).toNat (0 : Nat))).getD (0 : Nat)) nd0).is = true then true
                                else (lonN ns (walkN ns (0 : Nat) (pathB a (32 : Int))) g).snd) →
                              ∃ (g_1 : Nat),
                                g_1.le (walkN ns (0 : Nat) (pathB a (32 : Int))).length ∧
                                  (annLon n ns a).μ g_1 < (annLon n ns a).μ g ∧
                                    (a = a ∧
                                        True ∧
                                          True ∧
                                            (↑(walkN ns (0 : Nat) (pathB a (32 : Int))).length : Int) = (↑(walkN ns (0 : Nat) (pathB a (32 : Int))).length : Int) ∧
                                              v = (lonN ns (walkN ns (0 : Nat) (pathB a (32 : Int))) g_1).fst ∧
                                                v_1 = (lonN ns (walkN ns (0 : Nat) (pathB a (32 : Int))) g_1).snd ∧ IntKind.i64.wrap ((↑g : Int) + (1 : Int)) = (↑g_1 : Int)) ∧
                                      (n = n ∧ ns = ns) ∧ ((0 : Int) = (0 : Int) ∧ (0 : Int) = (0 : Int)) ∧ walkN ns (0 : Nat) (pathB a (32 : Int)) = walkN ns (0 : Nat) (pathB a (32 : Int))) ∧
            (decide ((↑g : Int) < (↑(walkN ns (0 : Nat) (pathB a (32 : Int))).length : Int)) = false →
              ((!(lonN ns (walkN ns (0 : Nat) (pathB a (32 : Int))) g).snd) = true →
                  (((0 : Int) = (lonM ns a).base ∧ (0 : Int) = (lonM ns a).bits) ∧ false = (lonB ns a && makeB (lonK ns a))) ∧ (n = n ∧ ns = ns) ∧ ns.length ≤ ns.length ∧ True) ∧
                ((!(lonN ns (walkN ns (0 : Nat) (pathB a (32 : Int))) g).snd) = false →
                  (((if makeB (lonN ns (walkN ns (0 : Nat) (pathB a (32 : Int))) g).fst = true then makeA a (lonN ns (walkN ns (0 : Nat) (pathB a (32 : Int))) g).fst else (0 : Int)) = (lonM ns a).base ∧
                        (if makeB (lonN ns (walkN ns (0 : Nat) (pathB a (32 : Int))) g).fst = true then (lonN ns (walkN ns (0 : Nat) (pathB a (32 : Int))) g).fst else (0 : Int)) = (lonM ns a).bits) ∧
                      makeB (lonN ns (walkN ns (0 : Nat) (pathB a (32 : Int))) g).fst = (lonB ns a && makeB (lonK ns a))) ∧
                    (n = n ∧ ns = ns) ∧ ns.length ≤ ns.length ∧ True))

def vcOverlaps : Int → List Nd → Int → Int → Prop :=
  fun (n : Int) (ns : List Nd) (base bits : Int) =>
  ((!rightA base bits) = true → false = overM ns base bits ∧ (n = n ∧ ns = ns) ∧ ns.length ≤ ns.length ∧ True) ∧
    ((!rightA base bits) = false →
      bits ≤ (32 : Int) ∧
        (∃ (g : Nat),
            (g ≤ (walkN ns (0 : Nat) (pathB base bits)).length ∧ ∀ (i : Nat), i < g → (getN ns ((walkN ns (0 : Nat) (pathB base bits)).getD i (0 : Nat))).is = false) ∧
              (True ∧ True ∧ True ∧ (↑(walkN ns (0 : Nat) (pathB base bits)).length : Int) = (↑(walkN ns (0 : Nat) (pathB base bits)).length : Int) ∧ (0 : Int) = (↑g : Int)) ∧
                (n = n ∧ ns = ns) ∧ (base = base ∧ bits = bits) ∧ walkN ns (0 : Nat) (pathB base bits) = walkN ns (0 : Nat) (pathB base bits)) ∧
          ∀ (g : Nat),
            (g ≤ (walkN ns (0 : Nat) (pathB base bits)).length ∧ ∀ (i : Nat), i < g → (getN ns ((walkN ns (0 : Nat) (pathB base bits)).getD i (0 : Nat))).is = false) →
              (decide ((↑g : Int) < (↑(walkN ns (0 : Nat) (pathB base bits)).length : Int)) = true →
                  ((0 : Int) ≤ (↑g : Int) ∧ (↑g : Int) < (↑(walkN ns (0 : Nat) (pathB base bits)).length : Int)) ∧
                    (some ((walkN ns (0 : Nat) (pathB base bits)).getD (↑g : Int).toNat (0 : Nat))).isSome = true ∧
                      ((ns.getD ((some ((walkN ns (0 : Nat) (pathB base bits)).getD (↑g : Int).toNat (0 : Nat))).getD (0 : Nat)) nd0).is = true →
                          true = overM ns base bits ∧ (n = n ∧ ns = ns) ∧ ns.length ≤ ns.length ∧ True) ∧
                        ((ns.getD ((some ((walkN ns (0 : Nat) (pathB base bits)).getD (↑g : Int).toNat (0 : Nat))).getD (0 : Nat)) nd0).is = false →
                          ∃ (g_1 : Nat),
                            (g_1 ≤ (walkN ns (0 : Nat) (pathB base bits)).length ∧ ∀ (i : Nat), i < g_1 → (getN ns ((walkN ns (0 : Nat) (pathB base bits)).getD i (0 : Nat))).is = false) ∧
                              (annOver ns (walkN ns (0 : Nat) (pathB base bits))).μ g_1 < (annOver ns (walkN ns (0 : Nat) (pathB base bits))).μ g ∧
                                (True ∧
                                    True ∧
                                      True ∧ (↑(walkN ns (0 : Nat) (pathB base bits)).length : Int) = (↑(walkN ns (0 : Nat) (pathB base bits)).length : Int) ∧ IntKind.i64.wrap ((↑g : Int) + (1 : Int)) = (↑g_1 : Int)) ∧
                                  (n = n ∧ ns = ns) ∧ (base = base ∧ bits = bits) ∧ walkN ns (0 : Nat) (pathB base bits) = walkN ns (0 : Nat) (pathB base bits))) ∧
                (decide ((↑g : Int) < (↑(walkN ns (0 : Nat) (pathB base bits)).length : Int)) = false →
                  (((↑(walkN ns (0 : Nat) (pathB base bits)).length : Int) == IntKind.i64.wrap (bits + (1 : Int))) = true → (0 : Int) ≤ bits ∧ bits < (↑(walkN ns (0 : Nat) (pathB base bits)).length : Int)) ∧
                    ((↑(walkN ns (0 : Nat) (pathB base bits)).length : Int) == IntKind.i64.wrap (bits + (1 : Int)) && !emptyN (getN ns ((walkN ns (0 : Nat) (pathB base bits)).getD bits.toNat (0 : Nat)))) =
                        overM ns base bits ∧
                      (n = n ∧ ns = ns) ∧ ns.length ≤ ns.length ∧ True))

def vcAt : Int → Int → Int → Prop :=
  fun (base bits k : Int) =>
  ((decide (k < (0 : Int)) || decide (k ≥ sizeA base bits)) = true → ((0 : Int) = if atB base bits k = true then atA base k else (0 : Int)) ∧ false = atB base bits k) ∧
    ((decide (k < (0 : Int)) || decide (k ≥ sizeA base bits)) = false → (IntKind.u32.wrap (base + IntKind.u32.wrap k) = if atB base bits k = true then atA base k else (0 : Int)) ∧ true = atB base bits k)

def vcWithin : Int → Int → Int → Int → Prop :=
  fun (x1 x2 y1 y2 : Int) => (rightA x1 x2 && rightA y1 y2 && decide (x2 ≥ y2) && hasA y1 y2 x1) = withinA x1 x2 y1 y2

def vcTake : Int → List Nd → Int → Int → Prop :=
  fun (n : Int) (ns : List Nd) (base bits : Int) =>
  ((!hasM ns base bits) = true → (7 : Int) = takeE ns base bits ∧ (n = (takeM n ns base bits).fst ∧ ns = (takeM n ns base bits).snd) ∧ ns.length ≤ (takeM n ns base bits).snd.length ∧ True) ∧
    ((!hasM ns base bits) = false →
      bits ≤ (32 : Int) ∧
        ((0 : Int) ≤ bits ∧ bits < (↑(walkN ns (0 : Nat) (pathB base bits)).length : Int)) ∧
          (some ((walkN ns (0 : Nat) (pathB base bits)).getD bits.toNat (0 : Nat))).isSome = true ∧
            (∃ (g : Nat × List Nd),
                ((↑g.fst : Int) ≤ bits ∧
                    cutN (walkN ns (0 : Nat) (pathB base bits)) (pathB base bits) bits.toNat
                          (ns.set ((walkN ns (0 : Nat) (pathB base bits)).getD bits.toNat (0 : Nat)) (setIs (getN ns ((walkN ns (0 : Nat) (pathB base bits)).getD bits.toNat (0 : Nat))) false)) =
                        cutN (walkN ns (0 : Nat) (pathB base bits)) (pathB base bits) g.fst g.snd ∧
                      g.snd.length = (ns.set ((walkN ns (0 : Nat) (pathB base bits)).getD bits.toNat (0 : Nat)) (setIs (getN ns ((walkN ns (0 : Nat) (pathB base bits)).getD bits.toNat (0 : Nat))) false)).length) ∧
                  (some (0 : Nat) = some (0 : Nat) ∧ True ∧ True ∧ bits = (↑g.fst : Int)) ∧
                    (base = base ∧ bits = bits) ∧
                      walkN ns (0 : Nat) (pathB base bits) = walkN ns (0 : Nat) (pathB base bits) ∧
                        n = n ∧
                          ns.set ((some ((walkN ns (0 : Nat) (pathB base bits)).getD bits.toNat (0 : Nat))).getD (0 : Nat))
                              (setIs (ns.getD ((some ((walkN ns (0 : Nat) (pathB base bits)).getD bits.toNat (0 : Nat))).getD (0 : Nat)) nd0) false) =
                            g.snd) ∧
              ∀ (g : Nat × List Nd),
                (↑g.fst : Int) ≤ bits ∧
                    cutN (walkN ns (0 : Nat) (pathB base bits)) (pathB base bits) bits.toNat
                          (ns.set ((walkN ns (0 : Nat) (pathB base bits)).getD bits.toNat (0 : Nat)) (setIs (getN ns ((walkN ns (0 : Nat) (pathB base bits)).getD bits.toNat (0 : Nat))) false)) =
                        cutN (walkN ns (0 : Nat) (pathB base bits)) (pathB base bits) g.fst g.snd ∧
                      g.snd.length = (ns.set ((walkN ns (0 : Nat) (pathB base bits)).getD bits.toNat (0 : Nat)) (setIs (getN ns ((walkN ns (0 : Nat) (pathB base bits)).getD bits.toNat (0 : Nat))) false)).length →
                  (decide ((↑g.fst : Int) > (0 : Int)) = true → (0 : Int) ≤ (↑g.fst : Int) ∧ (↑g.fst : Int) < (↑(walkN ns (0 : Nat) (pathB base bits)).length : Int)) ∧
                    ((decide ((↑g.fst : Int) > (0 : Int)) && emptyN (getN g.snd ((walkN ns (0 : Nat) (pathB base bits)).getD (↑g.fst : Int).toNat (0 : Nat)))) = true →
                        ((0 : Int) ≤ IntKind.i64.wrap ((↑g.fst : Int) - (1 : Int)) ∧ IntKind.i64.wrap ((↑g.fst : Int) - (1 : Int)) < (↑(walkN ns (0 : Nat) (pathB base bits)).length : Int)) ∧
                          ((0 : Int) ≤ IntKind.i64.wrap ((↑g.fst : Int) - (1 : Int)) ∧ IntKind.i64.wrap ((↑g.fst : Int) - (1 : Int)) ≤ (31 : Int)) ∧
                            (some ((walkN ns (0 : Nat) (pathB base bits)).getD (IntKind.i64.wrap ((↑g.fst : Int) - (1 : Int))).toNat (0 : Nat))).isSome = true ∧
                              ((0 : Int) ≤ bitI base (IntKind.i64.wrap ((↑g.fst : Int) - (1 : Int))) ∧ bitI base (IntKind.i64.wrap ((↑g.fst : Int) - (1 : Int))) < (2 : Int)) ∧
                                (bitI base (IntKind.i64.wrap ((↑g.fst : Int) - (1 : Int)))).toNat < (2 : Nat) ∧
                                  ∃ (g_1 : Nat × List Nd),
                                    ((↑g_1.fst : Int) ≤ bits ∧
                                        cutN (walkN ns (0 : Nat) (pathB base bits)) (pathB base bits) bits.toNat
                                              (ns.set ((walkN ns (0 : Nat) (pathB base bits)).getD bits.toNat (0 : Nat)) (setIs (getN ns ((walkN ns (0 : Nat) (pathB base bits)).getD bits.toNat (0 : Nat))) false)) =
                                            cutN (walkN ns (0 : Nat) (pathB base bits)) (pathB base bits) g_1.fst g_1.snd ∧
                                          g_1.snd.length =
                                            (ns.set ((walkN ns (0 : Nat) (pathB base bits)).getD bits.toNat (0 : Nat)) (setIs (getN ns ((walkN ns (0 : Nat) (pathB base bits)).getD bits.toNat (0 : Nat))) false)).length) ∧
                                      (annTake n (ns.set ((walkN ns (0 : Nat) (pathB base bits)).getD bits.toNat (0 : Nat)) (setIs (getN ns ((walkN ns (0 : Nat) (pathB base bits)).getD bits.toNat (0 : Nat))) false))
                                                (walkN ns (0 : Nat) (pathB base bits)) (pathB base bits) bits).μ
                                            g_1 <
                                          (annTake n (ns.set ((walkN ns (0 : Nat) (pathB base bits)).getD bits.toNat (0 : Nat)) (setIs (getN ns ((walkN ns (0 : Nat) (pathB base bits)).getD bits.toNat (0 : Nat))) false))
                                                (walkN ns (0 : Nat) (pathB base bits)) (pathB base bits) bits).μ
                                            g ∧
                                        (some (0 : Nat) = some (0 : Nat) ∧ True ∧ True ∧ IntKind.i64.wrap ((↑g.fst : Int) - (1 : Int)) = (↑g_1.fst : Int)) ∧
                                          (base = base ∧ bits = bits) ∧
                                            walkN ns (0 : Nat) (pathB base bits) = walkN ns (0 : Nat) (pathB base bits) ∧
                                              n = n ∧
                                                g.snd.set ((some ((walkN ns (0 : Nat) (pathB base bits)).getD (IntKind.i64.wrap ((↑g.fst : Int) - (1 : Int))).toNat (0 : Nat))).getD (0 : Nat))
                                                    (setK (g.snd.getD ((some ((walkN ns (0 : Nat) (pathB base bits)).getD (IntKind.i64.wrap ((↑g.fst : Int) - (1 : Int))).toNat (0 : Nat))).getD (0 : Nat)) nd0)
                                                      (bitI base (IntKind.i64.wrap ((↑g.fst : Int) - (1 : Int)))).toNat none) =
                                                  g_1.snd) ∧
                      ((decide ((↑g.fst : Int) > (0 : Int)) && emptyN (getN g.snd ((walkN ns (0 : Nat) (pathB base bits)).getD (↑g.fst : Int).toNat (0 : Nat)))) = false →
                        (some (0 : Nat)).isSome = true ∧
                          (some (0 : Nat)).isSome = true ∧
                            (0 : Int) = takeE ns base bits ∧
                              (IntKind.i64.wrap (n - (1 : Int)) = (takeM n ns base bits).fst ∧ g.snd.set (0 : Nat) (g.snd.getD (0 : Nat) nd0) = (takeM n ns base bits).snd) ∧
                                ns.length ≤ (takeM n ns base bits).snd.length ∧ True))

def vcLap : Int → Int → Int → Int → Prop :=
  fun (x1 x2 y1 y2 : Int) => (withinA x1 x2 y1 y2 || withinA y1 y2 x1 x2) = lapA x1 x2 y1 y2


end Go.Proofs.Ytndacggailoogaa.Tri
