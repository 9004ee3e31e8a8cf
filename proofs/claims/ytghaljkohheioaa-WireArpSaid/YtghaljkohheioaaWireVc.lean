/- Packets of the wire: what the small bodies come to (printed by wip/Vc.lean; checked by the kernel in the next text). -/
import Derived.Test.YtghaljkohheioaaWireSpec
namespace Go.Proofs.Ytghaljkohheioaa.Wire
open Go Go.Proofs.Ytghaljkohheioaa.Sx Go.Proofs.Ytghaljkohheioaa.Sum
def vcWords : List Int → Prop :=
  fun (xs : List Int) =>
  (∃ (g : Nat), g.le xs.length ∧ xs = xs ∧ (↑xs.length : Int) = (↑xs.length : Int) ∧ (0 : Int) = (↑g : Int) ∧ (0 : Int) = wAt xs g) ∧
    ∀ (g : Nat),
      g.le xs.length →
        (decide ((↑g : Int) < (↑xs.length : Int)) = true →
            ((0 : Int) ≤ (↑g : Int) ∧ (↑g : Int) < (↑xs.length : Int)) ∧
              (2 : Int) ≠ (0 : Int) ∧
                (0 : Int) ≤ IntKind.i64.wrap ((8 : Int) * IntKind.i64.wrap ((1 : Int) - (↑g : Int).tmod (2 : Int))) ∧
                  (0 : Int) ≤ (16 : Int) ∧
                    ∃ (g_1 : Nat),
                      g_1.le xs.length ∧
                        (annW xs).μ g_1 < (annW xs).μ g ∧
                          xs = xs ∧
                            (↑xs.length : Int) = (↑xs.length : Int) ∧
                              IntKind.i64.wrap ((↑g : Int) + (1 : Int)) = (↑g_1 : Int) ∧
                                IntKind.u32.wrap
                                    (bitsI BinOp.and IntKind.u32
                                        (IntKind.u32.wrap
                                          (wAt xs g +
                                            shl IntKind.u32 (IntKind.u32.wrap (xs.getD (↑g : Int).toNat (u.dflt (5 : Nat)))) (IntKind.i64.wrap ((8 : Int) * IntKind.i64.wrap ((1 : Int) - (↑g : Int).tmod (2 : Int))))))
                                        (65535 : Int) +
                                      shr IntKind.u32
                                        (IntKind.u32.wrap
                                          (wAt xs g +
                                            shl IntKind.u32 (IntKind.u32.wrap (xs.getD (↑g : Int).toNat (u.dflt (5 : Nat)))) (IntKind.i64.wrap ((8 : Int) * IntKind.i64.wrap ((1 : Int) - (↑g : Int).tmod (2 : Int))))))
                                        (16 : Int)) =
                                  wAt xs g_1) ∧
          (decide ((↑g : Int) < (↑xs.length : Int)) = false → bitsI BinOp.xor IntKind.u16 (65535 : Int) (IntKind.u16.wrap (wAt xs g)) = notW (IntKind.u16.wrap (wAt xs xs.length)))

def vcNum : List Int → Prop :=
  fun (xs : List Int) =>
  (∃ (g : Nat), g.le xs.length ∧ xs = xs ∧ (↑xs.length : Int) = (↑xs.length : Int) ∧ (0 : Int) = (↑g : Int) ∧ (0 : Int) = numAt xs g) ∧
    ∀ (g : Nat),
      g.le xs.length →
        (decide ((↑g : Int) < (↑xs.length : Int)) = true →
            ((0 : Int) ≤ (↑g : Int) ∧ (↑g : Int) < (↑xs.length : Int)) ∧
              (0 : Int) ≤ (8 : Int) ∧
                ∃ (g_1 : Nat),
                  g_1.le xs.length ∧
                    (annNum xs).μ g_1 < (annNum xs).μ g ∧
                      xs = xs ∧
                        (↑xs.length : Int) = (↑xs.length : Int) ∧
                          IntKind.i64.wrap ((↑g : Int) + (1 : Int)) = (↑g_1 : Int) ∧
                            bitsI BinOp.or IntKind.i64 (shl IntKind.i64 (numAt xs g) (8 : Int)) (IntKind.i64.wrap (xs.getD (↑g : Int).toNat (u.dflt (5 : Nat)))) = numAt xs g_1) ∧
          (decide ((↑g : Int) < (↑xs.length : Int)) = false → numAt xs g = numAt xs xs.length)

def vcIp : Int → Prop :=
  fun (a : Int) =>
  (0 : Int) ≤ (24 : Int) ∧
    (0 : Int) ≤ (16 : Int) ∧
      (0 : Int) ≤ (8 : Int) ∧
        bytesOf (u.nums (5 : Nat) [IntKind.u8.wrap (shr IntKind.u32 a (24 : Int)), IntKind.u8.wrap (shr IntKind.u32 a (16 : Int)), IntKind.u8.wrap (shr IntKind.u32 a (8 : Int)), IntKind.u8.wrap a]) =
          bytesOf [IntKind.u8.wrap (shr IntKind.u32 a (24 : Int)), IntKind.u8.wrap (shr IntKind.u32 a (16 : Int)), IntKind.u8.wrap (shr IntKind.u32 a (8 : Int)), IntKind.u8.wrap a]

def vcTwo : Int → Prop :=
  fun (n : Int) => (0 : Int) ≤ (8 : Int) ∧ bytesOf (u.nums (5 : Nat) [IntKind.u8.wrap (shr IntKind.i64 n (8 : Int)), IntKind.u8.wrap n]) = bytesOf [IntKind.u8.wrap (shr IntKind.i64 n (8 : Int)), IntKind.u8.wrap n]

def vcLay : List Int → Nat → Nat → Int → Prop :=
  fun (xs : List Int) (lo len : Nat) (n : Int) =>
  (∃ (g : Nat), g.le len ∧ (n = n ∧ (↑len : Int) = (↑len : Int) ∧ (lo = lo ∧ len = len) ∧ (0 : Int) = (↑g : Int)) ∧ xs = layK xs lo len n g) ∧
    ∀ (g : Nat),
      g.le len →
        (decide ((↑g : Int) < (↑len : Int)) = true →
            (0 : Int) ≤ IntKind.i64.wrap ((8 : Int) * IntKind.i64.wrap (IntKind.i64.wrap ((↑len : Int) - (1 : Int)) - (↑g : Int))) ∧
              ((0 : Int) ≤ (↑g : Int) ∧ (↑g : Int) < (↑len : Int)) ∧
                ∃ (g_1 : Nat),
                  g_1.le len ∧
                    (annLay xs lo len n).μ g_1 < (annLay xs lo len n).μ g ∧
                      (n = n ∧ (↑len : Int) = (↑len : Int) ∧ (lo = lo ∧ len = len) ∧ IntKind.i64.wrap ((↑g : Int) + (1 : Int)) = (↑g_1 : Int)) ∧
                        (layK xs lo len n g).set (lo + (↑g : Int).toNat)
                            (IntKind.u8.wrap (shr IntKind.i64 n (IntKind.i64.wrap ((8 : Int) * IntKind.i64.wrap (IntKind.i64.wrap ((↑len : Int) - (1 : Int)) - (↑g : Int)))))) =
                          layK xs lo len n g_1) ∧
          (decide ((↑g : Int) < (↑len : Int)) = false → True ∧ layK xs lo len n g = layK xs lo len n len ∧ (layK xs lo len n len).length = xs.length ∧ True)

end Go.Proofs.Ytghaljkohheioaa.Wire
