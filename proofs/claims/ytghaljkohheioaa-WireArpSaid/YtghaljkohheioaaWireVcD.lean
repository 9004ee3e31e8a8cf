/- Packets of the wire: what the laws of echoes come to (printed by wip/Vc.lean; checked by the kernel in the next text). -/
import Derived.Test.YtghaljkohheioaaWireSpecD
namespace Go.Proofs.Ytghaljkohheioaa.Wire
open Go Go.Proofs.Ytghaljkohheioaa.Sx Go.Proofs.Ytghaljkohheioaa.Sum
def vcAwake : Prop :=
  ∀ (v : List Int),
  v = echoB true (167772161 : Int) (167772162 : Int) (7 : Int) (9 : Int) →
    v.length.succ.le (9223372036854775808 : Nat) ∧
      (errE v == (0 : Int) &&
            (rA v == true &&
              (rN v (IntKind.u32.wrap (numOf (part v (12 : Nat) (16 : Nat)))) == (167772161 : Int) &&
                (rN v (IntKind.u32.wrap (numOf (part v (16 : Nat) (20 : Nat)))) == (167772162 : Int) &&
                  ((0 : Int) == (0 : Int) && ((0 : Int) == (0 : Int) && ((0 : Int) == (0 : Int) && ((0 : Int) == (0 : Int) && ((0 : Int) == (0 : Int) && ((0 : Int) == (0 : Int) && true))))) &&
                    (rN v (numOf (part v (24 : Nat) (26 : Nat))) == (7 : Int) && (rN v (numOf (part v (26 : Nat) (28 : Nat))) == (9 : Int) && true)))))) &&
          (↑v.length : Int) == (32 : Int)) =
        true

def vcE3 : Bool → Int → Int → Int → Int → Int → Int → Int → Int → Int → Int → Prop :=
  fun (a : Bool) (f t m0 m1 m2 m3 m4 m5 i q : Int) =>
  ((!true) = true → false = true) ∧
    ((!true) = false →
      ∀ (v : List Int),
        v = echoB a f t i q →
          v.length.succ.le (9223372036854775808 : Nat) ∧
            (((0 : Int) ≤ f ∧ f < (4294967296 : Int)) ∧ (0 : Int) ≤ t ∧ t < (4294967296 : Int)) ∧
              ((bytesOf (u.nums (5 : Nat) v)).toList == (bytesOf (echoB a f t (bitsI BinOp.and IntKind.i64 i (65535 : Int)) (bitsI BinOp.and IntKind.i64 q (65535 : Int)))).toList && errE v == (0 : Int) &&
                  (rA v == a &&
                    (rN v (IntKind.u32.wrap (numOf (part v (12 : Nat) (16 : Nat)))) == f &&
                      (rN v (IntKind.u32.wrap (numOf (part v (16 : Nat) (20 : Nat)))) == t &&
                        ((0 : Int) == (0 : Int) && ((0 : Int) == (0 : Int) && ((0 : Int) == (0 : Int) && ((0 : Int) == (0 : Int) && ((0 : Int) == (0 : Int) && ((0 : Int) == (0 : Int) && true))))) &&
                          (rN v (numOf (part v (24 : Nat) (26 : Nat))) == bitsI BinOp.and IntKind.i64 i (65535 : Int) &&
                            (rN v (numOf (part v (26 : Nat) (28 : Nat))) == bitsI BinOp.and IntKind.i64 q (65535 : Int) && true))))))) =
                true)

def vcE5 : Bool → Int → Int → Int → Int → Int → Int → Int → Int → Int → Int → Int → Int → Prop :=
  fun (a : Bool) (f t m0 m1 m2 m3 m4 m5 i q t' b' : Int) =>
  ((!true) = true → false = true) ∧
    ((!true) = false →
      ∀ (v : List Int),
        v = echoB a f t i q →
          (((↑v.length : Int) != (32 : Int)) = true → false = true) ∧
            (((↑v.length : Int) != (32 : Int)) = false →
              (32 : Int) ≠ (0 : Int) ∧
                ((0 : Int) ≤ t'.tmod (32 : Int) ∧ t'.tmod (32 : Int) < (↑v.length : Int)) ∧
                  ((0 : Int) ≤ t'.tmod (32 : Int) ∧ t'.tmod (32 : Int) < (↑v.length : Int)) ∧
                    ∀ (v_1 : List Int),
                      v_1 = v.set (t'.tmod (32 : Int)).toNat (IntKind.u8.wrap (v.getD (t'.tmod (32 : Int)).toNat (u.dflt (5 : Nat)) + b')) →
                        v_1.length.succ.le (9223372036854775808 : Nat) ∧ ((errE v_1 == (0 : Int)) == (b' == (0 : Int))) = true))

end Go.Proofs.Ytghaljkohheioaa.Wire
