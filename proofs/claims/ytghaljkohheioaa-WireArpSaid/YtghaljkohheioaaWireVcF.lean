/- Packets of the wire: what reading the other kind comes to (printed by wip/Vc.lean; checked by the kernel in the next text). -/
import Derived.Test.YtghaljkohheioaaWireSpecF
namespace Go.Proofs.Ytghaljkohheioaa.Wire
open Go Go.Proofs.Ytghaljkohheioaa.Sx Go.Proofs.Ytghaljkohheioaa.Sum

def vcReadA : List Int → Prop :=
  fun (xs : List Int) =>
  (((↑xs.length : Int) != (28 : Int)) = false → (0 : Int) ≤ (0 : Int) ∧ (0 : Int) ≤ (7 : Int) ∧ (7 : Int) ≤ (↑xs.length : Int)) ∧
    (((↑xs.length : Int) != (28 : Int) ||
            !(bytesOf (u.nums (5 : Nat) (List.drop (0 : Nat) (List.take (7 : Nat) xs)))).toList ==
                { data := #[(0 : UInt8), (1 : UInt8), (8 : UInt8), (0 : UInt8), (6 : UInt8), (4 : UInt8), (0 : UInt8)] : ByteArray }.toList) =
          false →
        (0 : Int) ≤ (7 : Int) ∧ (7 : Int) < (↑xs.length : Int)) ∧
      (((↑xs.length : Int) != (28 : Int) ||
                !(bytesOf (u.nums (5 : Nat) (List.drop (0 : Nat) (List.take (7 : Nat) xs)))).toList ==
                    { data := #[(0 : UInt8), (1 : UInt8), (8 : UInt8), (0 : UInt8), (6 : UInt8), (4 : UInt8), (0 : UInt8)] : ByteArray }.toList ||
              decide (xs.getD (7 : Nat) (u.dflt (5 : Nat)) < (1 : Int))) =
            false →
          (0 : Int) ≤ (7 : Int) ∧ (7 : Int) < (↑xs.length : Int)) ∧
        (((↑xs.length : Int) != (28 : Int) ||
                    !(bytesOf (u.nums (5 : Nat) (List.drop (0 : Nat) (List.take (7 : Nat) xs)))).toList ==
                        { data := #[(0 : UInt8), (1 : UInt8), (8 : UInt8), (0 : UInt8), (6 : UInt8), (4 : UInt8), (0 : UInt8)] : ByteArray }.toList ||
                  decide (xs.getD (7 : Nat) (u.dflt (5 : Nat)) < (1 : Int)) ||
                decide (xs.getD (7 : Nat) (u.dflt (5 : Nat)) > (2 : Int))) =
              true →
            (false = aB xs ∧
                (0 : Int) = aN xs (IntKind.u32.wrap (numOf (part xs (14 : Nat) (18 : Nat)))) ∧
                  (0 : Int) = aN xs (IntKind.u32.wrap (numOf (part xs (24 : Nat) (28 : Nat)))) ∧
                    (0 : Int) = aN xs (mA xs (0 : Nat)) ∧
                      (0 : Int) = aN xs (mA xs (1 : Nat)) ∧
                        (0 : Int) = aN xs (mA xs (2 : Nat)) ∧
                          (0 : Int) = aN xs (mA xs (3 : Nat)) ∧ (0 : Int) = aN xs (mA xs (4 : Nat)) ∧ (0 : Int) = aN xs (mA xs (5 : Nat)) ∧ (0 : Int) = (0 : Int) ∧ (0 : Int) = (0 : Int)) ∧
              (1 : Int) = errA xs) ∧
          (((↑xs.length : Int) != (28 : Int) ||
                    !(bytesOf (u.nums (5 : Nat) (List.drop (0 : Nat) (List.take (7 : Nat) xs)))).toList ==
                        { data := #[(0 : UInt8), (1 : UInt8), (8 : UInt8), (0 : UInt8), (6 : UInt8), (4 : UInt8), (0 : UInt8)] : ByteArray }.toList ||
                  decide (xs.getD (7 : Nat) (u.dflt (5 : Nat)) < (1 : Int)) ||
                decide (xs.getD (7 : Nat) (u.dflt (5 : Nat)) > (2 : Int))) =
              false →
            ((0 : Int) ≤ (7 : Int) ∧ (7 : Int) < (↑xs.length : Int)) ∧
              ((0 : Int) ≤ (14 : Int) ∧ (14 : Int) ≤ (18 : Int) ∧ (18 : Int) ≤ (↑xs.length : Int)) ∧
                (List.drop (14 : Nat) (List.take (18 : Nat) xs)).length.succ.le (9223372036854775808 : Nat) ∧
                  ((0 : Int) ≤ (24 : Int) ∧ (24 : Int) ≤ (28 : Int) ∧ (28 : Int) ≤ (↑xs.length : Int)) ∧
                    (List.drop (24 : Nat) (List.take (28 : Nat) xs)).length.succ.le (9223372036854775808 : Nat) ∧
                      ((0 : Int) ≤ (8 : Int) ∧ (8 : Int) ≤ (14 : Int) ∧ (14 : Int) ≤ (↑xs.length : Int)) ∧
                        (6 : Nat) ≤ (List.drop (8 : Nat) (List.take (14 : Nat) xs)).length ∧
                          ((xs.getD (7 : Nat) (u.dflt (5 : Nat)) == (2 : Int) &&
                                  (noneM ((List.drop (8 : Nat) (List.take (14 : Nat) xs)).getD (nat_lit 0) (u.dflt (5 : Nat))) ((List.drop (8 : Nat) (List.take (14 : Nat) xs)).getD (nat_lit 1) (u.dflt (5 : Nat)))
                                      ((List.drop (8 : Nat) (List.take (14 : Nat) xs)).getD (nat_lit 2) (u.dflt (5 : Nat))) ((List.drop (8 : Nat) (List.take (14 : Nat) xs)).getD (nat_lit 3) (u.dflt (5 : Nat)))
                                      ((List.drop (8 : Nat) (List.take (14 : Nat) xs)).getD (nat_lit 4) (u.dflt (5 : Nat))) ((List.drop (8 : Nat) (List.take (14 : Nat) xs)).getD (nat_lit 5) (u.dflt (5 : Nat))) ||
                                    groupM ((List.drop (8 : Nat) (List.take (14 : Nat) xs)).getD (nat_lit 0) (u.dflt (5 : Nat))))) =
                                true →
                              (false = aB xs ∧
                                  (0 : Int) = aN xs (IntKind.u32.wrap (numOf (part xs (14 : Nat) (18 : Nat)))) ∧
                                    (0 : Int) = aN xs (IntKind.u32.wrap (numOf (part xs (24 : Nat) (28 : Nat)))) ∧
                                      (0 : Int) = aN xs (mA xs (0 : Nat)) ∧
                                        (0 : Int) = aN xs (mA xs (1 : Nat)) ∧
                                          (0 : Int) = aN xs (mA xs (2 : Nat)) ∧
                                            (0 : Int) = aN xs (mA xs (3 : Nat)) ∧ (0 : Int) = aN xs (mA xs (4 : Nat)) ∧ (0 : Int) = aN xs (mA xs (5 : Nat)) ∧ (0 : Int) = (0 : Int) ∧ (0 : Int) = (0 : Int)) ∧
                                (1 : Int) = errA xs) ∧
                            ((xs.getD (7 : Nat) (u.dflt (5 : Nat)) == (2 : Int) &&
                                  (noneM ((List.drop (8 : Nat) (List.take (14 : Nat) xs)).getD (nat_lit 0) (u.dflt (5 : Nat))) ((List.drop (8 : Nat) (List.take (14 : Nat) xs)).getD (nat_lit 1) (u.dflt (5 : Nat)))
                                      ((List.drop (8 : Nat) (List.take (14 : Nat) xs)).getD (nat_lit 2) (u.dflt (5 : Nat))) ((List.drop (8 : Nat) (List.take (14 : Nat) xs)).getD (nat_lit 3) (u.dflt (5 : Nat)))
                                      ((List.drop (8 : Nat) (List.take (14 : Nat) xs)).getD (nat_lit 4) (u.dflt (5 : Nat))) ((List.drop (8 : Nat) (List.take (14 : Nat) xs)).getD (nat_lit 5) (u.dflt (5 : Nat))) ||
                                    groupM ((List.drop (8 : Nat) (List.take (14 : Nat) xs)).getD (nat_lit 0) (u.dflt (5 : Nat))))) =
                                false →
                              ((xs.getD (7 : Nat) (u.dflt (5 : Nat)) == (2 : Int)) = aB xs ∧
                                  IntKind.u32.wrap (numAt (List.drop (14 : Nat) (List.take (18 : Nat) xs)) (List.drop (14 : Nat) (List.take (18 : Nat) xs)).length) =
                                      aN xs (IntKind.u32.wrap (numOf (part xs (14 : Nat) (18 : Nat)))) ∧
                                    IntKind.u32.wrap (numAt (List.drop (24 : Nat) (List.take (28 : Nat) xs)) (List.drop (24 : Nat) (List.take (28 : Nat) xs)).length) =
                                        aN xs (IntKind.u32.wrap (numOf (part xs (24 : Nat) (28 : Nat)))) ∧
                                      (List.drop (8 : Nat) (List.take (14 : Nat) xs)).getD (nat_lit 0) (u.dflt (5 : Nat)) = aN xs (mA xs (0 : Nat)) ∧
                                        (List.drop (8 : Nat) (List.take (14 : Nat) xs)).getD (nat_lit 1) (u.dflt (5 : Nat)) = aN xs (mA xs (1 : Nat)) ∧
                                          (List.drop (8 : Nat) (List.take (14 : Nat) xs)).getD (nat_lit 2) (u.dflt (5 : Nat)) = aN xs (mA xs (2 : Nat)) ∧
                                            (List.drop (8 : Nat) (List.take (14 : Nat) xs)).getD (nat_lit 3) (u.dflt (5 : Nat)) = aN xs (mA xs (3 : Nat)) ∧
                                              (List.drop (8 : Nat) (List.take (14 : Nat) xs)).getD (nat_lit 4) (u.dflt (5 : Nat)) = aN xs (mA xs (4 : Nat)) ∧
                                                (List.drop (8 : Nat) (List.take (14 : Nat) xs)).getD (nat_lit 5) (u.dflt (5 : Nat)) = aN xs (mA xs (5 : Nat)) ∧ (0 : Int) = (0 : Int) ∧ (0 : Int) = (0 : Int)) ∧
                                (0 : Int) = errA xs))


end Go.Proofs.Ytghaljkohheioaa.Wire
