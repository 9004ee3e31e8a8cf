/- Packets of the wire: what the law of cut packets comes to (printed by wip/Vc.lean; checked by the kernel in the next text). -/
import Derived.Test.YtghaljkohheioaaWireWalkF
namespace Go.Proofs.Ytghaljkohheioaa.Wire
open Go Go.Proofs.Ytghaljkohheioaa.Sx Go.Proofs.Ytghaljkohheioaa.Sum

def vcCut : Bool → Int → Int → Int → Int → Int → Int → Int → Int → Int → Int → Int → List Int → Prop :=
  fun (a : Bool) (f t m0 m1 m2 m3 m4 m5 i q z : Int) (xs : List Int) =>
  ((!true) = true → false = true) ∧
    ((!true) = false →
      ∀ (v : List Int),
        v = echoB a f t i q →
          ∀ (v_1 : List Int),
            v_1 = arpB a f t m0 m1 m2 m3 m4 m5 →
              (↑v_1.length : Int) ≠ (0 : Int) ∧
                ((0 : Int) ≤ (0 : Int) ∧ (0 : Int) ≤ (IntKind.i64.wrap z).tmod (↑v_1.length : Int) ∧ (IntKind.i64.wrap z).tmod (↑v_1.length : Int) ≤ (↑v_1.length : Int)) ∧
                  (List.take (((IntKind.i64.wrap z).tmod (↑v_1.length : Int)).toNat - (0 : Nat)) (List.drop (0 : Nat) v_1)).length.succ.le (9223372036854775808 : Nat) ∧
                    (↑v.length : Int) ≠ (0 : Int) ∧
                      ((0 : Int) ≤ (0 : Int) ∧ (0 : Int) ≤ (IntKind.i64.wrap z).tmod (↑v.length : Int) ∧ (IntKind.i64.wrap z).tmod (↑v.length : Int) ≤ (↑v.length : Int)) ∧
                        (List.take (((IntKind.i64.wrap z).tmod (↑v.length : Int)).toNat - (0 : Nat)) (List.drop (0 : Nat) v)).length.succ.le (9223372036854775808 : Nat) ∧
                          v.length * (1 : Nat) ≤ (140737488355328 : Nat) ∧
                            (v.length + xs.length) * (1 : Nat) ≤ (140737488355328 : Nat) ∧
                              (v ++ xs).length.succ.le (9223372036854775808 : Nat) ∧
                                (errA (List.take (((IntKind.i64.wrap z).tmod (↑v_1.length : Int)).toNat - (0 : Nat)) (List.drop (0 : Nat) v_1)) == (1 : Int) &&
                                      errE (List.take (((IntKind.i64.wrap z).tmod (↑v.length : Int)).toNat - (0 : Nat)) (List.drop (0 : Nat) v)) == (1 : Int) &&
                                    (errE (v ++ xs) == (0 : Int)) == ((↑xs.length : Int) == (0 : Int))) =
                                  true)


end Go.Proofs.Ytghaljkohheioaa.Wire
