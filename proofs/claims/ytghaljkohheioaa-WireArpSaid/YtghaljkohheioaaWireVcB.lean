/- Packets of the wire: what the echo's body comes to (printed by wip/Vc.lean; checked by the kernel in the next text). -/
import Derived.Test.YtghaljkohheioaaWireSpecB
namespace Go.Proofs.Ytghaljkohheioaa.Wire
open Go Go.Proofs.Ytghaljkohheioaa.Sx Go.Proofs.Ytghaljkohheioaa.Sum
def vcEcho : Bool → Int → Int → Int → Int → Int → Int → Int → Int → Int → Int → Prop :=
  fun (a : Bool) (f t m0 m1 m2 m3 m4 m5 i q : Int) =>
  ((0 : Int) ≤ (32 : Int) ∧ (32 : Int) ≤ (32 : Int) ∧ (32 : Int) ≤ (281474976710656 : Int) ∧ (32 : Int) ≤ (9223372036854775807 : Int)) ∧
    ∀ (v : List Int),
      v = List.take (32 : Nat) [(69 : Int), (0 : Int), (0 : Int), (32 : Int), (0 : Int), (0 : Int), (0 : Int), (0 : Int), (64 : Int), (1 : Int)] ++ List.drop (10 : Nat) (List.replicate (32 : Nat) (0 : Int)) →
        ((0 : Int) ≤ (12 : Int) ∧ (12 : Int) ≤ (16 : Int) ∧ (16 : Int) ≤ (↑v.length : Int)) ∧
          (4 : Nat) ≤ (1000 : Nat) ∧
            ∀ (v_1 : List Int),
              v_1 = layK v (12 : Nat) (4 : Nat) (IntKind.i64.wrap f) (4 : Nat) →
                ((0 : Int) ≤ (16 : Int) ∧ (16 : Int) ≤ (20 : Int) ∧ (20 : Int) ≤ (↑v_1.length : Int)) ∧
                  (4 : Nat) ≤ (1000 : Nat) ∧
                    ∀ (v : List Int),
                      v = layK v_1 (16 : Nat) (4 : Nat) (IntKind.i64.wrap t) (4 : Nat) →
                        ((0 : Int) ≤ (10 : Int) ∧ (10 : Int) ≤ (12 : Int) ∧ (12 : Int) ≤ (↑v.length : Int)) ∧
                          ((0 : Int) ≤ (0 : Int) ∧ (0 : Int) ≤ (20 : Int) ∧ (20 : Int) ≤ (↑v.length : Int)) ∧
                            (List.take (20 : Nat) (List.drop (0 : Nat) v)).length.succ.le (9223372036854775808 : Nat) ∧
                              (2 : Nat) ≤ (1000 : Nat) ∧
                                ∀ (v_2 : List Int),
                                  v_2 =
                                      layK v (10 : Nat) (2 : Nat) (IntKind.i64.wrap (notW (IntKind.u16.wrap (wAt (List.take (20 : Nat) (List.drop (0 : Nat) v)) (List.take (20 : Nat) (List.drop (0 : Nat) v)).length))))
                                        (2 : Nat) →
                                    ((!a) = true →
                                        ((0 : Int) ≤ (20 : Int) ∧ (20 : Int) < (↑v_2.length : Int)) ∧
                                          ((0 : Int) ≤ (24 : Int) ∧ (24 : Int) ≤ (26 : Int) ∧ (26 : Int) ≤ (↑(v_2.set (20 : Nat) (8 : Int)).length : Int)) ∧
                                            (2 : Nat) ≤ (1000 : Nat) ∧
                                              ((0 : Int) ≤ (26 : Int) ∧ (26 : Int) ≤ (28 : Int) ∧ (28 : Int) ≤ (↑(layK (v_2.set (20 : Nat) (8 : Int)) (24 : Nat) (2 : Nat) i (2 : Nat)).length : Int)) ∧
                                                (2 : Nat) ≤ (1000 : Nat) ∧
                                                  ∀ (v : List Int),
                                                    v = layK (layK (v_2.set (20 : Nat) (8 : Int)) (24 : Nat) (2 : Nat) i (2 : Nat)) (26 : Nat) (2 : Nat) q (2 : Nat) →
                                                      ((0 : Int) ≤ (22 : Int) ∧ (22 : Int) ≤ (24 : Int) ∧ (24 : Int) ≤ (↑v.length : Int)) ∧
                                                        ((0 : Int) ≤ (20 : Int) ∧ (20 : Int) ≤ (↑v.length : Int) ∧ (↑v.length : Int) ≤ (↑v.length : Int)) ∧
                                                          (List.take ((↑v.length : Int).toNat - (20 : Nat)) (List.drop (20 : Nat) v)).length.succ.le (9223372036854775808 : Nat) ∧
                                                            (2 : Nat) ≤ (1000 : Nat) ∧
                                                              True ∧
                                                                layK v (22 : Nat) (2 : Nat)
                                                                      (IntKind.i64.wrap
                                                                        (notW
                                                                          (IntKind.u16.wrap
                                                                            (wAt (List.take ((↑v.length : Int).toNat - (20 : Nat)) (List.drop (20 : Nat) v))
                                                                              (List.take ((↑v.length : Int).toNat - (20 : Nat)) (List.drop (20 : Nat) v)).length))))
                                                                      (2 : Nat) =
                                                                    echoB a f t i q ∧
                                                                  True) ∧
                                      ((!a) = false →
                                        ((0 : Int) ≤ (24 : Int) ∧ (24 : Int) ≤ (26 : Int) ∧ (26 : Int) ≤ (↑v_2.length : Int)) ∧
                                          (2 : Nat) ≤ (1000 : Nat) ∧
                                            ((0 : Int) ≤ (26 : Int) ∧ (26 : Int) ≤ (28 : Int) ∧ (28 : Int) ≤ (↑(layK v_2 (24 : Nat) (2 : Nat) i (2 : Nat)).length : Int)) ∧
                                              (2 : Nat) ≤ (1000 : Nat) ∧
                                                ∀ (v : List Int),
                                                  v = layK (layK v_2 (24 : Nat) (2 : Nat) i (2 : Nat)) (26 : Nat) (2 : Nat) q (2 : Nat) →
                                                    ((0 : Int) ≤ (22 : Int) ∧ (22 : Int) ≤ (24 : Int) ∧ (24 : Int) ≤ (↑v.length : Int)) ∧
                                                      ((0 : Int) ≤ (20 : Int) ∧ (20 : Int) ≤ (↑v.length : Int) ∧ (↑v.length : Int) ≤ (↑v.length : Int)) ∧
                                                        (List.take ((↑v.length : Int).toNat - (20 : Nat)) (List.drop (20 : Nat) v)).length.succ.le (9223372036854775808 : Nat) ∧
                                                          (2 : Nat) ≤ (1000 : Nat) ∧
                                                            True ∧
                                                              layK v (22 : Nat) (2 : Nat)
                                                                    (IntKind.i64.wrap
                                                                      (notW
                                                                        (IntKind.u16.wrap
                                                                          (wAt (List.take ((↑v.length : Int).toNat - (20 : Nat)) (List.drop (20 : Nat) v))
                                                                            (List.take ((↑v.length : Int).toNat - (20 : Nat)) (List.drop (20 : Nat) v)).length))))
                                                                    (2 : Nat) =
                                                                  echoB a f t i q ∧
                                                                True)

def vcSealed : List Int → Prop :=
  fun (xs : List Int) => xs.length.succ.le (9223372036854775808 : Nat) ∧ (notW (IntKind.u16.wrap (wAt xs xs.length)) == (0 : Int)) = (notW (IntKind.u16.wrap (wAt xs xs.length)) == (0 : Int))

end Go.Proofs.Ytghaljkohheioaa.Wire
