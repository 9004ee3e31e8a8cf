/- Packets of the wire: what the law of the other kind of packet comes to (printed by wip/Vc.lean; checked by the kernel in the next text). -/
import Derived.Test.YtghaljkohheioaaWireMathC
namespace Go.Proofs.Ytghaljkohheioaa.Wire
open Go Go.Proofs.Ytghaljkohheioaa.Sx Go.Proofs.Ytghaljkohheioaa.Sum

def vcWArp : Bool → Int → Int → Int → Int → Int → Int → Int → Int → Int → Int → Int → Int → List Int → Prop :=
  fun (a : Bool) (f t m0 m1 m2 m3 m4 m5 i q z y : Int) (xs : List Int) =>
  ((!true) = true → false = true) ∧
    ((!true) = false →
      ∀ (v : List Int),
        v = arpB a f t m0 m1 m2 m3 m4 m5 →
          (((0 : Int) ≤ f ∧ f < (4294967296 : Int)) ∧ (0 : Int) ≤ t ∧ t < (4294967296 : Int)) ∧
            ((!(bytesOf (u.nums (5 : Nat) v)).toList == (bytesOf (arpB a f t m0 m1 m2 m3 m4 m5)).toList) = true → false = true) ∧
              ((!(bytesOf (u.nums (5 : Nat) v)).toList == (bytesOf (arpB a f t m0 m1 m2 m3 m4 m5)).toList) = false →
                v.length * (1 : Nat) ≤ (140737488355328 : Nat) ∧
                  ∀ (v_1 : List Int),
                    v_1 = v →
                      (↑v_1.length : Int) ≠ (0 : Int) ∧
                        ((0 : Int) ≤ (IntKind.i64.wrap z).tmod (↑v_1.length : Int) ∧ (IntKind.i64.wrap z).tmod (↑v_1.length : Int) < (↑v_1.length : Int)) ∧
                          ∀ (v_2 : List Int),
                            v_2 = v_1.set ((IntKind.i64.wrap z).tmod (↑v_1.length : Int)).toNat y →
                              (↑v_2.length : Int) ≠ (0 : Int) ∧
                                ((0 : Int) ≤ (0 : Int) ∧ (0 : Int) ≤ (IntKind.i64.wrap z).tmod (↑v_2.length : Int) ∧ (IntKind.i64.wrap z).tmod (↑v_2.length : Int) ≤ (↑v_2.length : Int)) ∧
                                  ∀ (v_3 : List (List Int)),
                                    v_3 = [v, v_2, xs, List.take (((IntKind.i64.wrap z).tmod (↑v_2.length : Int)).toNat - (0 : Nat)) (List.drop (0 : Nat) v_2)] →
                                      (∃ (g : Nat),
                                          g.le (4 : Nat) ∧
                                            (True ∧
                                                (↑[v, v_2, xs, List.take (((IntKind.i64.wrap z).tmod (↑v_2.length : Int)).toNat - (0 : Nat)) (List.drop (0 : Nat) v_2)].length : Int) =
                                                    (↑[v, v_2, xs, List.take (((IntKind.i64.wrap z).tmod (↑v_2.length : Int)).toNat - (0 : Nat)) (List.drop (0 : Nat) v_2)].length : Int) ∧
                                                  (0 : Int) = (↑g : Int)) ∧
                                              v_3 = v_3) ∧
                                        ∀ (g : Nat),
                                          g.le (4 : Nat) →
                                            (decide ((↑g : Int) < (↑[v, v_2, xs, List.take (((IntKind.i64.wrap z).tmod (↑v_2.length : Int)).toNat - (0 : Nat)) (List.drop (0 : Nat) v_2)].length : Int)) = true →
                                                ((0 : Int) ≤ (↑g : Int) ∧ (↑g : Int) < (↑v_3.length : Int)) ∧
                                                  ∀ (v_4 : List Int),
                                                    v_4 = v_3.getD (↑g : Int).toNat (u.dflt (29 : Nat)) →
                                                      v_4.length.succ.le (9223372036854775808 : Nat) ∧
                                                        (((↑v_4.length : Int) == (28 : Int)) = true → (0 : Int) ≤ (0 : Int) ∧ (0 : Int) ≤ (7 : Int) ∧ (7 : Int) ≤ (↑v_4.length : Int)) ∧
                                                          (((↑v_4.length : Int) == (28 : Int) &&
                                                                  (bytesOf (u.nums (5 : Nat) (List.drop (0 : Nat) (List.take (7 : Nat) v_4)))).toList ==
                                                                    { data := #[(0 : UInt8), (1 : UInt8), (8 : UInt8), (0 : UInt8), (6 : UInt8), (4 : UInt8), (0 : UInt8)] : ByteArray }.toList) =
                                                                true →
                                                              (0 : Int) ≤ (7 : Int) ∧ (7 : Int) < (↑v_4.length : Int)) ∧
                                                            (((↑v_4.length : Int) == (28 : Int) &&
                                                                    (bytesOf (u.nums (5 : Nat) (List.drop (0 : Nat) (List.take (7 : Nat) v_4)))).toList ==
                                                                      { data := #[(0 : UInt8), (1 : UInt8), (8 : UInt8), (0 : UInt8), (6 : UInt8), (4 : UInt8), (0 : UInt8)] : ByteArray }.toList) =
                                                                  true →
                                                                (v_4.getD (7 : Nat) (u.dflt (5 : Nat)) == (1 : Int)) = false → (0 : Int) ≤ (7 : Int) ∧ (7 : Int) < (↑v_4.length : Int)) ∧
                                                              ∀ (v_5 : Bool),
                                                                v_5 =
                                                                    ((↑v_4.length : Int) == (28 : Int) &&
                                                                        (bytesOf (u.nums (5 : Nat) (List.drop (0 : Nat) (List.take (7 : Nat) v_4)))).toList ==
                                                                          { data := #[(0 : UInt8), (1 : UInt8), (8 : UInt8), (0 : UInt8), (6 : UInt8), (4 : UInt8), (0 : UInt8)] : ByteArray }.toList &&
                                                                      (v_4.getD (7 : Nat) (u.dflt (5 : Nat)) == (1 : Int) || v_4.getD (7 : Nat) (u.dflt (5 : Nat)) == (2 : Int))) →
                                                                  (v_5 = true → (0 : Int) ≤ (7 : Int) ∧ (7 : Int) < (↑v_4.length : Int)) ∧
                                                                    ∀ (v_6 : Bool),
                                                                      v_6 = (v_5 && v_4.getD (7 : Nat) (u.dflt (5 : Nat)) == (2 : Int)) →
                                                                        (v_6 = true →
                                                                            ((0 : Int) ≤ (8 : Int) ∧ (8 : Int) ≤ (14 : Int) ∧ (14 : Int) ≤ (↑v_4.length : Int)) ∧
                                                                              (6 : Nat) ≤ (List.drop (8 : Nat) (List.take (14 : Nat) v_4)).length ∧
                                                                                ((!noneM ((List.drop (8 : Nat) (List.take (14 : Nat) v_4)).getD (nat_lit 0) (u.dflt (5 : Nat)))
                                                                                          ((List.drop (8 : Nat) (List.take (14 : Nat) v_4)).getD (nat_lit 1) (u.dflt (5 : Nat)))
                                                                                          ((List.drop (8 : Nat) (List.take (14 : Nat) v_4)).getD (nat_lit 2) (u.dflt (5 : Nat)))
                                                                                          ((List.drop (8 : Nat) (List.take (14 : Nat) v_4)).getD (nat_lit 3) (u.dflt (5 : Nat)))
                                                                                          ((List.drop (8 : Nat) (List.take (14 : Nat) v_4)).getD (nat_lit 4) (u.dflt (5 : Nat)))
                                                                                          ((List.drop (8 : Nat) (List.take (14 : Nat) v_4)).getD (nat_lit 5) (u.dflt (5 : Nat)))) =
                                                                                      true →
                                                                                    (0 : Int) ≤ (8 : Int) ∧ (8 : Int) ≤ (14 : Int) ∧ (14 : Int) ≤ (↑v_4.length : Int)) ∧
                                                                                  ((!noneM ((List.drop (8 : Nat) (List.take (14 : Nat) v_4)).getD (nat_lit 0) (u.dflt (5 : Nat)))
                                                                                          ((List.drop (8 : Nat) (List.take (14 : Nat) v_4)).getD (nat_lit 1) (u.dflt (5 : Nat)))
                                                                                          ((List.drop (8 : Nat) (List.take (14 : Nat) v_4)).getD (nat_lit 2) (u.dflt (5 : Nat)))
                                                                                          ((List.drop (8 : Nat) (List.take (14 : Nat) v_4)).getD (nat_lit 3) (u.dflt (5 : Nat)))
                                                                                          ((List.drop (8 : Nat) (List.take (14 : Nat) v_4)).getD (nat_lit 4) (u.dflt (5 : Nat)))
                                                                                          ((List.drop (8 : Nat) (List.take (14 : Nat) v_4)).getD (nat_lit 5) (u.dflt (5 : Nat)))) =
                                                                                      true →
                                                                                    (6 : Nat) ≤ (List.drop (8 : Nat) (List.take (14 : Nat) v_4)).length)) ∧
                                                                          (v_6 = false → True) ∧
                                                                            ∀ (v_7 : Bool),
                                                                              (v_7 =
                                                                                  if v_6 = true then
                                                                                    !noneM ((List.drop (8 : Nat) (List.take (14 : Nat) v_4)).getD (nat_lit 0) (u.dflt (5 : Nat)))
                                                                                          ((List.drop (8 : Nat) (List.take (14 : Nat) v_4)).getD (nat_lit 1) (u.dflt (5 : Nat)))
                                                                                          ((List.drop (8 : Nat) (List.take (14 : Nat) v_4)).getD (nat_lit 2) (u.dflt (5 : Nat)))
                                                                                          ((List.drop (8 : Nat) (List.take (14 : Nat) v_4)).getD (nat_lit 3) (u.dflt (5 : Nat)))
                                                                                          ((List.drop (8 : Nat) (List.take (14 : Nat) v_4)).getD (nat_lit 4) (u.dflt (5 : Nat)))
                                                                                          ((List.drop (8 : Nat) (List.take (14 : Nat) v_4)).getD (nat_lit 5) (u.dflt (5 : Nat))) &&
                                                                                      !groupM ((List.drop (8 : Nat) (List.take (14 : Nat) v_4)).getD (nat_lit 0) (u.dflt (5 : Nat)))
                                                                                  else v_5) →
                                                                                ((!(errA v_4 == (0 : Int)) == v_7 ||
                                                                                        !v_7 &&
                                                                                          (errA v_4 != (1 : Int) ||
                                                                                            !(aB v_4 == false &&
                                                                                                (aN v_4 (IntKind.u32.wrap (numOf (part v_4 (14 : Nat) (18 : Nat)))) == (0 : Int) &&
                                                                                                  (aN v_4 (IntKind.u32.wrap (numOf (part v_4 (24 : Nat) (28 : Nat)))) == (0 : Int) &&
                                                                                                    (aN v_4 (mA v_4 (0 : Nat)) == (0 : Int) &&
                                                                                                        (aN v_4 (mA v_4 (1 : Nat)) == (0 : Int) &&
                                                                                                          (aN v_4 (mA v_4 (2 : Nat)) == (0 : Int) &&
                                                                                                            (aN v_4 (mA v_4 (3 : Nat)) == (0 : Int) &&
                                                                                                              (aN v_4 (mA v_4 (4 : Nat)) == (0 : Int) && (aN v_4 (mA v_4 (5 : Nat)) == (0 : Int) && true))))) &&
                                                                                                      ((0 : Int) == (0 : Int) && ((0 : Int) == (0 : Int) && true)))))))) =
                                                                                      true →
                                                                                    false = true) ∧
                                                                                  ((!(errA v_4 == (0 : Int)) == v_7 ||
                                                                                        !v_7 &&
                                                                                          (errA v_4 != (1 : Int) ||
                                                                                            !(aB v_4 == false &&
                                                                                                (aN v_4 (IntKind.u32.wrap (numOf (part v_4 (14 : Nat) (18 : Nat)))) == (0 : Int) &&
                                                                                                  (aN v_4 (IntKind.u32.wrap (numOf (part v_4 (24 : Nat) (28 : Nat)))) == (0 : Int) &&
                                                                                                    (aN v_4 (mA v_4 (0 : Nat)) == (0 : Int) &&
                                                                                                        (aN v_4 (mA v_4 (1 : Nat)) == (0 : Int) &&
                                                                                                          (aN v_4 (mA v_4 (2 : Nat)) == (0 : Int) &&
                                                                                                            (aN v_4 (mA v_4 (3 : Nat)) == (0 : Int) &&
                                                                                                              (aN v_4 (mA v_4 (4 : Nat)) == (0 : Int) && (aN v_4 (mA v_4 (5 : Nat)) == (0 : Int) && true))))) &&
                                                                                                      ((0 : Int) == (0 : Int) && ((0 : Int) == (0 : Int) && true)))))))) =
                                                                                      false →
                                                                                    (v_7 = true →
                                                                                        ((0 : Int) ≤ aN v_4 (IntKind.u32.wrap (numOf (part v_4 (14 : Nat) (18 : Nat)))) ∧
                                                                                            aN v_4 (IntKind.u32.wrap (numOf (part v_4 (14 : Nat) (18 : Nat)))) < (4294967296 : Int)) ∧
                                                                                          (0 : Int) ≤ aN v_4 (IntKind.u32.wrap (numOf (part v_4 (24 : Nat) (28 : Nat)))) ∧
                                                                                            aN v_4 (IntKind.u32.wrap (numOf (part v_4 (24 : Nat) (28 : Nat)))) < (4294967296 : Int)) ∧
                                                                                      (v_7 = true →
                                                                                          (0 : Int) ≤ (0 : Int) ∧
                                                                                            (0 : Int) ≤ (18 : Int) ∧
                                                                                              (18 : Int) ≤
                                                                                                (↑(bytesOf
                                                                                                        (arpB (aB v_4) (aN v_4 (IntKind.u32.wrap (numOf (part v_4 (14 : Nat) (18 : Nat)))))
                                                                                                          (aN v_4 (IntKind.u32.wrap (numOf (part v_4 (24 : Nat) (28 : Nat))))) (aN v_4 (mA v_4 (0 : Nat)))
                                                                                                          (aN v_4 (mA v_4 (1 : Nat))) (aN v_4 (mA v_4 (2 : Nat))) (aN v_4 (mA v_4 (3 : Nat))) (aN v_4 (mA v_4 (4 : Nat)))
                                                                                                          (aN v_4 (mA v_4 (5 : Nat))))).size :
                                                                                                  Int)) ∧
                                                                                        (v_7 = true → (0 : Int) ≤ (0 : Int) ∧ (0 : Int) ≤ (18 : Int) ∧ (18 : Int) ≤ (↑v_4.length : Int)) ∧
                                                                                          (v_7 = true →
                                                                                              (!((bytesOf
                                                                                                              (arpB (aB v_4) (aN v_4 (IntKind.u32.wrap (numOf (part v_4 (14 : Nat) (18 : Nat)))))
                                                                                                                (aN v_4 (IntKind.u32.wrap (numOf (part v_4 (24 : Nat) (28 : Nat))))) (aN v_4 (mA v_4 (0 : Nat)))
                                                                                                                (aN v_4 (mA v_4 (1 : Nat))) (aN v_4 (mA v_4 (2 : Nat))) (aN v_4 (mA v_4 (3 : Nat)))
                                                                                                                (aN v_4 (mA v_4 (4 : Nat))) (aN v_4 (mA v_4 (5 : Nat))))).extract
                                                                                                          (0 : Nat) (18 : Nat)).toList ==
                                                                                                      (bytesOf (u.nums (5 : Nat) (List.drop (0 : Nat) (List.take (18 : Nat) v_4)))).toList) =
                                                                                                  false →
                                                                                                ((0 : Int) ≤ aN v_4 (IntKind.u32.wrap (numOf (part v_4 (14 : Nat) (18 : Nat)))) ∧
                                                                                                    aN v_4 (IntKind.u32.wrap (numOf (part v_4 (14 : Nat) (18 : Nat)))) < (4294967296 : Int)) ∧
                                                                                                  (0 : Int) ≤ aN v_4 (IntKind.u32.wrap (numOf (part v_4 (24 : Nat) (28 : Nat)))) ∧
                                                                                                    aN v_4 (IntKind.u32.wrap (numOf (part v_4 (24 : Nat) (28 : Nat)))) < (4294967296 : Int)) ∧
                                                                                            (v_7 = true →
                                                                                                (!((bytesOf
                                                                                                                (arpB (aB v_4) (aN v_4 (IntKind.u32.wrap (numOf (part v_4 (14 : Nat) (18 : Nat)))))
                                                                                                                  (aN v_4 (IntKind.u32.wrap (numOf (part v_4 (24 : Nat) (28 : Nat))))) (aN v_4 (mA v_4 (0 : Nat)))
                                                                                                                  (aN v_4 (mA v_4 (1 : Nat))) (aN v_4 (mA v_4 (2 : Nat))) (aN v_4 (mA v_4 (3 : Nat)))
                                                                                                                  (aN v_4 (mA v_4 (4 : Nat))) (aN v_4 (mA v_4 (5 : Nat))))).extract
                                                                                                            (0 : Nat) (18 : Nat)).toList ==
                                                                                                        (bytesOf (u.nums (5 : Nat) (List.drop (0 : Nat) (List.take (18 : Nat) v_4)))).toList) =
                                                                                                    false →
                                                                                                  (0 : Int) ≤ (24 : Int) ∧
                                                                                                    (24 : Int) ≤
                                                                                                        (↑(bytesOf
                                                                                                                (arpB (aB v_4) (aN v_4 (IntKind.u32.wrap (numOf (part v_4 (14 : Nat) (18 : Nat)))))
                                                                                                                  (aN v_4 (IntKind.u32.wrap (numOf (part v_4 (24 : Nat) (28 : Nat))))) (aN v_4 (mA v_4 (0 : Nat)))
                                                                                                                  (aN v_4 (mA v_4 (1 : Nat))) (aN v_4 (mA v_4 (2 : Nat))) (aN v_4 (mA v_4 (3 : Nat)))
                                                                                                                  (aN v_4 (mA v_4 (4 : Nat))) (aN v_4 (mA v_4 (5 : Nat))))).size :
                                                                                                          Int) ∧
                                                                                                      (↑(bytesOf
                                                                                                                (arpB (aB v_4) (aN v_4 (IntKind.u32.wrap (numOf (part v_4 (14 : Nat) (18 : Nat)))))
                                                                                                                  (aN v_4 (IntKind.u32.wrap (numOf (part v_4 (24 : Nat) (28 : Nat))))) (aN v_4 (mA v_4 (0 : Nat)))
                                                                                                                  (aN v_4 (mA v_4 (1 : Nat))) (aN v_4 (mA v_4 (2 : Nat))) (aN v_4 (mA v_4 (3 : Nat)))
                                                                                                                  (aN v_4 (mA v_4 (4 : Nat))) (aN v_4 (mA v_4 (5 : Nat))))).size :
                                                                                                          Int) ≤
                                                                                                        (↑(bytesOf
                                                                                                                (arpB (aB v_4) (aN v_4 (IntKind.u32.wrap (numOf (part v_4 (14 : Nat) (18 : Nat)))))
                                                                                                                  (aN v_4 (IntKind.u32.wrap (numOf (part v_4 (24 : Nat) (28 : Nat))))) (aN v_4 (mA v_4 (0 : Nat)))
                                                                                                                  (aN v_4 (mA v_4 (1 : Nat))) (aN v_4 (mA v_4 (2 : Nat))) (aN v_4 (mA v_4 (3 : Nat)))
                                                                                                                  (aN v_4 (mA v_4 (4 : Nat))) (aN v_4 (mA v_4 (5 : Nat))))).size :
                                                                                                          Int)) ∧
                                                                                              (v_7 = true →
                                                                                                  (!((bytesOf
                                                                                                                  (arpB (aB v_4) (aN v_4 (IntKind.u32.wrap (numOf (part v_4 (14 : Nat) (18 : Nat)))))
                                                                                                                    (aN v_4 (IntKind.u32.wrap (numOf (part v_4 (24 : Nat) (28 : Nat))))) (aN v_4 (mA v_4 (0 : Nat)))
                                                                                                                    (aN v_4 (mA v_4 (1 : Nat))) (aN v_4 (mA v_4 (2 : Nat))) (aN v_4 (mA v_4 (3 : Nat)))
                                                                                                                    (aN v_4 (mA v_4 (4 : Nat))) (aN v_4 (mA v_4 (5 : Nat))))).extract
                                                                                                              (0 : Nat) (18 : Nat)).toList ==
                                                                                                          (bytesOf (u.nums (5 : Nat) (List.drop (0 : Nat) (List.take (18 : Nat) v_4)))).toList) =
                                                                                                      false →
                                                                                                    (0 : Int) ≤ (24 : Int) ∧ (24 : Int) ≤ (↑v_4.length : Int) ∧ (↑v_4.length : Int) ≤ (↑v_4.length : Int)) ∧
                                                                                                ((v_7 &&
                                                                                                        (!((bytesOf
                                                                                                                          (arpB (aB v_4) (aN v_4 (IntKind.u32.wrap (numOf (part v_4 (14 : Nat) (18 : Nat)))))
                                                                                                                            (aN v_4 (IntKind.u32.wrap (numOf (part v_4 (24 : Nat) (28 : Nat))))) (aN v_4 (mA v_4 (0 : Nat)))
                                                                                                                            (aN v_4 (mA v_4 (1 : Nat))) (aN v_4 (mA v_4 (2 : Nat))) (aN v_4 (mA v_4 (3 : Nat)))
                                                                                                                            (aN v_4 (mA v_4 (4 : Nat))) (aN v_4 (mA v_4 (5 : Nat))))).extract
                                                                                                                      (0 : Nat) (18 : Nat)).toList ==
                                                                                                                  (bytesOf (u.nums (5 : Nat) (List.drop (0 : Nat) (List.take (18 : Nat) v_4)))).toList ||
                                                                                                              !((bytesOf
                                                                                                                          (arpB (aB v_4) (aN v_4 (IntKind.u32.wrap (numOf (part v_4 (14 : Nat) (18 : Nat)))))
                                                                                                                            (aN v_4 (IntKind.u32.wrap (numOf (part v_4 (24 : Nat) (28 : Nat))))) (aN v_4 (mA v_4 (0 : Nat)))
                                                                                                                            (aN v_4 (mA v_4 (1 : Nat))) (aN v_4 (mA v_4 (2 : Nat))) (aN v_4 (mA v_4 (3 : Nat)))
                                                                                                                            (aN v_4 (mA v_4 (4 : Nat))) (aN v_4 (mA v_4 (5 : Nat))))).extract
                                                                                                                      (24 : Nat)
                                                                                                                      (↑(bytesOf
                                                                                                                                (arpB (aB v_4) (aN v_4 (IntKind.u32.wrap (numOf (part v_4 (14 : Nat) (18 : Nat)))))
                                                                                                                                  (aN v_4 (IntKind.u32.wrap (numOf (part v_4 (24 : Nat) (28 : Nat)))))
                                                                                                                                  (aN v_4 (mA v_4 (0 : Nat))) (aN v_4 (mA v_4 (1 : Nat))) (aN v_4 (mA v_4 (2 : Nat)))
                                                                                                                                  (aN v_4 (mA v_4 (3 : Nat))) (aN v_4 (mA v_4 (4 : Nat)))
                                                                                                                                  (aN v_4 (mA v_4 (5 : Nat))))).size :
                                                                                                                          Int).toNat).toList ==
                                                                                                                  (bytesOf (u.nums (5 : Nat) (List.drop (24 : Nat) (List.take (↑v_4.length : Int).toNat v_4)))).toList ||
                                                                                                            (0 : Int) != (0 : Int) ||
                                                                                                          (0 : Int) != (0 : Int))) =
                                                                                                      true →
                                                                                                    false = true) ∧
                                                                                                  ((v_7 &&
                                                                                                        (!((bytesOf
                                                                                                                          (arpB (aB v_4) (aN v_4 (IntKind.u32.wrap (numOf (part v_4 (14 : Nat) (18 : Nat)))))
                                                                                                                            (aN v_4 (IntKind.u32.wrap (numOf (part v_4 (24 : Nat) (28 : Nat))))) (aN v_4 (mA v_4 (0 : Nat)))
                                                                                                                            (aN v_4 (mA v_4 (1 : Nat))) (aN v_4 (mA v_4 (2 : Nat))) (aN v_4 (mA v_4 (3 : Nat)))
                                                                                                                            (aN v_4 (mA v_4 (4 : Nat))) (aN v_4 (mA v_4 (5 : Nat))))).extract
                                                                                                                      (0 : Nat) (18 : Nat)).toList ==
                                                                                                                  (bytesOf (u.nums (5 : Nat) (List.drop (0 : Nat) (List.take (18 : Nat) v_4)))).toList ||
                                                                                                              !((bytesOf
                                                                                                                          (arpB (aB v_4) (aN v_4 (IntKind.u32.wrap (numOf (part v_4 (14 : Nat) (18 : Nat)))))
                                                                                                                            (aN v_4 (IntKind.u32.wrap (numOf (part v_4 (24 : Nat) (28 : Nat))))) (aN v_4 (mA v_4 (0 : Nat)))
                                                                                                                            (aN v_4 (mA v_4 (1 : Nat))) (aN v_4 (mA v_4 (2 : Nat))) (aN v_4 (mA v_4 (3 : Nat)))
                                                                                                                            (aN v_4 (mA v_4 (4 : Nat))) (aN v_4 (mA v_4 (5 : Nat))))).extract
                                                                                                                      (24 : Nat)
                                                                                                                      (↑(bytesOf
                                                                                                                                (arpB (aB v_4) (aN v_4 (IntKind.u32.wrap (numOf (part v_4 (14 : Nat) (18 : Nat)))))
                                                                                                                                  (aN v_4 (IntKind.u32.wrap (numOf (part v_4 (24 : Nat) (28 : Nat)))))
                                                                                                                                  (aN v_4 (mA v_4 (0 : Nat))) (aN v_4 (mA v_4 (1 : Nat))) (aN v_4 (mA v_4 (2 : Nat)))
                                                                                                                                  (aN v_4 (mA v_4 (3 : Nat))) (aN v_4 (mA v_4 (4 : Nat)))
                                                                                                                                  (aN v_4 (mA v_4 (5 : Nat))))).size :
                                                                                                                          Int).toNat).toList ==
                                                                                                                  (bytesOf (u.nums (5 : Nat) (List.drop (24 : Nat) (List.take (↑v_4.length : Int).toNat v_4)))).toList ||
                                                                                                            (0 : Int) != (0 : Int) ||
                                                                                                          (0 : Int) != (0 : Int))) =
                                                                                                      false →
                                                                                                    ∃ (g_1 : Nat),
                                                                                                      g_1.le (4 : Nat) ∧
                                                                                                        annWArp.μ g_1 < annWArp.μ g ∧
                                                                                                          (True ∧
                                                                                                              (↑[v, v_2, xs,
                                                                                                                          List.take (((IntKind.i64.wrap z).tmod (↑v_2.length : Int)).toNat - (0 : Nat))
                                                                                                                            (List.drop (0 : Nat) v_2)].length :
                                                                                                                    Int) =
                                                                                                                  (↑[v, v_2, xs,
                                                                                                                          List.take (((IntKind.i64.wrap z).tmod (↑v_2.length : Int)).toNat - (0 : Nat))
                                                                                                                            (List.drop (0 : Nat) v_2)].length :
                                                                                                                    Int) ∧
                                                                                                                IntKind.i64.wrap ((↑g : Int) + (1 : Int)) = (↑g_1 : Int)) ∧
                                                                                                            v_3 = v_3))) ∧
                                              (decide ((↑g : Int) < (↑[v, v_2, xs, List.take (((IntKind.i64.wrap z).tmod (↑v_2.length : Int)).toNat - (0 : Nat)) (List.drop (0 : Nat) v_2)].length : Int)) = false →
                                                true = true)))


end Go.Proofs.Ytghaljkohheioaa.Wire
