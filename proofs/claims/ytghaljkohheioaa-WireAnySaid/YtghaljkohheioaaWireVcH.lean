/- Packets of the wire: what the law of any bytes comes to (printed by wip/Vc.lean; checked by the kernel in the next text). -/
import Derived.Test.YtghaljkohheioaaWireMathB
namespace Go.Proofs.Ytghaljkohheioaa.Wire
open Go Go.Proofs.Ytghaljkohheioaa.Sx Go.Proofs.Ytghaljkohheioaa.Sum

def vcAny : List Int → Bool → Int → Int → Int → Int → Int → Int → Int → Int → Int → Int → Int → Int → Prop :=
  fun (xs : List Int) (a : Bool) (f t m0 m1 m2 m3 m4 m5 i q z y : Int) =>
  ((!true) = true → false = true) ∧
    ((!true) = false →
      (((0 : Int) ≤ f ∧ f < (4294967296 : Int)) ∧ (0 : Int) ≤ t ∧ t < (4294967296 : Int)) ∧
        (↑(u.ofNums (5 : Nat) (strNums (bytesOf (echoB a f t i q)))).length : Int) ≠ (0 : Int) ∧
          ((0 : Int) ≤ (IntKind.i64.wrap z).tmod (↑(u.ofNums (5 : Nat) (strNums (bytesOf (echoB a f t i q)))).length : Int) ∧
              (IntKind.i64.wrap z).tmod (↑(u.ofNums (5 : Nat) (strNums (bytesOf (echoB a f t i q)))).length : Int) < (↑(u.ofNums (5 : Nat) (strNums (bytesOf (echoB a f t i q)))).length : Int)) ∧
            ∀ (v : List Int),
              v = (u.ofNums (5 : Nat) (strNums (bytesOf (echoB a f t i q)))).set ((IntKind.i64.wrap z).tmod (↑(u.ofNums (5 : Nat) (strNums (bytesOf (echoB a f t i q)))).length : Int)).toNat y →
                (↑v.length : Int) ≠ (0 : Int) ∧
                  ((0 : Int) ≤ (0 : Int) ∧ (0 : Int) ≤ (IntKind.i64.wrap z).tmod (↑v.length : Int) ∧ (IntKind.i64.wrap z).tmod (↑v.length : Int) ≤ (↑v.length : Int)) ∧
                    ∀ (v_1 : List (List Int)),
                      v_1 = [xs, v, List.take (((IntKind.i64.wrap z).tmod (↑v.length : Int)).toNat - (0 : Nat)) (List.drop (0 : Nat) v)] →
                        (∃ (g : Nat),
                            g.le (3 : Nat) ∧
                              (True ∧
                                  (↑[xs, v, List.take (((IntKind.i64.wrap z).tmod (↑v.length : Int)).toNat - (0 : Nat)) (List.drop (0 : Nat) v)].length : Int) =
                                      (↑[xs, v, List.take (((IntKind.i64.wrap z).tmod (↑v.length : Int)).toNat - (0 : Nat)) (List.drop (0 : Nat) v)].length : Int) ∧
                                    (0 : Int) = (↑g : Int)) ∧
                                v_1 = v_1) ∧
                          ∀ (g : Nat),
                            g.le (3 : Nat) →
                              (decide ((↑g : Int) < (↑[xs, v, List.take (((IntKind.i64.wrap z).tmod (↑v.length : Int)).toNat - (0 : Nat)) (List.drop (0 : Nat) v)].length : Int)) = true →
                                  ((0 : Int) ≤ (↑g : Int) ∧ (↑g : Int) < (↑v_1.length : Int)) ∧
                                    ∀ (v_2 : List Int),
                                      v_2 = v_1.getD (↑g : Int).toNat (u.dflt (29 : Nat)) →
                                        v_2.length.succ.le (9223372036854775808 : Nat) ∧
                                          (((↑v_2.length : Int) != (32 : Int)) = false → (0 : Int) ≤ (0 : Int) ∧ (0 : Int) < (↑v_2.length : Int)) ∧
                                            (((↑v_2.length : Int) != (32 : Int) || v_2.getD (0 : Nat) (u.dflt (5 : Nat)) != (69 : Int)) = false → (0 : Int) ≤ (2 : Int) ∧ (2 : Int) < (↑v_2.length : Int)) ∧
                                              (((↑v_2.length : Int) != (32 : Int) || v_2.getD (0 : Nat) (u.dflt (5 : Nat)) != (69 : Int) || v_2.getD (2 : Nat) (u.dflt (5 : Nat)) != (0 : Int)) = false →
                                                  (0 : Int) ≤ (3 : Int) ∧ (3 : Int) < (↑v_2.length : Int)) ∧
                                                (((↑v_2.length : Int) != (32 : Int) || v_2.getD (0 : Nat) (u.dflt (5 : Nat)) != (69 : Int) || v_2.getD (2 : Nat) (u.dflt (5 : Nat)) != (0 : Int) ||
                                                        v_2.getD (3 : Nat) (u.dflt (5 : Nat)) != (32 : Int)) =
                                                      false →
                                                    (0 : Int) ≤ (9 : Int) ∧ (9 : Int) < (↑v_2.length : Int)) ∧
                                                  (((↑v_2.length : Int) != (32 : Int) || v_2.getD (0 : Nat) (u.dflt (5 : Nat)) != (69 : Int) || v_2.getD (2 : Nat) (u.dflt (5 : Nat)) != (0 : Int) ||
                                                            v_2.getD (3 : Nat) (u.dflt (5 : Nat)) != (32 : Int) ||
                                                          v_2.getD (9 : Nat) (u.dflt (5 : Nat)) != (1 : Int)) =
                                                        false →
                                                      (0 : Int) ≤ (20 : Int) ∧ (20 : Int) < (↑v_2.length : Int)) ∧
                                                    (((↑v_2.length : Int) != (32 : Int) || v_2.getD (0 : Nat) (u.dflt (5 : Nat)) != (69 : Int) || v_2.getD (2 : Nat) (u.dflt (5 : Nat)) != (0 : Int) ||
                                                              v_2.getD (3 : Nat) (u.dflt (5 : Nat)) != (32 : Int) ||
                                                            v_2.getD (9 : Nat) (u.dflt (5 : Nat)) != (1 : Int)) =
                                                          false →
                                                        (v_2.getD (20 : Nat) (u.dflt (5 : Nat)) != (0 : Int)) = true → (0 : Int) ≤ (20 : Int) ∧ (20 : Int) < (↑v_2.length : Int)) ∧
                                                      (((↑v_2.length : Int) != (32 : Int) || v_2.getD (0 : Nat) (u.dflt (5 : Nat)) != (69 : Int) || v_2.getD (2 : Nat) (u.dflt (5 : Nat)) != (0 : Int) ||
                                                                  v_2.getD (3 : Nat) (u.dflt (5 : Nat)) != (32 : Int) ||
                                                                v_2.getD (9 : Nat) (u.dflt (5 : Nat)) != (1 : Int) ||
                                                              v_2.getD (20 : Nat) (u.dflt (5 : Nat)) != (0 : Int) && v_2.getD (20 : Nat) (u.dflt (5 : Nat)) != (8 : Int)) =
                                                            false →
                                                          (0 : Int) ≤ (21 : Int) ∧ (21 : Int) < (↑v_2.length : Int)) ∧
                                                        ∀ (v_3 : Bool),
                                                          v_3 =
                                                              ((↑v_2.length : Int) != (32 : Int) || v_2.getD (0 : Nat) (u.dflt (5 : Nat)) != (69 : Int) || v_2.getD (2 : Nat) (u.dflt (5 : Nat)) != (0 : Int) ||
                                                                      v_2.getD (3 : Nat) (u.dflt (5 : Nat)) != (32 : Int) ||
                                                                    v_2.getD (9 : Nat) (u.dflt (5 : Nat)) != (1 : Int) ||
                                                                  v_2.getD (20 : Nat) (u.dflt (5 : Nat)) != (0 : Int) && v_2.getD (20 : Nat) (u.dflt (5 : Nat)) != (8 : Int) ||
                                                                v_2.getD (21 : Nat) (u.dflt (5 : Nat)) != (0 : Int)) →
                                                            (v_3 = true →
                                                                ((errE v_2 != (1 : Int) ||
                                                                        errE v_2 != (0 : Int) &&
                                                                          !(rA v_2 == false &&
                                                                              (rN v_2 (IntKind.u32.wrap (numOf (part v_2 (12 : Nat) (16 : Nat)))) == (0 : Int) &&
                                                                                (rN v_2 (IntKind.u32.wrap (numOf (part v_2 (16 : Nat) (20 : Nat)))) == (0 : Int) &&
                                                                                  ((0 : Int) == (0 : Int) &&
                                                                                      ((0 : Int) == (0 : Int) &&
                                                                                        ((0 : Int) == (0 : Int) && ((0 : Int) == (0 : Int) && ((0 : Int) == (0 : Int) && ((0 : Int) == (0 : Int) && true))))) &&
                                                                                    (rN v_2 (numOf (part v_2 (24 : Nat) (26 : Nat))) == (0 : Int) &&
                                                                                      (rN v_2 (numOf (part v_2 (26 : Nat) (28 : Nat))) == (0 : Int) && true))))))) =
                                                                      false →
                                                                    (errE v_2 == (0 : Int)) = true →
                                                                      (bytesOf
                                                                              [IntKind.u8.wrap (shr IntKind.u32 (rN v_2 (IntKind.u32.wrap (numOf (part v_2 (12 : Nat) (16 : Nat))))) (24 : Int)),
                                                                                IntKind.u8.wrap (shr IntKind.u32 (rN v_2 (IntKind.u32.wrap (numOf (part v_2 (12 : Nat) (16 : Nat))))) (16 : Int)),
                                                                                IntKind.u8.wrap (shr IntKind.u32 (rN v_2 (IntKind.u32.wrap (numOf (part v_2 (12 : Nat) (16 : Nat))))) (8 : Int)),
                                                                                IntKind.u8.wrap (rN v_2 (IntKind.u32.wrap (numOf (part v_2 (12 : Nat) (16 : Nat)))))]).size +
                                                                          (bytesOf
                                                                              [IntKind.u8.wrap (shr IntKind.u32 (rN v_2 (IntKind.u32.wrap (numOf (part v_2 (16 : Nat) (20 : Nat))))) (24 : Int)),
                                                                                IntKind.u8.wrap (shr IntKind.u32 (rN v_2 (IntKind.u32.wrap (numOf (part v_2 (16 : Nat) (20 : Nat))))) (16 : Int)),
                                                                                IntKind.u8.wrap (shr IntKind.u32 (rN v_2 (IntKind.u32.wrap (numOf (part v_2 (16 : Nat) (20 : Nat))))) (8 : Int)),
                                                                                IntKind.u8.wrap (rN v_2 (IntKind.u32.wrap (numOf (part v_2 (16 : Nat) (20 : Nat)))))]).size ≤
                                                                        (4611686018427387904 : Nat)) ∧
                                                                  ((errE v_2 != (1 : Int) ||
                                                                          errE v_2 != (0 : Int) &&
                                                                            !(rA v_2 == false &&
                                                                                (rN v_2 (IntKind.u32.wrap (numOf (part v_2 (12 : Nat) (16 : Nat)))) == (0 : Int) &&
                                                                                  (rN v_2 (IntKind.u32.wrap (numOf (part v_2 (16 : Nat) (20 : Nat)))) == (0 : Int) &&
                                                                                    ((0 : Int) == (0 : Int) &&
                                                                                        ((0 : Int) == (0 : Int) &&
                                                                                          ((0 : Int) == (0 : Int) && ((0 : Int) == (0 : Int) && ((0 : Int) == (0 : Int) && ((0 : Int) == (0 : Int) && true))))) &&
                                                                                      (rN v_2 (numOf (part v_2 (24 : Nat) (26 : Nat))) == (0 : Int) &&
                                                                                        (rN v_2 (numOf (part v_2 (26 : Nat) (28 : Nat))) == (0 : Int) && true))))))) =
                                                                        false →
                                                                      (errE v_2 == (0 : Int)) = true → (0 : Int) ≤ (12 : Int) ∧ (12 : Int) ≤ (20 : Int) ∧ (20 : Int) ≤ (↑v_2.length : Int)) ∧
                                                                    ((errE v_2 != (1 : Int) ||
                                                                            errE v_2 != (0 : Int) &&
                                                                              !(rA v_2 == false &&
                                                                                  (rN v_2 (IntKind.u32.wrap (numOf (part v_2 (12 : Nat) (16 : Nat)))) == (0 : Int) &&
                                                                                    (rN v_2 (IntKind.u32.wrap (numOf (part v_2 (16 : Nat) (20 : Nat)))) == (0 : Int) &&
                                                                                      ((0 : Int) == (0 : Int) &&
                                                                                          ((0 : Int) == (0 : Int) &&
                                                                                            ((0 : Int) == (0 : Int) && ((0 : Int) == (0 : Int) && ((0 : Int) == (0 : Int) && ((0 : Int) == (0 : Int) && true))))) &&
                                                                                        (rN v_2 (numOf (part v_2 (24 : Nat) (26 : Nat))) == (0 : Int) &&
                                                                                          (rN v_2 (numOf (part v_2 (26 : Nat) (28 : Nat))) == (0 : Int) && true))))))) =
                                                                          false →
                                                                        (errE v_2 == (0 : Int)) = true →
                                                                          (!(bytesOf
                                                                                        [IntKind.u8.wrap (shr IntKind.u32 (rN v_2 (IntKind.u32.wrap (numOf (part v_2 (12 : Nat) (16 : Nat))))) (24 : Int)),
                                                                                          IntKind.u8.wrap (shr IntKind.u32 (rN v_2 (IntKind.u32.wrap (numOf (part v_2 (12 : Nat) (16 : Nat))))) (16 : Int)),
                                                                                          IntKind.u8.wrap (shr IntKind.u32 (rN v_2 (IntKind.u32.wrap (numOf (part v_2 (12 : Nat) (16 : Nat))))) (8 : Int)),
                                                                                          IntKind.u8.wrap (rN v_2 (IntKind.u32.wrap (numOf (part v_2 (12 : Nat) (16 : Nat)))))] ++
                                                                                      bytesOf
                                                                                        [IntKind.u8.wrap (shr IntKind.u32 (rN v_2 (IntKind.u32.wrap (numOf (part v_2 (16 : Nat) (20 : Nat))))) (24 : Int)),
                                                                                          IntKind.u8.wrap (shr IntKind.u32 (rN v_2 (IntKind.u32.wrap (numOf (part v_2 (16 : Nat) (20 : Nat))))) (16 : Int)),
                                                                                          IntKind.u8.wrap (shr IntKind.u32 (rN v_2 (IntKind.u32.wrap (numOf (part v_2 (16 : Nat) (20 : Nat))))) (8 : Int)),
                                                                                          IntKind.u8.wrap (rN v_2 (IntKind.u32.wrap (numOf (part v_2 (16 : Nat) (20 : Nat)))))]).toList ==
                                                                                  (bytesOf (u.nums (5 : Nat) (List.drop (12 : Nat) (List.take (20 : Nat) v_2)))).toList) =
                                                                              false →
                                                                            (bytesOf
                                                                                    [IntKind.u8.wrap (shr IntKind.i64 (rN v_2 (numOf (part v_2 (24 : Nat) (26 : Nat)))) (8 : Int)),
                                                                                      IntKind.u8.wrap (rN v_2 (numOf (part v_2 (24 : Nat) (26 : Nat))))]).size +
                                                                                (bytesOf
                                                                                    [IntKind.u8.wrap (shr IntKind.i64 (rN v_2 (numOf (part v_2 (26 : Nat) (28 : Nat)))) (8 : Int)),
                                                                                      IntKind.u8.wrap (rN v_2 (numOf (part v_2 (26 : Nat) (28 : Nat))))]).size ≤
                                                                              (4611686018427387904 : Nat)) ∧
                                                                      ((errE v_2 != (1 : Int) ||
                                                                              errE v_2 != (0 : Int) &&
                                                                                !(rA v_2 == false &&
                                                                                    (rN v_2 (IntKind.u32.wrap (numOf (part v_2 (12 : Nat) (16 : Nat)))) == (0 : Int) &&
                                                                                      (rN v_2 (IntKind.u32.wrap (numOf (part v_2 (16 : Nat) (20 : Nat)))) == (0 : Int) &&
                                                                                        ((0 : Int) == (0 : Int) &&
                                                                                            ((0 : Int) == (0 : Int) &&
                                                                                              ((0 : Int) == (0 : Int) && ((0 : Int) == (0 : Int) && ((0 : Int) == (0 : Int) && ((0 : Int) == (0 : Int) && true))))) &&
                                                                                          (rN v_2 (numOf (part v_2 (24 : Nat) (26 : Nat))) == (0 : Int) &&
                                                                                            (rN v_2 (numOf (part v_2 (26 : Nat) (28 : Nat))) == (0 : Int) && true))))))) =
                                                                            false →
                                                                          (errE v_2 == (0 : Int)) = true →
                                                                            (!(bytesOf
                                                                                          [IntKind.u8.wrap (shr IntKind.u32 (rN v_2 (IntKind.u32.wrap (numOf (part v_2 (12 : Nat) (16 : Nat))))) (24 : Int)),
                                                                                            IntKind.u8.wrap (shr IntKind.u32 (rN v_2 (IntKind.u32.wrap (numOf (part v_2 (12 : Nat) (16 : Nat))))) (16 : Int)),
                                                                                            IntKind.u8.wrap (shr IntKind.u32 (rN v_2 (IntKind.u32.wrap (numOf (part v_2 (12 : Nat) (16 : Nat))))) (8 : Int)),
                                                                                            IntKind.u8.wrap (rN v_2 (IntKind.u32.wrap (numOf (part v_2 (12 : Nat) (16 : Nat)))))] ++
                                                                                        bytesOf
                                                                                          [IntKind.u8.wrap (shr IntKind.u32 (rN v_2 (IntKind.u32.wrap (numOf (part v_2 (16 : Nat) (20 : Nat))))) (24 : Int)),
                                                                                            IntKind.u8.wrap (shr IntKind.u32 (rN v_2 (IntKind.u32.wrap (numOf (part v_2 (16 : Nat) (20 : Nat))))) (16 : Int)),
                                                                                            IntKind.u8.wrap (shr IntKind.u32 (rN v_2 (IntKind.u32.wrap (numOf (part v_2 (16 : Nat) (20 : Nat))))) (8 : Int)),
                                                                                            IntKind.u8.wrap (rN v_2 (IntKind.u32.wrap (numOf (part v_2 (16 : Nat) (20 : Nat)))))]).toList ==
                                                                                    (bytesOf (u.nums (5 : Nat) (List.drop (12 : Nat) (List.take (20 : Nat) v_2)))).toList) =
                                                                                false →
                                                                              (0 : Int) ≤ (24 : Int) ∧ (24 : Int) ≤ (28 : Int) ∧ (28 : Int) ≤ (↑v_2.length : Int)) ∧
                                                                        ((errE v_2 != (1 : Int) ||
                                                                                errE v_2 != (0 : Int) &&
                                                                                  !(rA v_2 == false &&
                                                                                      (rN v_2 (IntKind.u32.wrap (numOf (part v_2 (12 : Nat) (16 : Nat)))) == (0 : Int) &&
                                                                                        (rN v_2 (IntKind.u32.wrap (numOf (part v_2 (16 : Nat) (20 : Nat)))) == (0 : Int) &&
                                                                                          ((0 : Int) == (0 : Int) &&
                                                                                              ((0 : Int) == (0 : Int) &&
                                                                                                ((0 : Int) == (0 : Int) && ((0 : Int) == (0 : Int) && ((0 : Int) == (0 : Int) && ((0 : Int) == (0 : Int) && true))))) &&
                                                                                            (rN v_2 (numOf (part v_2 (24 : Nat) (26 : Nat))) == (0 : Int) &&
                                                                                              (rN v_2 (numOf (part v_2 (26 : Nat) (28 : Nat))) == (0 : Int) && true))))))) =
                                                                              false →
                                                                            (errE v_2 == (0 : Int)) = true →
                                                                              (!(bytesOf
                                                                                              [IntKind.u8.wrap (shr IntKind.u32 (rN v_2 (IntKind.u32.wrap (numOf (part v_2 (12 : Nat) (16 : Nat))))) (24 : Int)),
                                                                                                IntKind.u8.wrap (shr IntKind.u32 (rN v_2 (IntKind.u32.wrap (numOf (part v_2 (12 : Nat) (16 : Nat))))) (16 : Int)),
                                                                                                IntKind.u8.wrap (shr IntKind.u32 (rN v_2 (IntKind.u32.wrap (numOf (part v_2 (12 : Nat) (16 : Nat))))) (8 : Int)),
                                                                                                IntKind.u8.wrap (rN v_2 (IntKind.u32.wrap (numOf (part v_2 (12 : Nat) (16 : Nat)))))] ++
                                                                                            bytesOf
                                                                                              [IntKind.u8.wrap (shr IntKind.u32 (rN v_2 (IntKind.u32.wrap (numOf (part v_2 (16 : Nat) (20 : Nat))))) (24 : Int)),
                                                                                                IntKind.u8.wrap (shr IntKind.u32 (rN v_2 (IntKind.u32.wrap (numOf (part v_2 (16 : Nat) (20 : Nat))))) (16 : Int)),
                                                                                                IntKind.u8.wrap (shr IntKind.u32 (rN v_2 (IntKind.u32.wrap (numOf (part v_2 (16 : Nat) (20 : Nat))))) (8 : Int)),
                                                                                                IntKind.u8.wrap (rN v_2 (IntKind.u32.wrap (numOf (part v_2 (16 : Nat) (20 : Nat)))))]).toList ==
                                                                                        (bytesOf (u.nums (5 : Nat) (List.drop (12 : Nat) (List.take (20 : Nat) v_2)))).toList ||
                                                                                    !(bytesOf
                                                                                              [IntKind.u8.wrap (shr IntKind.i64 (rN v_2 (numOf (part v_2 (24 : Nat) (26 : Nat)))) (8 : Int)),
                                                                                                IntKind.u8.wrap (rN v_2 (numOf (part v_2 (24 : Nat) (26 : Nat))))] ++
                                                                                            bytesOf
                                                                                              [IntKind.u8.wrap (shr IntKind.i64 (rN v_2 (numOf (part v_2 (26 : Nat) (28 : Nat)))) (8 : Int)),
                                                                                                IntKind.u8.wrap (rN v_2 (numOf (part v_2 (26 : Nat) (28 : Nat))))]).toList ==
                                                                                        (bytesOf (u.nums (5 : Nat) (List.drop (24 : Nat) (List.take (28 : Nat) v_2)))).toList) =
                                                                                  false →
                                                                                (0 : Int) ≤ (20 : Int) ∧ (20 : Int) < (↑v_2.length : Int)) ∧
                                                                          ((errE v_2 != (1 : Int) ||
                                                                                    errE v_2 != (0 : Int) &&
                                                                                      !(rA v_2 == false &&
                                                                                          (rN v_2 (IntKind.u32.wrap (numOf (part v_2 (12 : Nat) (16 : Nat)))) == (0 : Int) &&
                                                                                            (rN v_2 (IntKind.u32.wrap (numOf (part v_2 (16 : Nat) (20 : Nat)))) == (0 : Int) &&
                                                                                              ((0 : Int) == (0 : Int) &&
                                                                                                  ((0 : Int) == (0 : Int) &&
                                                                                                    ((0 : Int) == (0 : Int) && ((0 : Int) == (0 : Int) && ((0 : Int) == (0 : Int) && ((0 : Int) == (0 : Int) && true))))) &&
                                                                                                (rN v_2 (numOf (part v_2 (24 : Nat) (26 : Nat))) == (0 : Int) &&
                                                                                                  (rN v_2 (numOf (part v_2 (26 : Nat) (28 : Nat))) == (0 : Int) && true)))))) ||
                                                                                  errE v_2 == (0 : Int) &&
                                                                                    (!(bytesOf
                                                                                                  [IntKind.u8.wrap (shr IntKind.u32 (rN v_2 (IntKind.u32.wrap (numOf (part v_2 (12 : Nat) (16 : Nat))))) (24 : Int)),
                                                                                                    IntKind.u8.wrap (shr IntKind.u32 (rN v_2 (IntKind.u32.wrap (numOf (part v_2 (12 : Nat) (16 : Nat))))) (16 : Int)),
                                                                                                    IntKind.u8.wrap (shr IntKind.u32 (rN v_2 (IntKind.u32.wrap (numOf (part v_2 (12 : Nat) (16 : Nat))))) (8 : Int)),
                                                                                                    IntKind.u8.wrap (rN v_2 (IntKind.u32.wrap (numOf (part v_2 (12 : Nat) (16 : Nat)))))] ++
                                                                                                bytesOf
                                                                                                  [IntKind.u8.wrap (shr IntKind.u32 (rN v_2 (IntKind.u32.wrap (numOf (part v_2 (16 : Nat) (20 : Nat))))) (24 : Int)),
                                                                                                    IntKind.u8.wrap (shr IntKind.u32 (rN v_2 (IntKind.u32.wrap (numOf (part v_2 (16 : Nat) (20 : Nat))))) (16 : Int)),
                                                                                                    IntKind.u8.wrap (shr IntKind.u32 (rN v_2 (IntKind.u32.wrap (numOf (part v_2 (16 : Nat) (20 : Nat))))) (8 : Int)),
                                                                                                    IntKind.u8.wrap (rN v_2 (IntKind.u32.wrap (numOf (part v_2 (16 : Nat) (20 : Nat)))))]).toList ==
                                                                                            (bytesOf (u.nums (5 : Nat) (List.drop (12 : Nat) (List.take (20 : Nat) v_2)))).toList ||
                                                                                        !(bytesOf
                                                                                                  [IntKind.u8.wrap (shr IntKind.i64 (rN v_2 (numOf (part v_2 (24 : Nat) (26 : Nat)))) (8 : Int)),
                                                                                                    IntKind.u8.wrap (rN v_2 (numOf (part v_2 (24 : Nat) (26 : Nat))))] ++
                                                                                                bytesOf
                                                                                                  [IntKind.u8.wrap (shr IntKind.i64 (rN v_2 (numOf (part v_2 (26 : Nat) (28 : Nat)))) (8 : Int)),
                                                                                                    IntKind.u8.wrap (rN v_2 (numOf (part v_2 (26 : Nat) (28 : Nat))))]).toList ==
                                                                                            (bytesOf (u.nums (5 : Nat) (List.drop (24 : Nat) (List.take (28 : Nat) v_2)))).toList ||
                                                                                      !rA v_2 == (v_2.getD (20 : Nat) (u.dflt (5 : Nat)) == (0 : Int)))) =
                                                                                true →
                                                                              false = true) ∧
                                                                            ((errE v_2 != (1 : Int) ||
                                                                                    errE v_2 != (0 : Int) &&
                                                                                      !(rA v_2 == false &&
                                                                                          (rN v_2 (IntKind.u32.wrap (numOf (part v_2 (12 : Nat) (16 : Nat)))) == (0 : Int) &&
                                                                                            (rN v_2 (IntKind.u32.wrap (numOf (part v_2 (16 : Nat) (20 : Nat)))) == (0 : Int) &&
                                                                                              ((0 : Int) == (0 : Int) &&
                                                                                                  ((0 : Int) == (0 : Int) &&
                                                                                                    ((0 : Int) == (0 : Int) && ((0 : Int) == (0 : Int) && ((0 : Int) == (0 : Int) && ((0 : Int) == (0 : Int) && true))))) &&
                                                                                                (rN v_2 (numOf (part v_2 (24 : Nat) (26 : Nat))) == (0 : Int) &&
                                                                                                  (rN v_2 (numOf (part v_2 (26 : Nat) (28 : Nat))) == (0 : Int) && true)))))) ||
                                                                                  errE v_2 == (0 : Int) &&
                                                                                    (!(bytesOf
                                                                                                  [IntKind.u8.wrap (shr IntKind.u32 (rN v_2 (IntKind.u32.wrap (numOf (part v_2 (12 : Nat) (16 : Nat))))) (24 : Int)),
                                                                                                    IntKind.u8.wrap (shr IntKind.u32 (rN v_2 (IntKind.u32.wrap (numOf (part v_2 (12 : Nat) (16 : Nat))))) (16 : Int)),
                                                                                                    IntKind.u8.wrap (shr IntKind.u32 (rN v_2 (IntKind.u32.wrap (numOf (part v_2 (12 : Nat) (16 : Nat))))) (8 : Int)),
                                                                                                    IntKind.u8.wrap (rN v_2 (IntKind.u32.wrap (numOf (part v_2 (12 : Nat) (16 : Nat)))))] ++
                                                                                                bytesOf
                                                                                                  [IntKind.u8.wrap (shr IntKind.u32 (rN v_2 (IntKind.u32.wrap (numOf (part v_2 (16 : Nat) (20 : Nat))))) (24 : Int)),
                                                                                                    IntKind.u8.wrap (shr IntKind.u32 (rN v_2 (IntKind.u32.wrap (numOf (part v_2 (16 : Nat) (20 : Nat))))) (16 : Int)),
                                                                                                    IntKind.u8.wrap (shr IntKind.u32 (rN v_2 (IntKind.u32.wrap (numOf (part v_2 (16 : Nat) (20 : Nat))))) (8 : Int)),
                                                                                                    IntKind.u8.wrap (rN v_2 (IntKind.u32.wrap (numOf (part v_2 (16 : Nat) (20 : Nat)))))]).toList ==
                                                                                            (bytesOf (u.nums (5 : Nat) (List.drop (12 : Nat) (List.take (20 : Nat) v_2)))).toList ||
                                                                                        !(bytesOf
                                                                                                  [IntKind.u8.wrap (shr IntKind.i64 (rN v_2 (numOf (part v_2 (24 : Nat) (26 : Nat)))) (8 : Int)),
                                                                                                    IntKind.u8.wrap (rN v_2 (numOf (part v_2 (24 : Nat) (26 : Nat))))] ++
                                                                                                bytesOf
                                                                                                  [IntKind.u8.wrap (shr IntKind.i64 (rN v_2 (numOf (part v_2 (26 : Nat) (28 : Nat)))) (8 : Int)),
                                                                                                    IntKind.u8.wrap (rN v_2 (numOf (part v_2 (26 : Nat) (28 : Nat))))]).toList ==
                                                                                            (bytesOf (u.nums (5 : Nat) (List.drop (24 : Nat) (List.take (28 : Nat) v_2)))).toList ||
                                                                                      !rA v_2 == (v_2.getD (20 : Nat) (u.dflt (5 : Nat)) == (0 : Int)))) =
                                                                                false →
                                                                              ∃ (g_1 : Nat),
                                                                                g_1.le (3 : Nat) ∧
                                                                                  annAny.μ g_1 < annAny.μ g ∧
                                                                                    (True ∧
                                                                                        (↑[xs, v, List.take (((IntKind.i64.wrap z).tmod (↑v.length : Int)).toNat - (0 : Nat)) (List.drop (0 : Nat) v)].length : Int) =
                                                                                            (↑[xs, v, List.take (((IntKind.i64.wrap z).tmod (↑v.length : Int)).toNat - (0 : Nat)) (List.drop (0 : Nat) v)].length : Int) ∧
                                                                                          IntKind.i64.wrap ((↑g : Int) + (1 : Int)) = (↑g_1 : Int)) ∧
                                                                                      v_1 = v_1)) ∧
                                                              (v_3 = false →
                                                                ((0 : Int) ≤ (0 : Int) ∧ (0 : Int) ≤ (20 : Int) ∧ (20 : Int) ≤ (↑v_2.length : Int)) ∧
                                                                  (List.drop (0 : Nat) (List.take (20 : Nat) v_2)).length.succ.le (9223372036854775808 : Nat) ∧
                                                                    ((notW (IntKind.u16.wrap (wAt (List.drop (0 : Nat) (List.take (20 : Nat) v_2)) (List.drop (0 : Nat) (List.take (20 : Nat) v_2)).length)) != (0 : Int)) =
                                                                          false →
                                                                        (0 : Int) ≤ (20 : Int) ∧ (20 : Int) ≤ (↑v_2.length : Int) ∧ (↑v_2.length : Int) ≤ (↑v_2.length : Int)) ∧
                                                                      ((notW (IntKind.u16.wrap (wAt (List.drop (0 : Nat) (List.take (20 : Nat) v_2)) (List.drop (0 : Nat) (List.take (20 : Nat) v_2)).length)) !=
                                                                              (0 : Int)) =
                                                                            false →
                                                                          (List.drop (20 : Nat) (List.take (↑v_2.length : Int).toNat v_2)).length.succ.le (9223372036854775808 : Nat)) ∧
                                                                        ∀ (v_4 : Bool),
                                                                          v_4 =
                                                                              (notW (IntKind.u16.wrap (wAt (List.drop (0 : Nat) (List.take (20 : Nat) v_2)) (List.drop (0 : Nat) (List.take (20 : Nat) v_2)).length)) !=
                                                                                  (0 : Int) ||
                                                                                notW
                                                                                    (IntKind.u16.wrap
                                                                                      (wAt (List.drop (20 : Nat) (List.take (↑v_2.length : Int).toNat v_2))
                                                                                        (List.drop (20 : Nat) (List.take (↑v_2.length : Int).toNat v_2)).length)) !=
                                                                                  (0 : Int)) →
                                                                            (v_4 = true → True) ∧
                                                                              (v_4 = false → True) ∧
                                                                                ∀ (v_5 : Int),
                                                                                  (v_5 = if v_4 = true then (2 : Int) else (0 : Int)) →
                                                                                    ((errE v_2 != v_5 ||
                                                                                            errE v_2 != (0 : Int) &&
                                                                                              !(rA v_2 == false &&
                                                                                                  (rN v_2 (IntKind.u32.wrap (numOf (part v_2 (12 : Nat) (16 : Nat)))) == (0 : Int) &&
                                                                                                    (rN v_2 (IntKind.u32.wrap (numOf (part v_2 (16 : Nat) (20 : Nat)))) == (0 : Int) &&
                                                                                                      ((0 : Int) == (0 : Int) &&
                                                                                                          ((0 : Int) == (0 : Int) &&
                                                                                                            ((0 : Int) == (0 : Int) &&
                                                                                                              ((0 : Int) == (0 : Int) && ((0 : Int) == (0 : Int) && ((0 : Int) == (0 : Int) && true))))) &&
                                                                                                        (rN v_2 (numOf (part v_2 (24 : Nat) (26 : Nat))) == (0 : Int) &&
                                                                                                          (rN v_2 (numOf (part v_2 (26 : Nat) (28 : Nat))) == (0 : Int) && true))))))) =
                                                                                          false →
                                                                                        (errE v_2 == (0 : Int)) = true →
                                                                                          (bytesOf
                                                                                                  [IntKind.u8.wrap (shr IntKind.u32 (rN v_2 (IntKind.u32.wrap (numOf (part v_2 (12 : Nat) (16 : Nat))))) (24 : Int)),
                                                                                                    IntKind.u8.wrap (shr IntKind.u32 (rN v_2 (IntKind.u32.wrap (numOf (part v_2 (12 : Nat) (16 : Nat))))) (16 : Int)),
                                                                                                    IntKind.u8.wrap (shr IntKind.u32 (rN v_2 (IntKind.u32.wrap (numOf (part v_2 (12 : Nat) (16 : Nat))))) (8 : Int)),
                                                                                                    IntKind.u8.wrap (rN v_2 (IntKind.u32.wrap (numOf (part v_2 (12 : Nat) (16 : Nat)))))]).size +
                                                                                              (bytesOf
                                                                                                  [IntKind.u8.wrap (shr IntKind.u32 (rN v_2 (IntKind.u32.wrap (numOf (part v_2 (16 : Nat) (20 : Nat))))) (24 : Int)),
                                                                                                    IntKind.u8.wrap (shr IntKind.u32 (rN v_2 (IntKind.u32.wrap (numOf (part v_2 (16 : Nat) (20 : Nat))))) (16 : Int)),
                                                                                                    IntKind.u8.wrap (shr IntKind.u32 (rN v_2 (IntKind.u32.wrap (numOf (part v_2 (16 : Nat) (20 : Nat))))) (8 : Int)),
                                                                                                    IntKind.u8.wrap (rN v_2 (IntKind.u32.wrap (numOf (part v_2 (16 : Nat) (20 : Nat)))))]).size ≤
                                                                                            (4611686018427387904 : Nat)) ∧
                                                                                      ((errE v_2 != v_5 ||
                                                                                              errE v_2 != (0 : Int) &&
                                                                                                !(rA v_2 == false &&
                                                                                                    (rN v_2 (IntKind.u32.wrap (numOf (part v_2 (12 : Nat) (16 : Nat)))) == (0 : Int) &&
                                                                                                      (rN v_2 (IntKind.u32.wrap (numOf (part v_2 (16 : Nat) (20 : Nat)))) == (0 : Int) &&
                                                                                                        ((0 : Int) == (0 : Int) &&
                                                                                                            ((0 : Int) == (0 : Int) &&
                                                                                                              ((0 : Int) == (0 : Int) &&
                                                                                                                ((0 : Int) == (0 : Int) && ((0 : Int) == (0 : Int) && ((0 : Int) == (0 : Int) && true))))) &&
                                                                                                          (rN v_2 (numOf (part v_2 (24 : Nat) (26 : Nat))) == (0 : Int) &&
                                                                                                            (rN v_2 (numOf (part v_2 (26 : Nat) (28 : Nat))) == (0 : Int) && true))))))) =
                                                                                            false →
                                                                                          (errE v_2 == (0 : Int)) = true → (0 : Int) ≤ (12 : Int) ∧ (12 : Int) ≤ (20 : Int) ∧ (20 : Int) ≤ (↑v_2.length : Int)) ∧
                                                                                        ((errE v_2 != v_5 ||
                                                                                                errE v_2 != (0 : Int) &&
                                                                                                  !(rA v_2 == false &&
                                                                                                      (rN v_2 (IntKind.u32.wrap (numOf (part v_2 (12 : Nat) (16 : Nat)))) == (0 : Int) &&
                                                                                                        (rN v_2 (IntKind.u32.wrap (numOf (part v_2 (16 : Nat) (20 : Nat)))) == (0 : Int) &&
                                                                                                          ((0 : Int) == (0 : Int) &&
                                                                                                              ((0 : Int) == (0 : Int) &&
                                                                                                                ((0 : Int) == (0 : Int) &&
                                                                                                                  ((0 : Int) == (0 : Int) && ((0 : Int) == (0 : Int) && ((0 : Int) == (0 : Int) && true))))) &&
                                                                                                            (rN v_2 (numOf (part v_2 (24 : Nat) (26 : Nat))) == (0 : Int) &&
                                                                                                              (rN v_2 (numOf (part v_2 (26 : Nat) (28 : Nat))) == (0 : Int) && true))))))) =
                                                                                              false →
                                                                                            (errE v_2 == (0 : Int)) = true →
                                                                                              (!(bytesOf
                                                                                                            [IntKind.u8.wrap
                                                                                                                (shr IntKind.u32 (rN v_2 (IntKind.u32.wrap (numOf (part v_2 (12 : Nat) (16 : Nat))))) (24 : Int)),
                                                                                                              IntKind.u8.wrap
                                                                                                                (shr IntKind.u32 (rN v_2 (IntKind.u32.wrap (numOf (part v_2 (12 : Nat) (16 : Nat))))) (16 : Int)),
                                                                                                              IntKind.u8.wrap
                                                                                                                (shr IntKind.u32 (rN v_2 (IntKind.u32.wrap (numOf (part v_2 (12 : Nat) (16 : Nat))))) (8 : Int)),
                                                                                                              IntKind.u8.wrap (rN v_2 (IntKind.u32.wrap (numOf (part v_2 (12 : Nat) (16 : Nat)))))] ++
                                                                                                          bytesOf
                                                                                                            [IntKind.u8.wrap
                                                                                                                (shr IntKind.u32 (rN v_2 (IntKind.u32.wrap (numOf (part v_2 (16 : Nat) (20 : Nat))))) (24 : Int)),
                                                                                                              IntKind.u8.wrap
                                                                                                                (shr IntKind.u32 (rN v_2 (IntKind.u32.wrap (numOf (part v_2 (16 : Nat) (20 : Nat))))) (16 : Int)),
                                                                                                              IntKind.u8.wrap
                                                                                                                (shr IntKind.u32 (rN v_2 (IntKind.u32.wrap (numOf (part v_2 (16 : Nat) (20 : Nat))))) (8 : Int)),
                                                                                                              IntKind.u8.wrap (rN v_2 (IntKind.u32.wrap (numOf (part v_2 (16 : Nat) (20 : Nat)))))]).toList ==
                                                                                                      (bytesOf (u.nums (5 : Nat) (List.drop (12 : Nat) (List.take (20 : Nat) v_2)))).toList) =
                                                                                                  false →
                                                                                                (bytesOf
                                                                                                        [IntKind.u8.wrap (shr IntKind.i64 (rN v_2 (numOf (part v_2 (24 : Nat) (26 : Nat)))) (8 : Int)),
                                                                                                          IntKind.u8.wrap (rN v_2 (numOf (part v_2 (24 : Nat) (26 : Nat))))]).size +
                                                                                                    (bytesOf
                                                                                                        [IntKind.u8.wrap (shr IntKind.i64 (rN v_2 (numOf (part v_2 (26 : Nat) (28 : Nat)))) (8 : Int)),
                                                                                                          IntKind.u8.wrap (rN v_2 (numOf (part v_2 (26 : Nat) (28 : Nat))))]).size ≤
                                                                                                  (4611686018427387904 : Nat)) ∧
                                                                                          ((errE v_2 != v_5 ||
                                                                                                  errE v_2 != (0 : Int) &&
                                                                                                    !(rA v_2 == false &&
                                                                                                        (rN v_2 (IntKind.u32.wrap (numOf (part v_2 (12 : Nat) (16 : Nat)))) == (0 : Int) &&
                                                                                                          (rN v_2 (IntKind.u32.wrap (numOf (part v_2 (16 : Nat) (20 : Nat)))) == (0 : Int) &&
                                                                                                            ((0 : Int) == (0 : Int) &&
                                                                                                                ((0 : Int) == (0 : Int) &&
                                                                                                                  ((0 : Int) == (0 : Int) &&
                                                                                                                    ((0 : Int) == (0 : Int) && ((0 : Int) == (0 : Int) && ((0 : Int) == (0 : Int) && true))))) &&
                                                                                                              (rN v_2 (numOf (part v_2 (24 : Nat) (26 : Nat))) == (0 : Int) &&
                                                                                                                (rN v_2 (numOf (part v_2 (26 : Nat) (28 : Nat))) == (0 : Int) && true))))))) =
                                                                                                false →
                                                                                              (errE v_2 == (0 : Int)) = true →
                                                                                                (!(bytesOf
                                                                                                              [IntKind.u8.wrap
                                                                                                                  (shr IntKind.u32 (rN v_2 (IntKind.u32.wrap (numOf (part v_2 (12 : Nat) (16 : Nat))))) (24 : Int)),
                                                                                                                IntKind.u8.wrap
                                                                                                                  (shr IntKind.u32 (rN v_2 (IntKind.u32.wrap (numOf (part v_2 (12 : Nat) (16 : Nat))))) (16 : Int)),
                                                                                                                IntKind.u8.wrap
                                                                                                                  (shr IntKind.u32 (rN v_2 (IntKind.u32.wrap (numOf (part v_2 (12 : Nat) (16 : Nat))))) (8 : Int)),
                                                                                                                IntKind.u8.wrap (rN v_2 (IntKind.u32.wrap (numOf (part v_2 (12 : Nat) (16 : Nat)))))] ++
                                                                                                            bytesOf
                                                                                                              [IntKind.u8.wrap
                                                                                                                  (shr IntKind.u32 (rN v_2 (IntKind.u32.wrap (numOf (part v_2 (16 : Nat) (20 : Nat))))) (24 : Int)),
                                                                                                                IntKind.u8.wrap
                                                                                                                  (shr IntKind.u32 (rN v_2 (IntKind.u32.wrap (numOf (part v_2 (16 : Nat) (20 : Nat))))) (16 : Int)),
                                                                                                                IntKind.u8.wrap
                                                                                                                  (shr IntKind.u32 (rN v_2 (IntKind.u32.wrap (numOf (part v_2 (16 : Nat) (20 : Nat))))) (8 : Int)),
                                                                                                                IntKind.u8.wrap (rN v_2 (IntKind.u32.wrap (numOf (part v_2 (16 : Nat) (20 : Nat)))))]).toList ==
                                                                                                        (bytesOf (u.nums (5 : Nat) (List.drop (12 : Nat) (List.take (20 : Nat) v_2)))).toList) =
                                                                                                    false →
                                                                                                  (0 : Int) ≤ (24 : Int) ∧ (24 : Int) ≤ (28 : Int) ∧ (28 : Int) ≤ (↑v_2.length : Int)) ∧
                                                                                            ((errE v_2 != v_5 ||
                                                                                                    errE v_2 != (0 : Int) &&
                                                                                                      !(rA v_2 == false &&
                                                                                                          (rN v_2 (IntKind.u32.wrap (numOf (part v_2 (12 : Nat) (16 : Nat)))) == (0 : Int) &&
                                                                                                            (rN v_2 (IntKind.u32.wrap (numOf (part v_2 (16 : Nat) (20 : Nat)))) == (0 : Int) &&
                                                                                                              ((0 : Int) == (0 : Int) &&
                                                                                                                  ((0 : Int) == (0 : Int) &&
                                                                                                                    ((0 : Int) == (0 : Int) &&
                                                                                                                      ((0 : Int) == (0 : Int) && ((0 : Int) == (0 : Int) && ((0 : Int) == (0 : Int) && true))))) &&
                                                                                                                (rN v_2 (numOf (part v_2 (24 : Nat) (26 : Nat))) == (0 : Int) &&
                                                                                                                  (rN v_2 (numOf (part v_2 (26 : Nat) (28 : Nat))) == (0 : Int) && true))))))) =
                                                                                                  false →
                                                                                                (errE v_2 == (0 : Int)) = true →
                                                                                                  (!(bytesOf
                                                                                                                  [IntKind.u8.wrap
                                                                                                                      (shr IntKind.u32 (rN v_2 (IntKind.u32.wrap (numOf (part v_2 (12 : Nat) (16 : Nat))))) (24 : Int)),
                                                                                                                    IntKind.u8.wrap
                                                                                                                      (shr IntKind.u32 (rN v_2 (IntKind.u32.wrap (numOf (part v_2 (12 : Nat) (16 : Nat))))) (16 : Int)),
                                                                                                                    IntKind.u8.wrap
                                                                                                                      (shr IntKind.u32 (rN v_2 (IntKind.u32.wrap (numOf (part v_2 (12 : Nat) (16 : Nat))))) (8 : Int)),
                                                                                                                    IntKind.u8.wrap (rN v_2 (IntKind.u32.wrap (numOf (part v_2 (12 : Nat) (16 : Nat)))))] ++
                                                                                                                bytesOf
                                                                                                                  [IntKind.u8.wrap
                                                                                                                      (shr IntKind.u32 (rN v_2 (IntKind.u32.wrap (numOf (part v_2 (16 : Nat) (20 : Nat))))) (24 : Int)),
                                                                                                                    IntKind.u8.wrap
                                                                                                                      (shr IntKind.u32 (rN v_2 (IntKind.u32.wrap (numOf (part v_2 (16 : Nat) (20 : Nat))))) (16 : Int)),
                                                                                                                    IntKind.u8.wrap
                                                                                                                      (shr IntKind.u32 (rN v_2 (IntKind.u32.wrap (numOf (part v_2 (16 : Nat) (20 : Nat))))) (8 : Int)),
                                                                                                                    IntKind.u8.wrap (rN v_2 (IntKind.u32.wrap (numOf (part v_2 (16 : Nat) (20 : Nat)))))]).toList ==
                                                                                                            (bytesOf (u.nums (5 : Nat) (List.drop (12 : Nat) (List.take (20 : Nat) v_2)))).toList ||
                                                                                                        !(bytesOf
                                                                                                                  [IntKind.u8.wrap (shr IntKind.i64 (rN v_2 (numOf (part v_2 (24 : Nat) (26 : Nat)))) (8 : Int)),
                                                                                                                    IntKind.u8.wrap (rN v_2 (numOf (part v_2 (24 : Nat) (26 : Nat))))] ++
                                                                                                                bytesOf
                                                                                                                  [IntKind.u8.wrap (shr IntKind.i64 (rN v_2 (numOf (part v_2 (26 : Nat) (28 : Nat)))) (8 : Int)),
                                                                                                                    IntKind.u8.wrap (rN v_2 (numOf (part v_2 (26 : Nat) (28 : Nat))))]).toList ==
                                                                                                            (bytesOf (u.nums (5 : Nat) (List.drop (24 : Nat) (List.take (28 : Nat) v_2)))).toList) =
                                                                                                      false →
                                                                                                    (0 : Int) ≤ (20 : Int) ∧ (20 : Int) < (↑v_2.length : Int)) ∧
                                                                                              ((errE v_2 != v_5 ||
                                                                                                        errE v_2 != (0 : Int) &&
                                                                                                          !(rA v_2 == false &&
                                                                                                              (rN v_2 (IntKind.u32.wrap (numOf (part v_2 (12 : Nat) (16 : Nat)))) == (0 : Int) &&
                                                                                                                (rN v_2 (IntKind.u32.wrap (numOf (part v_2 (16 : Nat) (20 : Nat)))) == (0 : Int) &&
                                                                                                                  ((0 : Int) == (0 : Int) &&
                                                                                                                      ((0 : Int) == (0 : Int) &&
                                                                                                                        ((0 : Int) == (0 : Int) &&
                                                                                                                          ((0 : Int) == (0 : Int) && ((0 : Int) == (0 : Int) && ((0 : Int) == (0 : Int) && true))))) &&
                                                                                                                    (rN v_2 (numOf (part v_2 (24 : Nat) (26 : Nat))) == (0 : Int) &&
                                                                                                                      (rN v_2 (numOf (part v_2 (26 : Nat) (28 : Nat))) == (0 : Int) && true)))))) ||
                                                                                                      errE v_2 == (0 : Int) &&
                                                                                                        (!(bytesOf
                                                                                                                      [IntKind.u8.wrap
                                                                                                                          (shr IntKind.u32 (rN v_2 (IntKind.u32.wrap (numOf (part v_2 (12 : Nat) (16 : Nat))))) (24 : Int)),
                                                                                                                        IntKind.u8.wrap
                                                                                                                          (shr IntKind.u32 (rN v_2 (IntKind.u32.wrap (numOf (part v_2 (12 : Nat) (16 : Nat))))) (16 : Int)),
                                                                                                                        IntKind.u8.wrap
                                                                                                                          (shr IntKind.u32 (rN v_2 (IntKind.u32.wrap (numOf (part v_2 (12 : Nat) (16 : Nat))))) (8 : Int)),
                                                                                                                        IntKind.u8.wrap (rN v_2 (IntKind.u32.wrap (numOf (part v_2 (12 : Nat) (16 : Nat)))))] ++
                                                                                                                    bytesOf
                                                                                                                      [IntKind.u8.wrap
                                                                                                                          (shr IntKind.u32 (rN v_2 (IntKind.u32.wrap (numOf (part v_2 (16 : Nat) (20 : Nat))))) (24 : Int)),
                                                                                                                        IntKind.u8.wrap
                                                                                                                          (shr IntKind.u32 (rN v_2 (IntKind.u32.wrap (numOf (part v_2 (16 : Nat) (20 : Nat))))) (16 : Int)),
                                                                                                                        IntKind.u8.wrap
                                                                                                                          (shr IntKind.u32 (rN v_2 (IntKind.u32.wrap (numOf (part v_2 (16 : Nat) (20 : Nat))))) (8 : Int)),
                                                                                                                        IntKind.u8.wrap (rN v_2 (IntKind.u32.wrap (numOf (part v_2 (16 : Nat) (20 : Nat)))))]).toList ==
                                                                                                                (bytesOf (u.nums (5 : Nat) (List.drop (12 : Nat) (List.take (20 : Nat) v_2)))).toList ||
                                                                                                            !(bytesOf
                                                                                                                      [IntKind.u8.wrap (shr IntKind.i64 (rN v_2 (numOf (part v_2 (24 : Nat) (26 : Nat)))) (8 : Int)),
                                                                                                                        IntKind.u8.wrap (rN v_2 (numOf (part v_2 (24 : Nat) (26 : Nat))))] ++
                                                                                                                    bytesOf
                                                                                                                      [IntKind.u8.wrap (shr IntKind.i64 (rN v_2 (numOf (part v_2 (26 : Nat) (28 : Nat)))) (8 : Int)),
                                                                                                                        IntKind.u8.wrap (rN v_2 (numOf (part v_2 (26 : Nat) (28 : Nat))))]).toList ==
                                                                                                                (bytesOf (u.nums (5 : Nat) (List.drop (24 : Nat) (List.take (28 : Nat) v_2)))).toList ||
                                                                                                          !rA v_2 == (v_2.getD (20 : Nat) (u.dflt (5 : Nat)) == (0 : Int)))) =
                                                                                                    true →
                                                                                                  false = true) ∧
                                                                                                ((errE v_2 != v_5 ||
                                                                                                        errE v_2 != (0 : Int) &&
                                                                                                          !(rA v_2 == false &&
                                                                                                              (rN v_2 (IntKind.u32.wrap (numOf (part v_2 (12 : Nat) (16 : Nat)))) == (0 : Int) &&
                                                                                                                (rN v_2 (IntKind.u32.wrap (numOf (part v_2 (16 : Nat) (20 : Nat)))) == (0 : Int) &&
                                                                                                                  ((0 : Int) == (0 : Int) &&
                                                                                                                      ((0 : Int) == (0 : Int) &&
                                                                                                                        ((0 : Int) == (0 : Int) &&
                                                                                                                          ((0 : Int) == (0 : Int) && ((0 : Int) == (0 : Int) && ((0 : Int) == (0 : Int) && true))))) &&
                                                                                                                    (rN v_2 (numOf (part v_2 (24 : Nat) (26 : Nat))) == (0 : Int) &&
                                                                                                                      (rN v_2 (numOf (part v_2 (26 : Nat) (28 : Nat))) == (0 : Int) && true)))))) ||
                                                                                                      errE v_2 == (0 : Int) &&
                                                                                                        (!(bytesOf
                                                                                                                      [IntKind.u8.wrap
                                                                                                                          (shr IntKind.u32 (rN v_2 (IntKind.u32.wrap (numOf (part v_2 (12 : Nat) (16 : Nat))))) (24 : Int)),
                                                                                                                        IntKind.u8.wrap
                                                                                                                          (shr IntKind.u32 (rN v_2 (IntKind.u32.wrap (numOf (part v_2 (12 : Nat) (16 : Nat))))) (16 : Int)),
                                                                                                                        IntKind.u8.wrap
                                                                                                                          (shr IntKind.u32 (rN v_2 (IntKind.u32.wrap (numOf (part v_2 (12 : Nat) (16 : Nat))))) (8 : Int)),
                                                                                                                        IntKind.u8.wrap (rN v_2 (IntKind.u32.wrap (numOf (part v_2 (12 : Nat) (16 : Nat)))))] ++
                                                                                                                    bytesOf
                                                                                                                      [IntKind.u8.wrap
                                                                                                                          (shr IntKind.u32 (rN v_2 (IntKind.u32.wrap (numOf (part v_2 (16 : Nat) (20 : Nat))))) (24 : Int)),
                                                                                                                        IntKind.u8.wrap
                                                                                                                          (shr IntKind.u32 (rN v_2 (IntKind.u32.wrap (numOf (part v_2 (16 : Nat) (20 : Nat))))) (16 : Int)),
                                                                                                                        IntKind.u8.wrap
                                                                                                                          (shr IntKind.u32 (rN v_2 (IntKind.u32.wrap (numOf (part v_2 (16 : Nat) (20 : Nat))))) (8 : Int)),
                                                                                                                        IntKind.u8.wrap (rN v_2 (IntKind.u32.wrap (numOf (part v_2 (16 : Nat) (20 : Nat)))))]).toList ==
                                                                                                                (bytesOf (u.nums (5 : Nat) (List.drop (12 : Nat) (List.take (20 : Nat) v_2)))).toList ||
                                                                                                            !(bytesOf
                                                                                                                      [IntKind.u8.wrap (shr IntKind.i64 (rN v_2 (numOf (part v_2 (24 : Nat) (26 : Nat)))) (8 : Int)),
                                                                                                                        IntKind.u8.wrap (rN v_2 (numOf (part v_2 (24 : Nat) (26 : Nat))))] ++
                                                                                                                    bytesOf
                                                                                                                      [IntKind.u8.wrap (shr IntKind.i64 (rN v_2 (numOf (part v_2 (26 : Nat) (28 : Nat)))) (8 : Int)),
                                                                                                                        IntKind.u8.wrap (rN v_2 (numOf (part v_2 (26 : Nat) (28 : Nat))))]).toList ==
                                                                                                                (bytesOf (u.nums (5 : Nat) (List.drop (24 : Nat) (List.take (28 : Nat) v_2)))).toList ||
                                                                                                          !rA v_2 == (v_2.getD (20 : Nat) (u.dflt (5 : Nat)) == (0 : Int)))) =
                                                                                                    false →
                                                                                                  ∃ (g_1 : Nat),
                                                                                                    g_1.le (3 : Nat) ∧
                                                                                                      annAny.μ g_1 < annAny.μ g ∧
                                                                                                        (True ∧
                                                                                                            (↑[xs, v,
                                                                                                                        List.take (((IntKind.i64.wrap z).tmod (↑v.length : Int)).toNat - (0 : Nat))
                                                                                                                          (List.drop (0 : Nat) v)].length :
                                                                                                                  Int) =
                                                                                                                (↑[xs, v,
                                                                                                                        List.take (((IntKind.i64.wrap z).tmod (↑v.length : Int)).toNat - (0 : Nat))
                                                                                                                          (List.drop (0 : Nat) v)].length :
                                                                                                                  Int) ∧
                                                                                                              IntKind.i64.wrap ((↑g : Int) + (1 : Int)) = (↑g_1 : Int)) ∧
                                                                                                          v_1 = v_1))) ∧
                                (decide ((↑g : Int) < (↑[xs, v, List.take (((IntKind.i64.wrap z).tmod (↑v.length : Int)).toNat - (0 : Nat)) (List.drop (0 : Nat) v)].length : Int)) = false → true = true))


end Go.Proofs.Ytghaljkohheioaa.Wire
