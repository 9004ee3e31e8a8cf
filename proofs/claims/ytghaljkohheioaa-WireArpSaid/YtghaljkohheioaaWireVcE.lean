/- Packets of the wire: what the other kind of packet comes to (printed by wip/Vc.lean; checked by the kernel in the next text). -/
import Derived.Test.YtghaljkohheioaaWireSpecE
namespace Go.Proofs.Ytghaljkohheioaa.Wire
open Go Go.Proofs.Ytghaljkohheioaa.Sx Go.Proofs.Ytghaljkohheioaa.Sum

def vcArp : Bool → Int → Int → Int → Int → Int → Int → Int → Int → Int → Int → Prop :=
  fun (a : Bool) (f t m0 m1 m2 m3 m4 m5 i q : Int) =>
  ((0 : Int) ≤ (28 : Int) ∧ (28 : Int) ≤ (28 : Int) ∧ (28 : Int) ≤ (281474976710656 : Int) ∧ (28 : Int) ≤ (9223372036854775807 : Int)) ∧
    ∀ (v : List Int),
      v = List.take (28 : Nat) [(0 : Int), (1 : Int), (8 : Int), (0 : Int), (6 : Int), (4 : Int), (0 : Int), (1 : Int)] ++ List.drop (8 : Nat) (List.replicate (28 : Nat) (0 : Int)) →
        (a = true →
            ((0 : Int) ≤ (7 : Int) ∧ (7 : Int) < (↑v.length : Int)) ∧
              ((0 : Int) ≤ (8 : Int) ∧ (8 : Int) ≤ (14 : Int) ∧ (14 : Int) ≤ (↑(v.set (7 : Nat) (2 : Int)).length : Int)) ∧
                ∀ (v_1 : List Int),
                  v_1 =
                      List.take (8 : Nat) (v.set (7 : Nat) (2 : Int)) ++ List.take (6 : Nat) [m0, m1, m2, m3, m4, m5] ++ List.drop ((8 : Nat) + min [m0, m1, m2, m3, m4, m5].length (6 : Nat)) (v.set (7 : Nat) (2 : Int)) →
                    ((0 : Int) ≤ (14 : Int) ∧ (14 : Int) ≤ (18 : Int) ∧ (18 : Int) ≤ (↑v_1.length : Int)) ∧
                      (4 : Nat) ≤ (1000 : Nat) ∧
                        ∀ (v : List Int),
                          v = layK v_1 (14 : Nat) (4 : Nat) (IntKind.i64.wrap f) (4 : Nat) →
                            ((0 : Int) ≤ (24 : Int) ∧ (24 : Int) ≤ (28 : Int) ∧ (28 : Int) ≤ (↑v.length : Int)) ∧
                              (4 : Nat) ≤ (1000 : Nat) ∧ True ∧ layK v (24 : Nat) (4 : Nat) (IntKind.i64.wrap t) (4 : Nat) = arpB a f t m0 m1 m2 m3 m4 m5 ∧ True) ∧
          (a = false →
            ((0 : Int) ≤ (8 : Int) ∧ (8 : Int) ≤ (14 : Int) ∧ (14 : Int) ≤ (↑v.length : Int)) ∧
              ∀ (v_1 : List Int),
                v_1 = List.take (8 : Nat) v ++ List.take (6 : Nat) [m0, m1, m2, m3, m4, m5] ++ List.drop ((8 : Nat) + min [m0, m1, m2, m3, m4, m5].length (6 : Nat)) v →
                  ((0 : Int) ≤ (14 : Int) ∧ (14 : Int) ≤ (18 : Int) ∧ (18 : Int) ≤ (↑v_1.length : Int)) ∧
                    (4 : Nat) ≤ (1000 : Nat) ∧
                      ∀ (v : List Int),
                        v = layK v_1 (14 : Nat) (4 : Nat) (IntKind.i64.wrap f) (4 : Nat) →
                          ((0 : Int) ≤ (24 : Int) ∧ (24 : Int) ≤ (28 : Int) ∧ (28 : Int) ≤ (↑v.length : Int)) ∧
                            (4 : Nat) ≤ (1000 : Nat) ∧ True ∧ layK v (24 : Nat) (4 : Nat) (IntKind.i64.wrap t) (4 : Nat) = arpB a f t m0 m1 m2 m3 m4 m5 ∧ True)

def vcArpS : Bool → Int → Int → Int → Int → Int → Int → Int → Int → Int → Int → Prop :=
  fun (a : Bool) (f t m0 m1 m2 m3 m4 m5 i q : Int) =>
  ∀ (v : Int),
    v = (1 : Int) →
      (a = true → True) ∧
        (a = false → True) ∧
          ∀ (v_1 : Int),
            (v_1 = if a = true then (2 : Int) else v) →
              (bytesOf (u.nums (5 : Nat) [(0 : Int), (1 : Int), (8 : Int), (0 : Int), (6 : Int), (4 : Int), (0 : Int), v_1])).size + (bytesOf (u.nums (5 : Nat) [m0, m1, m2, m3, m4, m5])).size ≤
                  (4611686018427387904 : Nat) ∧
                (bytesOf (u.nums (5 : Nat) [(0 : Int), (1 : Int), (8 : Int), (0 : Int), (6 : Int), (4 : Int), (0 : Int), v_1]) ++ bytesOf (u.nums (5 : Nat) [m0, m1, m2, m3, m4, m5])).size +
                      (bytesOf [IntKind.u8.wrap (shr IntKind.u32 f (24 : Int)), IntKind.u8.wrap (shr IntKind.u32 f (16 : Int)), IntKind.u8.wrap (shr IntKind.u32 f (8 : Int)), IntKind.u8.wrap f]).size ≤
                    (4611686018427387904 : Nat) ∧
                  ∀ (v : ByteArray),
                    v =
                        bytesOf (u.nums (5 : Nat) [(0 : Int), (1 : Int), (8 : Int), (0 : Int), (6 : Int), (4 : Int), (0 : Int), v_1]) ++ bytesOf (u.nums (5 : Nat) [m0, m1, m2, m3, m4, m5]) ++
                          bytesOf [IntKind.u8.wrap (shr IntKind.u32 f (24 : Int)), IntKind.u8.wrap (shr IntKind.u32 f (16 : Int)), IntKind.u8.wrap (shr IntKind.u32 f (8 : Int)), IntKind.u8.wrap f] →
                      v.size + (6 : Nat) ≤ (4611686018427387904 : Nat) ∧
                        (v ++ bytesOf (u.nums (5 : Nat) [(0 : Int), (0 : Int), (0 : Int), (0 : Int), (0 : Int), (0 : Int)])).size +
                              (bytesOf [IntKind.u8.wrap (shr IntKind.u32 t (24 : Int)), IntKind.u8.wrap (shr IntKind.u32 t (16 : Int)), IntKind.u8.wrap (shr IntKind.u32 t (8 : Int)), IntKind.u8.wrap t]).size ≤
                            (4611686018427387904 : Nat) ∧
                          v ++ bytesOf (u.nums (5 : Nat) [(0 : Int), (0 : Int), (0 : Int), (0 : Int), (0 : Int), (0 : Int)]) ++
                              bytesOf [IntKind.u8.wrap (shr IntKind.u32 t (24 : Int)), IntKind.u8.wrap (shr IntKind.u32 t (16 : Int)), IntKind.u8.wrap (shr IntKind.u32 t (8 : Int)), IntKind.u8.wrap t] =
                            bytesOf (arpB a f t m0 m1 m2 m3 m4 m5)

def vcSums : Bool → Int → Int → Int → Int → Int → Int → Int → Int → Int → Int → Prop :=
  fun (a : Bool) (f t m0 m1 m2 m3 m4 m5 i q : Int) =>
  ((!true) = true → false = true) ∧
    ((!true) = false →
      ∀ (v : List Int),
        v = echoB a f t i q →
          (((↑v.length : Int) == (32 : Int)) = true → (0 : Int) ≤ (0 : Int) ∧ (0 : Int) ≤ (20 : Int) ∧ (20 : Int) ≤ (↑v.length : Int)) ∧
            (((↑v.length : Int) == (32 : Int)) = true → (List.take (20 : Nat) (List.drop (0 : Nat) v)).length.succ.le (9223372036854775808 : Nat)) ∧
              (((↑v.length : Int) == (32 : Int) && notW (IntKind.u16.wrap (wAt (List.take (20 : Nat) (List.drop (0 : Nat) v)) (List.take (20 : Nat) (List.drop (0 : Nat) v)).length)) == (0 : Int)) = true →
                  (0 : Int) ≤ (20 : Int) ∧ (20 : Int) ≤ (↑v.length : Int) ∧ (↑v.length : Int) ≤ (↑v.length : Int)) ∧
                (((↑v.length : Int) == (32 : Int) && notW (IntKind.u16.wrap (wAt (List.take (20 : Nat) (List.drop (0 : Nat) v)) (List.take (20 : Nat) (List.drop (0 : Nat) v)).length)) == (0 : Int)) = true →
                    (List.take ((↑v.length : Int).toNat - (20 : Nat)) (List.drop (20 : Nat) v)).length.succ.le (9223372036854775808 : Nat)) ∧
                  (((↑v.length : Int) == (32 : Int) && notW (IntKind.u16.wrap (wAt (List.take (20 : Nat) (List.drop (0 : Nat) v)) (List.take (20 : Nat) (List.drop (0 : Nat) v)).length)) == (0 : Int) &&
                          notW (IntKind.u16.wrap (wAt (List.take ((↑v.length : Int).toNat - (20 : Nat)) (List.drop (20 : Nat) v)) (List.take ((↑v.length : Int).toNat - (20 : Nat)) (List.drop (20 : Nat) v)).length)) ==
                            (0 : Int)) =
                        true →
                      ((↑(arpB a f t m0 m1 m2 m3 m4 m5).length : Int) == (28 : Int)) = true) ∧
                    (((↑v.length : Int) == (32 : Int) && notW (IntKind.u16.wrap (wAt (List.take (20 : Nat) (List.drop (0 : Nat) v)) (List.take (20 : Nat) (List.drop (0 : Nat) v)).length)) == (0 : Int) &&
                          notW (IntKind.u16.wrap (wAt (List.take ((↑v.length : Int).toNat - (20 : Nat)) (List.drop (20 : Nat) v)) (List.take ((↑v.length : Int).toNat - (20 : Nat)) (List.drop (20 : Nat) v)).length)) ==
                            (0 : Int)) =
                        false →
                      false = true))


end Go.Proofs.Ytghaljkohheioaa.Wire
