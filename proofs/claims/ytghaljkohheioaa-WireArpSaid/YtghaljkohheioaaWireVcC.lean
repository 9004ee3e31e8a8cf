/- Packets of the wire: what more bodies come to (printed by wip/Vc.lean; checked by the kernel in the next text). -/
import Derived.Test.YtghaljkohheioaaWireSpecC
namespace Go.Proofs.Ytghaljkohheioaa.Wire
open Go Go.Proofs.Ytghaljkohheioaa.Sx Go.Proofs.Ytghaljkohheioaa.Sum
def vcNone : Int → Int → Int → Int → Int → Int → Prop :=
  fun (m0 m1 m2 m3 m4 m5 : Int) => (m0 == (0 : Int) && (m1 == (0 : Int) && (m2 == (0 : Int) && (m3 == (0 : Int) && (m4 == (0 : Int) && (m5 == (0 : Int) && true)))))) = noneM m0 m1 m2 m3 m4 m5

def vcGroup : Int → Int → Int → Int → Int → Int → Prop :=
  fun (m0 m1 m2 m3 m4 m5 : Int) => (bitsI BinOp.and IntKind.u8 m0 (1 : Int) == (1 : Int)) = groupM m0

def vcReadE : List Int → Prop :=
  fun (xs : List Int) =>
  (((↑xs.length : Int) != (32 : Int)) = false → (0 : Int) ≤ (0 : Int) ∧ (0 : Int) < (↑xs.length : Int)) ∧
    (((↑xs.length : Int) != (32 : Int) || xs.getD (0 : Nat) (u.dflt (5 : Nat)) != (69 : Int)) = false → (0 : Int) ≤ (2 : Int) ∧ (2 : Int) ≤ (4 : Int) ∧ (4 : Int) ≤ (↑xs.length : Int)) ∧
      (((↑xs.length : Int) != (32 : Int) || xs.getD (0 : Nat) (u.dflt (5 : Nat)) != (69 : Int)) = false → (List.drop (2 : Nat) (List.take (4 : Nat) xs)).length.succ.le (9223372036854775808 : Nat)) ∧
        (((↑xs.length : Int) != (32 : Int) || xs.getD (0 : Nat) (u.dflt (5 : Nat)) != (69 : Int) ||
                numAt (List.drop (2 : Nat) (List.take (4 : Nat) xs)) (List.drop (2 : Nat) (List.take (4 : Nat) xs)).length != (32 : Int)) =
              false →
            (0 : Int) ≤ (9 : Int) ∧ (9 : Int) < (↑xs.length : Int)) ∧
          (((↑xs.length : Int) != (32 : Int) || xs.getD (0 : Nat) (u.dflt (5 : Nat)) != (69 : Int) ||
                    numAt (List.drop (2 : Nat) (List.take (4 : Nat) xs)) (List.drop (2 : Nat) (List.take (4 : Nat) xs)).length != (32 : Int) ||
                  xs.getD (9 : Nat) (u.dflt (5 : Nat)) != (1 : Int)) =
                false →
              (0 : Int) ≤ (20 : Int) ∧ (20 : Int) < (↑xs.length : Int)) ∧
            (((↑xs.length : Int) != (32 : Int) || xs.getD (0 : Nat) (u.dflt (5 : Nat)) != (69 : Int) ||
                      numAt (List.drop (2 : Nat) (List.take (4 : Nat) xs)) (List.drop (2 : Nat) (List.take (4 : Nat) xs)).length != (32 : Int) ||
                    xs.getD (9 : Nat) (u.dflt (5 : Nat)) != (1 : Int)) =
                  false →
                (xs.getD (20 : Nat) (u.dflt (5 : Nat)) != (0 : Int)) = true → (0 : Int) ≤ (20 : Int) ∧ (20 : Int) < (↑xs.length : Int)) ∧
              (((↑xs.length : Int) != (32 : Int) || xs.getD (0 : Nat) (u.dflt (5 : Nat)) != (69 : Int) ||
                          numAt (List.drop (2 : Nat) (List.take (4 : Nat) xs)) (List.drop (2 : Nat) (List.take (4 : Nat) xs)).length != (32 : Int) ||
                        xs.getD (9 : Nat) (u.dflt (5 : Nat)) != (1 : Int) ||
                      xs.getD (20 : Nat) (u.dflt (5 : Nat)) != (0 : Int) && xs.getD (20 : Nat) (u.dflt (5 : Nat)) != (8 : Int)) =
                    false →
                  (0 : Int) ≤ (21 : Int) ∧ (21 : Int) < (↑xs.length : Int)) ∧
                ∀ (v : Bool),
                  v =
                      ((↑xs.length : Int) != (32 : Int) || xs.getD (0 : Nat) (u.dflt (5 : Nat)) != (69 : Int) ||
                              numAt (List.drop (2 : Nat) (List.take (4 : Nat) xs)) (List.drop (2 : Nat) (List.take (4 : Nat) xs)).length != (32 : Int) ||
                            xs.getD (9 : Nat) (u.dflt (5 : Nat)) != (1 : Int) ||
                          xs.getD (20 : Nat) (u.dflt (5 : Nat)) != (0 : Int) && xs.getD (20 : Nat) (u.dflt (5 : Nat)) != (8 : Int) ||
                        xs.getD (21 : Nat) (u.dflt (5 : Nat)) != (0 : Int)) →
                    (v = true →
                        (false = rA xs ∧
                            (0 : Int) = rN xs (IntKind.u32.wrap (numOf (part xs (12 : Nat) (16 : Nat)))) ∧
                              (0 : Int) = rN xs (IntKind.u32.wrap (numOf (part xs (16 : Nat) (20 : Nat)))) ∧
                                (0 : Int) = (0 : Int) ∧
                                  (0 : Int) = (0 : Int) ∧
                                    (0 : Int) = (0 : Int) ∧
                                      (0 : Int) = (0 : Int) ∧
                                        (0 : Int) = (0 : Int) ∧ (0 : Int) = (0 : Int) ∧ (0 : Int) = rN xs (numOf (part xs (24 : Nat) (26 : Nat))) ∧ (0 : Int) = rN xs (numOf (part xs (26 : Nat) (28 : Nat)))) ∧
                          (1 : Int) = errE xs) ∧
                      (v = false →
                        ((0 : Int) ≤ (0 : Int) ∧ (0 : Int) ≤ (20 : Int) ∧ (20 : Int) ≤ (↑xs.length : Int)) ∧
                          (List.drop (0 : Nat) (List.take (20 : Nat) xs)).length.succ.le (9223372036854775808 : Nat) ∧
                            ((!notW (IntKind.u16.wrap (wAt (List.drop (0 : Nat) (List.take (20 : Nat) xs)) (List.drop (0 : Nat) (List.take (20 : Nat) xs)).length)) == (0 : Int)) = false →
                                (0 : Int) ≤ (20 : Int) ∧ (20 : Int) ≤ (↑xs.length : Int) ∧ (↑xs.length : Int) ≤ (↑xs.length : Int)) ∧
                              ((!notW (IntKind.u16.wrap (wAt (List.drop (0 : Nat) (List.take (20 : Nat) xs)) (List.drop (0 : Nat) (List.take (20 : Nat) xs)).length)) == (0 : Int)) = false →
                                  (List.drop (20 : Nat) (List.take (↑xs.length : Int).toNat xs)).length.succ.le (9223372036854775808 : Nat)) ∧
                                ∀ (v : Bool),
                                  v =
                                      (!notW (IntKind.u16.wrap (wAt (List.drop (0 : Nat) (List.take (20 : Nat) xs)) (List.drop (0 : Nat) (List.take (20 : Nat) xs)).length)) == (0 : Int) ||
                                        !notW (IntKind.u16.wrap (wAt (List.drop (20 : Nat) (List.take (↑xs.length : Int).toNat xs)) (List.drop (20 : Nat) (List.take (↑xs.length : Int).toNat xs)).length)) == (0 : Int)) →
                                    (v = true →
                                        (false = rA xs ∧
                                            (0 : Int) = rN xs (IntKind.u32.wrap (numOf (part xs (12 : Nat) (16 : Nat)))) ∧
                                              (0 : Int) = rN xs (IntKind.u32.wrap (numOf (part xs (16 : Nat) (20 : Nat)))) ∧
                                                (0 : Int) = (0 : Int) ∧
                                                  (0 : Int) = (0 : Int) ∧
                                                    (0 : Int) = (0 : Int) ∧
                                                      (0 : Int) = (0 : Int) ∧
                                                        (0 : Int) = (0 : Int) ∧
                                                          (0 : Int) = (0 : Int) ∧ (0 : Int) = rN xs (numOf (part xs (24 : Nat) (26 : Nat))) ∧ (0 : Int) = rN xs (numOf (part xs (26 : Nat) (28 : Nat)))) ∧
                                          (2 : Int) = errE xs) ∧
                                      (v = false →
                                        ((0 : Int) ≤ (20 : Int) ∧ (20 : Int) < (↑xs.length : Int)) ∧
                                          ((0 : Int) ≤ (12 : Int) ∧ (12 : Int) ≤ (16 : Int) ∧ (16 : Int) ≤ (↑xs.length : Int)) ∧
                                            (List.drop (12 : Nat) (List.take (16 : Nat) xs)).length.succ.le (9223372036854775808 : Nat) ∧
                                              ((0 : Int) ≤ (16 : Int) ∧ (16 : Int) ≤ (20 : Int) ∧ (20 : Int) ≤ (↑xs.length : Int)) ∧
                                                (List.drop (16 : Nat) (List.take (20 : Nat) xs)).length.succ.le (9223372036854775808 : Nat) ∧
                                                  ((0 : Int) ≤ (24 : Int) ∧ (24 : Int) ≤ (26 : Int) ∧ (26 : Int) ≤ (↑xs.length : Int)) ∧
                                                    (List.drop (24 : Nat) (List.take (26 : Nat) xs)).length.succ.le (9223372036854775808 : Nat) ∧
                                                      ((0 : Int) ≤ (26 : Int) ∧ (26 : Int) ≤ (28 : Int) ∧ (28 : Int) ≤ (↑xs.length : Int)) ∧
                                                        (List.drop (26 : Nat) (List.take (28 : Nat) xs)).length.succ.le (9223372036854775808 : Nat) ∧
                                                          ((xs.getD (20 : Nat) (u.dflt (5 : Nat)) == (0 : Int)) = rA xs ∧
                                                              IntKind.u32.wrap (numAt (List.drop (12 : Nat) (List.take (16 : Nat) xs)) (List.drop (12 : Nat) (List.take (16 : Nat) xs)).length) =
                                                                  rN xs (IntKind.u32.wrap (numOf (part xs (12 : Nat) (16 : Nat)))) ∧
                                                                IntKind.u32.wrap (numAt (List.drop (16 : Nat) (List.take (20 : Nat) xs)) (List.drop (16 : Nat) (List.take (20 : Nat) xs)).length) =
                                                                    rN xs (IntKind.u32.wrap (numOf (part xs (16 : Nat) (20 : Nat)))) ∧
                                                                  (0 : Int) = (0 : Int) ∧
                                                                    (0 : Int) = (0 : Int) ∧
                                                                      (0 : Int) = (0 : Int) ∧
                                                                        (0 : Int) = (0 : Int) ∧
                                                                          (0 : Int) = (0 : Int) ∧
                                                                            (0 : Int) = (0 : Int) ∧
                                                                              numAt (List.drop (24 : Nat) (List.take (26 : Nat) xs)) (List.drop (24 : Nat) (List.take (26 : Nat) xs)).length =
                                                                                  rN xs (numOf (part xs (24 : Nat) (26 : Nat))) ∧
                                                                                numAt (List.drop (26 : Nat) (List.take (28 : Nat) xs)) (List.drop (26 : Nat) (List.take (28 : Nat) xs)).length =
                                                                                  rN xs (numOf (part xs (26 : Nat) (28 : Nat)))) ∧
                                                            (0 : Int) = errE xs))

def vcEchoS : Bool → Int → Int → Int → Int → Int → Int → Int → Int → Int → Int → Prop :=
  fun (a : Bool) (f t m0 m1 m2 m3 m4 m5 i q : Int) =>
  ∀ (v : Int),
    v = (8 : Int) →
      (a = true → True) ∧
        (a = false → True) ∧
          ∀ (v_1 : Int),
            (v_1 = if a = true then (0 : Int) else v) →
              (bytesOf [IntKind.u8.wrap (shr IntKind.u32 f (24 : Int)), IntKind.u8.wrap (shr IntKind.u32 f (16 : Int)), IntKind.u8.wrap (shr IntKind.u32 f (8 : Int)), IntKind.u8.wrap f]).size +
                    (bytesOf [IntKind.u8.wrap (shr IntKind.u32 t (24 : Int)), IntKind.u8.wrap (shr IntKind.u32 t (16 : Int)), IntKind.u8.wrap (shr IntKind.u32 t (8 : Int)), IntKind.u8.wrap t]).size ≤
                  (4611686018427387904 : Nat) ∧
                ∀ (v : ByteArray),
                  v =
                      bytesOf [IntKind.u8.wrap (shr IntKind.u32 f (24 : Int)), IntKind.u8.wrap (shr IntKind.u32 f (16 : Int)), IntKind.u8.wrap (shr IntKind.u32 f (8 : Int)), IntKind.u8.wrap f] ++
                        bytesOf [IntKind.u8.wrap (shr IntKind.u32 t (24 : Int)), IntKind.u8.wrap (shr IntKind.u32 t (16 : Int)), IntKind.u8.wrap (shr IntKind.u32 t (8 : Int)), IntKind.u8.wrap t] →
                    ∀ (v_2 : ByteArray),
                      v_2 = { data := #[(69 : UInt8), (0 : UInt8), (0 : UInt8), (32 : UInt8), (0 : UInt8), (0 : UInt8), (0 : UInt8), (0 : UInt8), (64 : UInt8), (1 : UInt8)] : ByteArray } →
                        (bytesOf [IntKind.u8.wrap (shr IntKind.i64 i (8 : Int)), IntKind.u8.wrap i]).size + (bytesOf [IntKind.u8.wrap (shr IntKind.i64 q (8 : Int)), IntKind.u8.wrap q]).size ≤
                            (4611686018427387904 : Nat) ∧
                          (bytesOf [IntKind.u8.wrap (shr IntKind.i64 i (8 : Int)), IntKind.u8.wrap i] ++ bytesOf [IntKind.u8.wrap (shr IntKind.i64 q (8 : Int)), IntKind.u8.wrap q]).size + (4 : Nat) ≤
                              (4611686018427387904 : Nat) ∧
                            ∀ (v_3 : ByteArray),
                              v_3 =
                                  bytesOf [IntKind.u8.wrap (shr IntKind.i64 i (8 : Int)), IntKind.u8.wrap i] ++ bytesOf [IntKind.u8.wrap (shr IntKind.i64 q (8 : Int)), IntKind.u8.wrap q] ++
                                    { data := #[(0 : UInt8), (0 : UInt8), (0 : UInt8), (0 : UInt8)] : ByteArray } →
                                ∀ (v_4 : ByteArray),
                                  v_4 = bytesOf (u.nums (5 : Nat) [v_1, (0 : Int)]) →
                                    v_2.size + (2 : Nat) ≤ (4611686018427387904 : Nat) ∧
                                      (v_2 ++ { data := #[(0 : UInt8), (0 : UInt8)] : ByteArray }).size + v.size ≤ (4611686018427387904 : Nat) ∧
                                        (u.ofNums (5 : Nat) (strNums (v_2 ++ { data := #[(0 : UInt8), (0 : UInt8)] : ByteArray } ++ v))).length.succ.le (9223372036854775808 : Nat) ∧
                                          v_2.size +
                                                (bytesOf
                                                    [IntKind.u8.wrap
                                                        (shr IntKind.i64
                                                          (IntKind.i64.wrap
                                                            (notW
                                                              (IntKind.u16.wrap
                                                                (wAt (u.ofNums (5 : Nat) (strNums (v_2 ++ { data := #[(0 : UInt8), (0 : UInt8)] : ByteArray } ++ v)))
                                                                  (u.ofNums (5 : Nat) (strNums (v_2 ++ { data := #[(0 : UInt8), (0 : UInt8)] : ByteArray } ++ v))).length))))
                                                          (8 : Int)),
                                                      IntKind.u8.wrap
                                                        (IntKind.i64.wrap
                                                          (notW
                                                            (IntKind.u16.wrap
                                                              (wAt (u.ofNums (5 : Nat) (strNums (v_2 ++ { data := #[(0 : UInt8), (0 : UInt8)] : ByteArray } ++ v)))
                                                                (u.ofNums (5 : Nat) (strNums (v_2 ++ { data := #[(0 : UInt8), (0 : UInt8)] : ByteArray } ++ v))).length))))]).size ≤
                                              (4611686018427387904 : Nat) ∧
                                            (v_2 ++
                                                      bytesOf
                                                        [IntKind.u8.wrap
                                                            (shr IntKind.i64
                                                              (IntKind.i64.wrap
                                                                (notW
                                                                  (IntKind.u16.wrap
                                                                    (wAt (u.ofNums (5 : Nat) (strNums (v_2 ++ { data := #[(0 : UInt8), (0 : UInt8)] : ByteArray } ++ v)))
                                                                      (u.ofNums (5 : Nat) (strNums (v_2 ++ { data := #[(0 : UInt8), (0 : UInt8)] : ByteArray } ++ v))).length))))
                                                              (8 : Int)),
                                                          IntKind.u8.wrap
                                                            (IntKind.i64.wrap
                                                              (notW
                                                                (IntKind.u16.wrap
                                                                  (wAt (u.ofNums (5 : Nat) (strNums (v_2 ++ { data := #[(0 : UInt8), (0 : UInt8)] : ByteArray } ++ v)))
                                                                    (u.ofNums (5 : Nat) (strNums (v_2 ++ { data := #[(0 : UInt8), (0 : UInt8)] : ByteArray } ++ v))).length))))]).size +
                                                  v.size ≤
                                                (4611686018427387904 : Nat) ∧
                                              (v_2 ++
                                                          bytesOf
                                                            [IntKind.u8.wrap
                                                                (shr IntKind.i64
                                                                  (IntKind.i64.wrap
                                                                    (notW
                                                                      (IntKind.u16.wrap
                                                                        (wAt (u.ofNums (5 : Nat) (strNums (v_2 ++ { data := #[(0 : UInt8), (0 : UInt8)] : ByteArray } ++ v)))
                                                                          (u.ofNums (5 : Nat) (strNums (v_2 ++ { data := #[(0 : UInt8), (0 : UInt8)] : ByteArray } ++ v))).length))))
                                                                  (8 : Int)),
                                                              IntKind.u8.wrap
                                                                (IntKind.i64.wrap
                                                                  (notW
                                                                    (IntKind.u16.wrap
                                                                      (wAt (u.ofNums (5 : Nat) (strNums (v_2 ++ { data := #[(0 : UInt8), (0 : UInt8)] : ByteArray } ++ v)))
                                                                        (u.ofNums (5 : Nat) (strNums (v_2 ++ { data := #[(0 : UInt8), (0 : UInt8)] : ByteArray } ++ v))).length))))] ++
                                                        v).size +
                                                    v_4.size ≤
                                                  (4611686018427387904 : Nat) ∧
                                                v_4.size + (2 : Nat) ≤ (4611686018427387904 : Nat) ∧
                                                  (v_4 ++ { data := #[(0 : UInt8), (0 : UInt8)] : ByteArray }).size + v_3.size ≤ (4611686018427387904 : Nat) ∧
                                                    (u.ofNums (5 : Nat) (strNums (v_4 ++ { data := #[(0 : UInt8), (0 : UInt8)] : ByteArray } ++ v_3))).length.succ.le (9223372036854775808 : Nat) ∧
                                                      (v_2 ++
                                                                    bytesOf
                                                                      [IntKind.u8.wrap
                                                                          (shr IntKind.i64
                                                                            (IntKind.i64.wrap
                                                                              (notW
                                                                                (IntKind.u16.wrap
                                                                                  (wAt (u.ofNums (5 : Nat) (strNums (v_2 ++ { data := #[(0 : UInt8), (0 : UInt8)] : ByteArray } ++ v)))
                                                                                    (u.ofNums (5 : Nat) (strNums (v_2 ++ { data := #[(0 : UInt8), (0 : UInt8)] : ByteArray } ++ v))).length))))
                                                                            (8 : Int)),
                                                                        IntKind.u8.wrap
                                                                          (IntKind.i64.wrap
                                                                            (notW
                                                                              (IntKind.u16.wrap
                                                                                (wAt (u.ofNums (5 : Nat) (strNums (v_2 ++ { data := #[(0 : UInt8), (0 : UInt8)] : ByteArray } ++ v)))
                                                                                  (u.ofNums (5 : Nat) (strNums (v_2 ++ { data := #[(0 : UInt8), (0 : UInt8)] : ByteArray } ++ v))).length))))] ++
                                                                  v ++
                                                                v_4).size +
                                                            (bytesOf
                                                                [IntKind.u8.wrap
                                                                    (shr IntKind.i64
                                                                      (IntKind.i64.wrap
                                                                        (notW
                                                                          (IntKind.u16.wrap
                                                                            (wAt (u.ofNums (5 : Nat) (strNums (v_4 ++ { data := #[(0 : UInt8), (0 : UInt8)] : ByteArray } ++ v_3)))
                                                                              (u.ofNums (5 : Nat) (strNums (v_4 ++ { data := #[(0 : UInt8), (0 : UInt8)] : ByteArray } ++ v_3))).length))))
                                                                      (8 : Int)),
                                                                  IntKind.u8.wrap
                                                                    (IntKind.i64.wrap
                                                                      (notW
                                                                        (IntKind.u16.wrap
                                                                          (wAt (u.ofNums (5 : Nat) (strNums (v_4 ++ { data := #[(0 : UInt8), (0 : UInt8)] : ByteArray } ++ v_3)))
                                                                            (u.ofNums (5 : Nat) (strNums (v_4 ++ { data := #[(0 : UInt8), (0 : UInt8)] : ByteArray } ++ v_3))).length))))]).size ≤
                                                          (4611686018427387904 : Nat) ∧
                                                        (v_2 ++
                                                                        bytesOf
                                                                          [IntKind.u8.wrap
                                                                              (shr IntKind.i64
                                                                                (IntKind.i64.wrap
                                                                                  (notW
                                                                                    (IntKind.u16.wrap
                                                                                      (wAt (u.ofNums (5 : Nat) (strNums (v_2 ++ { data := #[(0 : UInt8), (0 : UInt8)] : ByteArray } ++ v)))
                                                                                        (u.ofNums (5 : Nat) (strNums (v_2 ++ { data := #[(0 : UInt8), (0 : UInt8)] : ByteArray } ++ v))).length))))
                                                                                (8 : Int)),
                                                                            IntKind.u8.wrap
                                                                              (IntKind.i64.wrap
                                                                                (notW
                                                                                  (IntKind.u16.wrap
                                                                                    (wAt (u.ofNums (5 : Nat) (strNums (v_2 ++ { data := #[(0 : UInt8), (0 : UInt8)] : ByteArray } ++ v)))
                                                                                      (u.ofNums (5 : Nat) (strNums (v_2 ++ { data := #[(0 : UInt8), (0 : UInt8)] : ByteArray } ++ v))).length))))] ++
                                                                      v ++
                                                                    v_4 ++
                                                                  bytesOf
                                                                    [IntKind.u8.wrap
                                                                        (shr IntKind.i64
                                                                          (IntKind.i64.wrap
                                                                            (notW
                                                                              (IntKind.u16.wrap
                                                                                (wAt (u.ofNums (5 : Nat) (strNums (v_4 ++ { data := #[(0 : UInt8), (0 : UInt8)] : ByteArray } ++ v_3)))
                                                                                  (u.ofNums (5 : Nat) (strNums (v_4 ++ { data := #[(0 : UInt8), (0 : UInt8)] : ByteArray } ++ v_3))).length))))
                                                                          (8 : Int)),
                                                                      IntKind.u8.wrap
                                                                        (IntKind.i64.wrap
                                                                          (notW
                                                                            (IntKind.u16.wrap
                                                                              (wAt (u.ofNums (5 : Nat) (strNums (v_4 ++ { data := #[(0 : UInt8), (0 : UInt8)] : ByteArray } ++ v_3)))
                                                                                (u.ofNums (5 : Nat) (strNums (v_4 ++ { data := #[(0 : UInt8), (0 : UInt8)] : ByteArray } ++ v_3))).length))))]).size +
                                                              v_3.size ≤
                                                            (4611686018427387904 : Nat) ∧
                                                          v_2 ++
                                                                      bytesOf
                                                                        [IntKind.u8.wrap
                                                                            (shr IntKind.i64
                                                                              (IntKind.i64.wrap
                                                                                (notW
                                                                                  (IntKind.u16.wrap
                                                                                    (wAt (u.ofNums (5 : Nat) (strNums (v_2 ++ { data := #[(0 : UInt8), (0 : UInt8)] : ByteArray } ++ v)))
                                                                                      (u.ofNums (5 : Nat) (strNums (v_2 ++ { data := #[(0 : UInt8), (0 : UInt8)] : ByteArray } ++ v))).length))))
                                                                              (8 : Int)),
                                                                          IntKind.u8.wrap
                                                                            (IntKind.i64.wrap
                                                                              (notW
                                                                                (IntKind.u16.wrap
                                                                                  (wAt (u.ofNums (5 : Nat) (strNums (v_2 ++ { data := #[(0 : UInt8), (0 : UInt8)] : ByteArray } ++ v)))
                                                                                    (u.ofNums (5 : Nat) (strNums (v_2 ++ { data := #[(0 : UInt8), (0 : UInt8)] : ByteArray } ++ v))).length))))] ++
                                                                    v ++
                                                                  v_4 ++
                                                                bytesOf
                                                                  [IntKind.u8.wrap
                                                                      (shr IntKind.i64
                                                                        (IntKind.i64.wrap
                                                                          (notW
                                                                            (IntKind.u16.wrap
                                                                              (wAt (u.ofNums (5 : Nat) (strNums (v_4 ++ { data := #[(0 : UInt8), (0 : UInt8)] : ByteArray } ++ v_3)))
                                                                                (u.ofNums (5 : Nat) (strNums (v_4 ++ { data := #[(0 : UInt8), (0 : UInt8)] : ByteArray } ++ v_3))).length))))
                                                                        (8 : Int)),
                                                                    IntKind.u8.wrap
                                                                      (IntKind.i64.wrap
                                                                        (notW
                                                                          (IntKind.u16.wrap
                                                                            (wAt (u.ofNums (5 : Nat) (strNums (v_4 ++ { data := #[(0 : UInt8), (0 : UInt8)] : ByteArray } ++ v_3)))
                                                                              (u.ofNums (5 : Nat) (strNums (v_4 ++ { data := #[(0 : UInt8), (0 : UInt8)] : ByteArray } ++ v_3))).length))))] ++
                                                              v_3 =
                                                            bytesOf (echoB a f t i q)

end Go.Proofs.Ytghaljkohheioaa.Wire
