/- Packets of the wire: the plain part of the law of any bytes. -/
import Derived.Test.YtghaljkohheioaaWireWalkF
namespace Go.Proofs.Ytghaljkohheioaa.Wire
open Go Go.Proofs.Ytghaljkohheioaa.Sx Go.Proofs.Ytghaljkohheioaa.Sum

theorem drop_cons (xs : List Int) (k : Nat) (h : k < xs.length) : xs.drop k = xs.getD k 0 :: xs.drop (k + 1) := by
  rw [List.drop_eq_getElem_cons h]
  congr 1
  rw [List.getD_eq_getElem?_getD, List.getElem?_eq_getElem h]
  rfl
theorem part_eq (xs : List Int) (lo n : Nat) : part xs lo (lo + n) = (xs.drop lo).take n := by
  unfold part
  rw [List.drop_take]
  congr 1
  omega
theorem part2 (xs : List Int) (lo : Nat) (h : lo + 2 ≤ xs.length) : part xs lo (lo + 2) = [xs.getD lo 0, xs.getD (lo + 1) 0] := by
  rw [part_eq, drop_cons xs lo (by omega), drop_cons xs (lo + 1) (by omega)]
  rfl
theorem part4 (xs : List Int) (lo : Nat) (h : lo + 4 ≤ xs.length) : part xs lo (lo + 4) = [xs.getD lo 0, xs.getD (lo + 1) 0, xs.getD (lo + 2) 0, xs.getD (lo + 3) 0] := by
  rw [part_eq, drop_cons xs lo (by omega), drop_cons xs (lo + 1) (by omega), drop_cons xs (lo + 2) (by omega), drop_cons xs (lo + 3) (by omega)]
  rfl
theorem part8 (xs : List Int) (lo : Nat) (h : lo + 8 ≤ xs.length) : part xs lo (lo + 8) = part xs lo (lo + 4) ++ part xs (lo + 4) (lo + 4 + 4) := by
  rw [part_eq, part_eq, part_eq, ← List.drop_drop, List.take_add (i := 4) (j := 4) (l := xs.drop lo)]
theorem part22 (xs : List Int) (lo : Nat) (h : lo + 4 ≤ xs.length) : part xs lo (lo + 4) = part xs lo (lo + 2) ++ part xs (lo + 2) (lo + 2 + 2) := by
  rw [part_eq, part_eq, part_eq, ← List.drop_drop, List.take_add (i := 2) (j := 2) (l := xs.drop lo)]
theorem ip_num (a b c d : Int) (ha : 0 ≤ a ∧ a < 256) (hb : 0 ≤ b ∧ b < 256) (hc : 0 ≤ c ∧ c < 256) (hd : 0 ≤ d ∧ d < 256) : ipL (IntKind.u32.wrap (numOf [a, b, c, d])) = [a, b, c, d] := by
  have hw : IntKind.u32.wrap (((a * 256 + b) * 256 + c) * 256 + d) = ((a * 256 + b) * 256 + c) * 256 + d := by simp [IntKind.wrap, IntKind.bits, IntKind.signed]; omega
  rw [num4 a b c d ha hb hc hd, hw]
  unfold ipL
  simp only [List.cons.injEq, and_true]
  omega
theorem two_num (a b : Int) (ha : 0 ≤ a ∧ a < 256) (hb : 0 ≤ b ∧ b < 256) : twoL (numOf [a, b]) = [a, b] := by
  rw [num2 a b ha hb]
  unfold twoL
  simp only [List.cons.injEq, and_true]
  omega
theorem ip_part (xs : List Int) (h : Sum.bytes xs) (lo : Nat) (hl : lo + 4 ≤ xs.length) : ipL (IntKind.u32.wrap (numOf (part xs lo (lo + 4)))) = part xs lo (lo + 4) := by
  rw [part4 xs lo hl]
  exact ip_num _ _ _ _ (bytes_get h (by omega)) (bytes_get h (by omega)) (bytes_get h (by omega)) (bytes_get h (by omega))
theorem two_part (xs : List Int) (h : Sum.bytes xs) (lo : Nat) (hl : lo + 2 ≤ xs.length) : twoL (numOf (part xs lo (lo + 2))) = part xs lo (lo + 2) := by
  rw [part2 xs lo hl]
  exact two_num _ _ (bytes_get h (by omega)) (bytes_get h (by omega))
theorem bad_eq (xs : List Int) (h : Sum.bytes xs) : ((xs.length : Int) != 32 || xs.getD 0 0 != 69 || xs.getD 2 0 != 0 || xs.getD 3 0 != 32 || xs.getD 9 0 != 1 || (xs.getD 20 0 != 0 && xs.getD 20 0 != 8) || xs.getD 21 0 != 0) = badE xs := by
  unfold badE
  by_cases hl : (xs.length : Int) = 32
  · have h2 := bytes_get h (k := 2) (by omega)
    have h3 := bytes_get h (k := 3) (by omega)
    have : (numOf (part xs 2 4) != 32) = (xs.getD 2 0 != 0 || xs.getD 3 0 != 32) := by
      rw [part2 xs 2 (by omega), num2 _ _ h2 h3]
      by_cases h4 : xs.getD 2 0 = 0
      · by_cases h5 : xs.getD 3 0 = 32
        · rw [h4, h5]; rfl
        · rw [h4, show ((0 : Int) * 256 + xs.getD (2 + 1) 0 != 32) = true from bne_iff_ne.2 (by have h6 : ¬ xs.getD (2 + 1) 0 = 32 := h5; omega), show (xs.getD 3 0 != 32) = true by simpa using h5]; rfl
      · rw [show (xs.getD 2 0 * 256 + xs.getD (2 + 1) 0 != 32) = true from bne_iff_ne.2 (by have h6 : 0 ≤ xs.getD (2 + 1) 0 ∧ xs.getD (2 + 1) 0 < 256 := h3; omega), show (xs.getD 2 0 != 0) = true by simpa using h4]; rfl
    rw [this]
    simp only [Bool.or_assoc]
  · rw [show ((xs.length : Int) != 32) = true by simpa using hl]
    simp
/-- The law's last test. -/
def ckAny (w : List Int) (want : Int) : Bool :=
  errE w != want || errE w != 0 && !(rA w == false && (rN w (IntKind.u32.wrap (numOf (part w 12 16))) == 0 && (rN w (IntKind.u32.wrap (numOf (part w 16 20))) == 0 && (((0 : Int) == 0 && ((0 : Int) == 0 && ((0 : Int) == 0 && ((0 : Int) == 0 && ((0 : Int) == 0 && ((0 : Int) == 0 && true)))))) && (rN w (numOf (part w 24 26)) == 0 && (rN w (numOf (part w 26 28)) == 0 && true)))))) ||
    errE w == 0 && (!((bytesOf [IntKind.u8.wrap (shr .u32 (rN w (IntKind.u32.wrap (numOf (part w 12 16)))) 24), IntKind.u8.wrap (shr .u32 (rN w (IntKind.u32.wrap (numOf (part w 12 16)))) 16), IntKind.u8.wrap (shr .u32 (rN w (IntKind.u32.wrap (numOf (part w 12 16)))) 8), IntKind.u8.wrap (rN w (IntKind.u32.wrap (numOf (part w 12 16))))] ++
          bytesOf [IntKind.u8.wrap (shr .u32 (rN w (IntKind.u32.wrap (numOf (part w 16 20)))) 24), IntKind.u8.wrap (shr .u32 (rN w (IntKind.u32.wrap (numOf (part w 16 20)))) 16), IntKind.u8.wrap (shr .u32 (rN w (IntKind.u32.wrap (numOf (part w 16 20)))) 8), IntKind.u8.wrap (rN w (IntKind.u32.wrap (numOf (part w 16 20))))]).toList == (bytesOf (part w 12 20)).toList) ||
        !((bytesOf [IntKind.u8.wrap (shr .i64 (rN w (numOf (part w 24 26))) 8), IntKind.u8.wrap (rN w (numOf (part w 24 26)))] ++ bytesOf [IntKind.u8.wrap (shr .i64 (rN w (numOf (part w 26 28))) 8), IntKind.u8.wrap (rN w (numOf (part w 26 28)))]).toList == (bytesOf (part w 24 28)).toList) ||
        !(rA w == (w.getD 20 0 == 0)))
theorem err_len {w : List Int} (h : errE w = 0) : w.length = 32 := by
  unfold errE at h
  by_cases hb : badE w = true
  · rw [if_pos hb] at h; cases h
  · unfold badE at hb
    by_cases hl : (w.length : Int) = 32
    · omega
    · exact absurd (by rw [show ((w.length : Int) != 32) = true by simpa using hl]; simp) hb
theorem ck_false {w : List Int} (hb : Sum.bytes w) {want : Int} (hw : want = errE w) : ckAny w want = false := by
  subst hw
  unfold ckAny
  by_cases h0 : errE w = 0
  · have hl := err_len h0
    have hn : ∀ n, rN w n = n := fun n => by unfold rN; rw [if_pos h0]
    have ha : rA w = (w.getD 20 0 == 0) := by unfold rA; rw [if_pos h0]
    have e1 := ip_part w hb 12 (by omega)
    have e2 := ip_part w hb 16 (by omega)
    have e3 := two_part w hb 24 (by omega)
    have e4 := two_part w hb 26 (by omega)
    rw [hn, hn, hn, hn, ip_bytes, ip_bytes, two_bytes, two_bytes, bytesOf_append, bytesOf_append, e1, e2, e3, e4, ← part8 w 12 (by omega), ← part22 w 24 (by omega), ha, h0]
    simp
  · have hn : ∀ n, rN w n = 0 := fun n => by unfold rN; rw [if_neg h0]
    have ha : rA w = false := by unfold rA; rw [if_neg h0]
    have h1 : (errE w == 0) = false := by simpa using h0
    rw [hn, hn, hn, hn, ha, h1]
    simp
theorem row_bytes {xs v : List Int} (hx : Sum.bytes xs) (hv : Sum.bytes v) (n : Nat) (g : Nat) : Sum.bytes ([xs, v, List.take n (List.drop 0 v)].getD g []) := by
  match g with
  | 0 => exact hx
  | 1 => exact hv
  | 2 => exact bytes_take _ (bytes_drop _ hv)
  | (k + 3) => intro c hc; cases hc
theorem row_len {xs v : List Int} (hx : lenOk xs) (hv : v.length = 32) (n : Nat) (g : Nat) : ([xs, v, List.take n (List.drop 0 v)].getD g []).length < 9223372036854775808 := by
  match g with
  | 0 => exact hx
  | 1 => show v.length < _; omega
  | 2 => show (List.take n (List.drop 0 v)).length < _; rw [List.length_take, List.length_drop]; omega
  | (k + 3) => show 0 < _; decide
end Go.Proofs.Ytghaljkohheioaa.Wire
