/- Packets of the wire: the plain part of the law WireArp. -/
import Derived.Test.YtghaljkohheioaaWireSpecI
import Derived.Laws.Strings2
import Derived.Lib.Strings
namespace Go.Proofs.Ytghaljkohheioaa.Wire
open Go Go.Proofs.Ytghaljkohheioaa.Sx Go.Proofs.Ytghaljkohheioaa.Sum

theorem take_range (w : List Int) (n : Nat) (h : n ≤ w.length) : w.take n = (List.range n).map fun i => w.getD i 0 := by
  apply List.ext_getElem
  · rw [List.length_take, List.length_map, List.length_range]; omega
  · intro i h1 h2
    rw [List.length_take] at h1
    rw [List.getElem_take, List.getElem_map, List.getElem_range, List.getD_eq_getElem?_getD, List.getElem?_eq_getElem (by omega)]
    rfl
theorem bytesOf_inj {a b : List Int} (ha : Sum.bytes a) (hb : Sum.bytes b) (h : ((bytesOf a).toList == (bytesOf b).toList) = true) : a = b := by
  have h := eq_of_beq h
  rw [ByteArray.toList_eq, ByteArray.toList_eq] at h
  rw [← strNums_bytesOf a ha, ← strNums_bytesOf b hb]
  unfold strNums
  rw [h]
theorem bytesOf_extract (a : List Int) (i j : Nat) : (bytesOf a).extract i j = bytesOf ((a.drop i).take (j - i)) := by
  unfold bytesOf
  rw [ByteArray.extract_mk, ← List.map_drop, ← List.map_take]
theorem head_bytes : Sum.bytes [0, 1, 8, 0, 6, 4, 0] := by
  intro c hc
  simp only [List.mem_cons, List.not_mem_nil, or_false] at hc
  omega
/-- The law's form test. -/
def formA (w : List Int) : Bool := (w.length : Int) == 28 && (bytesOf (part w 0 7)).toList == headArp.toList && (w.getD 7 0 == 1 || w.getD 7 0 == 2)
theorem form_eq (w : List Int) : formA w = !badA w := by
  unfold formA badA
  have : (w.getD 7 0 == 1 || w.getD 7 0 == 2) = !(decide (w.getD 7 0 < 1) || decide (w.getD 7 0 > 2)) := by
    generalize w.getD 7 0 = x
    by_cases h : x < 1
    · rw [decide_eq_true h, show (x == 1) = false by simp; omega, show (x == 2) = false by simp; omega]; rfl
    · by_cases h2 : x > 2
      · rw [decide_eq_false h, decide_eq_true h2, show (x == 1) = false by simp; omega, show (x == 2) = false by simp; omega]; rfl
      · rw [decide_eq_false h, decide_eq_false h2]
        have : x = 1 ∨ x = 2 := by omega
        rcases this with rfl | rfl <;> rfl
  rw [this]
  cases hl : ((w.length : Int) == 28) <;> cases hh : ((bytesOf (part w 0 7)).toList == headArp.toList) <;> simp [bne, hl]
/-- What the law finds of a row. -/
def okA (w : List Int) : Bool := if (formA w && w.getD 7 0 == 2) = true then (!noneM (mA w 0) (mA w 1) (mA w 2) (mA w 3) (mA w 4) (mA w 5) && !groupM (mA w 0)) else formA w
theorem okA_eq (w : List Int) : okA w = (errA w == 0) := by
  unfold okA errA macA
  rw [form_eq]
  cases badA w
  · cases w.getD 7 0 == 2
    · rfl
    · cases noneM (mA w 0) (mA w 1) (mA w 2) (mA w 3) (mA w 4) (mA w 5) <;> cases groupM (mA w 0) <;> rfl
  · rfl
theorem errA_two (w : List Int) : errA w = 0 ∨ errA w = 1 := by
  unfold errA
  split
  · exact .inr rfl
  · split
    · exact .inr rfl
    · exact .inl rfl
theorem errA_form {w : List Int} (h : errA w = 0) : badA w = false := by
  unfold errA at h
  cases hb : badA w
  · rfl
  · rw [hb] at h; cases h
theorem badA_len {w : List Int} (h : badA w = false) : w.length = 28 := by
  have h2 : formA w = true := by rw [form_eq, h]; rfl
  unfold formA at h2
  simp only [Bool.and_eq_true, beq_iff_eq] at h2
  omega
/-- The law's first test. -/
def ckA (w : List Int) (ok : Bool) : Bool :=
  !((errA w == 0) == ok) || !ok && (errA w != 1 || !(aB w == false && (aN w (IntKind.u32.wrap (numOf (part w 14 18))) == 0 && (aN w (IntKind.u32.wrap (numOf (part w 24 28))) == 0 && ((aN w (mA w 0) == 0 && (aN w (mA w 1) == 0 && (aN w (mA w 2) == 0 && (aN w (mA w 3) == 0 && (aN w (mA w 4) == 0 && (aN w (mA w 5) == 0 && true)))))) && ((0 : Int) == 0 && ((0 : Int) == 0 && true)))))))
theorem ckA_false (w : List Int) : ckA w (okA w) = false := by
  unfold ckA
  rw [okA_eq]
  rcases errA_two w with h | h
  · rw [h]; rfl
  · have h1 : aB w = false := by unfold aB; rw [h]; rfl
    have h2 : ∀ n, aN w n = 0 := fun n => by unfold aN; rw [h]; rfl
    rw [h1, h2, h2, h2, h2, h2, h2, h2, h2, h]
    rfl
/-- What is read, laid again. -/
def againA (w : List Int) : List Int := arpB (aB w) (aN w (IntKind.u32.wrap (numOf (part w 14 18)))) (aN w (IntKind.u32.wrap (numOf (part w 24 28)))) (aN w (mA w 0)) (aN w (mA w 1)) (aN w (mA w 2)) (aN w (mA w 3)) (aN w (mA w 4)) (aN w (mA w 5))
theorem wrap32_rng (n : Int) : inR 4294967296 (IntKind.u32.wrap n) := by
  unfold inR
  simp [IntKind.wrap, IntKind.bits, IntKind.signed]
  omega
theorem aN_rng (w : List Int) (n : Int) : inR 4294967296 (aN w (IntKind.u32.wrap n)) := by
  unfold aN
  split
  · exact wrap32_rng n
  · exact ⟨by decide, by decide⟩
theorem again_eq (w : List Int) : ∃ op m0 m1 m2 m3 m4 m5 x0 x1 x2 x3 y0 y1 y2 y3 : Int, againA w = [0, 1, 8, 0, 6, 4, 0, op, m0, m1, m2, m3, m4, m5, x0, x1, x2, x3, 0, 0, 0, 0, 0, 0, y0, y1, y2, y3] := by
  unfold againA
  rw [arpB_eq _ _ _ _ _ _ _ _ _ (aN_rng w _) (aN_rng w _)]
  exact ⟨_, _, _, _, _, _, _, _, _, _, _, _, _, _, _, rfl⟩
theorem again_len (w : List Int) : (againA w).length = 28 := by
  obtain ⟨_, _, _, _, _, _, _, _, _, _, _, _, _, _, _, h⟩ := again_eq w
  rw [h]; rfl
theorem again_parts {w : List Int} (hb : Sum.bytes w) (h : errA w = 0) : (againA w).take 18 = part w 0 18 ∧ (againA w).drop 24 = part w 24 28 := by
  have hbad := errA_form h
  have hl := badA_len hbad
  have hform : formA w = true := by rw [form_eq, hbad]; rfl
  unfold formA at hform
  simp only [Bool.and_eq_true, Bool.or_eq_true] at hform
  obtain ⟨⟨_, hh⟩, h7⟩ := hform
  have hhead : part w 0 7 = [0, 1, 8, 0, 6, 4, 0] := bytesOf_inj (bytes_drop _ (bytes_take _ hb)) head_bytes hh
  have h7' : w.getD 7 0 = 1 ∨ w.getD 7 0 = 2 := by rcases h7 with h | h; exact .inl (eq_of_beq h); exact .inr (eq_of_beq h)
  have hn : ∀ n, aN w n = n := fun n => by unfold aN; rw [if_pos h]
  have ha : aB w = (w.getD 7 0 == 2) := by unfold aB; rw [if_pos h]
  have hop : opA (w.getD 7 0 == 2) = w.getD 7 0 := by rcases h7' with h | h <;> rw [h] <;> rfl
  have hm : part w 8 14 = [w.getD 8 0, w.getD 9 0, w.getD 10 0, w.getD 11 0, w.getD 12 0, w.getD 13 0] := by
    unfold part
    rw [take_range w 14 (by omega)]
    rfl
  have hp : part w 0 7 = [w.getD 0 0, w.getD 1 0, w.getD 2 0, w.getD 3 0, w.getD 4 0, w.getD 5 0, w.getD 6 0] := by
    unfold part
    rw [take_range w 7 (by omega)]
    rfl
  have hq : part w 0 18 = part w 0 7 ++ [w.getD 7 0] ++ part w 8 14 ++ part w 14 18 := by
    unfold part
    rw [take_range w 18 (by omega), take_range w 7 (by omega), take_range w 14 (by omega)]
    rfl
  have e : againA w = part w 0 7 ++ [w.getD 7 0] ++ part w 8 14 ++ part w 14 18 ++ [0, 0, 0, 0, 0, 0] ++ part w 24 28 := by
    unfold againA
    rw [arpB_eq _ _ _ _ _ _ _ _ _ (aN_rng w _) (aN_rng w _), hn, hn, hn, hn, hn, hn, hn, hn, ha, hop, ip_part w hb 14 (by omega), ip_part w hb 24 (by omega), hhead]
    unfold mA
    rw [hm]
    rfl
  have l1 : (part w 0 7).length = 7 := by rw [hhead]; rfl
  have l2 : (part w 8 14).length = 6 := by rw [hm]; rfl
  have l3 : (part w 14 18).length = 4 := by rw [part4 w 14 (by omega)]; rfl
  have l4 : (part w 0 18).length = 18 := by rw [hq]; simp [l1, l2, l3]
  rw [e, ← hq]
  constructor
  · rw [List.append_assoc, List.take_append_of_le_length (by omega), List.take_of_length_le (by omega)]
  · rw [List.drop_append_of_le_length (by simp [l4]), List.drop_of_length_le (by simp [l4])]
    rfl
/-- The law's last test. -/
theorem ckB_false {w : List Int} (hb : Sum.bytes w) (ok : Bool) (hok : ok = (errA w == 0)) : (ok && (!(((bytesOf (againA w)).extract 0 18).toList == (bytesOf (part w 0 18)).toList) || !(((bytesOf (againA w)).extract 24 (bytesOf (againA w)).size).toList == (bytesOf ((w.take w.length).drop 24)).toList) || ((0 : Int) != 0) || ((0 : Int) != 0))) = false := by
  subst hok
  cases he : (errA w == 0)
  · rfl
  · have h := eq_of_beq he
    have hl := badA_len (errA_form h)
    obtain ⟨h1, h2⟩ := again_parts hb h
    have h3 : List.drop 24 (List.take w.length w) = part w 24 28 := by rw [hl]; rfl
    rw [bytesOf_extract, bytesOf_extract, bytesOf_size, again_len, List.drop_zero, h1, h2, h3, List.take_of_length_le (by rw [part4 w 24 (by omega)]; exact Nat.le_refl 4)]
    simp
theorem row4_bytes {a v xs : List Int} (ha : Sum.bytes a) (hv : Sum.bytes v) (hx : Sum.bytes xs) (n : Nat) (g : Nat) : Sum.bytes ([a, v, xs, List.take n (List.drop 0 v)].getD g []) := by
  match g with
  | 0 => exact ha
  | 1 => exact hv
  | 2 => exact hx
  | 3 => exact bytes_take _ (bytes_drop _ hv)
  | (k + 4) => intro c hc; cases hc
theorem row4_len {a v xs : List Int} (ha : a.length = 28) (hv : v.length = 28) (hx : lenOk xs) (n : Nat) (g : Nat) : ([a, v, xs, List.take n (List.drop 0 v)].getD g []).length < 9223372036854775808 := by
  match g with
  | 0 => show a.length < _; omega
  | 1 => show v.length < _; omega
  | 2 => exact hx
  | 3 => show (List.take n (List.drop 0 v)).length < _; rw [List.length_take, List.length_drop]; omega
  | (k + 4) => show 0 < _; decide
theorem arpB_bytes {a : Bool} {f t m0 m1 m2 m3 m4 m5 : Int} (hf : inR 4294967296 f) (ht : inR 4294967296 t) (hm : macB m0 m1 m2 m3 m4 m5) : Sum.bytes (arpB a f t m0 m1 m2 m3 m4 m5) := by
  rw [arpB_eq _ _ _ _ _ _ _ _ _ hf ht]
  refine bytes_app (bytes_app (bytes_app (bytes_app ?_ hm) (ipL_bytes f)) ?_) (ipL_bytes t)
  · intro c hc
    simp only [List.mem_cons, List.not_mem_nil, or_false] at hc
    unfold opA at hc
    rcases hc with rfl | rfl | rfl | rfl | rfl | rfl | rfl | rfl <;> first | omega | (cases a <;> decide)
  · intro c hc
    simp only [List.mem_cons, List.not_mem_nil, or_false] at hc
    omega
theorem arpB_len {a : Bool} {f t m0 m1 m2 m3 m4 m5 : Int} (hf : inR 4294967296 f) (ht : inR 4294967296 t) : (arpB a f t m0 m1 m2 m3 m4 m5).length = 28 := by
  rw [arpB_eq _ _ _ _ _ _ _ _ _ hf ht]
  rfl
end Go.Proofs.Ytghaljkohheioaa.Wire
