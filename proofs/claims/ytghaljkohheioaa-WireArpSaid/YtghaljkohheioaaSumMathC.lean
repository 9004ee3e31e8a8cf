/- Sums of bytes: when the sum of words comes to nothing. -/
import Derived.Test.YtghaljkohheioaaSumMathB
namespace Go.Proofs.Ytghaljkohheioaa.Sum
open Go Go.Proofs.Ytghaljkohheioaa.Sx

def bytes (xs : List Int) : Prop := ∀ c ∈ xs, 0 ≤ c ∧ c < 256
/-- The plain sum of the words. -/
def SW (k : Nat) : List Int → Int
  | [] => 0
  | c :: r => byteW k c + SW (k + 1) r
theorem SW_append : ∀ (a b : List Int) (k : Nat), SW k (a ++ b) = SW k a + SW (k + a.length) b
  | [], b, k => by simp [SW]
  | c :: a, b, k => by
    rw [List.cons_append, SW, SW, SW_append a b (k + 1), List.length_cons, show k + 1 + a.length = k + (a.length + 1) by omega]
    omega
theorem byteW_rng {k : Nat} {c : Int} (h : 0 ≤ c ∧ c < 256) : 0 ≤ byteW k c ∧ byteW k c ≤ 65280 := by unfold byteW; split <;> omega
theorem SW_nonneg : ∀ (a : List Int) (k : Nat), bytes a → 0 ≤ SW k a
  | [], k, _ => by simp [SW]
  | c :: a, k, h => by
    have h1 := byteW_rng (k := k) (h c (List.mem_cons_self ..))
    have h2 := SW_nonneg a (k + 1) fun c hc => h c (List.mem_cons_of_mem _ hc)
    rw [SW]; omega
theorem SW_set : ∀ (a : List Int) (i k : Nat) (x : Int), i < a.length → SW k (a.set i x) = SW k a + byteW (k + i) x - byteW (k + i) (a.getD i 0)
  | [], i, k, x, h => by simp at h
  | c :: a, 0, k, x, h => by simp [SW]; omega
  | c :: a, i + 1, k, x, h => by
    rw [List.set_cons_succ, SW, SW, SW_set a i (k + 1) x (by simpa using h), show k + 1 + i = k + (i + 1) by omega]
    simp
    omega
theorem bytes_get {xs : List Int} (h : bytes xs) {k : Nat} (hk : k < xs.length) : 0 ≤ xs.getD k 0 ∧ xs.getD k 0 < 256 := by
  rw [List.getD_eq_getElem?_getD, List.getElem?_eq_getElem hk]
  exact h _ (List.getElem_mem hk)
theorem bytes_app {a b : List Int} (ha : bytes a) (hb : bytes b) : bytes (a ++ b) := fun c hc => by
  rcases List.mem_append.1 hc with h | h
  · exact ha c h
  · exact hb c h
theorem bytes_take {a : List Int} (n : Nat) (ha : bytes a) : bytes (a.take n) := fun c hc => ha c (List.mem_of_mem_take hc)
theorem bytes_drop {a : List Int} (n : Nat) (ha : bytes a) : bytes (a.drop n) := fun c hc => ha c (List.mem_of_mem_drop hc)
theorem bytes_set {a : List Int} {i : Nat} {x : Int} (ha : bytes a) (hx : 0 ≤ x ∧ x < 256) : bytes (a.set i x) := fun c hc => by
  rcases List.mem_or_eq_of_mem_set hc with h | h
  · exact ha c h
  · rw [h]; exact hx
theorem bytes_two {a b : Int} (ha : 0 ≤ a ∧ a < 256) (hb : 0 ≤ b ∧ b < 256) : bytes [a, b] := fun c hc => by
  rcases List.mem_cons.1 hc with rfl | hc
  · exact ha
  · rw [List.mem_singleton.1 hc]; exact hb
theorem wrap8 (n : Int) : IntKind.u8.wrap n = n % 256 := by simp [IntKind.wrap, IntKind.bits, IntKind.signed]
theorem wrap8_rng (n : Int) : 0 ≤ IntKind.u8.wrap n ∧ IntKind.u8.wrap n < 256 := by rw [wrap8]; omega
/-- The sum of words is the plain sum, its carries brought round. -/
theorem w_sum (xs : List Int) (h : bytes xs) : ∀ k, k ≤ xs.length → (0 ≤ wAt xs k ∧ wAt xs k ≤ 65535) ∧ (wAt xs k = 0 → SW 0 (xs.take k) = 0) ∧ ∃ q : Int, 0 ≤ q ∧ SW 0 (xs.take k) = wAt xs k + 65535 * q := by
  intro k
  induction k with
  | zero => intro _; exact ⟨by show (0 : Int) ≤ 0 ∧ (0 : Int) ≤ 65535; omega, fun _ => rfl, 0, by omega, rfl⟩
  | succ k ih =>
    intro hk
    obtain ⟨h1, h0, q, hq, h2⟩ := ih (by omega)
    have hc := bytes_get h (k := k) (by omega)
    have hb := byteW_rng (k := k) hc
    have hs : SW 0 (xs.take (k + 1)) = SW 0 (xs.take k) + byteW k (xs.getD k 0) := by
      have hlt : k < xs.length := by omega
      rw [List.take_add_one, SW_append, List.getElem?_eq_getElem hlt, List.length_take_of_le (by omega)]
      simp [SW, List.getD, List.getElem?_eq_getElem hlt]
    have hstep : wAt xs (k + 1) = downV (wAt xs k + byteW k (xs.getD k 0)) := by
      show stepW (wAt xs k) k (xs.getD k 0) = _
      rw [stepW_eq h1 hc]
    rw [hstep, hs]
    unfold downV
    by_cases hgt : wAt xs k + byteW k (xs.getD k 0) > 65535
    · rw [if_pos (decide_eq_true hgt), IntKind.wrap_i64]
      exact ⟨by omega, fun _ => by omega, q + 1, by omega, by omega⟩
    · rw [if_neg (by simpa using hgt)]
      exact ⟨by omega, fun hz => by have := h0 (by omega); omega, q, hq, by omega⟩
theorem w_all (xs : List Int) (h : bytes xs) : (0 ≤ wAt xs xs.length ∧ wAt xs xs.length ≤ 65535) ∧ (wAt xs xs.length = 0 → SW 0 xs = 0) ∧ ∃ q : Int, 0 ≤ q ∧ SW 0 xs = wAt xs xs.length + 65535 * q := by
  have := w_sum xs h xs.length (Nat.le_refl _)
  rw [List.take_length] at this
  exact this
theorem notW_eq (xs : List Int) (h : bytes xs) : notW (IntKind.u16.wrap (wAt xs xs.length)) = 65535 - wAt xs xs.length := not16 (w_all xs h).1
/-- The sum comes to nothing: the plain sum is a multiple of 65535 that is not 0. -/
theorem zero_iff (xs : List Int) (h : bytes xs) : (notW (IntKind.u16.wrap (wAt xs xs.length)) == 0) = true ↔ 0 < SW 0 xs ∧ SW 0 xs % 65535 = 0 := by
  obtain ⟨h1, h0, q, hq, h2⟩ := w_all xs h
  rw [notW_eq xs h, beq_iff_eq]
  constructor
  · intro hz; omega
  · intro ⟨ha, hb⟩
    have : wAt xs xs.length ≠ 0 := fun hz => by have := h0 hz; omega
    omega
/-- The two bytes of a sum. -/
theorem hi_lo {s : Int} (h : 0 ≤ s ∧ s ≤ 65535) : 256 * IntKind.u8.wrap (shr .u16 s 8) + IntKind.u8.wrap s = s := by
  have : shr .u16 s 8 = s / 256 := by
    unfold shr
    rw [show (2 : Int) ^ (min (8 : Int).toNat IntKind.u16.bits) = 256 from rfl, Int.fdiv_eq_ediv_of_nonneg _ (by omega)]
  rw [this, wrap8, wrap8]
  omega
theorem byteW_even {k : Nat} (h : k % 2 = 0) (c : Int) : byteW k c = 256 * c := by unfold byteW; rw [if_pos h]
theorem byteW_odd {k : Nat} (h : k % 2 = 1) (c : Int) : byteW k c = c := by unfold byteW; rw [if_neg (by omega)]
/-- The sum laid behind the row. -/
theorem sealed_end (v : List Int) (h : bytes v) (he : v.length % 2 = 0) (hp : 0 < SW 0 v) (s : Int) (hs : s = notW (IntKind.u16.wrap (wAt v v.length))) :
    bytes (v ++ [IntKind.u8.wrap (shr .u16 s 8), IntKind.u8.wrap s]) ∧ (notW (IntKind.u16.wrap (wAt (v ++ [IntKind.u8.wrap (shr .u16 s 8), IntKind.u8.wrap s]) (v ++ [IntKind.u8.wrap (shr .u16 s 8), IntKind.u8.wrap s]).length)) == 0) = true := by
  obtain ⟨h1, h0, q, hq, h2⟩ := w_all v h
  rw [notW_eq v h] at hs
  have hb := bytes_app h (bytes_two (wrap8_rng (shr .u16 s 8)) (wrap8_rng s))
  refine ⟨hb, (zero_iff _ hb).2 ?_⟩
  rw [SW_append, SW, SW, SW, byteW_even (by omega), byteW_odd (by omega)]
  have := hi_lo (s := s) (by omega)
  omega
/-- The sum laid into the row. -/
theorem sealed_in (v : List Int) (h : bytes v) {k : Nat} (he : k % 2 = 0) (hk : k + 1 < v.length) (h0 : v.getD k 0 = 0) (h1 : v.getD (k + 1) 0 = 0) (s : Int) (hs : s = notW (IntKind.u16.wrap (wAt v v.length))) :
    (notW (IntKind.u16.wrap (wAt ((v.set k (IntKind.u8.wrap (shr .u16 s 8))).set (k + 1) (IntKind.u8.wrap s)) ((v.set k (IntKind.u8.wrap (shr .u16 s 8))).set (k + 1) (IntKind.u8.wrap s)).length)) == 0) = true := by
  obtain ⟨g1, g0, q, hq, g2⟩ := w_all v h
  rw [notW_eq v h] at hs
  have hb := bytes_set (i := k + 1) (bytes_set (i := k) h (wrap8_rng (shr .u16 s 8))) (wrap8_rng s)
  refine (zero_iff _ hb).2 ?_
  have hg : (v.set k (IntKind.u8.wrap (shr .u16 s 8))).getD (k + 1) 0 = v.getD (k + 1) 0 := by
    simp [List.getD, List.getElem?_set]
  rw [SW_set _ _ _ _ (by simpa using hk), SW_set _ _ _ _ (by omega), hg, h0, h1, Nat.zero_add, Nat.zero_add, byteW_even he, byteW_even he, byteW_odd (by omega), byteW_odd (by omega)]
  have := hi_lo (s := s) (by omega)
  omega
/-- A turned byte is seen. -/
theorem turned (v : List Int) (h : bytes v) (hz : (notW (IntKind.u16.wrap (wAt v v.length)) == 0) = true) {k : Nat} (hk : k < v.length) (x : Int) (hx : 0 ≤ x ∧ x < 256) :
    ((notW (IntKind.u16.wrap (wAt (v.set k x) (v.set k x).length)) == 0) == (v.getD k 0 == x)) = true := by
  have hb := bytes_set (i := k) h hx
  have h1 := (zero_iff v h).1 hz
  have h2 := zero_iff _ hb
  have hs := SW_set v k 0 x hk
  have ho := bytes_get h hk
  rw [Nat.zero_add] at hs
  rw [beq_iff_eq]
  by_cases hxe : v.getD k 0 = x
  · rw [hxe] at hs
    have : (notW (IntKind.u16.wrap (wAt (v.set k x) (v.set k x).length)) == 0) = true := h2.2 (by rw [hs]; omega)
    rw [this, hxe]
    simp
  · have e1 : (v.getD k 0 == x) = false := by simpa using hxe
    rw [e1]
    cases hc : (notW (IntKind.u16.wrap (wAt (v.set k x) (v.set k x).length)) == 0) with
    | false => rfl
    | true =>
      exfalso
      have h3 := h2.1 hc
      have : byteW k x = 256 * x ∧ byteW k (v.getD k 0) = 256 * v.getD k 0 ∨ byteW k x = x ∧ byteW k (v.getD k 0) = v.getD k 0 := by
        rcases Nat.mod_two_eq_zero_or_one k with hk | hk
        · exact .inl ⟨byteW_even hk _, byteW_even hk _⟩
        · exact .inr ⟨byteW_odd hk _, byteW_odd hk _⟩
      rcases this with ⟨p, q⟩ | ⟨p, q⟩ <;> rw [p, q] at hs <;> omega
end Go.Proofs.Ytghaljkohheioaa.Sum
