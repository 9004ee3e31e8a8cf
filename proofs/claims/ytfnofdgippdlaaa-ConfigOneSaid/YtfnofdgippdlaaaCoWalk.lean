/- The choices of an operator: each function's contract, and the law ConfigOne by the bodies' contracts. -/
import Derived.Test.YtfnofdgippdlaaaCoVc
namespace Go.Proofs.Ytfnofdgippdlaaa.Co
open Go Go.Proofs.Ytfnofdgippdlaaa.Sx

theorem dec_sound (e : E A) (T : Nat) (l : List (SV A)) (vs : List Value) (x : A T) (h : dec T l = some x) (hr : RepL Try.prog u e l vs) : RepL Try.prog u e (enc T x) vs := by
  unfold dec at h
  split at h <;> first | (cases h; exact hr) | cases h
theorem dec_len {T : Nat} {l : List (SV A)} {x : A T} (h : dec T l = some x) : l.length = Try.prog.cellsOf T := by
  unfold dec at h
  split at h <;> first | (cases h; kernel_rfl) | cases h
theorem law : Law Try.prog u := by
  refine ⟨fun e T l vs x h hr => dec_sound e T l vs x h hr, fun T l x h => dec_len h, ?_, ?_, ?_, ?_, fun T off t f h => (by cases h), fun T off S p h => (by cases h), fun t S h => (by cases h), fun t ps x h => (by cases h), fun T x h => (by cases h)⟩
  · intro T f x y h
    cases h
  · intro T x
    show (enc T x).all _ = true
    unfold enc
    split <;> rfl
  · intro T xs h
    cases h
  · intro T xs h
    cases h
theorem clean : ∀ (T : Nat) (x : A T), noOwn.go (u.enc T x) = true := by
  intro T x
  show noOwn.go (enc T x) = true
  unfold enc
  split <;> rfl
theorem mo : Try.prog.follows .mixedOrders = true := by kernel_rfl
theorem laws0 : Laws Try.prog u tab0 := { toLaw := law, clean := clean, tab := fun p hp => by cases hp }
theorem wrap_small (n : Int) (h : 0 ≤ n) (h2 : n < 1000000) : IntKind.i64.wrap n = n := by
  rw [IntKind.wrap_i64]
  omega
theorem right_key (c : Cf) (g : Nat) (hg : g < 9) (hlow : ∀ j, j < g → bad ((rows c).getD j ⟨0, 0, 0⟩) = false) (hb : bad ((rows c).getD g ⟨0, 0, 0⟩) = true) : (g : Int) = right c := by
  obtain ⟨c0, c1, c2, c3, c4, c5, c6, c7, c8⟩ := c
  have h0 := fun h => hlow 0 h
  have h1 := fun h => hlow 1 h
  have h2 := fun h => hlow 2 h
  have h3 := fun h => hlow 3 h
  have h4 := fun h => hlow 4 h
  have h5 := fun h => hlow 5 h
  have h6 := fun h => hlow 6 h
  have h7 := fun h => hlow 7 h
  clear hlow
  unfold right
  match g, hg with
  | 0, _ => simp [rows, bad] at hb; simp [hb]
  | 1, _ => simp [rows, bad] at *; (repeat rw [if_neg (by omega)]); rw [if_pos (by omega)]
  | 2, _ => simp [rows, bad] at *; (repeat rw [if_neg (by omega)]); rw [if_pos (by omega)]
  | 3, _ => simp [rows, bad] at *; (repeat rw [if_neg (by omega)]); rw [if_pos (by omega)]
  | 4, _ => simp [rows, bad] at *; (repeat rw [if_neg (by omega)]); rw [if_pos (by omega)]
  | 5, _ => simp [rows, bad] at *; (repeat rw [if_neg (by omega)]); rw [if_pos (by omega)]
  | 6, _ => simp [rows, bad] at *; (repeat rw [if_neg (by omega)]); rw [if_pos (by omega)]
  | 7, _ => simp [rows, bad] at *; (repeat rw [if_neg (by omega)]); rw [if_pos (by omega)]
  | 8, _ => simp [rows, bad] at *; (repeat rw [if_neg (by omega)]); rw [if_pos (by omega)]
theorem right_last (c : Cf) (hlow : ∀ j, j < 9 → bad ((rows c).getD j ⟨0, 0, 0⟩) = false) : -1 = right c := by
  obtain ⟨c0, c1, c2, c3, c4, c5, c6, c7, c8⟩ := c
  have h0 := hlow 0 (by omega)
  have h1 := hlow 1 (by omega)
  have h2 := hlow 2 (by omega)
  have h3 := hlow 3 (by omega)
  have h4 := hlow 4 (by omega)
  have h5 := hlow 5 (by omega)
  have h6 := hlow 6 (by omega)
  have h7 := hlow 7 (by omega)
  have h8 := hlow 8 (by omega)
  clear hlow
  unfold right
  simp [rows, bad] at *
  (repeat rw [if_neg (by omega)])
/-- A choice that may be. -/
def okC (y : Cf) : Prop := (1 ≤ y.c0 ∧ y.c0 ≤ 1000) ∧ (y.c0 ≤ y.c1 ∧ y.c1 ≤ 10000) ∧ (1 ≤ y.c2 ∧ y.c2 ≤ 6) ∧ (1 ≤ y.c3 ∧ y.c3 ≤ 1000) ∧ (1 ≤ y.c4 ∧ y.c4 ≤ 64) ∧ (1 ≤ y.c5 ∧ y.c5 ≤ 100) ∧ (0 ≤ y.c6 ∧ y.c6 ≤ 8) ∧ (1 ≤ y.c7 ∧ y.c7 ≤ 1000) ∧ (0 ≤ y.c8 ∧ y.c8 ≤ 1000)
theorem fz_eq {b n : Int} (h : 0 ≤ n ∧ n < 256) (hb : 0 < b) (hb2 : b < 1000) : fz b n = n % b := by
  unfold fz
  rw [Int.tmod_eq_emod_of_nonneg h.1, wrap_small _ (Int.emod_nonneg _ (by omega)) (by have := Int.emod_lt_of_pos n hb; omega)]
theorem fc_eq {b n : Int} (h : 0 ≤ n ∧ n < 256) (hb : 0 < b) (hb2 : b < 1000) : fc b n = 1 + n % b := by
  unfold fc
  rw [fz_eq h hb hb2, wrap_small _ (by have := Int.emod_nonneg n (show b ≠ 0 by omega); omega) (by have := Int.emod_lt_of_pos n hb; omega)]
theorem conf_ok {x : Cf} (h : u8c x) : okC (conf x) := by
  obtain ⟨h0, h1, h2, h3, h4, h5, h6, h7, h8⟩ := h
  have e1 : IntKind.i64.wrap (fc 30 x.c0 + fz 60 x.c1) = 1 + x.c0 % 30 + x.c1 % 60 := by
    rw [fc_eq h0 (by omega) (by omega), fz_eq h1 (by omega) (by omega), wrap_small _ (by omega) (by omega)]
  unfold okC conf
  simp only
  rw [e1, fc_eq h0 (by omega) (by omega), fc_eq h2 (by omega) (by omega), fc_eq h3 (by omega) (by omega), fc_eq h4 (by omega) (by omega), fc_eq h5 (by omega) (by omega), fz_eq h6 (by omega) (by omega), fc_eq h7 (by omega) (by omega), fz_eq h8 (by omega) (by omega)]
  omega
theorem or_t {a lo hi : Int} (h : a < lo ∨ a > hi) : (decide (a < lo) || decide (a > hi)) = true := by
  rcases h with h | h <;> simp [h]
theorem or_f {a lo hi : Int} (h : ¬ (a < lo ∨ a > hi)) : (decide (a < lo) || decide (a > hi)) = false := by
  rw [decide_eq_false (fun h1 => h (.inl h1)), decide_eq_false (fun h1 => h (.inr h1))]
  rfl
theorem one0 {y : Cf} (h : okC y) (n : Int) : (((0 : Int) == 0 && !(decide (n < 1) || decide (n > 1000)) && decide (y.c1 < n)) = true → (right ⟨n, y.c1, y.c2, y.c3, y.c4, y.c5, y.c6, y.c7, y.c8⟩ == 1) = true) ∧ (((0 : Int) == 0 && !(decide (n < 1) || decide (n > 1000)) && decide (y.c1 < n)) = false → ((decide (n < 1) || decide (n > 1000)) && right ⟨n, y.c1, y.c2, y.c3, y.c4, y.c5, y.c6, y.c7, y.c8⟩ == 0 || !(decide (n < 1) || decide (n > 1000)) && right ⟨n, y.c1, y.c2, y.c3, y.c4, y.c5, y.c6, y.c7, y.c8⟩ == -1) = true) := by
  obtain ⟨h0, h1, h2, h3, h4, h5, h6, h7, h8⟩ := h
  by_cases hb : n < 1 ∨ n > 1000
  · rw [or_t hb]
    refine ⟨fun h => by simp at h, fun _ => ?_⟩
    have : right ⟨n, y.c1, y.c2, y.c3, y.c4, y.c5, y.c6, y.c7, y.c8⟩ = 0 := by
      unfold right
      simp only
      rw [if_pos hb]
    rw [this]
    rfl
  · rw [or_f hb]
    by_cases hc : y.c1 < n
    · rw [decide_eq_true hc]
      refine ⟨fun _ => ?_, fun h => by simp at h⟩
      have : right ⟨n, y.c1, y.c2, y.c3, y.c4, y.c5, y.c6, y.c7, y.c8⟩ = 1 := by
        unfold right
        simp only
        rw [if_neg hb, if_pos (.inl hc)]
      rw [this]
      rfl
    · rw [decide_eq_false hc]
      refine ⟨fun h => by simp at h, fun _ => ?_⟩
      have : right ⟨n, y.c1, y.c2, y.c3, y.c4, y.c5, y.c6, y.c7, y.c8⟩ = -1 := by
        unfold right
        simp only
        (repeat rw [if_neg (by omega)])
      rw [this]
      rfl
theorem one1 {y : Cf} (h : okC y) (n : Int) : (((1 : Int) == 0 && !(decide (n < y.c0) || decide (n > 10000)) && decide (n < y.c0))  = true → (right ⟨y.c0, n, y.c2, y.c3, y.c4, y.c5, y.c6, y.c7, y.c8⟩ == 1) = true) ∧ (((1 : Int) == 0 && !(decide (n < y.c0) || decide (n > 10000)) && decide (n < y.c0))  = false → ((decide (n < y.c0) || decide (n > 10000)) && right ⟨y.c0, n, y.c2, y.c3, y.c4, y.c5, y.c6, y.c7, y.c8⟩ == 1 || !(decide (n < y.c0) || decide (n > 10000)) && right ⟨y.c0, n, y.c2, y.c3, y.c4, y.c5, y.c6, y.c7, y.c8⟩ == -1) = true) := by
  obtain ⟨h0, h1, h2, h3, h4, h5, h6, h7, h8⟩ := h
  refine ⟨fun h => by simp at h, fun _ => ?_⟩
  by_cases hb : n < y.c0 ∨ n > 10000
  · rw [or_t hb]
    have : right ⟨y.c0, n, y.c2, y.c3, y.c4, y.c5, y.c6, y.c7, y.c8⟩ = 1 := by
      unfold right
      simp only
      rw [if_neg (by omega)]
      rw [if_pos hb]
    rw [this]
    rfl
  · rw [or_f hb]
    have : right ⟨y.c0, n, y.c2, y.c3, y.c4, y.c5, y.c6, y.c7, y.c8⟩ = -1 := by
      unfold right
      simp only
      (repeat rw [if_neg (by omega)])
    rw [this]
    rfl
theorem one2 {y : Cf} (h : okC y) (n : Int) : (((2 : Int) == 0 && !(decide (n < 1) || decide (n > 6)) && decide (y.c1 < y.c0))  = true → (right ⟨y.c0, y.c1, n, y.c3, y.c4, y.c5, y.c6, y.c7, y.c8⟩ == 1) = true) ∧ (((2 : Int) == 0 && !(decide (n < 1) || decide (n > 6)) && decide (y.c1 < y.c0))  = false → ((decide (n < 1) || decide (n > 6)) && right ⟨y.c0, y.c1, n, y.c3, y.c4, y.c5, y.c6, y.c7, y.c8⟩ == 2 || !(decide (n < 1) || decide (n > 6)) && right ⟨y.c0, y.c1, n, y.c3, y.c4, y.c5, y.c6, y.c7, y.c8⟩ == -1) = true) := by
  obtain ⟨h0, h1, h2, h3, h4, h5, h6, h7, h8⟩ := h
  refine ⟨fun h => by simp at h, fun _ => ?_⟩
  by_cases hb : n < 1 ∨ n > 6
  · rw [or_t hb]
    have : right ⟨y.c0, y.c1, n, y.c3, y.c4, y.c5, y.c6, y.c7, y.c8⟩ = 2 := by
      unfold right
      simp only
      rw [if_neg (by omega)]
      rw [if_neg (by omega)]
      rw [if_pos hb]
    rw [this]
    rfl
  · rw [or_f hb]
    have : right ⟨y.c0, y.c1, n, y.c3, y.c4, y.c5, y.c6, y.c7, y.c8⟩ = -1 := by
      unfold right
      simp only
      (repeat rw [if_neg (by omega)])
    rw [this]
    rfl
theorem one3 {y : Cf} (h : okC y) (n : Int) : (((3 : Int) == 0 && !(decide (n < 1) || decide (n > 1000)) && decide (y.c1 < y.c0))  = true → (right ⟨y.c0, y.c1, y.c2, n, y.c4, y.c5, y.c6, y.c7, y.c8⟩ == 1) = true) ∧ (((3 : Int) == 0 && !(decide (n < 1) || decide (n > 1000)) && decide (y.c1 < y.c0))  = false → ((decide (n < 1) || decide (n > 1000)) && right ⟨y.c0, y.c1, y.c2, n, y.c4, y.c5, y.c6, y.c7, y.c8⟩ == 3 || !(decide (n < 1) || decide (n > 1000)) && right ⟨y.c0, y.c1, y.c2, n, y.c4, y.c5, y.c6, y.c7, y.c8⟩ == -1) = true) := by
  obtain ⟨h0, h1, h2, h3, h4, h5, h6, h7, h8⟩ := h
  refine ⟨fun h => by simp at h, fun _ => ?_⟩
  by_cases hb : n < 1 ∨ n > 1000
  · rw [or_t hb]
    have : right ⟨y.c0, y.c1, y.c2, n, y.c4, y.c5, y.c6, y.c7, y.c8⟩ = 3 := by
      unfold right
      simp only
      rw [if_neg (by omega)]
      rw [if_neg (by omega)]
      rw [if_neg (by omega)]
      rw [if_pos hb]
    rw [this]
    rfl
  · rw [or_f hb]
    have : right ⟨y.c0, y.c1, y.c2, n, y.c4, y.c5, y.c6, y.c7, y.c8⟩ = -1 := by
      unfold right
      simp only
      (repeat rw [if_neg (by omega)])
    rw [this]
    rfl
theorem one4 {y : Cf} (h : okC y) (n : Int) : (((4 : Int) == 0 && !(decide (n < 1) || decide (n > 64)) && decide (y.c1 < y.c0))  = true → (right ⟨y.c0, y.c1, y.c2, y.c3, n, y.c5, y.c6, y.c7, y.c8⟩ == 1) = true) ∧ (((4 : Int) == 0 && !(decide (n < 1) || decide (n > 64)) && decide (y.c1 < y.c0))  = false → ((decide (n < 1) || decide (n > 64)) && right ⟨y.c0, y.c1, y.c2, y.c3, n, y.c5, y.c6, y.c7, y.c8⟩ == 4 || !(decide (n < 1) || decide (n > 64)) && right ⟨y.c0, y.c1, y.c2, y.c3, n, y.c5, y.c6, y.c7, y.c8⟩ == -1) = true) := by
  obtain ⟨h0, h1, h2, h3, h4, h5, h6, h7, h8⟩ := h
  refine ⟨fun h => by simp at h, fun _ => ?_⟩
  by_cases hb : n < 1 ∨ n > 64
  · rw [or_t hb]
    have : right ⟨y.c0, y.c1, y.c2, y.c3, n, y.c5, y.c6, y.c7, y.c8⟩ = 4 := by
      unfold right
      simp only
      rw [if_neg (by omega)]
      rw [if_neg (by omega)]
      rw [if_neg (by omega)]
      rw [if_neg (by omega)]
      rw [if_pos hb]
    rw [this]
    rfl
  · rw [or_f hb]
    have : right ⟨y.c0, y.c1, y.c2, y.c3, n, y.c5, y.c6, y.c7, y.c8⟩ = -1 := by
      unfold right
      simp only
      (repeat rw [if_neg (by omega)])
    rw [this]
    rfl
theorem one5 {y : Cf} (h : okC y) (n : Int) : (((5 : Int) == 0 && !(decide (n < 1) || decide (n > 100)) && decide (y.c1 < y.c0))  = true → (right ⟨y.c0, y.c1, y.c2, y.c3, y.c4, n, y.c6, y.c7, y.c8⟩ == 1) = true) ∧ (((5 : Int) == 0 && !(decide (n < 1) || decide (n > 100)) && decide (y.c1 < y.c0))  = false → ((decide (n < 1) || decide (n > 100)) && right ⟨y.c0, y.c1, y.c2, y.c3, y.c4, n, y.c6, y.c7, y.c8⟩ == 5 || !(decide (n < 1) || decide (n > 100)) && right ⟨y.c0, y.c1, y.c2, y.c3, y.c4, n, y.c6, y.c7, y.c8⟩ == -1) = true) := by
  obtain ⟨h0, h1, h2, h3, h4, h5, h6, h7, h8⟩ := h
  refine ⟨fun h => by simp at h, fun _ => ?_⟩
  by_cases hb : n < 1 ∨ n > 100
  · rw [or_t hb]
    have : right ⟨y.c0, y.c1, y.c2, y.c3, y.c4, n, y.c6, y.c7, y.c8⟩ = 5 := by
      unfold right
      simp only
      rw [if_neg (by omega)]
      rw [if_neg (by omega)]
      rw [if_neg (by omega)]
      rw [if_neg (by omega)]
      rw [if_neg (by omega)]
      rw [if_pos hb]
    rw [this]
    rfl
  · rw [or_f hb]
    have : right ⟨y.c0, y.c1, y.c2, y.c3, y.c4, n, y.c6, y.c7, y.c8⟩ = -1 := by
      unfold right
      simp only
      (repeat rw [if_neg (by omega)])
    rw [this]
    rfl
theorem one6 {y : Cf} (h : okC y) (n : Int) : (((6 : Int) == 0 && !(decide (n < 0) || decide (n > 8)) && decide (y.c1 < y.c0))  = true → (right ⟨y.c0, y.c1, y.c2, y.c3, y.c4, y.c5, n, y.c7, y.c8⟩ == 1) = true) ∧ (((6 : Int) == 0 && !(decide (n < 0) || decide (n > 8)) && decide (y.c1 < y.c0))  = false → ((decide (n < 0) || decide (n > 8)) && right ⟨y.c0, y.c1, y.c2, y.c3, y.c4, y.c5, n, y.c7, y.c8⟩ == 6 || !(decide (n < 0) || decide (n > 8)) && right ⟨y.c0, y.c1, y.c2, y.c3, y.c4, y.c5, n, y.c7, y.c8⟩ == -1) = true) := by
  obtain ⟨h0, h1, h2, h3, h4, h5, h6, h7, h8⟩ := h
  refine ⟨fun h => by simp at h, fun _ => ?_⟩
  by_cases hb : n < 0 ∨ n > 8
  · rw [or_t hb]
    have : right ⟨y.c0, y.c1, y.c2, y.c3, y.c4, y.c5, n, y.c7, y.c8⟩ = 6 := by
      unfold right
      simp only
      rw [if_neg (by omega)]
      rw [if_neg (by omega)]
      rw [if_neg (by omega)]
      rw [if_neg (by omega)]
      rw [if_neg (by omega)]
      rw [if_neg (by omega)]
      rw [if_pos hb]
    rw [this]
    rfl
  · rw [or_f hb]
    have : right ⟨y.c0, y.c1, y.c2, y.c3, y.c4, y.c5, n, y.c7, y.c8⟩ = -1 := by
      unfold right
      simp only
      (repeat rw [if_neg (by omega)])
    rw [this]
    rfl
theorem one7 {y : Cf} (h : okC y) (n : Int) : (((7 : Int) == 0 && !(decide (n < 1) || decide (n > 1000)) && decide (y.c1 < y.c0))  = true → (right ⟨y.c0, y.c1, y.c2, y.c3, y.c4, y.c5, y.c6, n, y.c8⟩ == 1) = true) ∧ (((7 : Int) == 0 && !(decide (n < 1) || decide (n > 1000)) && decide (y.c1 < y.c0))  = false → ((decide (n < 1) || decide (n > 1000)) && right ⟨y.c0, y.c1, y.c2, y.c3, y.c4, y.c5, y.c6, n, y.c8⟩ == 7 || !(decide (n < 1) || decide (n > 1000)) && right ⟨y.c0, y.c1, y.c2, y.c3, y.c4, y.c5, y.c6, n, y.c8⟩ == -1) = true) := by
  obtain ⟨h0, h1, h2, h3, h4, h5, h6, h7, h8⟩ := h
  refine ⟨fun h => by simp at h, fun _ => ?_⟩
  by_cases hb : n < 1 ∨ n > 1000
  · rw [or_t hb]
    have : right ⟨y.c0, y.c1, y.c2, y.c3, y.c4, y.c5, y.c6, n, y.c8⟩ = 7 := by
      unfold right
      simp only
      rw [if_neg (by omega)]
      rw [if_neg (by omega)]
      rw [if_neg (by omega)]
      rw [if_neg (by omega)]
      rw [if_neg (by omega)]
      rw [if_neg (by omega)]
      rw [if_neg (by omega)]
      rw [if_pos hb]
    rw [this]
    rfl
  · rw [or_f hb]
    have : right ⟨y.c0, y.c1, y.c2, y.c3, y.c4, y.c5, y.c6, n, y.c8⟩ = -1 := by
      unfold right
      simp only
      (repeat rw [if_neg (by omega)])
    rw [this]
    rfl
theorem one8 {y : Cf} (h : okC y) (n : Int) : (((8 : Int) == 0 && !(decide (n < 0) || decide (n > 1000)) && decide (y.c1 < y.c0))  = true → (right ⟨y.c0, y.c1, y.c2, y.c3, y.c4, y.c5, y.c6, y.c7, n⟩ == 1) = true) ∧ (((8 : Int) == 0 && !(decide (n < 0) || decide (n > 1000)) && decide (y.c1 < y.c0))  = false → ((decide (n < 0) || decide (n > 1000)) && right ⟨y.c0, y.c1, y.c2, y.c3, y.c4, y.c5, y.c6, y.c7, n⟩ == 8 || !(decide (n < 0) || decide (n > 1000)) && right ⟨y.c0, y.c1, y.c2, y.c3, y.c4, y.c5, y.c6, y.c7, n⟩ == -1) = true) := by
  obtain ⟨h0, h1, h2, h3, h4, h5, h6, h7, h8⟩ := h
  refine ⟨fun h => by simp at h, fun _ => ?_⟩
  by_cases hb : n < 0 ∨ n > 1000
  · rw [or_t hb]
    have : right ⟨y.c0, y.c1, y.c2, y.c3, y.c4, y.c5, y.c6, y.c7, n⟩ = 8 := by
      unfold right
      simp only
      rw [if_neg (by omega)]
      rw [if_neg (by omega)]
      rw [if_neg (by omega)]
      rw [if_neg (by omega)]
      rw [if_neg (by omega)]
      rw [if_neg (by omega)]
      rw [if_neg (by omega)]
      rw [if_neg (by omega)]
      rw [if_pos hb]
    rw [this]
    rfl
  · rw [or_f hb]
    have : right ⟨y.c0, y.c1, y.c2, y.c3, y.c4, y.c5, y.c6, y.c7, n⟩ = -1 := by
      unfold right
      simp only
      (repeat rw [if_neg (by omega)])
    rw [this]
    rfl
theorem bodyClamp (n low high : Int) : BodyOk Try.prog u tab0 [] [] Try.f26 [.int .i64 n, .int .i64 low, .int .i64 high] (.int .i64 (clamp n low high)) := by
  constructor
  have eqn : bodyW Try.prog u tab0 [] (drawW Try.prog u tab0) (loopsBy u []) Try.f26 [.int .i64 n, .int .i64 low, .int .i64 high] (.int .i64 (clamp n low high)) = vcClamp n low high := by kernel_rfl
  rw [eqn]
  rfl
theorem okClamp : FnOk Try.prog u 26 spClamp := by
  refine fn_ok Try.prog u tab0 mo laws0 Try.func26 ?_
  intro xs c y h hc
  unfold spClamp at h
  split at h
  · cases h
    exact ⟨by kernel_rfl, _, _, bodyClamp _ _ _⟩
  · cases h
theorem laws1 : Laws Try.prog u tab1 := by
  refine ⟨law, clean, fun p hp => ?_⟩
  rcases List.mem_cons.1 hp with rfl | hp
  · exact okClamp
  exact laws0.tab p hp
theorem bodyFit (c0 c1 c2 c3 c4 c5 c6 c7 c8 : Int) : BodyOk Try.prog u tab1 [] [] Try.f25 [.agg [.int .i64 c0, .int .i64 c1, .int .i64 c2, .int .i64 c3, .int .i64 c4, .int .i64 c5, .int .i64 c6, .int .i64 c7, .int .i64 c8]] (.agg (cfg (fit ⟨c0, c1, c2, c3, c4, c5, c6, c7, c8⟩))) := by
  constructor
  have eqn : bodyW Try.prog u tab1 [] (drawW Try.prog u tab1) (loopsBy u []) Try.f25 [.agg [.int .i64 c0, .int .i64 c1, .int .i64 c2, .int .i64 c3, .int .i64 c4, .int .i64 c5, .int .i64 c6, .int .i64 c7, .int .i64 c8]] (.agg (cfg (fit ⟨c0, c1, c2, c3, c4, c5, c6, c7, c8⟩))) = vcFit c0 c1 c2 c3 c4 c5 c6 c7 c8 := by kernel_rfl
  rw [eqn]
  exact ⟨rfl, rfl, rfl, rfl, rfl, rfl, rfl, rfl, rfl⟩
theorem okFit : FnOk Try.prog u 25 spFit := by
  refine fn_ok Try.prog u tab1 mo laws1 Try.func25 ?_
  intro xs c y h hc
  unfold spFit at h
  split at h
  · cases h
    exact ⟨by kernel_rfl, _, _, bodyFit _ _ _ _ _ _ _ _ _⟩
  · cases h
theorem bodyRight (c0 c1 c2 c3 c4 c5 c6 c7 c8 : Int) : BodyOk Try.prog u tab1 [] [(0, .inv (annRight ⟨c0, c1, c2, c3, c4, c5, c6, c7, c8⟩))] Try.f22 [.agg [.int .i64 c0, .int .i64 c1, .int .i64 c2, .int .i64 c3, .int .i64 c4, .int .i64 c5, .int .i64 c6, .int .i64 c7, .int .i64 c8]] (.int .i64 (right ⟨c0, c1, c2, c3, c4, c5, c6, c7, c8⟩)) := by
  constructor
  have eqn : bodyW Try.prog u tab1 [] (drawW Try.prog u tab1) (loopsBy u [(0, .inv (annRight ⟨c0, c1, c2, c3, c4, c5, c6, c7, c8⟩))]) Try.f22 [.agg [.int .i64 c0, .int .i64 c1, .int .i64 c2, .int .i64 c3, .int .i64 c4, .int .i64 c5, .int .i64 c6, .int .i64 c7, .int .i64 c8]] (.int .i64 (right ⟨c0, c1, c2, c3, c4, c5, c6, c7, c8⟩)) = vcRight c0 c1 c2 c3 c4 c5 c6 c7 c8 := by kernel_rfl
  rw [eqn]
  unfold vcRight
  refine ⟨⟨0, ⟨by omega, fun j h => by omega⟩, ⟨trivial, rfl, rfl⟩, rfl⟩, ?_⟩
  rintro g ⟨h1, h2⟩
  refine ⟨fun hlt => ?_, fun hge => ?_⟩
  · have hlt : (g : Int) < 9 := of_decide_eq_true hlt
    refine ⟨⟨by omega, hlt⟩, fun hb => right_key _ g (by omega) h2 hb, fun hb => ⟨g + 1, ⟨by omega, fun j hj => ?_⟩, ?_, ⟨trivial, rfl, ?_⟩, rfl⟩⟩
    · by_cases hjg : j = g
      · subst hjg; exact hb
      · exact h2 j (by omega)
    · show 9 - (g + 1) < 9 - g
      omega
    · rw [wrap_small _ (by omega) (by omega)]; omega
  · have hge : ¬ (g : Int) < 9 := of_decide_eq_false hge
    exact right_last _ fun j hj => h2 j (by omega)
theorem okRight : FnOk Try.prog u 22 spRight := by
  refine fn_ok Try.prog u tab1 mo laws1 Try.func22 ?_
  intro xs c y h hc
  unfold spRight at h
  split at h
  · cases h
    exact ⟨by kernel_rfl, _, _, bodyRight _ _ _ _ _ _ _ _ _⟩
  · cases h
theorem bodyNew : BodyOk Try.prog u tab1 [] [] Try.f24 [] (.agg (cfg ⟨20, 60, 2, 10, 4, 3, 1, 30, 40⟩)) := by
  constructor
  have eqn : bodyW Try.prog u tab1 [] (drawW Try.prog u tab1) (loopsBy u []) Try.f24 [] (.agg (cfg ⟨20, 60, 2, 10, 4, 3, 1, 30, 40⟩)) = vcNew  := by kernel_rfl
  rw [eqn]
  exact ⟨rfl, rfl, rfl, rfl, rfl, rfl, rfl, rfl, rfl⟩
theorem okNew : FnOk Try.prog u 24 spNew := by
  refine fn_ok Try.prog u tab1 mo laws1 Try.func24 ?_
  intro xs c y h hc
  unfold spNew at h
  split at h
  · cases h
    exact ⟨by kernel_rfl, _, _, bodyNew⟩
  · cases h
theorem bodyRow (c0 c1 c2 c3 c4 c5 c6 c7 c8 : Int) : BodyOk Try.prog u tab1 [] [] Try.f21 [.agg [.int .i64 c0, .int .i64 c1, .int .i64 c2, .int .i64 c3, .int .i64 c4, .int .i64 c5, .int .i64 c6, .int .i64 c7, .int .i64 c8]] (.agg (rowL ⟨c0, c1, c2, c3, c4, c5, c6, c7, c8⟩)) := by
  constructor
  have eqn : bodyW Try.prog u tab1 [] (drawW Try.prog u tab1) (loopsBy u []) Try.f21 [.agg [.int .i64 c0, .int .i64 c1, .int .i64 c2, .int .i64 c3, .int .i64 c4, .int .i64 c5, .int .i64 c6, .int .i64 c7, .int .i64 c8]] (.agg (rowL ⟨c0, c1, c2, c3, c4, c5, c6, c7, c8⟩)) = vcRow c0 c1 c2 c3 c4 c5 c6 c7 c8 := by kernel_rfl
  rw [eqn]
  unfold vcRow
  simp only [and_self]
theorem okRow : FnOk Try.prog u 21 spRow := by
  refine fn_ok Try.prog u tab1 mo laws1 Try.func21 ?_
  intro xs c y h hc
  unfold spRow at h
  split at h
  · cases h
    exact ⟨by kernel_rfl, _, _, bodyRow _ _ _ _ _ _ _ _ _⟩
  · cases h
theorem bodyConf (c0 c1 c2 c3 c4 c5 c6 c7 c8 : Int) : BodyOk Try.prog u tab1 [] [] Try.f23 [.agg [.int .u8 c0, .int .u8 c1, .int .u8 c2, .int .u8 c3, .int .u8 c4, .int .u8 c5, .int .u8 c6, .int .u8 c7, .int .u8 c8]] (.agg (cfg (conf ⟨c0, c1, c2, c3, c4, c5, c6, c7, c8⟩))) := by
  constructor
  have eqn : bodyW Try.prog u tab1 [] (drawW Try.prog u tab1) (loopsBy u []) Try.f23 [.agg [.int .u8 c0, .int .u8 c1, .int .u8 c2, .int .u8 c3, .int .u8 c4, .int .u8 c5, .int .u8 c6, .int .u8 c7, .int .u8 c8]] (.agg (cfg (conf ⟨c0, c1, c2, c3, c4, c5, c6, c7, c8⟩))) = vcConf c0 c1 c2 c3 c4 c5 c6 c7 c8 := by kernel_rfl
  rw [eqn]
  unfold vcConf
  exact ⟨by decide, by decide, by decide, by decide, by decide, by decide, by decide, by decide, by decide, rfl, rfl, rfl, rfl, rfl, rfl, rfl, rfl, rfl⟩
theorem okConf : FnOk Try.prog u 23 spConf := by
  refine fn_ok Try.prog u tab1 mo laws1 Try.func23 ?_
  intro xs c y h hc
  unfold spConf at h
  split at h
  · cases h
    exact ⟨by kernel_rfl, _, _, bodyConf _ _ _ _ _ _ _ _ _⟩
  · cases h
theorem laws2 : Laws Try.prog u tab2 := by
  refine ⟨law, clean, fun p hp => ?_⟩
  rcases List.mem_cons.1 hp with rfl | hp
  · exact okFit
  rcases List.mem_cons.1 hp with rfl | hp
  · exact okRight
  rcases List.mem_cons.1 hp with rfl | hp
  · exact okNew
  rcases List.mem_cons.1 hp with rfl | hp
  · exact okRow
  rcases List.mem_cons.1 hp with rfl | hp
  · exact okConf
  exact laws1.tab p hp
theorem bodyAwake : BodyOk Try.prog u tab2 [] [] Try.f20 [] (.lit true) := by
  constructor
  have eqn : bodyW Try.prog u tab2 [] (drawW Try.prog u tab2) (loopsBy u []) Try.f20 [] (.lit true) = vcAwake  := by kernel_rfl
  rw [eqn]
  unfold vcAwake
  decide
theorem okAwake : FnOk Try.prog u 20 spAwake := by
  refine fn_ok Try.prog u tab2 mo laws2 Try.func20 ?_
  intro xs c y h hc
  unfold spAwake at h
  split at h
  · cases h
    exact ⟨by kernel_rfl, _, _, bodyAwake⟩
  · cases h
theorem laws3 : Laws Try.prog u tab3 := by
  refine ⟨law, clean, fun p hp => ?_⟩
  rcases List.mem_cons.1 hp with rfl | hp
  · exact okAwake
  exact laws2.tab p hp
theorem bodyLOne (c0 c1 c2 c3 c4 c5 c6 c7 c8 a n : Int) (h : u8c ⟨c0, c1, c2, c3, c4, c5, c6, c7, c8⟩ ∧ 0 ≤ a ∧ a < 256) : BodyOk Try.prog u tab3 [90014028028, 10280017037037] [] Try.f11 [.agg [.int .u8 c0, .int .u8 c1, .int .u8 c2, .int .u8 c3, .int .u8 c4, .int .u8 c5, .int .u8 c6, .int .u8 c7, .int .u8 c8], .int .u8 a, .int .i64 n] (.bool true) := by
  constructor
  have eqn : bodyW Try.prog u tab3 [90014028028, 10280017037037] (drawW Try.prog u tab3) (loopsBy u []) Try.f11 [.agg [.int .u8 c0, .int .u8 c1, .int .u8 c2, .int .u8 c3, .int .u8 c4, .int .u8 c5, .int .u8 c6, .int .u8 c7, .int .u8 c8], .int .u8 a, .int .i64 n] (.bool true) = vcLOne c0 c1 c2 c3 c4 c5 c6 c7 c8 a n := by kernel_rfl
  rw [eqn]
  unfold vcLOne
  obtain ⟨hx, ha⟩ := h
  have hy := conf_ok hx
  have hm : a.tmod 9 = a % 9 := Int.tmod_eq_emod_of_nonneg ha.1
  refine ⟨by decide, ⟨by omega, by omega⟩, ⟨⟨⟨⟨⟨⟨⟨⟨⟨trivial, ?_⟩, ?_⟩, ?_⟩, ?_⟩, ?_⟩, ?_⟩, ?_⟩, ?_⟩, ?_⟩⟩
  all_goals intro h; refine ⟨by decide, h, ?_⟩
  · exact one0 hy n
  · exact one1 hy n
  · exact one2 hy n
  · exact one3 hy n
  · exact one4 hy n
  · exact one5 hy n
  · exact one6 hy n
  · exact one7 hy n
  · exact one8 hy n
theorem okLOne : FnOk Try.prog u 11 spLOne := by
  refine fn_ok Try.prog u tab3 mo laws3 Try.func11 ?_
  intro xs c y h hc
  unfold spLOne at h
  split at h
  · cases h
    exact ⟨by kernel_rfl, _, _, bodyLOne _ _ _ _ _ _ _ _ _ _ _ hc⟩
  · cases h
end Go.Proofs.Ytfnofdgippdlaaa.Co
