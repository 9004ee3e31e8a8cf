/- Sums of bytes: the two ways to the sum of words agree. -/
import Derived.Test.YtghaljkohheioaaSumMath
namespace Go.Proofs.Ytghaljkohheioaa.Sum
open Go Go.Proofs.Ytghaljkohheioaa.Sx

theorem and_mod (m : Nat) (h : m < 4294967296) : bitsI .and .u32 (m : Int) 65535 = ((m % 65536 : Nat) : Int) := by
  have hm : (BitVec.ofNat 32 m).toNat = m := by simp; omega
  have := and_nat (BitVec.ofNat 32 m) 65535#32
  rw [hm, show (((65535#32).toNat : Nat) : Int) = 65535 from rfl] at this
  rw [this, BitVec.toNat_and, hm, show (65535#32).toNat = 2 ^ 16 - 1 from rfl, Nat.and_two_pow_sub_one_eq_mod]
theorem shr_div (m : Nat) (h : m < 4294967296) : shr .u32 (m : Int) 16 = ((m / 65536 : Nat) : Int) := by
  have hm : (BitVec.ofNat 32 m).toNat = m := by simp; omega
  have := shr_nat (BitVec.ofNat 32 m) 16 (by omega)
  rw [hm] at this
  rw [show ((16 : Nat) : Int) = 16 from rfl] at this
  rw [this, BitVec.toNat_ushiftRight, hm, Nat.shiftRight_eq_div_pow]
theorem wrap16 (n : Int) : IntKind.u16.wrap n = n % 65536 := by
  simp [IntKind.wrap, IntKind.bits, IntKind.signed]
/-- What one byte adds. -/
def byteW (k : Nat) (c : Int) : Int := if k % 2 = 0 then 256 * c else c
theorem stepW_eq {n c : Int} {k : Nat} (hn : 0 ≤ n ∧ n ≤ 65535) (hc : 0 ≤ c ∧ c < 256) : stepW n k c = downV (n + byteW k c) := by
  have hb : 0 ≤ byteW k c ∧ byteW k c ≤ 65280 := by unfold byteW; split <;> omega
  have hs : shl .u32 (IntKind.u32.wrap c) (IntKind.i64.wrap (8 * IntKind.i64.wrap (1 - (k : Int).tmod 2))) = byteW k c := by
    have hw : IntKind.u32.wrap c = c := by rw [IntKind.wrap_u32]; omega
    rw [hw, Int.tmod_eq_emod_of_nonneg (by omega)]
    unfold byteW
    by_cases h : k % 2 = 0
    · have e1 : IntKind.i64.wrap (8 * IntKind.i64.wrap (1 - (k : Int) % 2)) = 8 := by rw [IntKind.wrap_i64, IntKind.wrap_i64]; omega
      rw [e1, if_pos h]
      unfold shl
      rw [show (2 : Int) ^ (min (8 : Int).toNat IntKind.u32.bits) = 256 from rfl, IntKind.wrap_u32]
      omega
    · have e1 : IntKind.i64.wrap (8 * IntKind.i64.wrap (1 - (k : Int) % 2)) = 0 := by rw [IntKind.wrap_i64, IntKind.wrap_i64]; omega
      rw [e1, if_neg h]
      unfold shl
      rw [show (2 : Int) ^ (min (0 : Int).toNat IntKind.u32.bits) = 1 from rfl, IntKind.wrap_u32]
      omega
  unfold stepW
  rw [hs]
  generalize byteW k c = b at *
  obtain ⟨m, hm⟩ := Int.eq_ofNat_of_zero_le (show 0 ≤ n + b by omega)
  have hm2 : m ≤ 130815 := by omega
  rw [hm, wrapN m (by omega), and_mod m (by omega), shr_div m (by omega)]
  unfold downV
  by_cases h : (m : Int) > 65535
  · rw [if_pos (decide_eq_true h), IntKind.wrap_u32, IntKind.wrap_i64]
    omega
  · rw [if_neg (by simpa using h), IntKind.wrap_u32]
    omega
theorem stepV_eq {n c : Int} {k : Nat} (hn : 0 ≤ n ∧ n ≤ 65535) (hc : 0 ≤ c ∧ c < 256) : stepV n k c = n + byteW k c := by
  unfold stepV byteW
  rw [Int.tmod_eq_emod_of_nonneg (by omega)]
  by_cases h : k % 2 = 0
  · have e1 : ((k : Int) % 2 == 0) = true := by simp; omega
    rw [if_pos e1, if_pos h, IntKind.wrap_i64, IntKind.wrap_i64, IntKind.wrap_i64]
    omega
  · have e1 : ¬ ((k : Int) % 2 == 0) = true := by simp; omega
    rw [if_neg e1, if_neg h, IntKind.wrap_i64, IntKind.wrap_i64]
    omega
theorem down_rng {n : Int} (h : 0 ≤ n ∧ n ≤ 130815) : 0 ≤ downV n ∧ downV n ≤ 65535 := by
  unfold downV
  by_cases h2 : n > 65535
  · rw [if_pos (decide_eq_true h2), IntKind.wrap_i64]
    omega
  · rw [if_neg (by simpa using h2)]
    omega
theorem words_same (xs : List Int) (h : ∀ c ∈ xs, 0 ≤ c ∧ c < 256) : ∀ k, k ≤ xs.length → wAt xs k = vAt xs k ∧ (0 ≤ vAt xs k ∧ vAt xs k ≤ 65535) := by
  intro k
  induction k with
  | zero => intro _; exact ⟨rfl, by show (0 : Int) ≤ 0 ∧ (0 : Int) ≤ 65535; omega⟩
  | succ k ih =>
    intro hk
    obtain ⟨h1, h2⟩ := ih (by omega)
    have hc : 0 ≤ xs.getD k 0 ∧ xs.getD k 0 < 256 := by
      have hlt : k < xs.length := by omega
      rw [List.getD_eq_getElem?_getD, List.getElem?_eq_getElem hlt]
      exact h _ (List.getElem_mem hlt)
    have hb : 0 ≤ byteW k (xs.getD k 0) ∧ byteW k (xs.getD k 0) ≤ 65280 := by unfold byteW; split <;> omega
    show stepW (wAt xs k) k (xs.getD k 0) = downV (stepV (vAt xs k) k (xs.getD k 0)) ∧ _
    rw [h1, stepW_eq h2 hc, stepV_eq h2 hc]
    refine ⟨rfl, ?_⟩
    show 0 ≤ downV (stepV (vAt xs k) k (xs.getD k 0)) ∧ downV (stepV (vAt xs k) k (xs.getD k 0)) ≤ 65535
    rw [stepV_eq h2 hc]
    exact down_rng (by omega)
theorem not16 {v : Int} (h : 0 ≤ v ∧ v ≤ 65535) : notW (IntKind.u16.wrap v) = 65535 - v := by
  obtain ⟨m, rfl⟩ := Int.eq_ofNat_of_zero_le h.1
  have hw : IntKind.u16.wrap (m : Int) = m := by rw [wrap16]; omega
  have hm : m < 2 ^ 16 := by omega
  unfold notW
  rw [hw]
  show IntKind.u16.wrap ((BitVec.ofInt 16 65535 ^^^ BitVec.ofInt 16 (m : Int)).toNat : Int) = _
  rw [show BitVec.ofInt 16 65535 = BitVec.allOnes 16 from rfl, BitVec.allOnes_xor, BitVec.toNat_not, BitVec.ofInt_natCast, BitVec.toNat_ofNat, Nat.mod_eq_of_lt hm, wrap16]
  omega
theorem words_eq (xs : List Int) (h : ∀ c ∈ xs, 0 ≤ c ∧ c < 256) : notW (IntKind.u16.wrap (wAt xs xs.length)) = IntKind.u16.wrap (IntKind.i64.wrap (65535 - vAt xs xs.length)) := by
  obtain ⟨h1, h2⟩ := words_same xs h xs.length (Nat.le_refl _)
  rw [h1, not16 h2, IntKind.wrap_i64, wrap16]
  omega
end Go.Proofs.Ytghaljkohheioaa.Sum
