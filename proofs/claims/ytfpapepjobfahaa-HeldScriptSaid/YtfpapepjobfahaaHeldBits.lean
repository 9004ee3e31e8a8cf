/- Holders: the plain part: prefixes. -/
import Derived.Test.YtfpapepjobfahaaHeldWalk
import Derived.Test.YtfpapepjobfahaaHeldSpecB
namespace Go.Proofs.Ytfpapepjobfahaa.Held
open Go Go.Proofs.Ytfpapepjobfahaa.Sx

theorem of32 {a : Int} (h : 0 ≤ a ∧ a < 4294967296) : (BitVec.ofInt 32 a).toNat = a.toNat := by
  rw [BitVec.toNat_ofInt]
  show (a % (4294967296 : Int)).toNat = _
  omega
theorem wrap32 {a : Int} (h : 0 ≤ a ∧ a < 4294967296) : IntKind.u32.wrap a = a := by rw [IntKind.wrap_u32]; omega
theorem mask_nat : ∀ n : Fin 33, maskA (n.val : Int) = ((4294967296 - 2 ^ (32 - n.val) : Nat) : Int) := by decide +kernel
theorem size_nat : ∀ n : Fin 33, shl .i64 1 (IntKind.i64.wrap (32 - (n.val : Int))) = ((2 ^ (32 - n.val) : Nat) : Int) := by decide +kernel
theorem mask_bv (n : Nat) (hn : n ≤ 32) : (BitVec.ofInt 32 (maskA (n : Int))).toNat = 4294967296 - 2 ^ (32 - n) := by
  have h := mask_nat ⟨n, by omega⟩
  have hp : 0 < 2 ^ (32 - n) := Nat.pow_pos (by decide)
  simp only at h
  rw [h, of32 (by omega)]
  rfl
theorem and_mask (a m : Nat) (ha : a < 2 ^ 32) (hm : m ≤ 32) : a &&& (4294967296 - 2 ^ m) = a / 2 ^ m * 2 ^ m := by
  have h1 : 4294967296 - 2 ^ m = (2 ^ (32 - m) - 1) <<< m := by
    rw [Nat.shiftLeft_eq, Nat.sub_mul, ← Nat.pow_add, show 32 - m + m = 32 by omega, Nat.one_mul]
  have h2 : a / 2 ^ m * 2 ^ m = (a >>> m) <<< m := by rw [Nat.shiftLeft_eq, Nat.shiftRight_eq_div_pow]
  rw [h1, h2]
  apply Nat.eq_of_testBit_eq
  intro i
  rw [Nat.testBit_and, Nat.testBit_shiftLeft, Nat.testBit_shiftLeft, Nat.testBit_two_pow_sub_one, Nat.testBit_shiftRight]
  by_cases h : m ≤ i
  · rw [show m + (i - m) = i by omega]
    by_cases h3 : i < 32
    · rw [decide_eq_true (show i - m < 32 - m by omega), decide_eq_true (show i ≥ m from h)]
      simp
    · rw [Nat.testBit_lt_two_pow (Nat.lt_of_lt_of_le ha (Nat.pow_le_pow_right (by decide) (by omega)))]
      simp
  · rw [decide_eq_false (show ¬ i ≥ m from h)]
    simp
theorem pw_pos (m : Nat) : (0 : Int) < (2 : Int) ^ m := Int.pow_pos (by decide)
theorem pw_cast (m : Nat) : ((2 ^ m : Nat) : Int) = (2 : Int) ^ m := by simp
theorem and_int {a : Int} {n : Nat} (hn : n ≤ 32) (ha : 0 ≤ a ∧ a < 4294967296) : bitsI .and .u32 a (maskA (n : Int)) = a - a % 2 ^ (32 - n) := by
  show IntKind.u32.wrap ((BitVec.ofInt 32 a &&& BitVec.ofInt 32 (maskA (n : Int))).toNat : Int) = _
  rw [BitVec.toNat_and, of32 ha, mask_bv n hn, and_mask _ _ (by omega) (by omega)]
  obtain ⟨x, rfl⟩ := Int.eq_ofNat_of_zero_le ha.1
  rw [Int.toNat_natCast]
  have h1 := Nat.div_add_mod x (2 ^ (32 - n))
  have h2 : ((x : Int) % 2 ^ (32 - n)) = ((x % 2 ^ (32 - n) : Nat) : Int) := by rw [← pw_cast]; exact (Int.natCast_emod _ _).symm
  rw [Nat.mul_comm] at h1
  rw [h2, wrap32 (by omega)]
  omega
theorem right_iff {base : Int} {n : Nat} (hn : n ≤ 32) (hb : 0 ≤ base ∧ base < 4294967296) : rightA base n = true ↔ base % 2 ^ (32 - n) = 0 := by
  have h : bitsI .andNot .u32 base (maskA (n : Int)) = base % 2 ^ (32 - n) := by
    show IntKind.u32.wrap ((BitVec.ofInt 32 base &&& ~~~ BitVec.ofInt 32 (maskA (n : Int))).toNat : Int) = _
    have hp : 2 ^ (32 - n) ≤ 2 ^ 32 := Nat.pow_le_pow_right (by decide) (by omega)
    have hp1 : 0 < 2 ^ (32 - n) := Nat.pow_pos (by decide)
    rw [BitVec.toNat_and, BitVec.toNat_not, of32 hb, mask_bv n hn, show 2 ^ 32 - 1 - (4294967296 - 2 ^ (32 - n)) = 2 ^ (32 - n) - 1 by omega, Nat.and_two_pow_sub_one_eq_mod]
    obtain ⟨x, rfl⟩ := Int.eq_ofNat_of_zero_le hb.1
    rw [Int.toNat_natCast, ← pw_cast, ← Int.natCast_emod]
    have := Nat.mod_le x (2 ^ (32 - n))
    exact wrap32 (by omega)
  unfold rightA
  rw [h, decide_eq_true (show (n : Int) ≥ 0 by omega), decide_eq_true (show (n : Int) ≤ 32 by omega)]
  simp
theorem has_iff {base a : Int} {n : Nat} (hn : n ≤ 32) (hb : 0 ≤ base ∧ base < 4294967296) (ha : 0 ≤ a ∧ a < 4294967296) (hr : rightA base n = true) : hasA base n a = true ↔ base ≤ a ∧ a < base + 2 ^ (32 - n) := by
  have h0 := (right_iff hn hb).1 hr
  have hp := pw_pos (32 - n)
  have h1 := Int.emod_nonneg a (show (2 : Int) ^ (32 - n) ≠ 0 by omega)
  have h2 := Int.emod_lt_of_pos a hp
  unfold hasA
  rw [hr, and_int hn ha, Bool.true_and, beq_iff_eq]
  constructor
  · intro h; omega
  · intro h
    have h3 : (a - base) % 2 ^ (32 - n) = a - base := Int.emod_eq_of_lt (by omega) (by omega)
    have h4 : (a - base) % 2 ^ (32 - n) = a % 2 ^ (32 - n) := by rw [Int.sub_emod, h0, Int.sub_zero, Int.emod_emod]
    omega
theorem size_eq {base : Int} {n : Nat} (hn : n ≤ 32) (hr : rightA base n = true) : sizeA base n = 2 ^ (32 - n) := by
  unfold sizeA
  rw [if_neg (by rw [hr]; simp), ← pw_cast]
  exact size_nat ⟨n, by omega⟩
theorem room {base : Int} {n : Nat} (hn : n ≤ 32) (hb : 0 ≤ base ∧ base < 4294967296) (hr : rightA base n = true) : base + 2 ^ (32 - n) ≤ 4294967296 := by
  have h0 := (right_iff hn hb).1 hr
  have hd : (2 : Int) ^ (32 - n) ∣ 4294967296 := ⟨2 ^ n, by rw [← Int.pow_add, show 32 - n + n = 32 by omega]; rfl⟩
  have := Int.le_of_dvd (show (0 : Int) < 4294967296 - base by omega) (Int.dvd_sub hd (Int.dvd_of_emod_eq_zero h0))
  omega
theorem near_rng {n : Int} (h : 0 ≤ n) : 167772160 ≤ nearA n ∧ nearA n < 167772224 := by
  unfold nearA
  rw [Int.tmod_eq_emod_of_nonneg h]
  simp [IntKind.wrap, IntKind.bits, IntKind.signed]
  omega
theorem wrap64 {n : Int} (h : -9223372036854775808 ≤ n ∧ n < 9223372036854775808) : IntKind.i64.wrap n = n := by rw [IntKind.wrap_i64]; omega
theorem pw_six : ∀ m : Fin 7, (2 : Int) ^ m.val ≤ 64 := by decide
theorem base_eq {a : Int} {n : Nat} (ha : 0 ≤ a) (hn : 26 ≤ n ∧ n ≤ 32) : baseN a n = nearA a - nearA a % 2 ^ (32 - n) := by
  obtain ⟨h1, h2⟩ := near_rng ha
  have hp := pw_pos (32 - n)
  have h3 := Int.emod_nonneg (nearA a) (show (2 : Int) ^ (32 - n) ≠ 0 by omega)
  have h4 := Int.mul_ediv_add_emod (nearA a) (2 ^ (32 - n))
  unfold baseN shl shr
  rw [wrap64 (n := 32 - (n : Int)) (by omega), show (32 - (n : Int)).toNat = 32 - n by omega, show min (32 - n) IntKind.u32.bits = 32 - n from Nat.min_eq_left (show 32 - n ≤ 32 by omega), Int.fdiv_eq_ediv_of_nonneg _ (by omega), Int.mul_comm]
  have h5 : 0 ≤ 2 ^ (32 - n) * (nearA a / 2 ^ (32 - n)) := by have := Int.ediv_nonneg (show 0 ≤ nearA a by omega) (show (0 : Int) ≤ 2 ^ (32 - n) by omega); exact Int.mul_nonneg (by omega) this
  rw [wrap32 (by omega)]
  omega
theorem base_ok {a : Int} {n : Nat} (ha : 0 ≤ a) (hn : 26 ≤ n ∧ n ≤ 32) : (0 ≤ baseN a n ∧ baseN a n < 4294967000) ∧ rightA (baseN a n) n = true ∧ (2 : Int) ^ (32 - n) ≤ 64 := by
  obtain ⟨h1, h2⟩ := near_rng ha
  have hp := pw_pos (32 - n)
  have h3 := Int.emod_nonneg (nearA a) (show (2 : Int) ^ (32 - n) ≠ 0 by omega)
  have h4 := Int.emod_lt_of_pos (nearA a) hp
  have h6 := pw_six ⟨32 - n, by omega⟩
  simp only at h6
  have hb := base_eq ha hn
  have hr : 0 ≤ baseN a n ∧ baseN a n < 4294967000 := by omega
  refine ⟨hr, (right_iff hn.2 (by omega)).2 ?_, h6⟩
  rw [hb, Int.sub_emod, Int.emod_emod, Int.sub_self, Int.zero_emod]
theorem bits_eq {b : Int} (hb : 0 ≤ b) (m : Nat) (hm : 0 < m ∧ m < 8) : IntKind.i64.wrap (26 + IntKind.i64.wrap (b.tmod m)) = ((26 + (b % m).toNat : Nat) : Int) ∧ 26 + (b % (m : Int)).toNat < 26 + m := by
  have h1 := Int.emod_nonneg b (show (m : Int) ≠ 0 by omega)
  have h2 := Int.emod_lt_of_pos b (show (0 : Int) < m by omega)
  rw [Int.tmod_eq_emod_of_nonneg hb, wrap64 (n := b % (m : Int)) (by omega), wrap64 (by omega)]
  omega
/-- Both halves of a prefix. -/
theorem halves {base : Int} {n : Nat} (hn : n < 32) (hb : 0 ≤ base ∧ base < 4294967296) (hr : rightA base n = true) :
    halfB base n = true ∧ halfN n = ((n + 1 : Nat) : Int) ∧ highA base n = base + 2 ^ (31 - n) ∧ rightA base ((n + 1 : Nat) : Int) = true ∧ rightA (base + 2 ^ (31 - n)) ((n + 1 : Nat) : Int) = true := by
  have h0 := (right_iff (by omega) hb).1 hr
  have hp : (2 : Int) ^ (32 - n) = 2 * 2 ^ (31 - n) := by rw [show 32 - n = (31 - n) + 1 by omega, Int.pow_succ, Int.mul_comm]
  have hq := pw_pos (31 - n)
  have hroom := room (by omega) hb hr
  have hN : halfN (n : Int) = ((n + 1 : Nat) : Int) := by unfold halfN; rw [wrap64 (by omega)]; rfl
  have hd : (2 : Int) ^ (31 - n) ∣ base := Int.dvd_trans ⟨2, by rw [hp, Int.mul_comm]⟩ (Int.dvd_of_emod_eq_zero h0)
  have e1 : base % 2 ^ (31 - n) = 0 := Int.emod_eq_zero_of_dvd hd
  have e2 : (base + 2 ^ (31 - n)) % 2 ^ (31 - n) = 0 := Int.emod_eq_zero_of_dvd (Int.dvd_add hd (Int.dvd_refl _))
  refine ⟨?_, hN, ?_, (right_iff (by omega) hb).2 (by rw [show 32 - (n + 1) = 31 - n by omega]; exact e1), (right_iff (by omega) (by omega)).2 (by rw [show 32 - (n + 1) = 31 - n by omega]; exact e2)⟩
  · unfold halfB
    rw [hr, show ((n : Int) == 32) = false by simpa using (show ¬ (n : Int) = 32 by omega)]
    rfl
  · unfold highA shl
    rw [hN, wrap64 (n := 32 - ((n + 1 : Nat) : Int)) (by omega), show (32 - ((n + 1 : Nat) : Int)).toNat = 31 - n by omega, show min (31 - n) IntKind.u32.bits = 31 - n from Nat.min_eq_left (show 31 - n ≤ 32 by omega), Int.one_mul, wrap32 (a := 2 ^ (31 - n)) (by omega)]
    show IntKind.u32.wrap ((BitVec.ofInt 32 base ||| BitVec.ofInt 32 (2 ^ (31 - n))).toNat : Int) = _
    obtain ⟨q, hq2⟩ := Int.dvd_of_emod_eq_zero h0
    have hq0 : 0 ≤ q := by
      rcases Int.lt_or_le q 0 with h | h
      · have := Int.mul_neg_of_pos_of_neg (pw_pos (32 - n)) h
        omega
      · exact h
    obtain ⟨k, rfl⟩ := Int.eq_ofNat_of_zero_le hq0
    have hbn : base.toNat = 2 ^ (32 - n) * k := by
      rw [← pw_cast, ← Int.natCast_mul] at hq2
      omega
    have hpn : ((2 : Int) ^ (31 - n)).toNat = 2 ^ (31 - n) := by rw [← pw_cast]; rfl
    rw [BitVec.toNat_or, of32 hb, of32 (by omega), hpn, hbn, ← Nat.two_pow_add_eq_or_of_lt (Nat.pow_lt_pow_right (by decide) (by omega)), ← hbn, Int.natCast_add, pw_cast, show ((base.toNat : Nat) : Int) = base by omega]
    exact wrap32 (by omega)
end Go.Proofs.Ytfpapepjobfahaa.Held
