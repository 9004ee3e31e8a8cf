/- Sums of bytes: the two ways to the sum of 32 bits agree. -/
import Derived.Test.YtghaljkohheioaaSumDef
namespace Go.Proofs.Ytghaljkohheioaa.Sum
open Go Go.Proofs.Ytghaljkohheioaa.Sx

def rv (x : BitVec 32) : BitVec 32 := if x.getLsbD 0 = true then (x >>> 1) ^^^ 2197175160#32 else x >>> 1
theorem rv_xor (a b : BitVec 32) : rv (a ^^^ b) = rv a ^^^ rv b := by
  unfold rv
  have h : (a ^^^ b).getLsbD 0 = (a.getLsbD 0 ^^ b.getLsbD 0) := by simp
  have hs : (a ^^^ b) >>> 1 = (a >>> 1) ^^^ (b >>> 1) := by
    apply BitVec.eq_of_getLsbD_eq
    intro i hi
    simp
  rw [h, hs]
  generalize a >>> 1 = p
  generalize b >>> 1 = q
  cases a.getLsbD 0 <;> cases b.getLsbD 0 <;> simp <;> (apply BitVec.eq_of_getLsbD_eq; intro i hi; simp; try (cases p.getLsbD i <;> cases q.getLsbD i <;> cases (2197175160#32).getLsbD i <;> rfl))
/-- A row whose low bits are 0 is shifted alone. -/
theorem rv_shift (q : BitVec 32) (k : Nat) (hk : k < 8) (hq : q.toNat < 2 ^ 24) : rv (q <<< (k + 1)) = q <<< k := by
  have h0 : (q <<< (k + 1)).getLsbD 0 = false := by simp
  unfold rv
  rw [h0]
  simp only [Bool.false_eq_true, if_false]
  apply BitVec.eq_of_getLsbD_eq
  intro i hi
  simp only [BitVec.getLsbD_ushiftRight, BitVec.getLsbD_shiftLeft]
  by_cases h : 1 + i < 32
  · have e1 : (decide (1 + i < k + 1)) = decide (i < k) := by by_cases h : i < k <;> simp [h] <;> omega
    have e2 : 1 + i - (k + 1) = i - k := by omega
    simp [h, hi, e1, e2]
  · have hi31 : i = 31 := by omega
    subst hi31
    have hq31 : q.getLsbD (31 - k) = false := by
      show q.toNat.testBit (31 - k) = false
      exact Nat.testBit_lt_two_pow (Nat.lt_of_lt_of_le hq (Nat.pow_le_pow_right (by omega) (by omega)))
    simp [hq31]
def rv8 (x : BitVec 32) : BitVec 32 := rv (rv (rv (rv (rv (rv (rv (rv x)))))))
theorem rv8_xor (a b : BitVec 32) : rv8 (a ^^^ b) = rv8 a ^^^ rv8 b := by
  unfold rv8
  simp only [rv_xor]
theorem rv8_shift (q : BitVec 32) (hq : q.toNat < 2 ^ 24) : rv8 (q <<< 8) = q := by
  unfold rv8
  rw [rv_shift q 7 (by omega) hq, rv_shift q 6 (by omega) hq, rv_shift q 5 (by omega) hq, rv_shift q 4 (by omega) hq, rv_shift q 3 (by omega) hq, rv_shift q 2 (by omega) hq, rv_shift q 1 (by omega) hq, rv_shift q 0 (by omega) hq]
  simp
theorem low8 (i : Nat) (hi : i < 32) : (255#32).getLsbD i = decide (i < 8) := by
  have : (255#32) = BitVec.ofNat 32 (2 ^ 8 - 1) := rfl
  rw [this, BitVec.getLsbD_ofNat, Nat.testBit_two_pow_sub_one]
  simp [hi]
theorem parts8 (y : BitVec 32) : y = (y &&& 255#32) ^^^ ((y >>> 8) <<< 8) := by
  apply BitVec.eq_of_getLsbD_eq
  intro i hi
  simp only [BitVec.getLsbD_xor, BitVec.getLsbD_and, BitVec.getLsbD_shiftLeft, BitVec.getLsbD_ushiftRight, low8 i hi]
  by_cases h : i < 8
  · simp [h]
  · have : 8 + (i - 8) = i := by omega
    simp [h, hi, this]
theorem crc_step (y : BitVec 32) : rv8 y = rv8 (y &&& 255#32) ^^^ (y >>> 8) := by
  have h := congrArg rv8 (parts8 y)
  rw [rv8_xor, rv8_shift (y >>> 8)] at h
  · exact h
  · rw [BitVec.toNat_ushiftRight, Nat.shiftRight_eq_div_pow]
    have := y.isLt
    omega
theorem high8 (x c : BitVec 32) (hc : c.toNat < 256) : (x ^^^ c) >>> 8 = x >>> 8 := by
  apply BitVec.eq_of_getLsbD_eq
  intro i hi
  simp only [BitVec.getLsbD_xor, BitVec.getLsbD_ushiftRight]
  have : c.getLsbD (8 + i) = false := by
    show c.toNat.testBit (8 + i) = false
    exact Nat.testBit_lt_two_pow (Nat.lt_of_lt_of_le hc (by rw [show 256 = 2 ^ 8 from rfl]; exact Nat.pow_le_pow_right (by omega) (by omega)))
  simp [this]

/-! ### numbers and rows of bits -/
theorem ofI (x : BitVec 32) : BitVec.ofInt 32 (x.toNat : Int) = x := by
  rw [BitVec.ofInt_natCast]
  simp
theorem wrapN (n : Nat) (h : n < 4294967296) : IntKind.u32.wrap (n : Int) = n := by
  rw [IntKind.wrap_u32]
  omega
theorem xor_nat (x y : BitVec 32) : bitsI .xor .u32 (x.toNat : Int) (y.toNat : Int) = ((x ^^^ y).toNat : Int) := by
  show IntKind.u32.wrap ((BitVec.ofInt 32 (x.toNat : Int) ^^^ BitVec.ofInt 32 (y.toNat : Int)).toNat : Int) = _
  rw [ofI, ofI, wrapN _ (x ^^^ y).isLt]
theorem and_nat (x y : BitVec 32) : bitsI .and .u32 (x.toNat : Int) (y.toNat : Int) = ((x &&& y).toNat : Int) := by
  show IntKind.u32.wrap ((BitVec.ofInt 32 (x.toNat : Int) &&& BitVec.ofInt 32 (y.toNat : Int)).toNat : Int) = _
  rw [ofI, ofI, wrapN _ (x &&& y).isLt]
theorem shr_nat (x : BitVec 32) (k : Nat) (hk : k ≤ 32) : shr .u32 (x.toNat : Int) (k : Int) = ((x >>> k).toNat : Int) := by
  unfold shr
  have : min (k : Int).toNat IntKind.u32.bits = k := by
    show min (k : Int).toNat 32 = k
    omega
  rw [this, BitVec.toNat_ushiftRight, Nat.shiftRight_eq_div_pow]
  have h2 : ((2 : Int) ^ k) = ((2 ^ k : Nat) : Int) := (Int.natCast_pow 2 k).symm
  rw [h2, Int.fdiv_eq_ediv_of_nonneg _ (Int.natCast_nonneg _)]
  rfl
theorem low_bit (x : BitVec 32) : x.getLsbD 0 = decide (x.toNat % 2 = 1) := by
  show x.toNat.testBit 0 = _
  rw [Nat.testBit_zero]
theorem rnd_nat (x : BitVec 32) : rnd (x.toNat : Int) = ((rv x).toNat : Int) := by
  have h1 : bitsI .and .u32 (x.toNat : Int) 1 = ((x.toNat % 2 : Nat) : Int) := by
    have := and_nat x 1#32
    rw [show (((1#32).toNat : Nat) : Int) = 1 from rfl] at this
    rw [this, BitVec.toNat_and]
    rw [show (1#32).toNat = 1 from rfl, Nat.and_one_is_mod]
  have h2 : shr .u32 (x.toNat : Int) 1 = ((x >>> 1).toNat : Int) := shr_nat x 1 (by omega)
  unfold rnd rv
  rw [h1, h2, low_bit]
  by_cases h : x.toNat % 2 = 1
  · rw [h]
    simp only [decide_true, if_true]
    exact xor_nat (x >>> 1) 2197175160#32
  · have h0 : x.toNat % 2 = 0 := by omega
    rw [h0]
    rfl
theorem rndB_nat (x : BitVec 32) : rndB (x.toNat : Int) = ((rv x).toNat : Int) := by
  have h1 : ((x.toNat : Int)).tmod 2 = ((x.toNat % 2 : Nat) : Int) := by
    rw [Int.tmod_eq_emod_of_nonneg (Int.natCast_nonneg _)]
    rfl
  have h2 : IntKind.u32.wrap (((x.toNat : Int)).tdiv 2) = ((x >>> 1).toNat : Int) := by
    rw [Int.tdiv_eq_ediv_of_nonneg (Int.natCast_nonneg _), BitVec.toNat_ushiftRight, Nat.shiftRight_eq_div_pow]
    have := x.isLt
    rw [show ((x.toNat : Int) / 2) = ((x.toNat / 2 : Nat) : Int) from rfl, wrapN _ (by omega)]
  unfold rndB rv
  rw [h1, h2, low_bit]
  by_cases h : x.toNat % 2 = 1
  · rw [h]
    simp only [decide_true, if_true]
    exact xor_nat (x >>> 1) 2197175160#32
  · have h0 : x.toNat % 2 = 0 := by omega
    rw [h0]
    rfl
theorem step_nat (x : BitVec 32) (c : Int) (hc : 0 ≤ c ∧ c < 256) : ∃ y : BitVec 32, stepA (x.toNat : Int) c = (y.toNat : Int) ∧ stepB (x.toNat : Int) c = (y.toNat : Int) := by
  obtain ⟨k, rfl⟩ := Int.eq_ofNat_of_zero_le hc.1
  have hk : k < 256 := by omega
  have hC : (BitVec.ofNat 32 k).toNat = k := by simp; omega
  have hw : IntKind.u32.wrap (k : Int) = (((BitVec.ofNat 32 k).toNat : Nat) : Int) := by rw [hC, wrapN _ (by omega)]
  refine ⟨rv8 (x ^^^ BitVec.ofNat 32 k), ?_, ?_⟩
  · unfold stepA
    rw [show ((k : Nat) : Int) = (k : Int) from rfl, hw, xor_nat]
    simp only [rnd_nat]
    rfl
  · unfold stepB
    rw [hw, xor_nat, show (255 : Int) = (((255#32).toNat : Nat) : Int) from rfl, and_nat]
    simp only [rndB_nat]
    rw [show (8 : Int) = ((8 : Nat) : Int) from rfl, shr_nat x 8 (by omega), xor_nat]
    have h1 := crc_step (x ^^^ BitVec.ofNat 32 k)
    rw [high8 x (BitVec.ofNat 32 k) (by rw [hC]; exact hk)] at h1
    rw [h1]
    rfl
theorem folds (xs : List Int) (h : ∀ c ∈ xs, 0 ≤ c ∧ c < 256) : ∃ y : BitVec 32, foldA xs = (y.toNat : Int) ∧ foldB xs = (y.toNat : Int) := by
  have key : ∀ (xs : List Int) (x : BitVec 32), (∀ c ∈ xs, 0 ≤ c ∧ c < 256) → ∃ y : BitVec 32, xs.foldl stepA (x.toNat : Int) = (y.toNat : Int) ∧ xs.foldl stepB (x.toNat : Int) = (y.toNat : Int) := by
    intro xs
    induction xs with
    | nil => intro x _; exact ⟨x, rfl, rfl⟩
    | cons c xs ih =>
      intro x h
      obtain ⟨y, h1, h2⟩ := step_nat x c (h c (List.mem_cons_self ..))
      simp only [List.foldl_cons, h1, h2]
      exact ih y fun c hc => h c (List.mem_cons_of_mem _ hc)
  exact key xs 4294967295#32 h
theorem check_same (xs : List Int) (h : ∀ c ∈ xs, 0 ≤ c ∧ c < 256) : notU (foldA xs) = bitsI .xor .u32 (foldB xs) 4294967295 := by
  obtain ⟨y, h1, h2⟩ := folds xs h
  rw [h1, h2]
  unfold notU
  rw [show (4294967295 : Int) = (((4294967295#32).toNat : Nat) : Int) from rfl, xor_nat, xor_nat, BitVec.xor_comm]
end Go.Proofs.Ytghaljkohheioaa.Sum
