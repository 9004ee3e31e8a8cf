/- Sums of bytes: the sum of 32 bits of rows that differ. -/
import Derived.Test.YtacafjapnppacaaSumMathC
namespace Go.Proofs.Ytacafjapnppacaa.Sum
open Go Go.Proofs.Ytacafjapnppacaa.Sx

theorem rv_zero {x : BitVec 32} (h : rv x = 0#32) : x = 0#32 := by
  have hb : ∀ i, i < 32 → (rv x).getLsbD i = false := fun i hi => by rw [h]; simp
  unfold rv at hb
  cases h0 : x.getLsbD 0 with
  | true =>
    rw [h0] at hb
    have := hb 31 (by omega)
    simp only [if_true, BitVec.getLsbD_xor, BitVec.getLsbD_ushiftRight] at this
    rw [BitVec.getLsbD_of_ge x (1 + 31) (by omega)] at this
    exact absurd this (by decide)
  | false =>
    rw [h0] at hb
    apply BitVec.eq_of_getLsbD_eq
    intro i hi
    cases i with
    | zero => simpa using h0
    | succ i =>
      have := hb i (by omega)
      simp only [Bool.false_eq_true, if_false, BitVec.getLsbD_ushiftRight] at this
      rw [Nat.add_comm] at this
      rw [this]
      simp
theorem rv8_zero {x : BitVec 32} (h : rv8 x = 0#32) : x = 0#32 := by
  unfold rv8 at h
  exact rv_zero (rv_zero (rv_zero (rv_zero (rv_zero (rv_zero (rv_zero (rv_zero h)))))))
theorem step_bv (x : BitVec 32) (k : Nat) (hk : k < 256) : stepA (x.toNat : Int) (k : Int) = ((rv8 (x ^^^ BitVec.ofNat 32 k)).toNat : Int) := by
  have hC : (BitVec.ofNat 32 k).toNat = k := by simp; omega
  have hw : IntKind.u32.wrap (k : Int) = (((BitVec.ofNat 32 k).toNat : Nat) : Int) := by rw [hC, wrapN _ (by omega)]
  unfold stepA
  rw [hw, xor_nat]
  simp only [rnd_nat]
  rfl
/-- The sum over bits. -/
def crc (x : BitVec 32) : List Int → BitVec 32
  | [] => x
  | c :: r => crc (rv8 (x ^^^ BitVec.ofNat 32 c.toNat)) r
theorem fold_crc : ∀ (xs : List Int) (x : BitVec 32), bytes xs → xs.foldl stepA (x.toNat : Int) = ((crc x xs).toNat : Int)
  | [], x, _ => rfl
  | c :: xs, x, h => by
    obtain ⟨k, rfl⟩ := Int.eq_ofNat_of_zero_le (h c (List.mem_cons_self ..)).1
    have := (h _ (List.mem_cons_self ..)).2
    rw [List.foldl_cons, show stepA (x.toNat : Int) ((k : Nat) : Int) = _ from step_bv x k (by omega)]
    exact fold_crc xs _ fun c hc => h c (List.mem_cons_of_mem _ hc)
theorem foldA_crc {xs : List Int} (h : bytes xs) : foldA xs = ((crc 4294967295#32 xs).toNat : Int) := fold_crc xs 4294967295#32 h
theorem notU_nat (x : BitVec 32) : notU (x.toNat : Int) = ((4294967295#32 ^^^ x).toNat : Int) := by
  unfold notU
  rw [show (4294967295 : Int) = (((4294967295#32).toNat : Nat) : Int) from rfl, xor_nat]
theorem bv_inj {x y : BitVec 32} : ((x.toNat : Int) = (y.toNat : Int)) ↔ x = y := by
  constructor
  · intro h; exact BitVec.eq_of_toNat_eq (by omega)
  · rintro rfl; rfl
theorem xor_zero {n : Nat} {x y : BitVec n} : x ^^^ y = 0#n ↔ x = y := by
  constructor
  · intro h
    apply BitVec.eq_of_getLsbD_eq
    intro i hi
    have : (x ^^^ y).getLsbD i = false := by rw [h]; simp
    rw [BitVec.getLsbD_xor] at this
    cases hx : x.getLsbD i <;> cases hy : y.getLsbD i <;> rw [hx, hy] at this <;> first | rfl | cases this
  · rintro rfl; simp
theorem rv8_inj {x y : BitVec 32} (h : rv8 x = rv8 y) : x = y := xor_zero.1 (rv8_zero (by rw [rv8_xor, h]; simp))
theorem crc_inj : ∀ {xs : List Int} {x y : BitVec 32}, crc x xs = crc y xs → x = y
  | [], x, y, h => h
  | c :: xs, x, y, h => by
    have h1 := rv8_inj (crc_inj (xs := xs) h)
    have : (x ^^^ BitVec.ofNat 32 c.toNat) ^^^ (y ^^^ BitVec.ofNat 32 c.toNat) = 0#32 := xor_zero.2 h1
    refine xor_zero.1 ?_
    rw [← this]
    apply BitVec.eq_of_getLsbD_eq
    intro i hi
    simp only [BitVec.getLsbD_xor]
    cases x.getLsbD i <;> cases y.getLsbD i <;> cases (BitVec.ofNat 32 c.toNat).getLsbD i <;> rfl
theorem crc_append : ∀ (a b : List Int) (x : BitVec 32), crc x (a ++ b) = crc (crc x a) b
  | [], b, x => rfl
  | c :: a, b, x => crc_append a b _
/-- A row with one byte changed has the same sum only if the byte is the same. -/
theorem crc_set {xs : List Int} {i : Nat} (hi : i < xs.length) {z : Int} (x : BitVec 32) (hz : 0 ≤ z ∧ z < 256) (ho : 0 ≤ xs.getD i 0 ∧ xs.getD i 0 < 256) (h : crc x (xs.set i z) = crc x xs) : z = xs.getD i 0 := by
  have e1 : xs.set i z = xs.take i ++ (z :: xs.drop (i + 1)) := by rw [List.set_eq_take_append_cons_drop, if_pos hi]
  have e2 : xs = xs.take i ++ (xs.getD i 0 :: xs.drop (i + 1)) := by
    have : xs.getD i 0 = xs[i] := by simp [List.getD, List.getElem?_eq_getElem hi]
    rw [this, List.getElem_cons_drop, List.take_append_drop]
  rw [e1] at h
  have h : crc x (xs.take i ++ (z :: xs.drop (i + 1))) = crc x (xs.take i ++ (xs.getD i 0 :: xs.drop (i + 1))) := by rw [← e2]; exact h
  rw [crc_append, crc_append] at h
  have h := rv8_inj (crc_inj (xs := xs.drop (i + 1)) h)
  have h3 : BitVec.ofNat 32 z.toNat = BitVec.ofNat 32 (xs.getD i 0).toNat := by
    generalize crc x (xs.take i) = y at h
    generalize BitVec.ofNat 32 z.toNat = p at h
    generalize BitVec.ofNat 32 (xs.getD i 0).toNat = q at h
    have : (y ^^^ p) ^^^ (y ^^^ q) = 0#32 := xor_zero.2 h
    refine xor_zero.1 ?_
    rw [← this]
    apply BitVec.eq_of_getLsbD_eq
    intro i hi
    simp only [BitVec.getLsbD_xor]
    cases p.getLsbD i <;> cases q.getLsbD i <;> cases y.getLsbD i <;> rfl
  have h4 := congrArg BitVec.toNat h3
  simp only [BitVec.toNat_ofNat] at h4
  omega
theorem xor8_nat (a b : Nat) (ha : a < 256) (hb : b < 256) : bitsI .xor .u8 (a : Int) (b : Int) = ((a ^^^ b : Nat) : Int) := by
  show IntKind.u8.wrap ((BitVec.ofInt 8 (a : Int) ^^^ BitVec.ofInt 8 (b : Int)).toNat : Int) = _
  rw [BitVec.ofInt_natCast, BitVec.ofInt_natCast, BitVec.toNat_xor, BitVec.toNat_ofNat, BitVec.toNat_ofNat, Nat.mod_eq_of_lt (show a < 2 ^ 8 by omega), Nat.mod_eq_of_lt (show b < 2 ^ 8 by omega), wrap8]
  have : a ^^^ b < 2 ^ 8 := Nat.xor_lt_two_pow (by omega) (by omega)
  omega
theorem xor8_rng (a b : Int) : 0 ≤ bitsI .xor .u8 a b ∧ bitsI .xor .u8 a b < 256 := wrap8_rng _
theorem xor8_same {a b : Int} (ha : 0 ≤ a ∧ a < 256) (hb : 0 ≤ b ∧ b < 256) : bitsI .xor .u8 a b = a ↔ b = 0 := by
  obtain ⟨m, rfl⟩ := Int.eq_ofNat_of_zero_le ha.1
  obtain ⟨k, rfl⟩ := Int.eq_ofNat_of_zero_le hb.1
  rw [xor8_nat m k (by omega) (by omega)]
  constructor
  · intro h
    have h : m ^^^ k = m := by omega
    have : m ^^^ (m ^^^ k) = m ^^^ m := by rw [h]
    rw [← Nat.xor_assoc, Nat.xor_self, Nat.zero_xor] at this
    omega
  · intro h
    have : k = 0 := by omega
    subst this
    simp
/-- One byte more or less by 'by'. -/
theorem one_turned (xs : List Int) (h : bytes xs) {i : Nat} (hi : i < xs.length) {b : Int} (hb : 0 ≤ b ∧ b < 256) :
    ((notU (foldA (xs.set i (bitsI .xor .u8 (xs.getD i 0) b))) == notU (foldA xs)) == (b == 0)) = true := by
  have ho := bytes_get h hi
  have hz := xor8_rng (xs.getD i 0) b
  have hn := xor8_same ho hb
  generalize bitsI .xor .u8 (xs.getD i 0) b = z at *
  rw [foldA_crc (bytes_set h hz), foldA_crc h, notU_nat, notU_nat, beq_iff_eq]
  by_cases hbz : b = 0
  · have hz2 := hn.2 hbz
    have : xs.set i z = xs := by
      rw [hz2]
      apply List.ext_getElem?
      intro j
      rw [List.getElem?_set]
      split
      · rename_i hij
        subst hij
        simp [List.getD, List.getElem?_eq_getElem hi, hi]
      · rfl
    rw [this, hbz]
    simp
  · have e1 : (b == 0) = false := by simpa using hbz
    rw [e1]
    rw [beq_eq_false_iff_ne]
    intro hc
    have hc := bv_inj.1 hc
    have hc2 : crc 4294967295#32 (xs.set i z) = crc 4294967295#32 xs := by
      generalize crc 4294967295#32 (xs.set i z) = p at hc
      generalize crc 4294967295#32 xs = q at hc
      have : (4294967295#32 ^^^ p) ^^^ (4294967295#32 ^^^ q) = 0#32 := xor_zero.2 hc
      refine xor_zero.1 ?_
      rw [← this]
      apply BitVec.eq_of_getLsbD_eq
      intro i hi
      simp only [BitVec.getLsbD_xor]
      cases p.getLsbD i <;> cases q.getLsbD i <;> cases (4294967295#32).getLsbD i <;> rfl
    exact hbz (hn.1 (crc_set hi 4294967295#32 hz ho hc2))
end Go.Proofs.Ytacafjapnppacaa.Sum
