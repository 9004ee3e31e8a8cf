/- The log, in plain terms: the numbers of a head; a row that stands on the disk is read. -/
import Derived.Test.YtgimkldaeobhnaaWalMathE
import Derived.KernelRfl
namespace Go.Proofs.Ytgimkldaeobhnaa.Dsk
open Go Go.Proofs.Ytgimkldaeobhnaa.Sx

/-! ### bytes of numbers -/
theorem wrap8 (n : Int) : IntKind.u8.wrap n = n % 256 := by rw [IntKind.wrap_u8]
theorem shr_i64 (n : Int) (k : Nat) (hk : k ≤ 64) : shr .i64 n (k : Int) = n / (2 ^ k : Nat) := by
  unfold shr
  rw [show min (k : Int).toNat IntKind.i64.bits = k by show min (k : Int).toNat 64 = k; omega, Int.fdiv_eq_ediv_of_nonneg _ (by exact Int.pow_nonneg (by omega))]
  norm_cast
theorem layB_at (n : Int) (len k s : Nat) (h : IntKind.i64.wrap (8 * IntKind.i64.wrap (IntKind.i64.wrap ((len : Int) - 1) - k)) = (s : Int)) (hs : s ≤ 64) : layB n len k = n / (2 ^ s : Nat) % 256 := by
  unfold layB
  rw [h, shr_i64 n s hs, wrap8]
def fourL (f : Int) : List Int := [f / 16777216 % 256, f / 65536 % 256, f / 256 % 256, f % 256]
def twoL (n : Int) : List Int := [n / 256 % 256, n % 256]
theorem lay4 (n : Int) : [layB n 4 0, layB n 4 1, layB n 4 2, layB n 4 3] = fourL n := by
  rw [layB_at n 4 0 24 (by decide) (by omega), layB_at n 4 1 16 (by decide) (by omega), layB_at n 4 2 8 (by decide) (by omega), layB_at n 4 3 0 (by decide) (by omega)]
  simp [fourL]
theorem lay2 (n : Int) : [layB n 2 0, layB n 2 1] = twoL n := by
  rw [layB_at n 2 0 8 (by decide) (by omega), layB_at n 2 1 0 (by decide) (by omega)]
  simp [twoL]
theorem or_byte (m : Nat) (c : Int) (hm : m < 1099511627776) (hc : 0 ≤ c ∧ c < 256) : bitsI .or .i64 (shl .i64 (m : Int) 8) (IntKind.i64.wrap c) = (m : Int) * 256 + c := by
  obtain ⟨k, rfl⟩ := Int.eq_ofNat_of_zero_le hc.1
  have h1 : shl .i64 (m : Int) 8 = ((m * 256 : Nat) : Int) := by
    unfold shl
    rw [show (2 : Int) ^ (min (8 : Int).toNat IntKind.i64.bits) = 256 from rfl, wrap_i64_id (by omega)]
    omega
  rw [h1, wrap_i64_id (by omega)]
  show IntKind.i64.wrap ((BitVec.ofInt 64 ((m * 256 : Nat) : Int) ||| BitVec.ofInt 64 (k : Int)).toNat : Int) = _
  rw [BitVec.ofInt_natCast, BitVec.ofInt_natCast, BitVec.toNat_or, BitVec.toNat_ofNat, BitVec.toNat_ofNat, Nat.mod_eq_of_lt (by omega), Nat.mod_eq_of_lt (by omega)]
  have h2 : m * 256 ||| k = m * 256 + k := by
    have := Nat.shiftLeft_add_eq_or_of_lt (show k < 2 ^ 8 by omega) m
    rw [Nat.shiftLeft_eq] at this
    exact this.symm
  rw [h2, wrap_i64_id (by omega)]
  omega
theorem or_byteI (n c : Int) (hn : 0 ≤ n ∧ n < 1099511627776) (hc : 0 ≤ c ∧ c < 256) : bitsI .or .i64 (shl .i64 n 8) (IntKind.i64.wrap c) = n * 256 + c := by
  obtain ⟨m, rfl⟩ := Int.eq_ofNat_of_zero_le hn.1
  exact or_byte m c (by omega) hc
theorem num2e (a b : Int) (ha : 0 ≤ a ∧ a < 256) (hb : 0 ≤ b ∧ b < 256) : numOf [a, b] = a * 256 + b := by
  show bitsI .or .i64 (shl .i64 (bitsI .or .i64 (shl .i64 0 8) (IntKind.i64.wrap a)) 8) (IntKind.i64.wrap b) = _
  rw [or_byteI 0 a (by omega) ha, or_byteI _ b (by omega) hb]
  omega
theorem num4e (a b c d : Int) (ha : 0 ≤ a ∧ a < 256) (hb : 0 ≤ b ∧ b < 256) (hc : 0 ≤ c ∧ c < 256) (hd : 0 ≤ d ∧ d < 256) : numOf [a, b, c, d] = ((a * 256 + b) * 256 + c) * 256 + d := by
  show bitsI .or .i64 (shl .i64 (bitsI .or .i64 (shl .i64 (bitsI .or .i64 (shl .i64 (bitsI .or .i64 (shl .i64 0 8) (IntKind.i64.wrap a)) 8) (IntKind.i64.wrap b)) 8) (IntKind.i64.wrap c)) 8) (IntKind.i64.wrap d) = _
  rw [or_byteI 0 a (by omega) ha, or_byteI _ b (by omega) hb, or_byteI _ c (by omega) hc, or_byteI _ d (by omega) hd]
  omega
theorem num_two {n : Int} (h : 0 ≤ n ∧ n < 65536) : numOf (twoL n) = n := by
  unfold twoL
  rw [num2e _ _ (by omega) (by omega)]
  omega
theorem num_four {n : Int} (h : 0 ≤ n ∧ n < 4294967296) : numOf (fourL n) = n := by
  unfold fourL
  rw [num4e _ _ _ _ (by omega) (by omega) (by omega) (by omega)]
  omega

/-! ### heads -/
theorem headL_lay (kind n : Int) (b : List Int) : headL kind n b = [layB b.length 2 0, layB b.length 2 1] ++ ([layB n 4 0, layB n 4 1, layB n 4 2, layB n 4 3] ++ ([layB (IntKind.i64.wrap (crc b)) 4 0, layB (IntKind.i64.wrap (crc b)) 4 1, layB (IntKind.i64.wrap (crc b)) 4 2, layB (IntKind.i64.wrap (crc b)) 4 3] ++ ([IntKind.u8.wrap kind, 197] ++ List.replicate 52 0))) := by kernel_rfl
theorem headL_eq (kind n : Int) (b : List Int) : headL kind n b = twoL b.length ++ (fourL n ++ (fourL (IntKind.i64.wrap (crc b)) ++ ([IntKind.u8.wrap kind, 197] ++ List.replicate 52 0))) := by
  rw [headL_lay, lay2, lay4, lay4]
theorem headL_len (kind n : Int) (b : List Int) : (headL kind n b).length = 64 := by rw [headL_eq]; rfl
theorem headS_l (kind n : Int) (b : List Int) : (headS kind n b).l = headL kind n b := Sec.of_l (headL_len kind n b)
theorem oneN_head (kind n : Int) {b : List Int} (h : b.length ≤ 16384) : oneN (headS kind n b) = b.length := by
  unfold oneN
  rw [headS_l, headL_eq]
  show numOf (twoL b.length) = _
  exact num_two (by omega)
theorem oneI_head (kind : Int) {n : Int} (b : List Int) (h : 0 ≤ n ∧ n < 4294967296) : oneI (headS kind n b) = n := by
  unfold oneI
  rw [headS_l, headL_eq]
  show numOf (fourL n) = _
  exact num_four h
theorem eqSec_self (x : Sec) : eqSec x x = true := by
  unfold eqSec
  have key : ∀ (f : Nat → Int) (l : List Nat), l.foldr (fun i acc => (f i == f i) && acc) true = true := by
    intro f l
    induction l with
    | nil => rfl
    | cons i l ih => rw [List.foldr_cons, ih, beq_self_eq_true]; rfl
  exact key (fun i => x.l.getD i 0) _
theorem eqSec_at {x y : Sec} (h : eqSec x y = true) {i : Nat} (hi : i < 64) : x.l.getD i 0 = y.l.getD i 0 := by
  have key : ∀ (f g : Nat → Int) (l : List Nat), l.foldr (fun i acc => (f i == g i) && acc) true = true → ∀ i ∈ l, f i = g i := by
    intro f g l
    induction l with
    | nil => intro _ i hi; cases hi
    | cons j l ih =>
      intro h i hi
      rw [List.foldr_cons, Bool.and_eq_true] at h
      rcases List.mem_cons.1 hi with rfl | hi
      · exact eq_of_beq h.1
      · exact ih h.2 i hi
  exact key (fun i => x.l.getD i 0) (fun i => y.l.getD i 0) _ h i (List.mem_range.2 hi)
theorem eqSec_iff {x y : Sec} : eqSec x y = true ↔ x = y := by
  refine ⟨fun h => ?_, fun h => h ▸ eqSec_self x⟩
  refine Sec.ext' (List.ext_getElem (x.h.trans y.h.symm) fun i h1 h2 => ?_)
  have := eqSec_at h (i := i) (by have := x.h; omega)
  rwa [List.getD_eq_getElem?_getD, List.getD_eq_getElem?_getD, List.getElem?_eq_getElem h1, List.getElem?_eq_getElem h2] at this
/-- A sector that is no head. -/
def Dead (s : Sec) : Prop := s.l.getD 11 0 ≠ 197
theorem zero_dead : Dead zeroS := by unfold Dead; decide
theorem head_live (kind n : Int) (b : List Int) : (headS kind n b).l.getD 11 0 = 197 := by
  rw [headS_l, headL_eq]
  rfl
theorem one_dead {d : Dk} {r a k : Int} (h : Dead (readS d (posOf d r a))) : (oneM d r a k).2.2 = false := by
  unfold oneM
  split
  · rfl
  split
  · rfl
  · show eqSec _ _ = false
    cases he : eqSec (readS d (posOf d r a)) (headS k (oneI (readS d (posOf d r a))) (oneB d (posOf d r a) (oneN (readS d (posOf d r a))))) with
    | false => rfl
    | true => exact absurd ((eqSec_at he (by decide : 11 < 64)).trans (head_live _ _ _)) h
theorem one_end {d : Dk} {r a k : Int} (h : a ≥ halfOf d) : (oneM d r a k).2.2 = false := by
  unfold oneM
  rw [if_pos h]

/-! ### a row is read as it was written -/
theorem chunkS_l (b : List Int) (k : Nat) : (chunkS b k).l = (b.drop (64 * k)).take 64 ++ List.replicate (64 - ((b.drop (64 * k)).take 64).length) 0 := Sec.of_l (chunk_len b k)
theorem blk_eq {d : Dk} {pos : Int} {b : List Int} : ∀ (m : Nat), m ≤ secsN b.length → (∀ j, j < m → readS d (IntKind.i64.wrap (pos + ((j : Int) + 1))) = chunkS b j) → ∃ z, blkAt d pos m = b.take (64 * m) ++ z
  | 0, _, _ => ⟨[], by rw [Nat.mul_zero, List.take_zero]; rfl⟩
  | m + 1, hm, h => by
    obtain ⟨z, hz⟩ := blk_eq m (by omega) (fun j hj => h j (by omega))
    have hsn : 64 * secsN b.length ≤ b.length + 63 := by unfold secsN; omega
    have hl : (blkAt d pos m).length = 64 * m := blk_len ..
    have hz0 : z = [] := by
      rw [hz, List.length_append, List.length_take] at hl
      exact List.eq_nil_of_length_eq_zero (by omega)
    subst hz0
    unfold blkAt
    rw [h m (by omega), hz, chunkS_l, List.append_nil]
    refine ⟨List.replicate (64 - ((b.drop (64 * m)).take 64).length) 0, ?_⟩
    rw [← List.append_assoc]
    congr 1
    rw [show 64 * (m + 1) = 64 * m + 64 by omega, List.take_add]
theorem oneB_eq {d : Dk} {pos : Int} {b : List Int} (hb : b.length ≤ 16384) (h : ∀ j, j < secsN b.length → readS d (IntKind.i64.wrap (pos + ((j : Int) + 1))) = chunkS b j) : oneB d pos b.length = b := by
  unfold oneB
  have hs := secs_eq b.length (by omega)
  have hsn : b.length ≤ 64 * secsN b.length := by unfold secsN; omega
  rw [hs, show ((1 : Int) + (secsN b.length : Int) - 1).toNat = secsN b.length by omega]
  obtain ⟨z, hz⟩ := blk_eq (d := d) (pos := pos) (b := b) (secsN b.length) (Nat.le_refl _) h
  rw [hz, Int.toNat_natCast, List.take_of_length_le hsn, List.take_left]
theorem one_row {d : Dk} {r a kind n : Int} {b : List Int} (hd : d.kept.length ≤ 512) (hn : 0 ≤ n ∧ n < 4294967296) (hb : b.length ≤ 16384) (ha : 0 ≤ a) (hf : a + secsOf (b.length : Int) ≤ halfOf d) (he : readE d (posOf d r a) = 0)
    (h0 : readS d (posOf d r a) = headS kind n b) (h : ∀ j, j < secsN b.length → readS d (IntKind.i64.wrap (posOf d r a + ((j : Int) + 1))) = chunkS b j) : oneM d r a kind = (n, b, true) := by
  have hh := half_in hd
  have hs := secs_eq b.length (by omega)
  unfold oneM
  rw [if_neg (by omega), h0, oneN_head kind n hb, oneI_head kind b hn, oneB_eq hb h, eqSec_self, he]
  rw [wrap_i64_id (by omega)]
  rw [if_neg]
  simp
  omega
end Go.Proofs.Ytgimkldaeobhnaa.Dsk
