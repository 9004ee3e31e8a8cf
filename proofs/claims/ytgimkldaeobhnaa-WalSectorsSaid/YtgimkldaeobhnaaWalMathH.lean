/- The log, in plain terms: heads and rows are read as they were written; what may stand on a disk that stops or fails anywhere; clearing and writing. -/
import Derived.Test.YtgimkldaeobhnaaWalMathE
import Derived.KernelRfl
namespace Go.Proofs.Ytgimkldaeobhnaa.Dsk
open Go Go.Proofs.Ytgimkldaeobhnaa.Sx

/-! ### bytes of numbers -/
theorem wrap8 (n : Int) : IntKind.u8.wrap n = n % 256 := by rw [IntKind.wrap_u8]
theorem shr_i64 (n : Int) (k : Nat) (hk : k ≤ 64) : shr .i64 n (k : Int) = n / (2 ^ k : Nat) := by
  unfold shr
  rw [show min (k : Int).toNat IntKind.i64.bits = k by show min (k : Int).toNat 64 = k; omega, Int.fdiv_eq_ediv_of_nonneg _ (by exact Int.pow_nonneg (by omega))]
  norm_cast
theorem layB_at (n : Int) (len k s : Nat) (h : IntKind.i64.wrap (8 * IntKind.i64.wrap (IntKind.i64.wrap ((len : Int) - 1) - k)) = (s : Int)) (hs : s ≤ 64) : layB n len k = n / (2 ^ s : Nat) % 256 := by
  unfold layB
  rw [h, shr_i64 n s hs, wrap8]
def fourL (f : Int) : List Int := [f / 16777216 % 256, f / 65536 % 256, f / 256 % 256, f % 256]
def twoL (n : Int) : List Int := [n / 256 % 256, n % 256]
theorem lay4 (n : Int) : [layB n 4 0, layB n 4 1, layB n 4 2, layB n 4 3] = fourL n := by
  rw [layB_at n 4 0 24 (by decide) (by omega), layB_at n 4 1 16 (by decide) (by omega), layB_at n 4 2 8 (by decide) (by omega), layB_at n 4 3 0 (by decide) (by omega)]
  simp [fourL]
theorem lay2 (n : Int) : [layB n 2 0, layB n 2 1] = twoL n := by
  rw [layB_at n 2 0 8 (by decide) (by omega), layB_at n 2 1 0 (by decide) (by omega)]
  simp [twoL]
theorem or_byte (m : Nat) (c : Int) (hm : m < 1099511627776) (hc : 0 ≤ c ∧ c < 256) : bitsI .or .i64 (shl .i64 (m : Int) 8) (IntKind.i64.wrap c) = (m : Int) * 256 + c := by
  obtain ⟨k, rfl⟩ := Int.eq_ofNat_of_zero_le hc.1
  have h1 : shl .i64 (m : Int) 8 = ((m * 256 : Nat) : Int) := by
    unfold shl
    rw [show (2 : Int) ^ (min (8 : Int).toNat IntKind.i64.bits) = 256 from rfl, wrap_i64_id (by omega)]
    omega
  rw [h1, wrap_i64_id (by omega)]
  show IntKind.i64.wrap ((BitVec.ofInt 64 ((m * 256 : Nat) : Int) ||| BitVec.ofInt 64 (k : Int)).toNat : Int) = _
  rw [BitVec.ofInt_natCast, BitVec.ofInt_natCast, BitVec.toNat_or, BitVec.toNat_ofNat, BitVec.toNat_ofNat, Nat.mod_eq_of_lt (by omega), Nat.mod_eq_of_lt (by omega)]
  have h2 : m * 256 ||| k = m * 256 + k := by
    have := Nat.shiftLeft_add_eq_or_of_lt (show k < 2 ^ 8 by omega) m
    rw [Nat.shiftLeft_eq] at this
    exact this.symm
  rw [h2, wrap_i64_id (by omega)]
  omega
theorem or_byteI (n c : Int) (hn : 0 ≤ n ∧ n < 1099511627776) (hc : 0 ≤ c ∧ c < 256) : bitsI .or .i64 (shl .i64 n 8) (IntKind.i64.wrap c) = n * 256 + c := by
  obtain ⟨m, rfl⟩ := Int.eq_ofNat_of_zero_le hn.1
  exact or_byte m c (by omega) hc
theorem num2e (a b : Int) (ha : 0 ≤ a ∧ a < 256) (hb : 0 ≤ b ∧ b < 256) : numOf [a, b] = a * 256 + b := by
  show bitsI .or .i64 (shl .i64 (bitsI .or .i64 (shl .i64 0 8) (IntKind.i64.wrap a)) 8) (IntKind.i64.wrap b) = _
  rw [or_byteI 0 a (by omega) ha, or_byteI _ b (by omega) hb]
  omega
theorem num4e (a b c d : Int) (ha : 0 ≤ a ∧ a < 256) (hb : 0 ≤ b ∧ b < 256) (hc : 0 ≤ c ∧ c < 256) (hd : 0 ≤ d ∧ d < 256) : numOf [a, b, c, d] = ((a * 256 + b) * 256 + c) * 256 + d := by
  show bitsI .or .i64 (shl .i64 (bitsI .or .i64 (shl .i64 (bitsI .or .i64 (shl .i64 (bitsI .or .i64 (shl .i64 0 8) (IntKind.i64.wrap a)) 8) (IntKind.i64.wrap b)) 8) (IntKind.i64.wrap c)) 8) (IntKind.i64.wrap d) = _
  rw [or_byteI 0 a (by omega) ha, or_byteI _ b (by omega) hb, or_byteI _ c (by omega) hc, or_byteI _ d (by omega) hd]
  omega
theorem num_two {n : Int} (h : 0 ≤ n ∧ n < 65536) : numOf (twoL n) = n := by
  unfold twoL
  rw [num2e _ _ (by omega) (by omega)]
  omega
theorem num_four {n : Int} (h : 0 ≤ n ∧ n < 4294967296) : numOf (fourL n) = n := by
  unfold fourL
  rw [num4e _ _ _ _ (by omega) (by omega) (by omega) (by omega)]
  omega

/-! ### heads -/
theorem headL_lay (kind n : Int) (b : List Int) : headL kind n b = [layB b.length 2 0, layB b.length 2 1] ++ ([layB n 4 0, layB n 4 1, layB n 4 2, layB n 4 3] ++ ([layB (IntKind.i64.wrap (crc b)) 4 0, layB (IntKind.i64.wrap (crc b)) 4 1, layB (IntKind.i64.wrap (crc b)) 4 2, layB (IntKind.i64.wrap (crc b)) 4 3] ++ ([IntKind.u8.wrap kind, 197] ++ List.replicate 52 0))) := by kernel_rfl
theorem headL_eq (kind n : Int) (b : List Int) : headL kind n b = twoL b.length ++ (fourL n ++ (fourL (IntKind.i64.wrap (crc b)) ++ ([IntKind.u8.wrap kind, 197] ++ List.replicate 52 0))) := by
  rw [headL_lay, lay2, lay4, lay4]
theorem headL_len (kind n : Int) (b : List Int) : (headL kind n b).length = 64 := by rw [headL_eq]; rfl
theorem headS_l (kind n : Int) (b : List Int) : (headS kind n b).l = headL kind n b := Sec.of_l (headL_len kind n b)
theorem oneN_head (kind n : Int) {b : List Int} (h : b.length ≤ 16384) : oneN (headS kind n b) = b.length := by
  unfold oneN
  rw [headS_l, headL_eq]
  show numOf (twoL b.length) = _
  exact num_two (by omega)
theorem oneI_head (kind : Int) {n : Int} (b : List Int) (h : 0 ≤ n ∧ n < 4294967296) : oneI (headS kind n b) = n := by
  unfold oneI
  rw [headS_l, headL_eq]
  show numOf (fourL n) = _
  exact num_four h
theorem eqSec_self (x : Sec) : eqSec x x = true := by
  unfold eqSec
  have key : ∀ (f : Nat → Int) (l : List Nat), l.foldr (fun i acc => (f i == f i) && acc) true = true := by
    intro f l
    induction l with
    | nil => rfl
    | cons i l ih => rw [List.foldr_cons, ih, beq_self_eq_true]; rfl
  exact key (fun i => x.l.getD i 0) _
theorem eqSec_at {x y : Sec} (h : eqSec x y = true) {i : Nat} (hi : i < 64) : x.l.getD i 0 = y.l.getD i 0 := by
  have key : ∀ (f g : Nat → Int) (l : List Nat), l.foldr (fun i acc => (f i == g i) && acc) true = true → ∀ i ∈ l, f i = g i := by
    intro f g l
    induction l with
    | nil => intro _ i hi; cases hi
    | cons j l ih =>
      intro h i hi
      rw [List.foldr_cons, Bool.and_eq_true] at h
      rcases List.mem_cons.1 hi with rfl | hi
      · exact eq_of_beq h.1
      · exact ih h.2 i hi
  exact key (fun i => x.l.getD i 0) (fun i => y.l.getD i 0) _ h i (List.mem_range.2 hi)
theorem eqSec_iff {x y : Sec} : eqSec x y = true ↔ x = y := by
  refine ⟨fun h => ?_, fun h => h ▸ eqSec_self x⟩
  refine Sec.ext' (List.ext_getElem (x.h.trans y.h.symm) fun i h1 h2 => ?_)
  have := eqSec_at h (i := i) (by have := x.h; omega)
  rwa [List.getD_eq_getElem?_getD, List.getD_eq_getElem?_getD, List.getElem?_eq_getElem h1, List.getElem?_eq_getElem h2] at this
/-- A sector that is no head. -/
def Dead (s : Sec) : Prop := s.l.getD 11 0 ≠ 197
theorem zero_dead : Dead zeroS := by unfold Dead; decide
theorem head_live (kind n : Int) (b : List Int) : (headS kind n b).l.getD 11 0 = 197 := by
  rw [headS_l, headL_eq]
  rfl
theorem one_dead {d : Dk} {r a k : Int} (h : Dead (readS d (posOf d r a))) : (oneM d r a k).2.2 = false := by
  unfold oneM
  split
  · rfl
  split
  · rfl
  · show eqSec _ _ = false
    cases he : eqSec (readS d (posOf d r a)) (headS k (oneI (readS d (posOf d r a))) (oneB d (posOf d r a) (oneN (readS d (posOf d r a))))) with
    | false => rfl
    | true => exact absurd ((eqSec_at he (by decide : 11 < 64)).trans (head_live _ _ _)) h
theorem one_end {d : Dk} {r a k : Int} (h : a ≥ halfOf d) : (oneM d r a k).2.2 = false := by
  unfold oneM
  rw [if_pos h]

/-! ### a row is read as it was written -/
theorem chunkS_l (b : List Int) (k : Nat) : (chunkS b k).l = (b.drop (64 * k)).take 64 ++ List.replicate (64 - ((b.drop (64 * k)).take 64).length) 0 := Sec.of_l (chunk_len b k)
theorem blk_eq {d : Dk} {pos : Int} {b : List Int} : ∀ (m : Nat), m ≤ secsN b.length → (∀ j, j < m → readS d (IntKind.i64.wrap (pos + ((j : Int) + 1))) = chunkS b j) → ∃ z, blkAt d pos m = b.take (64 * m) ++ z
  | 0, _, _ => ⟨[], by rw [Nat.mul_zero, List.take_zero]; rfl⟩
  | m + 1, hm, h => by
    obtain ⟨z, hz⟩ := blk_eq m (by omega) (fun j hj => h j (by omega))
    have hsn : 64 * secsN b.length ≤ b.length + 63 := by unfold secsN; omega
    have hl : (blkAt d pos m).length = 64 * m := blk_len ..
    have hz0 : z = [] := by
      rw [hz, List.length_append, List.length_take] at hl
      exact List.eq_nil_of_length_eq_zero (by omega)
    subst hz0
    unfold blkAt
    rw [h m (by omega), hz, chunkS_l, List.append_nil]
    refine ⟨List.replicate (64 - ((b.drop (64 * m)).take 64).length) 0, ?_⟩
    rw [← List.append_assoc]
    congr 1
    rw [show 64 * (m + 1) = 64 * m + 64 by omega, List.take_add]
theorem oneB_eq {d : Dk} {pos : Int} {b : List Int} (hb : b.length ≤ 16384) (h : ∀ j, j < secsN b.length → readS d (IntKind.i64.wrap (pos + ((j : Int) + 1))) = chunkS b j) : oneB d pos b.length = b := by
  unfold oneB
  have hs := secs_eq b.length (by omega)
  have hsn : b.length ≤ 64 * secsN b.length := by unfold secsN; omega
  rw [hs, show ((1 : Int) + (secsN b.length : Int) - 1).toNat = secsN b.length by omega]
  obtain ⟨z, hz⟩ := blk_eq (d := d) (pos := pos) (b := b) (secsN b.length) (Nat.le_refl _) h
  rw [hz, Int.toNat_natCast, List.take_of_length_le hsn, List.take_left]
theorem one_row {d : Dk} {r a kind n : Int} {b : List Int} (hd : d.kept.length ≤ 512) (hn : 0 ≤ n ∧ n < 4294967296) (hb : b.length ≤ 16384) (ha : 0 ≤ a) (hf : a + secsOf (b.length : Int) ≤ halfOf d) (he : readE d (posOf d r a) = 0)
    (h0 : readS d (posOf d r a) = headS kind n b) (h : ∀ j, j < secsN b.length → readS d (IntKind.i64.wrap (posOf d r a + ((j : Int) + 1))) = chunkS b j) : oneM d r a kind = (n, b, true) := by
  have hh := half_in hd
  have hs := secs_eq b.length (by omega)
  unfold oneM
  rw [if_neg (by omega), h0, oneN_head kind n hb, oneI_head kind b hn, oneB_eq hb h, eqSec_self, he]
  rw [wrap_i64_id (by omega)]
  rw [if_neg]
  simp
  omega

/-! ### contents -/
/-- What stands at a sector, what waits taken in. -/
def cont (d : Dk) (i : Int) : Sec := readAt d i d.wait.length
theorem readS_cont {d : Dk} (h : d.down = false) {i : Int} (hi : 0 ≤ i ∧ i < d.kept.length) : readS d i = cont d i := by
  unfold readS
  rw [if_neg (by rw [h]; decide), if_pos (inD_iff.2 hi)]
  rfl
theorem readE_in {d : Dk} (h : d.down = false) {i : Int} (hi : 0 ≤ i ∧ i < d.kept.length) : readE d i = 0 := by
  unfold readE
  rw [if_neg (by rw [h]; decide), if_pos (inD_iff.2 hi)]
theorem cont_still {d : Dk} (h : d.wait = []) (i : Int) : cont d i = getS d.kept i.toNat := by
  unfold cont
  rw [h]
  rfl
theorem writeE0 {d : Dk} {n : Int} (h : writeE d n = 0) : d.down = false ∧ (0 ≤ n ∧ n < d.kept.length) ∧ callE d = 0 := by
  unfold writeE at h
  split at h
  · cases h
  · rename_i hd
    split at h
    · rename_i hi
      exact ⟨by simpa using hd, inD_iff.1 hi, h⟩
    · cases h
theorem write0 {d : Dk} {n : Int} {x : Sec} (h : writeE d n = 0) : d.write n x = { d.call with wait := d.wait ++ [⟨n, x⟩] } := by
  obtain ⟨h1, h2, h3⟩ := writeE0 h
  unfold Dk.write
  rw [if_neg (by rw [h1]; decide), if_pos (inD_iff.2 h2), if_pos (by rw [h3]; decide)]
theorem flushE0 {d : Dk} (h : flushE d = 0) : d.down = false ∧ callE d = 0 := by
  unfold flushE at h
  split at h
  · cases h
  · rename_i hd
    exact ⟨by simpa using hd, h⟩
theorem flush0 {d : Dk} (h : flushE d = 0) : d.flush = { d.call with kept := keptAt d d.wait.length, wait := [] } := by
  obtain ⟨h1, h2⟩ := flushE0 h
  unfold Dk.flush
  rw [if_neg (by rw [h1]; decide), if_neg (by rw [h2]; decide)]
theorem readAt_app {d e : Dk} {w : Wr} (hk : e.kept = d.kept) (hw : e.wait = d.wait ++ [w]) (i : Int) : ∀ k, k ≤ d.wait.length → readAt e i k = readAt d i k
  | 0, _ => by unfold readAt; rw [hk]
  | k + 1, h => by
    have g : getW e.wait k = getW d.wait k := by rw [hw, getW_app, if_pos (by omega)]
    rw [readAt_next, readAt_next, g, readAt_app hk hw i k (by omega)]
theorem cont_write {d : Dk} {n : Int} {x : Sec} (h : writeE d n = 0) (i : Int) : cont (d.write n x) i = if i = n then x else cont d i := by
  have e := write0 (x := x) h
  have hk : (d.write n x).kept = d.kept := write_kept ..
  have hw : (d.write n x).wait = d.wait ++ [⟨n, x⟩] := by rw [e]
  have g : getW (d.write n x).wait d.wait.length = ⟨n, x⟩ := by rw [hw, getW_app, if_neg (by omega), if_pos rfl]
  unfold cont
  rw [show (d.write n x).wait.length = d.wait.length + 1 by rw [hw, List.length_append, List.length_singleton], readAt_next, g, readAt_app hk hw i _ (Nat.le_refl _)]
  by_cases hi : i = n
  · subst hi; rw [if_pos (by simp), if_pos rfl]
  · rw [if_neg (by simpa using fun h => hi h.symm), if_neg hi]
theorem keptAt_read {d : Dk} {m : Nat} (hB : DkB d m) {i : Int} (hi : 0 ≤ i) : ∀ k, k ≤ d.wait.length → getS (keptAt d k) i.toNat = readAt d i k
  | 0, _ => rfl
  | k + 1, h => by
    have hw := hB.2.2 k (by omega)
    rw [readAt_next, ← keptAt_read hB hi k (by omega)]
    show getS ((keptAt d k).set (getW d.wait k).at_.toNat (getW d.wait k).data) i.toNat = _
    rw [getS_set (by rw [keptAt_len]; omega)]
    by_cases e : (getW d.wait k).at_ = i
    · rw [if_pos (by rw [e]), if_pos (by rw [e]; simp)]
    · rw [if_neg (by omega), if_neg (by simpa using e)]
theorem cont_flush {d : Dk} {m : Nat} (hB : DkB d m) (h : flushE d = 0) {i : Int} (hi : 0 ≤ i) : cont d.flush i = cont d i := by
  rw [cont_still (by rw [flush0 h]), flush0 h]
  exact keptAt_read hB hi _ (Nat.le_refl _)
theorem flush_wait {d : Dk} (h : flushE d = 0) : d.flush.wait = [] := by rw [flush0 h]

/-! ### what may stand there -/
def TQ (Q : Int → Sec → Prop) (i : Int) (x : Sec) : Prop := Q i x ∧ ∀ s n, Q i s → Q i (tearS s x n)
structure Safe (d : Dk) (Q : Int → Sec → Prop) : Prop where
  kept : ∀ i : Int, 0 ≤ i → i < d.kept.length → Q i (getS d.kept i.toNat)
  wait : ∀ w ∈ d.wait, TQ Q w.at_ w.data
theorem getW_mem {ws : List Wr} {k : Nat} (h : k < ws.length) : getW ws k ∈ ws := by
  unfold getW
  rw [List.getD_eq_getElem?_getD, List.getElem?_eq_getElem h]
  exact List.getElem_mem h
theorem Safe.of {d : Dk} {Q : Int → Sec → Prop} (hw : d.wait = []) (h : ∀ i : Int, 0 ≤ i → i < d.kept.length → Q i (cont d i)) : Safe d Q :=
  ⟨fun i h0 h1 => by rw [← cont_still hw]; exact h i h0 h1, fun w hw' => by rw [hw] at hw'; cases hw'⟩
theorem Safe.mono {d : Dk} {Q R : Int → Sec → Prop} (h : Safe d Q) (hw : d.wait = []) (hQ : ∀ i : Int, 0 ≤ i → i < d.kept.length → ∀ s, Q i s → R i s) : Safe d R :=
  ⟨fun i h0 h1 => hQ i h0 h1 _ (h.kept i h0 h1), fun w hw' => by rw [hw] at hw'; cases hw'⟩
theorem Safe.write {d : Dk} {Q : Int → Sec → Prop} (h : Safe d Q) {n : Int} {x : Sec} (hx : TQ Q n x) : Safe (d.write n x) Q := by
  refine ⟨by rw [write_kept]; exact h.kept, fun w hw => ?_⟩
  unfold Dk.write at hw
  split at hw
  · exact h.wait w hw
  · split at hw
    · split at hw
      · have hw : w ∈ d.wait ++ [⟨n, x⟩] := hw
        rcases List.mem_append.1 hw with hw | hw
        · exact h.wait w hw
        · rw [List.mem_singleton.1 hw]; exact hx
      · exact h.wait w hw
    · exact h.wait w hw
theorem keptAt_safe {d : Dk} {m : Nat} (hB : DkB d m) {Q : Int → Sec → Prop} (h : Safe d Q) : ∀ k, k ≤ d.wait.length → ∀ i : Int, 0 ≤ i → i < d.kept.length → Q i (getS (keptAt d k) i.toNat)
  | 0, _, i, h0, h1 => h.kept i h0 h1
  | k + 1, hk, i, h0, h1 => by
    have hw := hB.2.2 k (by omega)
    have ih := keptAt_safe hB h k (by omega) i h0 h1
    show Q i (getS ((keptAt d k).set (getW d.wait k).at_.toNat (getW d.wait k).data) i.toNat)
    rw [getS_set (by rw [keptAt_len]; omega)]
    split
    · have e : (getW d.wait k).at_ = i := by omega
      have := (h.wait _ (getW_mem (show k < d.wait.length by omega))).1
      rwa [e] at this
    · exact ih
theorem keptR_safe {d : Dk} {m : Nat} (hB : DkB d m) {Q : Int → Sec → Prop} (h : Safe d Q) (a t b : Int) : ∀ k, k ≤ d.wait.length → ∀ i : Int, 0 ≤ i → i < d.kept.length → Q i (getS (keptR d a t b k) i.toNat)
  | 0, _, i, h0, h1 => h.kept i h0 h1
  | k + 1, hk, i, h0, h1 => by
    have hw := hB.2.2 k (by omega)
    have ih := keptR_safe hB h a t b k (by omega)
    have hm := h.wait _ (getW_mem (show k < d.wait.length by omega))
    rw [keptR_next]
    split
    · rw [getS_set (by rw [keptR_len]; omega)]
      split
      · have e : (getW d.wait k).at_ = i := by omega
        rw [e] at hm ⊢
        exact hm.2 _ _ (ih i h0 h1)
      · exact ih i h0 h1
    · split
      · rw [getS_set (by rw [keptR_len]; omega)]
        split
        · have e : (getW d.wait k).at_ = i := by omega
          rw [e] at hm
          exact hm.1
        · exact ih i h0 h1
      · exact ih i h0 h1
theorem Safe.flush {d : Dk} {m : Nat} (hB : DkB d m) {Q : Int → Sec → Prop} (h : Safe d Q) : Safe d.flush Q := by
  unfold Dk.flush
  split
  · exact h
  split
  · exact ⟨h.kept, h.wait⟩
  · exact ⟨fun i h0 h1 => keptAt_safe hB h _ (Nat.le_refl _) i h0 (by rw [show ((({ d.call with kept := keptAt d d.wait.length, wait := [] } : Dk).kept.length : Nat)) = d.kept.length from keptAt_len ..] at h1; exact h1), fun w hw => by cases hw⟩
theorem Safe.restart {d : Dk} {m : Nat} (hB : DkB d m) {Q : Int → Sec → Prop} (h : Safe d Q) (a t b : Int) : Safe (d.restart a t b) Q :=
  ⟨fun i h0 h1 => keptR_safe hB h a t b _ (Nat.le_refl _) i h0 (by rw [show (d.restart a t b).kept.length = d.kept.length from keptR_len ..] at h1; exact h1), fun w hw => by cases hw⟩

/-! ### errors -/
/-- What a disk tells that does not fail: nothing, or that it stopped. -/
theorem call_two {d : Dk} (h : d.fail = -1) : callE d = 0 ∨ callE d = 9 := by
  unfold callE
  split
  · exact .inr rfl
  · rw [if_neg (by rw [h]; decide)]; exact .inl rfl
theorem fail_call {d : Dk} (h : d.fail = -1) : d.call.fail = -1 := by
  show mx (-1) (IntKind.i64.wrap (d.fail - 1)) = -1
  rw [h]; decide
theorem write_fail {d : Dk} (h : d.fail = -1) (n : Int) (x : Sec) : (d.write n x).fail = -1 := by
  unfold Dk.write
  split
  · exact h
  split
  · split
    · exact fail_call h
    · exact fail_call h
  · exact h
theorem flush_fail {d : Dk} (h : d.fail = -1) : d.flush.fail = -1 := by
  unfold Dk.flush
  split
  · exact h
  split
  · exact fail_call h
  · exact fail_call h
theorem write_two {d : Dk} (h : d.fail = -1) {n : Int} (hn : 0 ≤ n ∧ n < d.kept.length) : writeE d n = 0 ∨ writeE d n = 9 := by
  unfold writeE
  split
  · exact .inr rfl
  · rw [if_pos (inD_iff.2 hn)]; exact call_two h
theorem flush_two {d : Dk} (h : d.fail = -1) : flushE d = 0 ∨ flushE d = 9 := by
  unfold flushE
  split
  · exact .inr rfl
  · exact call_two h

/-! ### clearing -/
theorem ne0 {e : Int} : (e != 0) = true ↔ e ≠ 0 := by simp
theorem clearGo_spec {Q : Int → Sec → Prop} {r : Int} (hr : 0 ≤ r ∧ r ≤ 1) : ∀ (m : Nat) (d : Dk) (k : Int) (n : Nat), DkB d n → 0 ≤ k → k + m ≤ halfOf d → Safe d Q → (∀ j : Int, k ≤ j → j < k + m → TQ Q (r * halfOf d + j) zeroS) →
    Safe (clearGo d r k m).1 Q ∧ ((clearGo d r k m).2 = 0 → (clearGo d r k m).1.wait = [] ∧ ∀ i : Int, 0 ≤ i → cont (clearGo d r k m).1 i = if r * halfOf d + k ≤ i ∧ i < r * halfOf d + k + m then zeroS else cont d i)
  | 0, d, k, n, hB, hk, hm, hS, hQ => by
    refine ⟨hS.flush hB, fun h => ⟨flush_wait h, fun i hi => ?_⟩⟩
    rw [if_neg (by omega)]
    exact cont_flush hB h hi
  | m + 1, d, k, n, hB, hk, hm, hS, hQ => by
    have hh := half_in hB.1
    have hp : posOf d r k = r * halfOf d + k := posOf_eq hB.1 hr ⟨hk, by omega⟩
    have hq := hS.write (hQ k (Int.le_refl _) (by omega))
    rw [clearGo, hp]
    split
    · rename_i he
      exact ⟨hq, fun h => absurd h (ne0.1 he)⟩
    · rename_i he
      have he : writeE d (r * halfOf d + k) = 0 := by simpa using he
      have hl : halfOf (d.write (r * halfOf d + k) zeroS) = halfOf d := half_len (write_len ..)
      obtain ⟨h1, h2⟩ := clearGo_spec hr m (d.write (r * halfOf d + k) zeroS) (k + 1) (n + 1) (hB.write ..) (by omega) (by rw [hl]; omega) hq (fun j h1 h2 => by rw [hl]; exact hQ j (by omega) (by omega))
      refine ⟨h1, fun h => ⟨(h2 h).1, fun i hi => ?_⟩⟩
      rw [(h2 h).2 i hi, hl, cont_write he]
      by_cases hc : r * halfOf d + k ≤ i ∧ i < r * halfOf d + k + ((m + 1 : Nat) : Int)
      · rw [if_pos hc]
        by_cases e : i = r * halfOf d + k
        · rw [if_pos e]; split <;> rfl
        · rw [if_pos (by omega)]
      · rw [if_neg hc, if_neg (by omega), if_neg (by omega)]
theorem clearM_spec {Q : Int → Sec → Prop} {r k : Int} {d : Dk} {n : Nat} (hr : 0 ≤ r ∧ r ≤ 1) (hB : DkB d n) (hk : 0 ≤ k) (hS : Safe d Q) (hQ : ∀ j : Int, k ≤ j → j < halfOf d → TQ Q (r * halfOf d + j) zeroS) :
    Safe (clearM d r k).1 Q ∧ ((clearM d r k).2 = 0 → (clearM d r k).1.wait = [] ∧ ∀ i : Int, 0 ≤ i → cont (clearM d r k).1 i = if r * halfOf d + k ≤ i ∧ i < r * halfOf d + halfOf d then zeroS else cont d i) := by
  unfold clearM
  by_cases hm : k ≤ halfOf d
  · obtain ⟨h1, h2⟩ := clearGo_spec hr (halfOf d - k).toNat d k n hB hk (by omega) hS (fun j h1 h2 => hQ j h1 (by omega))
    refine ⟨h1, fun h => ⟨(h2 h).1, fun i hi => ?_⟩⟩
    rw [(h2 h).2 i hi]
    by_cases hc : r * halfOf d + k ≤ i ∧ i < r * halfOf d + halfOf d
    · rw [if_pos hc, if_pos (by omega)]
    · rw [if_neg hc, if_neg (by omega)]
  · rw [show (halfOf d - k).toNat = 0 by omega]
    refine ⟨hS.flush hB, fun h => ⟨flush_wait h, fun i hi => ?_⟩⟩
    rw [if_neg (by omega)]
    exact cont_flush hB h hi
theorem clearGo_two {r : Int} (hr : 0 ≤ r ∧ r ≤ 1) : ∀ (m : Nat) (d : Dk) (k : Int), d.kept.length ≤ 512 → d.fail = -1 → 0 ≤ k → k + m ≤ halfOf d → (clearGo d r k m).2 = 0 ∨ (clearGo d r k m).2 = 9
  | 0, d, k, _, hf, _, _ => flush_two hf
  | m + 1, d, k, hd, hf, hk, hm => by
    have hh := half_in hd
    have hp : posOf d r k = r * halfOf d + k := posOf_eq hd hr ⟨hk, by omega⟩
    have hl : halfOf (d.write (posOf d r k) zeroS) = halfOf d := half_len (write_len ..)
    rw [clearGo]
    split
    · rw [hp]
      exact write_two hf (by rcases (show r = 0 ∨ r = 1 by omega) with rfl | rfl <;> omega)
    · exact clearGo_two hr m _ _ (by rw [write_len]; exact hd) (write_fail hf _ _) (by omega) (by rw [hl]; omega)
theorem clearM_two {r k : Int} {d : Dk} (hr : 0 ≤ r ∧ r ≤ 1) (hd : d.kept.length ≤ 512) (hf : d.fail = -1) (hk : 0 ≤ k) : (clearM d r k).2 = 0 ∨ (clearM d r k).2 = 9 := by
  unfold clearM
  by_cases hm : k ≤ halfOf d
  · exact clearGo_two hr _ d k hd hf hk (by omega)
  · rw [show (halfOf d - k).toNat = 0 by omega]
    exact flush_two hf
theorem clearGo_calm {r : Int} (hr : 0 ≤ r ∧ r ≤ 1) : ∀ (m : Nat) (d : Dk) (k : Int), d.kept.length ≤ 512 → Calm d → 0 ≤ k → k + m ≤ halfOf d → (clearGo d r k m).2 = 0 ∧ Calm (clearGo d r k m).1
  | 0, d, k, _, hc, _, _ => ⟨hc.flushE, hc.flush_calm⟩
  | m + 1, d, k, hd, hc, hk, hm => by
    have hh := half_in hd
    have hp : posOf d r k = r * halfOf d + k := posOf_eq hd hr ⟨hk, by omega⟩
    have hl : halfOf (d.write (posOf d r k) zeroS) = halfOf d := half_len (write_len ..)
    have hi : 0 ≤ posOf d r k ∧ posOf d r k < d.kept.length := by rw [hp]; rcases (show r = 0 ∨ r = 1 by omega) with rfl | rfl <;> omega
    rw [clearGo, if_neg (by rw [hc.writeE hi]; decide)]
    exact clearGo_calm hr m _ _ (by rw [write_len]; exact hd) (hc.write_calm hi) (by omega) (by rw [hl]; omega)
theorem clearM_calm {r k : Int} {d : Dk} (hr : 0 ≤ r ∧ r ≤ 1) (hd : d.kept.length ≤ 512) (hc : Calm d) (hk : 0 ≤ k) : (clearM d r k).2 = 0 ∧ Calm (clearM d r k).1 := by
  unfold clearM
  by_cases hm : k ≤ halfOf d
  · exact clearGo_calm hr _ d k hd hc hk (by omega)
  · rw [show (halfOf d - k).toNat = 0 by omega]
    exact ⟨hc.flushE, hc.flush_calm⟩

/-! ### writing a row -/
/-- What stands there when a row's bytes were written, its head not yet. -/
def bodyC (c : Int → Sec) (p : Int) (b : List Int) (i : Int) : Sec := if p + 1 ≤ i ∧ i < p + 1 + (secsN b.length : Int) then chunkS b (i - p - 1).toNat else c i
/-- .. and its head. -/
def rowC (c : Int → Sec) (p kind id : Int) (b : List Int) (i : Int) : Sec := if i = p then headS kind id b else bodyC c p b i
def bodyF (c : Int → Sec) (p : Int) (b : List Int) (j : Nat) (i : Int) : Sec := if p + 1 + (j : Int) ≤ i ∧ i < p + 1 + (secsN b.length : Int) then chunkS b (i - p - 1).toNat else c i
theorem putEnd_spec {Q R : Int → Sec → Prop} {p kind id : Int} {b : List Int} {d : Dk} {n : Nat} (hB : DkB d n) (hS : Safe d Q)
    (h2 : ∀ i : Int, 0 ≤ i → i < d.kept.length → R i (cont d i)) (h3 : TQ R p (headS kind id b)) :
    ((putEnd d p kind id b).2 ≠ 0 → Safe (putEnd d p kind id b).1 Q ∨ Safe (putEnd d p kind id b).1 R) ∧
    ((putEnd d p kind id b).2 = 0 → (putEnd d p kind id b).1.wait = [] ∧ ∀ i : Int, 0 ≤ i → cont (putEnd d p kind id b).1 i = if i = p then headS kind id b else cont d i) := by
  unfold putEnd
  split
  · rename_i he
    exact ⟨fun _ => .inl (hS.flush hB), fun h => absurd h (ne0.1 he)⟩
  · rename_i he
    have he : flushE d = 0 := by simpa using he
    have hl : d.flush.kept.length = d.kept.length := flush_len d
    have hR : Safe d.flush R := Safe.of (flush_wait he) fun i h0 h1 => by rw [cont_flush hB he h0]; exact h2 i h0 (by rw [hl] at h1; exact h1)
    have hR2 := hR.write h3
    split
    · rename_i hf
      exact ⟨fun _ => .inr hR2, fun h => absurd h (ne0.1 hf)⟩
    · rename_i hf
      have hf : writeE d.flush p = 0 := by simpa using hf
      refine ⟨fun _ => .inr (hR2.flush (hB.flush.write ..)), fun h => ⟨flush_wait h, fun i hi => ?_⟩⟩
      rw [cont_flush (hB.flush.write ..) h hi, cont_write hf, cont_flush hB he hi]
theorem putGo_spec {Q R : Int → Sec → Prop} {p kind id : Int} {b : List Int} (hp : 0 ≤ p ∧ p ≤ 1000) (hb : b.length ≤ 20000) : ∀ (m : Nat) (d : Dk) (j n : Nat), j + m = secsN b.length → DkB d n → Safe d Q → (∀ i : Nat, j ≤ i → i < secsN b.length → TQ Q (p + 1 + (i : Int)) (chunkS b i)) →
    (∀ i : Int, 0 ≤ i → i < d.kept.length → R i (bodyF (cont d) p b j i)) → TQ R p (headS kind id b) →
    ((putGo d p kind id b j m).2 ≠ 0 → Safe (putGo d p kind id b j m).1 Q ∨ Safe (putGo d p kind id b j m).1 R) ∧
    ((putGo d p kind id b j m).2 = 0 → (putGo d p kind id b j m).1.wait = [] ∧ ∀ i : Int, 0 ≤ i → cont (putGo d p kind id b j m).1 i = if i = p then headS kind id b else bodyF (cont d) p b j i)
  | 0, d, j, n, hj, hB, hS, h1, h2, h3 => by
    have e : ∀ i, bodyF (cont d) p b j i = cont d i := fun i => by unfold bodyF; rw [if_neg (by omega)]
    simp only [e] at h2 ⊢
    exact putEnd_spec hB hS h2 h3
  | m + 1, d, j, n, hj, hB, hS, h1, h2, h3 => by
    have hsn : 64 * secsN b.length ≤ b.length + 63 := by unfold secsN; omega
    have hw : IntKind.i64.wrap (p + ((j : Int) + 1)) = p + 1 + (j : Int) := by rw [wrap_i64_id (by omega)]; omega
    have hq := hS.write (h1 j (Nat.le_refl _) (by omega))
    rw [putGo, hw]
    split
    · rename_i he
      exact ⟨fun _ => .inl hq, fun h => absurd h (ne0.1 he)⟩
    · rename_i he
      have he : writeE d (p + 1 + (j : Int)) = 0 := by simpa using he
      have e : ∀ i, bodyF (cont (d.write (p + 1 + (j : Int)) (chunkS b j))) p b (j + 1) i = bodyF (cont d) p b j i := by
        intro i
        unfold bodyF
        rw [cont_write he]
        by_cases hi : i = p + 1 + (j : Int)
        · rw [if_neg (by omega), if_pos hi, if_pos (by omega), show (i - p - 1).toNat = j by omega]
        · rw [if_neg hi]
          by_cases hc : p + 1 + (j : Int) ≤ i ∧ i < p + 1 + (secsN b.length : Int)
          · rw [if_pos hc, if_pos (by omega)]
          · rw [if_neg hc, if_neg (by omega)]
      have := putGo_spec hp hb m (d.write (p + 1 + (j : Int)) (chunkS b j)) (j + 1) (n + 1) (by omega) (hB.write ..) hq (fun i h4 h5 => h1 i (by omega) h5) (fun i h4 h5 => by rw [e]; exact h2 i h4 (by rw [write_len] at h5; exact h5)) h3
      simp only [e] at this
      exact this
theorem putM_spec {Q R : Int → Sec → Prop} {r a kind id : Int} {b : List Int} {d : Dk} {n : Nat} (hr : 0 ≤ r ∧ r ≤ 1) (ha : 0 ≤ a) (hh : a ≤ halfOf d) (hb : b.length ≤ 20000) (hB : DkB d n) (hS : Safe d Q) (h1 : ∀ i : Nat, i < secsN b.length → TQ Q (r * halfOf d + a + 1 + (i : Int)) (chunkS b i))
    (h2 : ∀ i : Int, 0 ≤ i → i < d.kept.length → R i (bodyC (cont d) (r * halfOf d + a) b i)) (h3 : TQ R (r * halfOf d + a) (headS kind id b)) :
    ((putM d r a kind id b).2 ≠ 0 → Safe (putM d r a kind id b).1 Q ∨ Safe (putM d r a kind id b).1 R) ∧
    ((putM d r a kind id b).2 = 0 → (putM d r a kind id b).1.wait = [] ∧ ∀ i : Int, 0 ≤ i → cont (putM d r a kind id b).1 i = rowC (cont d) (r * halfOf d + a) kind id b i) := by
  have hi := half_in hB.1
  have hp : posOf d r a = r * halfOf d + a := posOf_eq hB.1 hr ⟨ha, by omega⟩
  unfold putM
  rw [hp]
  have hq : 0 ≤ r * halfOf d + a ∧ r * halfOf d + a ≤ 1000 := by rcases (show r = 0 ∨ r = 1 by omega) with rfl | rfl <;> omega
  have e : ∀ i, bodyF (cont d) (r * halfOf d + a) b 0 i = bodyC (cont d) (r * halfOf d + a) b i := fun i => by unfold bodyF bodyC; simp
  have := putGo_spec (Q := Q) (R := R) (kind := kind) (id := id) hq hb (secsN b.length) d 0 n (by omega) hB hS (fun i _ h => h1 i h) (fun i h4 h5 => by rw [e]; exact h2 i h4 h5) h3
  simp only [e] at this
  exact this
theorem putEnd_two {p kind id : Int} {b : List Int} {d : Dk} (hp : 0 ≤ p ∧ p < d.kept.length) (hf : d.fail = -1) : (putEnd d p kind id b).2 = 0 ∨ (putEnd d p kind id b).2 = 9 := by
  unfold putEnd
  split
  · exact flush_two hf
  split
  · exact write_two (flush_fail hf) (by rw [flush_len]; exact hp)
  · exact flush_two (write_fail (flush_fail hf) _ _)
theorem putGo_two {p kind id : Int} {b : List Int} (hb : b.length ≤ 20000) : ∀ (m : Nat) (d : Dk) (j : Nat), j + m = secsN b.length → (0 ≤ p ∧ p + (secsN b.length : Int) < d.kept.length) → d.kept.length ≤ 512 → d.fail = -1 → (putGo d p kind id b j m).2 = 0 ∨ (putGo d p kind id b j m).2 = 9
  | 0, d, j, hj, hp, hd, hf => putEnd_two (by omega) hf
  | m + 1, d, j, hj, hp, hd, hf => by
    have hw : IntKind.i64.wrap (p + ((j : Int) + 1)) = p + 1 + (j : Int) := by rw [wrap_i64_id (by omega)]; omega
    rw [putGo, hw]
    split
    · exact write_two hf (by omega)
    · exact putGo_two hb m _ (j + 1) (by omega) (by rw [write_len]; exact hp) (by rw [write_len]; exact hd) (write_fail hf _ _)
theorem putEnd_calm {p kind id : Int} {b : List Int} {d : Dk} (hp : 0 ≤ p ∧ p < d.kept.length) (hc : Calm d) : (putEnd d p kind id b).2 = 0 ∧ Calm (putEnd d p kind id b).1 := by
  unfold putEnd
  rw [if_neg (by rw [hc.flushE]; decide), if_neg (by rw [hc.flush_calm.writeE (by rw [flush_len]; exact hp)]; decide)]
  have := hc.flush_calm.write_calm (n := p) (x := headS kind id b) (by rw [flush_len]; exact hp)
  exact ⟨this.flushE, this.flush_calm⟩
theorem putGo_calm {p kind id : Int} {b : List Int} (hb : b.length ≤ 20000) : ∀ (m : Nat) (d : Dk) (j : Nat), j + m = secsN b.length → (0 ≤ p ∧ p + (secsN b.length : Int) < d.kept.length) → d.kept.length ≤ 512 → Calm d → (putGo d p kind id b j m).2 = 0 ∧ Calm (putGo d p kind id b j m).1
  | 0, d, j, hj, hp, hd, hc => putEnd_calm (by omega) hc
  | m + 1, d, j, hj, hp, hd, hc => by
    have hw : IntKind.i64.wrap (p + ((j : Int) + 1)) = p + 1 + (j : Int) := by rw [wrap_i64_id (by omega)]; omega
    have hi : 0 ≤ p + 1 + (j : Int) ∧ p + 1 + (j : Int) < d.kept.length := by omega
    rw [putGo, hw, if_neg (by rw [hc.writeE hi]; decide)]
    exact putGo_calm hb m _ (j + 1) (by omega) (by rw [write_len]; exact hp) (by rw [write_len]; exact hd) (hc.write_calm hi)
theorem pos_in {d : Dk} {r a : Int} {b : List Int} (hd : d.kept.length ≤ 512) (hr : 0 ≤ r ∧ r ≤ 1) (ha : 0 ≤ a) (hb : b.length ≤ 20000) (hf : a + secsOf (b.length : Int) ≤ halfOf d) : posOf d r a = r * halfOf d + a ∧ 0 ≤ posOf d r a ∧ posOf d r a + (secsN b.length : Int) < d.kept.length := by
  have hi := half_in hd
  have hs := secs_eq b.length (by omega)
  have hp : posOf d r a = r * halfOf d + a := posOf_eq hd hr ⟨ha, by omega⟩
  refine ⟨hp, ?_⟩
  rw [hp]
  rcases (show r = 0 ∨ r = 1 by omega) with rfl | rfl <;> omega
theorem putM_two {d : Dk} {r a kind id : Int} {b : List Int} (hd : d.kept.length ≤ 512) (hr : 0 ≤ r ∧ r ≤ 1) (ha : 0 ≤ a) (hb : b.length ≤ 20000) (hf : a + secsOf (b.length : Int) ≤ halfOf d) (hx : d.fail = -1) : (putM d r a kind id b).2 = 0 ∨ (putM d r a kind id b).2 = 9 :=
  putGo_two hb _ d 0 (by omega) (pos_in hd hr ha hb hf).2 hd hx
theorem putM_calm {d : Dk} {r a kind id : Int} {b : List Int} (hd : d.kept.length ≤ 512) (hr : 0 ≤ r ∧ r ≤ 1) (ha : 0 ≤ a) (hb : b.length ≤ 20000) (hf : a + secsOf (b.length : Int) ≤ halfOf d) (hc : Calm d) : (putM d r a kind id b).2 = 0 ∧ Calm (putM d r a kind id b).1 :=
  putGo_calm hb _ d 0 (by omega) (pos_in hd hr ha hb hf).2 hd hc
end Go.Proofs.Ytgimkldaeobhnaa.Dsk
