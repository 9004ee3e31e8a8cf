/- The log, in plain terms: what stands on the disk are bytes; reading a row. -/
import Derived.Test.YtgimkldaeobhnaaWalMathB
namespace Go.Proofs.Ytgimkldaeobhnaa.Dsk
open Go Go.Proofs.Ytgimkldaeobhnaa.Sx

theorem zero_ok : secOk zeroS := by
  intro x hx
  have hx : x ∈ List.replicate 64 (0 : Int) := hx
  rw [List.eq_of_mem_replicate hx]
  decide
theorem readAt_ok {d : Dk} (h : DkY d) (n : Int) : ∀ k, secOk (readAt d n k)
  | 0 => by
    show secOk (d.kept.getD n.toNat zeroS)
    rw [List.getD_eq_getElem?_getD]
    cases hk : d.kept[n.toNat]? with
    | none => exact zero_ok
    | some s => exact h.1 s (List.mem_of_getElem? hk)
  | k + 1 => by
    rw [readAt_next]
    split
    · show secOk (d.wait.getD k zeroW).data
      rw [List.getD_eq_getElem?_getD]
      cases hk : d.wait[k]? with
      | none => exact zero_ok
      | some w => exact h.2 w (List.mem_of_getElem? hk)
    · exact readAt_ok h n k
theorem readS_ok {d : Dk} (h : DkY d) (n : Int) : secOk (readS d n) := by
  unfold readS
  split
  · exact zero_ok
  · split
    · exact readAt_ok h n _
    · exact zero_ok
theorem or_in {a b : Int} (ha : 0 ≤ a ∧ a < 2 ^ 62) (hb : 0 ≤ b ∧ b < 2 ^ 62) : 0 ≤ bitsI .or .i64 a b ∧ bitsI .or .i64 a b < 2 ^ 62 := by
  obtain ⟨m, rfl⟩ := Int.eq_ofNat_of_zero_le ha.1
  obtain ⟨n, rfl⟩ := Int.eq_ofNat_of_zero_le hb.1
  have hm : m < 2 ^ 62 := by omega
  have hn : n < 2 ^ 62 := by omega
  have ho : m ||| n < 2 ^ 62 := Nat.or_lt_two_pow hm hn
  have e : bitsI .or .i64 (m : Int) (n : Int) = ((m ||| n : Nat) : Int) := by
    unfold bitsI
    simp only
    have hbits : IntKind.i64.bits = 64 := rfl
    rw [hbits, BitVec.toNat_or]
    have e1 : (BitVec.ofInt 64 (m : Int)).toNat = m := by simp [BitVec.toNat_ofInt]; omega
    have e2 : (BitVec.ofInt 64 (n : Int)).toNat = n := by simp [BitVec.toNat_ofInt]; omega
    rw [e1, e2, wrap_i64_id (by omega)]
  rw [e]
  omega
theorem num2 {x y : Int} (hx : 0 ≤ x ∧ x < 256) (hy : 0 ≤ y ∧ y < 256) : 0 ≤ numOf [x, y] := by
  have sh : ∀ a : Int, 0 ≤ a → a < 1000000 → shl .i64 a 8 = a * 256 := by
    intro a h0 h1
    unfold shl
    have e : (2 : Int) ^ (min (8 : Int).toNat IntKind.i64.bits) = 256 := by decide
    rw [e, wrap_i64_id (by omega)]
  have e0 : shl .i64 0 8 = 0 := by rw [sh 0 (by decide) (by decide)]; rfl
  have e1 : numAt [x, y] 1 = bitsI .or .i64 0 x := by
    show bitsI .or .i64 (shl .i64 0 8) (IntKind.i64.wrap x) = _
    rw [e0, wrap_i64_id (by omega)]
  have e2 : bitsI .or .i64 0 x = x := by
    obtain ⟨n, rfl⟩ := Int.eq_ofNat_of_zero_le hx.1
    unfold bitsI
    simp only
    have hbits : IntKind.i64.bits = 64 := rfl
    rw [hbits, BitVec.toNat_or]
    have e1 : (BitVec.ofInt 64 (n : Int)).toNat = n := by simp [BitVec.toNat_ofInt]; omega
    rw [e1]
    simp
    rw [wrap_i64_id (by omega)]
  show 0 ≤ bitsI .or .i64 (shl .i64 (numAt [x, y] 1) 8) (IntKind.i64.wrap y)
  rw [e1, e2, sh x hx.1 (by omega), wrap_i64_id (by omega)]
  exact (or_in ⟨by omega, by omega⟩ ⟨hy.1, by omega⟩).1
theorem oneN_pos {h : Sec} (hs : secOk h) : 0 ≤ oneN h := by
  unfold oneN
  have hl := h.h
  match hx : h.l, hl with
  | x :: y :: r, _ =>
    have h1 := hs x (by rw [hx]; simp)
    have h2 := hs y (by rw [hx]; simp)
    exact num2 h1 h2
theorem blk_len (d : Dk) (pos : Int) : ∀ k, (blkAt d pos k).length = 64 * k
  | 0 => rfl
  | k + 1 => by unfold blkAt; rw [List.length_append, blk_len d pos k, (readS d _).h]; omega
/-- Behind a sector of a region that can be read the others can. -/
theorem read_on {d : Dk} {n k : Int} (h : readE d n = 0) (hk : 0 ≤ k) (hn : n + k < d.kept.length) : readE d (n + k) = 0 := by
  unfold readE at h ⊢
  split at h
  · cases h
  · rename_i hd
    rw [if_neg hd]
    split at h
    · rename_i hi
      have := inD_iff.1 hi
      rw [if_pos (inD_iff.2 ⟨by omega, hn⟩)]
    · cases h
theorem posOf_eq {d : Dk} {r a : Int} (hd : d.kept.length ≤ 512) (hr : 0 ≤ r ∧ r ≤ 1) (ha : 0 ≤ a ∧ a ≤ 100000) : posOf d r a = r * halfOf d + a := by
  have hh := half_in hd
  have hm : 0 ≤ r * halfOf d ∧ r * halfOf d ≤ halfOf d := by
    rcases (show r = 0 ∨ r = 1 by omega) with rfl | rfl <;> omega
  unfold posOf
  rw [wrap_i64_id (n := r * halfOf d) (by omega), wrap_i64_id (by omega)]
end Go.Proofs.Ytgimkldaeobhnaa.Dsk
