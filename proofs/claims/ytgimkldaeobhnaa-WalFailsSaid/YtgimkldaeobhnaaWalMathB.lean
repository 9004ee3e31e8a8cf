/- The log, in plain terms: how far its writes go. -/
import Derived.Test.YtgimkldaeobhnaaWalMath
namespace Go.Proofs.Ytgimkldaeobhnaa.Dsk
open Go Go.Proofs.Ytgimkldaeobhnaa.Sx

theorem half_in {d : Dk} (h : d.kept.length ≤ 512) : halfOf d = (d.kept.length : Int) / 2 ∧ 0 ≤ halfOf d ∧ halfOf d ≤ 256 := by
  have e : halfOf d = (d.kept.length : Int) / 2 := by
    unfold halfOf
    rw [Int.tdiv_eq_ediv_of_nonneg (by omega), wrap_i64_id (by omega)]
  rw [e]
  omega
theorem half_len {d e : Dk} (h : d.kept.length = e.kept.length) : halfOf d = halfOf e := by unfold halfOf; rw [h]
theorem write_len (d : Dk) (n : Int) (x : Sec) : (d.write n x).kept.length = d.kept.length := by rw [write_kept]
theorem flush_len (d : Dk) : d.flush.kept.length = d.kept.length := by
  unfold Dk.flush
  split
  · rfl
  · split
    · rfl
    · exact keptAt_len d _
theorem clearGo_len (r : Int) : ∀ (m : Nat) (d : Dk) (k : Int), (clearGo d r k m).1.kept.length = d.kept.length
  | 0, d, k => flush_len d
  | m + 1, d, k => by
    unfold clearGo
    split
    · exact write_len ..
    · rw [clearGo_len r m]; exact write_len ..
theorem clearM_len (d : Dk) (r a : Int) : (clearM d r a).1.kept.length = d.kept.length := clearGo_len ..
theorem putEnd_len (d : Dk) (f k i : Int) (b : List Int) : (putEnd d f k i b).1.kept.length = d.kept.length := by
  unfold putEnd
  split
  · exact flush_len d
  · split
    · rw [write_len, flush_len]
    · rw [flush_len, write_len, flush_len]
theorem putGo_len (f k i : Int) (b : List Int) : ∀ (m : Nat) (d : Dk) (j : Nat), (putGo d f k i b j m).1.kept.length = d.kept.length
  | 0, d, j => putEnd_len ..
  | m + 1, d, j => by
    unfold putGo
    split
    · exact write_len ..
    · rw [putGo_len f k i b m]; exact write_len ..
theorem putM_len (d : Dk) (r a k i : Int) (b : List Int) : (putM d r a k i b).1.kept.length = d.kept.length := putGo_len ..
theorem DkB.clearGo {r : Int} : ∀ {m : Nat} {d : Dk} {k : Int} {n : Nat}, DkB d n → DkB (clearGo d r k m).1 (n + m)
  | 0, d, k, n, h => h.flush
  | m + 1, d, k, n, h => by
    unfold Dsk.clearGo
    split
    · exact (h.write ..).mono (by omega)
    · exact (DkB.clearGo (m := m) (h.write ..)).mono (by omega)
theorem DkB.putEnd {d : Dk} {n : Nat} (h : DkB d n) (f k i : Int) (b : List Int) : DkB (putEnd d f k i b).1 (n + 1) := by
  unfold Dsk.putEnd
  split
  · exact h.flush.mono (by omega)
  · split
    · exact h.flush.write ..
    · exact (h.flush.write _ _).flush
theorem DkB.putGo {f k i : Int} {b : List Int} : ∀ {m : Nat} {d : Dk} {j n : Nat}, DkB d n → DkB (putGo d f k i b j m).1 (n + m + 1)
  | 0, d, j, n, h => h.putEnd ..
  | m + 1, d, j, n, h => by
    unfold Dsk.putGo
    split
    · exact (h.write ..).mono (by omega)
    · exact (DkB.putGo (m := m) (h.write ..)).mono (by omega)
theorem secs_eq (n : Nat) (h : n ≤ 1000000) : secsOf (n : Int) = 1 + (secsN n : Int) := by
  unfold secsOf secsN
  rw [wrap_i64_id (n := (n : Int) + 64) (by omega), wrap_i64_id (n := (n : Int) + 64 - 1) (by omega), Int.tdiv_eq_ediv_of_nonneg (by omega), wrap_i64_id (n := ((n : Int) + 64 - 1) / 64) (by omega), wrap_i64_id (by omega)]
  omega
theorem putAt_len (f : Int) (b : List Int) (d : Dk) : ∀ k, (putAt d f b k).kept.length = d.kept.length
  | 0 => rfl
  | k + 1 => by unfold putAt; rw [write_len, putAt_len f b d k]
theorem chunk_len (b : List Int) (g : Nat) : ((b.drop (64 * g)).take 64 ++ List.replicate (64 - ((b.drop (64 * g)).take 64).length) 0).length = 64 := by
  rw [List.length_append, List.length_replicate, List.length_take]
  omega
theorem zero_drop (n : Nat) : List.drop n (secL zeroS) = List.replicate (64 - n) 0 := by
  show List.drop n (List.replicate 64 0) = _
  rw [List.drop_replicate]
theorem chunk_eq {b : List Int} {g : Nat} (hb : b.length ≤ 20000) (hg : 64 * g ≤ b.length) :
    List.take 0 (secL zeroS) ++ List.take 64 (List.drop (IntKind.i64.wrap (IntKind.i64.wrap ((g : Int) + 1 - 1) * 64)).toNat (List.take (b.length : Int).toNat b)) ++ List.drop (0 + min (List.drop (IntKind.i64.wrap (IntKind.i64.wrap ((g : Int) + 1 - 1) * 64)).toNat (List.take (b.length : Int).toNat b)).length 64) (secL zeroS) = (chunkS b g).l := by
  have w1 : (IntKind.i64.wrap (IntKind.i64.wrap ((g : Int) + 1 - 1) * 64)).toNat = 64 * g := by
    rw [wrap_i64_id (n := (g : Int) + 1 - 1) (by omega), wrap_i64_id (by omega)]
    omega
  unfold chunkS
  rw [Sec.of_l (chunk_len b g), w1, Int.toNat_natCast, List.take_length, List.take_zero, List.nil_append, zero_drop, List.length_take]
  congr 2
  omega
end Go.Proofs.Ytgimkldaeobhnaa.Dsk
