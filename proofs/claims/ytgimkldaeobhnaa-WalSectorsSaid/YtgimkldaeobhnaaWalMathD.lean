/- The log, in plain terms: how far its writes go; what stands on the disk are bytes; reading a row; finding the records. -/
import Derived.Test.YtgimkldaeobhnaaWalMath
namespace Go.Proofs.Ytgimkldaeobhnaa.Dsk
open Go Go.Proofs.Ytgimkldaeobhnaa.Sx

theorem half_in {d : Dk} (h : d.kept.length ≤ 512) : halfOf d = (d.kept.length : Int) / 2 ∧ 0 ≤ halfOf d ∧ halfOf d ≤ 256 := by
  have e : halfOf d = (d.kept.length : Int) / 2 := by
    unfold halfOf
    rw [Int.tdiv_eq_ediv_of_nonneg (by omega), wrap_i64_id (by omega)]
  rw [e]
  omega
theorem half_len {d e : Dk} (h : d.kept.length = e.kept.length) : halfOf d = halfOf e := by unfold halfOf; rw [h]
theorem write_len (d : Dk) (n : Int) (x : Sec) : (d.write n x).kept.length = d.kept.length := by rw [write_kept]
theorem flush_len (d : Dk) : d.flush.kept.length = d.kept.length := by
  unfold Dk.flush
  split
  · rfl
  · split
    · rfl
    · exact keptAt_len d _
theorem clearGo_len (r : Int) : ∀ (m : Nat) (d : Dk) (k : Int), (clearGo d r k m).1.kept.length = d.kept.length
  | 0, d, k => flush_len d
  | m + 1, d, k => by
    unfold clearGo
    split
    · exact write_len ..
    · rw [clearGo_len r m]; exact write_len ..
theorem clearM_len (d : Dk) (r a : Int) : (clearM d r a).1.kept.length = d.kept.length := clearGo_len ..
theorem putEnd_len (d : Dk) (f k i : Int) (b : List Int) : (putEnd d f k i b).1.kept.length = d.kept.length := by
  unfold putEnd
  split
  · exact flush_len d
  · split
    · rw [write_len, flush_len]
    · rw [flush_len, write_len, flush_len]
theorem putGo_len (f k i : Int) (b : List Int) : ∀ (m : Nat) (d : Dk) (j : Nat), (putGo d f k i b j m).1.kept.length = d.kept.length
  | 0, d, j => putEnd_len ..
  | m + 1, d, j => by
    unfold putGo
    split
    · exact write_len ..
    · rw [putGo_len f k i b m]; exact write_len ..
theorem putM_len (d : Dk) (r a k i : Int) (b : List Int) : (putM d r a k i b).1.kept.length = d.kept.length := putGo_len ..
theorem DkB.clearGo {r : Int} : ∀ {m : Nat} {d : Dk} {k : Int} {n : Nat}, DkB d n → DkB (clearGo d r k m).1 (n + m)
  | 0, d, k, n, h => h.flush
  | m + 1, d, k, n, h => by
    unfold Dsk.clearGo
    split
    · exact (h.write ..).mono (by omega)
    · exact (DkB.clearGo (m := m) (h.write ..)).mono (by omega)
theorem DkB.putEnd {d : Dk} {n : Nat} (h : DkB d n) (f k i : Int) (b : List Int) : DkB (putEnd d f k i b).1 (n + 1) := by
  unfold Dsk.putEnd
  split
  · exact h.flush.mono (by omega)
  · split
    · exact h.flush.write ..
    · exact (h.flush.write _ _).flush
theorem DkB.putGo {f k i : Int} {b : List Int} : ∀ {m : Nat} {d : Dk} {j n : Nat}, DkB d n → DkB (putGo d f k i b j m).1 (n + m + 1)
  | 0, d, j, n, h => h.putEnd ..
  | m + 1, d, j, n, h => by
    unfold Dsk.putGo
    split
    · exact (h.write ..).mono (by omega)
    · exact (DkB.putGo (m := m) (h.write ..)).mono (by omega)
theorem secs_eq (n : Nat) (h : n ≤ 1000000) : secsOf (n : Int) = 1 + (secsN n : Int) := by
  unfold secsOf secsN
  rw [wrap_i64_id (n := (n : Int) + 64) (by omega), wrap_i64_id (n := (n : Int) + 64 - 1) (by omega), Int.tdiv_eq_ediv_of_nonneg (by omega), wrap_i64_id (n := ((n : Int) + 64 - 1) / 64) (by omega), wrap_i64_id (by omega)]
  omega
theorem putAt_len (f : Int) (b : List Int) (d : Dk) : ∀ k, (putAt d f b k).kept.length = d.kept.length
  | 0 => rfl
  | k + 1 => by unfold putAt; rw [write_len, putAt_len f b d k]
theorem chunk_len (b : List Int) (g : Nat) : ((b.drop (64 * g)).take 64 ++ List.replicate (64 - ((b.drop (64 * g)).take 64).length) 0).length = 64 := by
  rw [List.length_append, List.length_replicate, List.length_take]
  omega
theorem zero_drop (n : Nat) : List.drop n (secL zeroS) = List.replicate (64 - n) 0 := by
  show List.drop n (List.replicate 64 0) = _
  rw [List.drop_replicate]
theorem chunk_eq {b : List Int} {g : Nat} (hb : b.length ≤ 20000) (hg : 64 * g ≤ b.length) :
    List.take 0 (secL zeroS) ++ List.take 64 (List.drop (IntKind.i64.wrap (IntKind.i64.wrap ((g : Int) + 1 - 1) * 64)).toNat (List.take (b.length : Int).toNat b)) ++ List.drop (0 + min (List.drop (IntKind.i64.wrap (IntKind.i64.wrap ((g : Int) + 1 - 1) * 64)).toNat (List.take (b.length : Int).toNat b)).length 64) (secL zeroS) = (chunkS b g).l := by
  have w1 : (IntKind.i64.wrap (IntKind.i64.wrap ((g : Int) + 1 - 1) * 64)).toNat = 64 * g := by
    rw [wrap_i64_id (n := (g : Int) + 1 - 1) (by omega), wrap_i64_id (by omega)]
    omega
  unfold chunkS
  rw [Sec.of_l (chunk_len b g), w1, Int.toNat_natCast, List.take_length, List.take_zero, List.nil_append, zero_drop, List.length_take]
  congr 2
  omega

theorem zero_ok : secOk zeroS := by
  intro x hx
  have hx : x ∈ List.replicate 64 (0 : Int) := hx
  rw [List.eq_of_mem_replicate hx]
  decide
theorem readAt_ok {d : Dk} (h : DkY d) (n : Int) : ∀ k, secOk (readAt d n k)
  | 0 => by
    show secOk (d.kept.getD n.toNat zeroS)
    rw [List.getD_eq_getElem?_getD]
    cases hk : d.kept[n.toNat]? with
    | none => exact zero_ok
    | some s => exact h.1 s (List.mem_of_getElem? hk)
  | k + 1 => by
    rw [readAt_next]
    split
    · show secOk (d.wait.getD k zeroW).data
      rw [List.getD_eq_getElem?_getD]
      cases hk : d.wait[k]? with
      | none => exact zero_ok
      | some w => exact h.2 w (List.mem_of_getElem? hk)
    · exact readAt_ok h n k
theorem readS_ok {d : Dk} (h : DkY d) (n : Int) : secOk (readS d n) := by
  unfold readS
  split
  · exact zero_ok
  · split
    · exact readAt_ok h n _
    · exact zero_ok
theorem or_in {a b : Int} (ha : 0 ≤ a ∧ a < 2 ^ 62) (hb : 0 ≤ b ∧ b < 2 ^ 62) : 0 ≤ bitsI .or .i64 a b ∧ bitsI .or .i64 a b < 2 ^ 62 := by
  obtain ⟨m, rfl⟩ := Int.eq_ofNat_of_zero_le ha.1
  obtain ⟨n, rfl⟩ := Int.eq_ofNat_of_zero_le hb.1
  have hm : m < 2 ^ 62 := by omega
  have hn : n < 2 ^ 62 := by omega
  have ho : m ||| n < 2 ^ 62 := Nat.or_lt_two_pow hm hn
  have e : bitsI .or .i64 (m : Int) (n : Int) = ((m ||| n : Nat) : Int) := by
    unfold bitsI
    simp only
    have hbits : IntKind.i64.bits = 64 := rfl
    rw [hbits, BitVec.toNat_or]
    have e1 : (BitVec.ofInt 64 (m : Int)).toNat = m := by simp [BitVec.toNat_ofInt]; omega
    have e2 : (BitVec.ofInt 64 (n : Int)).toNat = n := by simp [BitVec.toNat_ofInt]; omega
    rw [e1, e2, wrap_i64_id (by omega)]
  rw [e]
  omega
theorem num2 {x y : Int} (hx : 0 ≤ x ∧ x < 256) (hy : 0 ≤ y ∧ y < 256) : 0 ≤ numOf [x, y] := by
  have sh : ∀ a : Int, 0 ≤ a → a < 1000000 → shl .i64 a 8 = a * 256 := by
    intro a h0 h1
    unfold shl
    have e : (2 : Int) ^ (min (8 : Int).toNat IntKind.i64.bits) = 256 := by decide
    rw [e, wrap_i64_id (by omega)]
  have e0 : shl .i64 0 8 = 0 := by rw [sh 0 (by decide) (by decide)]; rfl
  have e1 : numAt [x, y] 1 = bitsI .or .i64 0 x := by
    show bitsI .or .i64 (shl .i64 0 8) (IntKind.i64.wrap x) = _
    rw [e0, wrap_i64_id (by omega)]
  have e2 : bitsI .or .i64 0 x = x := by
    obtain ⟨n, rfl⟩ := Int.eq_ofNat_of_zero_le hx.1
    unfold bitsI
    simp only
    have hbits : IntKind.i64.bits = 64 := rfl
    rw [hbits, BitVec.toNat_or]
    have e1 : (BitVec.ofInt 64 (n : Int)).toNat = n := by simp [BitVec.toNat_ofInt]; omega
    rw [e1]
    simp
    rw [wrap_i64_id (by omega)]
  show 0 ≤ bitsI .or .i64 (shl .i64 (numAt [x, y] 1) 8) (IntKind.i64.wrap y)
  rw [e1, e2, sh x hx.1 (by omega), wrap_i64_id (by omega)]
  exact (or_in ⟨by omega, by omega⟩ ⟨hy.1, by omega⟩).1
theorem oneN_pos {h : Sec} (hs : secOk h) : 0 ≤ oneN h := by
  unfold oneN
  have hl := h.h
  match hx : h.l, hl with
  | x :: y :: r, _ =>
    have h1 := hs x (by rw [hx]; simp)
    have h2 := hs y (by rw [hx]; simp)
    exact num2 h1 h2
theorem blk_len (d : Dk) (pos : Int) : ∀ k, (blkAt d pos k).length = 64 * k
  | 0 => rfl
  | k + 1 => by unfold blkAt; rw [List.length_append, blk_len d pos k, (readS d _).h]; omega
/-- Behind a sector of a region that can be read the others can. -/
theorem read_on {d : Dk} {n k : Int} (h : readE d n = 0) (hk : 0 ≤ k) (hn : n + k < d.kept.length) : readE d (n + k) = 0 := by
  unfold readE at h ⊢
  split at h
  · cases h
  · rename_i hd
    rw [if_neg hd]
    split at h
    · rename_i hi
      have := inD_iff.1 hi
      rw [if_pos (inD_iff.2 ⟨by omega, hn⟩)]
    · cases h
theorem posOf_eq {d : Dk} {r a : Int} (hd : d.kept.length ≤ 512) (hr : 0 ≤ r ∧ r ≤ 1) (ha : 0 ≤ a ∧ a ≤ 100000) : posOf d r a = r * halfOf d + a := by
  have hh := half_in hd
  have hm : 0 ≤ r * halfOf d ∧ r * halfOf d ≤ halfOf d := by
    rcases (show r = 0 ∨ r = 1 by omega) with rfl | rfl <;> omega
  unfold posOf
  rw [wrap_i64_id (n := r * halfOf d) (by omega), wrap_i64_id (by omega)]

theorem findR_next (d : Dk) (k : Nat) : findR d (k + 1) = if ((oneM d k 0 1).2.2 && ((oneM d k 0 1).2.1.length : Int) == 0 && decide ((oneM d k 0 1).1 > (findR d k).2)) = true then ((k : Int), (oneM d k 0 1).1) else findR d k := rfl
theorem findR_in (d : Dk) : ∀ k, k ≤ 2 → 0 ≤ (findR d k).1 ∧ (findR d k).1 ≤ 1
  | 0, _ => ⟨Int.le_refl 0, (by show (0 : Int) ≤ 1; decide)⟩
  | k + 1, h => by
    rw [findR_next]
    split
    · show 0 ≤ (k : Int) ∧ (k : Int) ≤ 1
      omega
    · exact findR_in d k (by omega)
theorem one_ok {d : Dk} {m : Nat} {r a k : Int} (hB : DkB d m) (hY : DkY d) (ha : 0 ≤ a ∧ a ≤ 1000) (h : (oneM d r a k).2.2 = true) :
    (oneM d r a k).2.1.length ≤ 16384 ∧ a + secsOf ((oneM d r a k).2.1.length : Int) ≤ halfOf d ∧ 1 ≤ secsOf ((oneM d r a k).2.1.length : Int) := by
  have hh := half_in hB.1
  unfold oneM at h ⊢
  split at h
  · cases h
  · rename_i h1
    rw [if_neg h1]
    split at h
    · cases h
    · rename_i h2
      rw [if_neg h2]
      have h2 : (readE d (posOf d r a) != 0 || decide (oneN (readS d (posOf d r a)) > 16384) || decide (IntKind.i64.wrap (a + secsOf (oneN (readS d (posOf d r a)))) > halfOf d)) = false := by simpa using h2
      simp only [Bool.or_eq_false_iff, decide_eq_false_iff_not] at h2
      obtain ⟨⟨_, hn⟩, hf⟩ := h2
      have hN0 := oneN_pos (readS_ok hY (posOf d r a))
      generalize oneN (readS d (posOf d r a)) = n at *
      have hnn : n = (n.toNat : Int) := by omega
      have hsec := secs_eq n.toNat (by omega)
      rw [← hnn] at hsec
      have hsn : n.toNat ≤ 64 * secsN n.toNat ∧ 64 * secsN n.toNat ≤ n.toNat + 63 := by unfold secsN; omega
      have hl : (oneB d (posOf d r a) n).length = n.toNat := by
        unfold oneB
        rw [List.length_take, blk_len]
        omega
      rw [wrap_i64_id (by omega)] at hf
      show (oneB d (posOf d r a) n).length ≤ 16384 ∧ a + secsOf ((oneB d (posOf d r a) n).length : Int) ≤ halfOf d ∧ 1 ≤ secsOf ((oneB d (posOf d r a) n).length : Int)
      rw [hl, ← hnn]
      omega
theorem findGo_stop {d : Dk} {r : Int} {k m : Nat} (h : okAt d r k = false) : findGo d r k m = fAt d r k := by
  cases m with
  | zero => rfl
  | succ m =>
    unfold findGo
    rw [if_neg (by rw [h]; decide)]
theorem findGo_on {d : Dk} {r : Int} {k m : Nat} (h : okAt d r k = true) : findGo d r k (m + 1) = findGo d r (k + 1) m := by
  rw [findGo, if_pos h]
/-- How far the records that are found go. -/
structure FGood (d : Dk) (x : List (List Int) × Int) : Prop where
  lo : 1 ≤ x.2
  hi : x.2 ≤ 256
  half : x.1 = [] ∨ x.2 ≤ halfOf d
theorem fgood0 (d : Dk) (r : Int) : FGood d (fAt d r 0) := ⟨Int.le_refl 1, (by show (1 : Int) ≤ 256; decide), .inl rfl⟩
theorem fgood_next {d : Dk} {m : Nat} {r : Int} (hB : DkB d m) (hY : DkY d) {k : Nat} (h : FGood d (fAt d r k)) (hok : okAt d r k = true) : FGood d (fAt d r (k + 1)) := by
  have hh := half_in hB.1
  have h1 := h.lo
  have h2 := h.hi
  have hb : (oneM d r (fAt d r k).2 2).2.2 = true := by
    unfold okAt at hok
    rw [Bool.and_eq_true] at hok
    exact hok.1
  obtain ⟨o1, o2, o3⟩ := one_ok hB hY ⟨by omega, by omega⟩ hb
  have e : (fAt d r (k + 1)).2 = (fAt d r k).2 + secsOf ((oneM d r (fAt d r k).2 2).2.1.length : Int) := wrap_i64_id (by omega)
  exact ⟨by omega, by omega, .inr (by omega)⟩
theorem fgood_go {d : Dk} {n : Nat} {r : Int} (hB : DkB d n) (hY : DkY d) : ∀ (m k : Nat), FGood d (fAt d r k) → FGood d (findGo d r k m)
  | 0, k, h => h
  | m + 1, k, h => by
    unfold findGo
    split
    · rename_i hok
      exact fgood_go hB hY m (k + 1) (fgood_next hB hY h hok)
    · exact h
theorem findP_in {d : Dk} {n : Nat} (hB : DkB d n) (hY : DkY d) (h : ((findP d).1.length : Int) > 0) : 1 ≤ (findP d).2 ∧ (findP d).2 ≤ halfOf d := by
  have hg : FGood d (findP d) := by
    unfold findP
    split
    · exact fgood_go hB hY 600 0 (fgood0 d _)
    · exact ⟨Int.le_refl 1, (by show (1 : Int) ≤ 256; decide), .inl rfl⟩
  refine ⟨hg.lo, hg.half.resolve_left (fun hn => ?_)⟩
  rw [hn] at h
  exact absurd h (by decide)
theorem failM_len (l : Lg) (x : Dk × Int) (h : x.1.kept.length = l.d.kept.length) : (failM l x).1.d.kept.length = l.d.kept.length := h
theorem beginM_len (l : Lg) (b : List Int) : (beginM l b).1.d.kept.length = l.d.kept.length := by
  have hAl : (begA l).1.kept.length = l.d.kept.length := clearM_len ..
  have hBl : (begB l b).1.kept.length = l.d.kept.length := (putM_len ..).trans hAl
  have hCl : (begC l b).1.kept.length = l.d.kept.length := (putM_len ..).trans hBl
  unfold beginM
  split
  · rfl
  split
  · rfl
  split
  · rfl
  split
  · exact hAl
  split
  · exact hBl
  split
  · exact hCl
  · exact hCl
theorem openM_small {d : Dk} (h : halfOf d < 4) : openM d = (log0 d, 12) := by unfold openM; rw [if_pos h]
theorem openM_down {d : Dk} (h : ¬ halfOf d < 4) (h2 : d.down = true) : openM d = (log0 d, 9) := by unfold openM; rw [if_neg h, if_pos h2]
theorem openM_old {d : Dk} (h : ¬ halfOf d < 4) (h2 : d.down = false) (h3 : ((findP d).1.length : Int) > 0) : openM d = ({ findM (log0 d) with d := (clearM d (findR d 2).1 (findP d).2).1 }, (clearM d (findR d 2).1 (findP d).2).2) := by
  unfold openM; rw [if_neg h, if_neg (by rw [h2]; decide), if_pos h3]
theorem openM_new {d : Dk} (h : ¬ halfOf d < 4) (h2 : d.down = false) (h3 : ¬ ((findP d).1.length : Int) > 0) : openM d = beginM (findM (log0 d)) [] := by
  unfold openM; rw [if_neg h, if_neg (by rw [h2]; decide), if_neg h3]
end Go.Proofs.Ytgimkldaeobhnaa.Dsk
