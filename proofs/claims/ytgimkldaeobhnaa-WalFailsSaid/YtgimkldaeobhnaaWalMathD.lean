/- The log, in plain terms: finding the records. -/
import Derived.Test.YtgimkldaeobhnaaWalMathC
namespace Go.Proofs.Ytgimkldaeobhnaa.Dsk
open Go Go.Proofs.Ytgimkldaeobhnaa.Sx

theorem findR_next (d : Dk) (k : Nat) : findR d (k + 1) = if ((oneM d k 0 1).2.2 && ((oneM d k 0 1).2.1.length : Int) == 0 && decide ((oneM d k 0 1).1 > (findR d k).2)) = true then ((k : Int), (oneM d k 0 1).1) else findR d k := rfl
theorem findR_in (d : Dk) : ∀ k, k ≤ 2 → 0 ≤ (findR d k).1 ∧ (findR d k).1 ≤ 1
  | 0, _ => ⟨Int.le_refl 0, (by show (0 : Int) ≤ 1; decide)⟩
  | k + 1, h => by
    rw [findR_next]
    split
    · show 0 ≤ (k : Int) ∧ (k : Int) ≤ 1
      omega
    · exact findR_in d k (by omega)
theorem one_ok {d : Dk} {m : Nat} {r a k : Int} (hB : DkB d m) (hY : DkY d) (ha : 0 ≤ a ∧ a ≤ 1000) (h : (oneM d r a k).2.2 = true) :
    (oneM d r a k).2.1.length ≤ 16384 ∧ a + secsOf ((oneM d r a k).2.1.length : Int) ≤ halfOf d ∧ 1 ≤ secsOf ((oneM d r a k).2.1.length : Int) := by
  have hh := half_in hB.1
  unfold oneM at h ⊢
  split at h
  · cases h
  · rename_i h1
    rw [if_neg h1]
    split at h
    · cases h
    · rename_i h2
      rw [if_neg h2]
      have h2 : (readE d (posOf d r a) != 0 || decide (oneN (readS d (posOf d r a)) > 16384) || decide (IntKind.i64.wrap (a + secsOf (oneN (readS d (posOf d r a)))) > halfOf d)) = false := by simpa using h2
      simp only [Bool.or_eq_false_iff, decide_eq_false_iff_not] at h2
      obtain ⟨⟨_, hn⟩, hf⟩ := h2
      have hN0 := oneN_pos (readS_ok hY (posOf d r a))
      generalize oneN (readS d (posOf d r a)) = n at *
      have hnn : n = (n.toNat : Int) := by omega
      have hsec := secs_eq n.toNat (by omega)
      rw [← hnn] at hsec
      have hsn : n.toNat ≤ 64 * secsN n.toNat ∧ 64 * secsN n.toNat ≤ n.toNat + 63 := by unfold secsN; omega
      have hl : (oneB d (posOf d r a) n).length = n.toNat := by
        unfold oneB
        rw [List.length_take, blk_len]
        omega
      rw [wrap_i64_id (by omega)] at hf
      show (oneB d (posOf d r a) n).length ≤ 16384 ∧ a + secsOf ((oneB d (posOf d r a) n).length : Int) ≤ halfOf d ∧ 1 ≤ secsOf ((oneB d (posOf d r a) n).length : Int)
      rw [hl, ← hnn]
      omega
theorem findGo_stop {d : Dk} {r : Int} {k m : Nat} (h : okAt d r k = false) : findGo d r k m = fAt d r k := by
  cases m with
  | zero => rfl
  | succ m =>
    unfold findGo
    rw [if_neg (by rw [h]; decide)]
theorem findGo_on {d : Dk} {r : Int} {k m : Nat} (h : okAt d r k = true) : findGo d r k (m + 1) = findGo d r (k + 1) m := by
  rw [findGo, if_pos h]
/-- How far the records that are found go. -/
structure FGood (d : Dk) (x : List (List Int) × Int) : Prop where
  lo : 1 ≤ x.2
  hi : x.2 ≤ 256
  half : x.1 = [] ∨ x.2 ≤ halfOf d
theorem fgood0 (d : Dk) (r : Int) : FGood d (fAt d r 0) := ⟨Int.le_refl 1, (by show (1 : Int) ≤ 256; decide), .inl rfl⟩
theorem fgood_next {d : Dk} {m : Nat} {r : Int} (hB : DkB d m) (hY : DkY d) {k : Nat} (h : FGood d (fAt d r k)) (hok : okAt d r k = true) : FGood d (fAt d r (k + 1)) := by
  have hh := half_in hB.1
  have h1 := h.lo
  have h2 := h.hi
  have hb : (oneM d r (fAt d r k).2 2).2.2 = true := by
    unfold okAt at hok
    rw [Bool.and_eq_true] at hok
    exact hok.1
  obtain ⟨o1, o2, o3⟩ := one_ok hB hY ⟨by omega, by omega⟩ hb
  have e : (fAt d r (k + 1)).2 = (fAt d r k).2 + secsOf ((oneM d r (fAt d r k).2 2).2.1.length : Int) := wrap_i64_id (by omega)
  exact ⟨by omega, by omega, .inr (by omega)⟩
theorem fgood_go {d : Dk} {n : Nat} {r : Int} (hB : DkB d n) (hY : DkY d) : ∀ (m k : Nat), FGood d (fAt d r k) → FGood d (findGo d r k m)
  | 0, k, h => h
  | m + 1, k, h => by
    unfold findGo
    split
    · rename_i hok
      exact fgood_go hB hY m (k + 1) (fgood_next hB hY h hok)
    · exact h
theorem findP_in {d : Dk} {n : Nat} (hB : DkB d n) (hY : DkY d) (h : ((findP d).1.length : Int) > 0) : 1 ≤ (findP d).2 ∧ (findP d).2 ≤ halfOf d := by
  have hg : FGood d (findP d) := by
    unfold findP
    split
    · exact fgood_go hB hY 600 0 (fgood0 d _)
    · exact ⟨Int.le_refl 1, (by show (1 : Int) ≤ 256; decide), .inl rfl⟩
  refine ⟨hg.lo, hg.half.resolve_left (fun hn => ?_)⟩
  rw [hn] at h
  exact absurd h (by decide)
theorem failM_len (l : Lg) (x : Dk × Int) (h : x.1.kept.length = l.d.kept.length) : (failM l x).1.d.kept.length = l.d.kept.length := h
theorem beginM_len (l : Lg) (b : List Int) : (beginM l b).1.d.kept.length = l.d.kept.length := by
  have hAl : (begA l).1.kept.length = l.d.kept.length := clearM_len ..
  have hBl : (begB l b).1.kept.length = l.d.kept.length := (putM_len ..).trans hAl
  have hCl : (begC l b).1.kept.length = l.d.kept.length := (putM_len ..).trans hBl
  unfold beginM
  split
  · rfl
  split
  · rfl
  split
  · rfl
  split
  · exact hAl
  split
  · exact hBl
  split
  · exact hCl
  · exact hCl
theorem openM_small {d : Dk} (h : halfOf d < 4) : openM d = (log0 d, 12) := by unfold openM; rw [if_pos h]
theorem openM_down {d : Dk} (h : ¬ halfOf d < 4) (h2 : d.down = true) : openM d = (log0 d, 9) := by unfold openM; rw [if_neg h, if_pos h2]
theorem openM_old {d : Dk} (h : ¬ halfOf d < 4) (h2 : d.down = false) (h3 : ((findP d).1.length : Int) > 0) : openM d = ({ findM (log0 d) with d := (clearM d (findR d 2).1 (findP d).2).1 }, (clearM d (findR d 2).1 (findP d).2).2) := by
  unfold openM; rw [if_neg h, if_neg (by rw [h2]; decide), if_pos h3]
theorem openM_new {d : Dk} (h : ¬ halfOf d < 4) (h2 : d.down = false) (h3 : ¬ ((findP d).1.length : Int) > 0) : openM d = beginM (findM (log0 d)) [] := by
  unfold openM; rw [if_neg h, if_neg (by rw [h2]; decide), if_neg h3]
end Go.Proofs.Ytgimkldaeobhnaa.Dsk
