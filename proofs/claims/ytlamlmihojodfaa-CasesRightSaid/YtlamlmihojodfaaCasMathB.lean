/- Cases: the plain part of CasesRight: both tests of a row say the same. -/
import Derived.Test.YtlamlmihojodfaaCasSpecC
import Derived.Test.YtlamlmihojodfaaCasMath
import Derived.Test.YtlamlmihojodfaaMapMath
namespace Go.Proofs.Ytlamlmihojodfaa.Cas
open Go Go.Proofs.Ytlamlmihojodfaa.Sx

theorem is_any (cs : List Cse) : ∀ k, k ≤ cs.length → ∀ a, getM (isAt cs k) a false = (cs.take k).any (hitF a) := by
  intro k
  induction k with
  | zero => intro _ a; rfl
  | succ k ih =>
    intro hk a
    rw [isAt, getM_set, take_getD cs k (by omega) zeroC, List.any_append, ih (by omega), ih (by omega)]
    show _ = ((cs.take k).any (hitF a) || [getC cs k].any (hitF a))
    rw [List.any_cons, List.any_nil, Bool.or_false]
    unfold hitF
    cases h : (a == (getC cs k).addr) with
    | true =>
      have := eq_of_beq h
      subst this
      simp
    | false =>
      have h2 : ((getC cs k).addr == a) = false := by rw [Bool.eq_false_iff, ne_eq, beq_iff_eq] at *; exact fun hc => h hc.symm
      rw [h2]
      simp
theorem first_ne {q : Cse → Bool} {cs : List Cse} {k : Nat} (h : (cs.take k).any q = true) : (firstI q cs != (k : Int)) = true := by
  obtain ⟨c, hc, hq⟩ := List.any_eq_true.1 h
  obtain ⟨j, hj, rfl⟩ := List.getElem_of_mem hc
  rw [List.length_take] at hj
  rw [List.getElem_take] at hq
  unfold firstI
  rw [if_pos (List.any_eq_true.2 ⟨_, List.getElem_mem _, hq⟩)]
  have : cs.findIdx q ≤ j := by
    rcases Nat.lt_or_ge j (cs.findIdx q) with h1 | h1
    · have := List.not_of_lt_findIdx h1
      rw [hq] at this
      cases this
    · exact h1
  simp only [bne_iff_ne, ne_eq]
  omega
theorem first_is_any {cs : List Cse} {k : Nat} (hk : k < cs.length) (ho : openC (getC cs k) = true) : (firstI (hitF (getC cs k).addr) cs != (k : Int)) = getM (isAt cs k) (getC cs k).addr false := by
  rw [is_any cs k (by omega)]
  cases h : (cs.take k).any (hitF (getC cs k).addr) with
  | true => exact first_ne h
  | false =>
    have := first_at (q := hitF (getC cs k).addr) hk h (by show hitF _ (getC cs k) = true; unfold hitF; rw [ho]; simp)
    rw [← this]
    simp
theorem clamp_ne (n : Int) : (n != clampT n) = (decide (n < 0) || decide (n > 1099511627776)) := by
  unfold clampT mx mn
  by_cases h1 : n < 0
  · rw [decide_eq_true h1, Bool.true_or]
    rw [if_neg (show ¬ (1099511627776 : Int) < n by omega), if_neg (show ¬ n > 0 by omega)]
    simp only [bne_iff_ne, ne_eq]
    omega
  · rw [decide_eq_false h1, Bool.false_or]
    by_cases h2 : n > 1099511627776
    · rw [decide_eq_true h2, if_pos (show (1099511627776 : Int) < n by omega), if_pos (by decide)]
      simp only [bne_iff_ne, ne_eq]
      omega
    · rw [decide_eq_false h2, if_neg (show ¬ (1099511627776 : Int) < n by omega)]
      by_cases h3 : n > 0
      · rw [if_pos h3]; simp
      · rw [if_neg h3, show n = 0 by omega]; rfl
theorem bad_eq {cs : List Cse} {k : Nat} (hk : k < cs.length) : badK cs k = badR cs k := by
  unfold badK badR
  rw [clamp_ne, clamp_ne]
  cases ho : openC (getC cs k) with
  | true => rw [first_is_any hk ho]; simp only [Bool.or_assoc]
  | false => simp only [Bool.or_assoc, Bool.false_and]
theorem right_eq (cs : List Cse) : rightB cs = rightR cs := by
  have key : ∀ k, k ≤ cs.length → okTo cs k = okR cs k := by
    intro k
    induction k with
    | zero => intro _; rfl
    | succ k ih => intro hk; rw [okTo, okR, ih (by omega), bad_eq (by omega)]
  unfold rightB rightR
  rw [key _ (Nat.le_refl _)]
theorem okR_bad {cs : List Cse} : ∀ {k j : Nat}, j < k → okR cs k = true → badR cs j = false := by
  intro k
  induction k with
  | zero => intro j h; omega
  | succ k ih =>
    intro j h ho
    rw [okR, Bool.and_eq_true] at ho
    by_cases hj : j = k
    · subst hj; simpa using ho.2
    · exact ih (by omega) ho.1
theorem rightR_bad {cs : List Cse} {k : Nat} (hk : k < cs.length) (hb : badR cs k = true) : false = rightR cs := by
  cases h : rightR cs with
  | false => rfl
  | true =>
    unfold rightR at h
    rw [Bool.and_eq_true] at h
    rw [okR_bad hk h.1] at hb
    cases hb
end Go.Proofs.Ytlamlmihojodfaa.Cas
