/- What an address stands as: the plain part: the package's way and the law's come to the same. -/
import Derived.Test.YtpokkmgnapoomaaStatSpecC
namespace Go.Proofs.Ytpokkmgnapoomaa.Stat
open Go Go.Proofs.Ytpokkmgnapoomaa.Sx

theorem clamp_rng (n : Int) : 0 ≤ clampT n ∧ clampT n ≤ 1099511627776 := by unfold clampT mx mn; split <;> split <;> omega
theorem within_same (a b n : Int) : withinL a b n = within a b n := by
  have h1 := clamp_rng a
  have h2 := clamp_rng b
  unfold withinL within since
  rw [wrap_i64_id (by omega)]
  congr 1
  by_cases h : clampT b ≤ clampT a
  · rw [decide_eq_true h, decide_eq_true (show clampT a - clampT b ≥ 0 by omega)]
  · rw [decide_eq_false h, decide_eq_false (show ¬ clampT a - clampT b ≥ 0 by omega)]
theorem same_refl (a : Mac) : a.same a = true := by simp [Mac.same]
theorem same_comm (a b : Mac) : a.same b = b.same a := by
  unfold Mac.same
  rw [Bool.beq_comm (a := a.m0), Bool.beq_comm (a := a.m1), Bool.beq_comm (a := a.m2), Bool.beq_comm (a := a.m3), Bool.beq_comm (a := a.m4), Bool.beq_comm (a := a.m5)]
/-- What is left of the first k sights. -/
def freshK (c0 c2 now : Int) (xs : List Sight) (k : Nat) : List Sight := ((xs.take k).drop (fromK c2 xs).toNat).filter (freshS c0 now)
def someM (ss : List Sight) : List Mac := (ss.map (·.mac)).filter fun m => !noneM m
theorem good_eq {c0 c2 now : Int} {xs : List Sight} (h : ofOk c2 xs) {k : Nat} (hk : k < xs.length) : goodL c0 c2 now xs k = (decide ((fromK c2 xs).toNat ≤ k) && freshS c0 now (xs.getD k (⟨0, zeroMac, 0⟩ : Sight))) := by
  obtain ⟨h1, h2⟩ := h
  unfold goodL freshS
  rw [within_same]
  congr 1
  have hm : 0 ≤ mx 0 c2 ∧ mx 0 c2 < 4611686018427387904 := by unfold mx; split <;> omega
  unfold fromK
  generalize mx 0 c2 = m at *
  rw [wrap_i64_id (n := (xs.length : Int) - m) (by omega), wrap_i64_id (n := (xs.length : Int) - m - 1) (by omega), wrap_i64_id (n := (xs.length : Int) - k) (by omega), wrap_i64_id (n := m + 1) (by omega)]
  have : (mx 0 ((xs.length : Int) - m - 1)).toNat ≤ k ↔ (xs.length : Int) - k ≤ m + 1 := by unfold mx; split <;> omega
  by_cases hc : (xs.length : Int) - k ≤ m + 1
  · rw [decide_eq_true hc, decide_eq_true (this.2 hc)]
  · rw [decide_eq_false hc, decide_eq_false (fun h => hc (this.1 h))]
theorem freshK_next {c0 c2 now : Int} {xs : List Sight} {k : Nat} (hk : k < xs.length) : freshK c0 c2 now xs (k + 1) = if (decide ((fromK c2 xs).toNat ≤ k) && freshS c0 now (xs.getD k (⟨0, zeroMac, 0⟩ : Sight))) = true then freshK c0 c2 now xs k ++ [xs.getD k (⟨0, zeroMac, 0⟩ : Sight)] else freshK c0 c2 now xs k := by
  unfold freshK
  rw [take_getD xs k hk (⟨0, zeroMac, 0⟩ : Sight), List.drop_append, List.length_take_of_le (by omega), List.filter_append]
  by_cases h : (fromK c2 xs).toNat ≤ k
  · rw [show (fromK c2 xs).toNat - k = 0 by omega, List.drop_zero, decide_eq_true h, Bool.true_and]
    by_cases hf : freshS c0 now (xs.getD k (⟨0, zeroMac, 0⟩ : Sight)) = true
    · rw [if_pos hf, List.filter_cons_of_pos hf]; rfl
    · rw [if_neg hf, List.filter_cons_of_neg hf]; simp
  · rw [decide_eq_false h, Bool.false_and, if_neg (by simp)]
    have : ([xs.getD k (⟨0, zeroMac, 0⟩ : Sight)]).drop ((fromK c2 xs).toNat - k) = [] := List.drop_eq_nil_of_le (by simp; omega)
    rw [this]
    simp
theorem law_loop {c0 c2 now : Int} {xs : List Sight} (h : ofOk c2 xs) : ∀ k, k ≤ xs.length → cntL c0 c2 now xs k = ((freshK c0 c2 now xs k).length : Int) ∧ macsL c0 c2 now xs k = someM (freshK c0 c2 now xs k) ∧ (freshK c0 c2 now xs k).length ≤ k := by
  intro k
  induction k with
  | zero => intro _; simp [cntL, macsL, freshK, someM]
  | succ k ih =>
    intro hk
    obtain ⟨h1, h2, h3⟩ := ih (by omega)
    rw [cntL, macsL, good_eq h (by omega), freshK_next (by omega)]
    by_cases hg : (decide ((fromK c2 xs).toNat ≤ k) && freshS c0 now (xs.getD k (⟨0, zeroMac, 0⟩ : Sight))) = true
    · rw [if_pos hg, if_pos hg, if_pos hg, h1, h2]
      have h4 := h.1
      refine ⟨?_, ?_, by rw [List.length_append]; simp; omega⟩
      · rw [wrap_i64_id (by omega), List.length_append]; simp
      · unfold someM macL
        rw [List.map_append, List.filter_append]
        by_cases hn : (!noneM (xs.getD k (⟨0, zeroMac, 0⟩ : Sight)).mac) = true
        · rw [if_pos hn, List.map_cons, List.filter_cons_of_pos (p := fun m => !noneM m) hn]; rfl
        · rw [if_neg hn, List.map_cons, List.filter_cons_of_neg (p := fun m => !noneM m) hn]; simp
    · rw [if_neg hg, if_neg hg, if_neg hg]
      exact ⟨h1, h2, by omega⟩
theorem apart_first (f : Mac) (hf : noneM f = false) : ∀ ss : List Sight, apartGo f ss = (someM ss).any fun m => !(f.same m)
  | [] => rfl
  | s :: r => by
    unfold apartGo someM
    rw [List.map_cons]
    by_cases hn : noneM s.mac = true
    · rw [if_pos hn, List.filter_cons_of_neg (by rw [hn]; simp), apart_first f hf r]; rfl
    · have hn' : noneM s.mac = false := by simpa using hn
      rw [if_neg hn, if_neg (by rw [hf]; simp), List.filter_cons_of_pos (by rw [hn']; rfl), List.any_cons, apart_first f hf r]
      by_cases hs : f.same s.mac = true
      · rw [if_pos hs, hs]; rfl
      · have hs' : f.same s.mac = false := by simpa using hs
        rw [if_neg hs, hs']; rfl
theorem zero_none : noneM zeroMac = true := by decide
theorem apart_zero : ∀ ss : List Sight, apartGo zeroMac ss = (someM ss).any fun m => !(m.same ((someM ss).getD 0 zeroMac))
  | [] => rfl
  | s :: r => by
    unfold apartGo
    by_cases hn : noneM s.mac = true
    · have : someM (s :: r) = someM r := by unfold someM; rw [List.map_cons, List.filter_cons_of_neg (by rw [hn]; simp)]
      rw [if_pos hn, this, apart_zero r]
    · have hn' : noneM s.mac = false := by simpa using hn
      have : someM (s :: r) = s.mac :: someM r := by unfold someM; rw [List.map_cons, List.filter_cons_of_pos (by rw [hn']; rfl)]
      rw [if_neg hn, if_pos zero_none, this, apart_first s.mac hn' r, List.any_cons]
      have h0 : (s.mac :: someM r).getD 0 zeroMac = s.mac := rfl
      rw [h0, same_refl]
      simp only [same_comm s.mac]
      rfl
theorem foreign_eq (h : Mac) (ss : List Sight) : foreign h ss = (someM ss).any fun m => !noneM h && !(m.same h) := by
  unfold foreign someM
  rw [List.any_filter, List.any_map]
  congr 1
  funext s
  show foreignS h s = (!noneM s.mac && (!noneM h && !(s.mac.same h)))
  unfold foreignS
  rw [Bool.and_assoc]
theorem fresh_all {c0 c2 now : Int} {xs : List Sight} : freshK c0 c2 now xs xs.length = freshL c0 c2 now xs := rfl
theorem apart_same {c0 c2 now : Int} {xs : List Sight} (h : ofOk c2 xs) : apartL (macsL c0 c2 now xs xs.length) (macsL c0 c2 now xs xs.length).length = apartGo zeroMac (freshL c0 c2 now xs) := by
  obtain ⟨_, h2, _⟩ := law_loop (c0 := c0) (now := now) h xs.length (Nat.le_refl _)
  unfold apartL
  rw [List.take_length, h2, fresh_all, apart_zero]
theorem of_none {c0 c2 now : Int} {xs : List Sight} (h : ofOk c2 xs) : ofN c0 c2 now xs = ofLN c0 c2 now xs := by
  obtain ⟨h1, _, _⟩ := law_loop (c0 := c0) (now := now) h xs.length (Nat.le_refl _)
  unfold ofN ofLN
  rw [apart_same h, h1, fresh_all]
theorem of_some {c0 c1 c2 now : Int} {m : Mac} {xs : List Sight} (h : ofOk c2 xs) : ofH c0 c1 c2 now m xs = ofLH c0 c1 c2 now m xs := by
  obtain ⟨h1, h2, _⟩ := law_loop (c0 := c0) (now := now) h xs.length (Nat.le_refl _)
  have ho : otherL m (macsL c0 c2 now xs xs.length) (macsL c0 c2 now xs xs.length).length = foreign m (freshL c0 c2 now xs) := by
    unfold otherL
    rw [List.take_length, h2, fresh_all, foreign_eq]
  unfold ofH ofLH oldS
  rw [apart_same h, h1, fresh_all, ho, within_same]
end Go.Proofs.Ytpokkmgnapoomaa.Stat
