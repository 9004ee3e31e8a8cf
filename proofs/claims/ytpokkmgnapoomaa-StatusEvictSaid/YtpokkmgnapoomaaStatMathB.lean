/- What an address stands as: the plain part of the laws StatusEvict, StatusOld, StatusActive. -/
import Derived.Test.YtpokkmgnapoomaaStatWalkD
namespace Go.Proofs.Ytpokkmgnapoomaa.Stat
open Go Go.Proofs.Ytpokkmgnapoomaa.Sx

theorem fz_eq {b c : Int} (hb : 0 < b ∧ b ≤ 1000) (h : 0 ≤ c) : fz b c = c % b ∧ 0 ≤ c % b ∧ c % b < b := by
  have h1 : 0 ≤ c % b := Int.emod_nonneg _ (by omega)
  have h2 : c % b < b := Int.emod_lt_of_pos _ (by omega)
  unfold fz
  rw [Int.tmod_eq_emod_of_nonneg h, wrap_i64_id (n := c % b) (by omega)]
  exact ⟨rfl, h1, h2⟩
theorem fc_eq {b c : Int} (hb : 0 < b ∧ b ≤ 1000) (h : 0 ≤ c) : 1 ≤ fc b c ∧ fc b c ≤ b := by
  obtain ⟨h1, h2, h3⟩ := fz_eq hb h
  unfold fc
  rw [h1, wrap_i64_id (by omega)]
  omega
theorem ofN_nil {c0 c2 now : Int} {xs : List Sight} (h : freshL c0 c2 now xs = []) : ofN c0 c2 now xs = 0 := by
  unfold ofN
  rw [h]
  rfl
theorem ofH_nil {c0 c1 c2 now : Int} {m : Mac} {xs : List Sight} (h : freshL c0 c2 now xs = []) (hc : 1 ≤ c2) : ofH c0 c1 c2 now m xs = if oldS c1 now xs = true then 3 else 1 := by
  unfold ofH
  rw [h]
  have : decide ((([] : List Sight).length : Int) ≥ c2) = false := decide_eq_false (by simp; omega)
  rw [if_neg (by decide), if_neg (show ¬ foreign m [] = true from fun h => by cases h), if_neg (by rw [this]; simp)]
theorem mem_tail {c2 : Int} {xs : List Sight} {s : Sight} (h : s ∈ tailS c2 xs) : s ∈ xs := List.mem_of_mem_take (List.mem_of_mem_drop h)
theorem freshL_nil {c0 c2 now : Int} {xs : List Sight} (h : ∀ s ∈ xs, freshS c0 now s = false) : freshL c0 c2 now xs = [] := by
  unfold freshL
  rw [List.filter_eq_nil_iff]
  intro s hs
  rw [h s (mem_tail hs)]
  simp
theorem freshL_all {c0 c2 now : Int} {xs : List Sight} (h : ∀ s ∈ xs, freshS c0 now s = true) : freshL c0 c2 now xs = tailS c2 xs := by
  unfold freshL
  rw [List.filter_eq_self]
  intro s hs
  exact h s (mem_tail hs)
theorem fromK_eq {c2 : Int} {xs : List Sight} (h : ofOk c2 xs) (hc : 0 ≤ c2) : fromK c2 xs = mx 0 ((xs.length : Int) - c2 - 1) := by
  obtain ⟨h1, h2⟩ := h
  have hm : mx 0 c2 = c2 := by unfold mx; split <;> omega
  unfold fromK
  rw [hm, wrap_i64_id (n := (xs.length : Int) - c2) (by omega), wrap_i64_id (by omega)]
theorem tail_drop {c2 : Int} {xs : List Sight} (h : ofOk c2 xs) (hc : 0 ≤ c2) (hl : c2 + 1 < xs.length) : tailS c2 (xs.drop 1) = tailS c2 xs := by
  have h' : ofOk c2 (xs.drop 1) := ⟨by have := h.1; rw [List.length_drop]; omega, h.2⟩
  unfold tailS
  rw [fromK_eq h hc, fromK_eq h' hc, List.take_length, List.take_length, List.drop_drop, List.length_drop]
  congr 1
  unfold mx
  split <;> split <;> omega
theorem last_drop {xs : List Sight} (hl : 1 < xs.length) : lastT (xs.drop 1) = lastT xs := by
  unfold lastT
  congr 1
  rw [List.length_drop, List.getD_eq_getElem?_getD, List.getD_eq_getElem?_getD, List.getElem?_drop]
  congr 2
  omega
theorem ofN_drop {c0 c2 now : Int} {xs : List Sight} (h : ofOk c2 xs) (hc : 0 ≤ c2) (hl : c2 + 1 < xs.length) : ofN c0 c2 now (xs.drop 1) = ofN c0 c2 now xs := by
  unfold ofN freshL
  rw [tail_drop h hc hl]
theorem ofH_drop {c0 c1 c2 now : Int} {m : Mac} {xs : List Sight} (h : ofOk c2 xs) (hc : 0 ≤ c2) (hl : c2 + 1 < xs.length) : ofH c0 c1 c2 now m (xs.drop 1) = ofH c0 c1 c2 now m xs := by
  have : oldS c1 now (xs.drop 1) = oldS c1 now xs := by
    unfold oldS
    rw [last_drop (by omega), List.length_drop, decide_eq_true (show (((xs.length - 1 : Nat) : Int) > 0) by omega), decide_eq_true (show ((xs.length : Int) > 0) by omega)]
  unfold ofH freshL
  rw [tail_drop h hc hl, this]
theorem ofOk_drop {c2 : Int} {xs : List Sight} (h : ofOk c2 xs) (k : Nat) : ofOk c2 (xs.drop k) := ⟨by have := h.1; rw [List.length_drop]; omega, h.2⟩
theorem ofN_drops {c0 c2 now : Int} {xs : List Sight} (h : ofOk c2 xs) (hc : 0 ≤ c2) : ∀ k : Nat, c2 + k < xs.length → ofN c0 c2 now (xs.drop k) = ofN c0 c2 now xs := by
  intro k
  induction k with
  | zero => intro _; rfl
  | succ k ih =>
    intro hl
    rw [← ih (by omega), ← ofN_drop (ofOk_drop h k) hc (by rw [List.length_drop]; omega), List.drop_drop]
theorem ofH_drops {c0 c1 c2 now : Int} {m : Mac} {xs : List Sight} (h : ofOk c2 xs) (hc : 0 ≤ c2) : ∀ k : Nat, c2 + k < xs.length → ofH c0 c1 c2 now m (xs.drop k) = ofH c0 c1 c2 now m xs := by
  intro k
  induction k with
  | zero => intro _; rfl
  | succ k ih =>
    intro hl
    rw [← ih (by omega), ← ofH_drop (ofOk_drop h k) hc (by rw [List.length_drop]; omega), List.drop_drop]

/-! ### the times of the sightings -/
def lateOk (xs : List Seen) : Prop := ∀ x ∈ xs, 0 ≤ x.later
theorem step_eq {xs : List Seen} (h : lateOk xs) (k : Nat) : ∃ d : Int, IntKind.i64.wrap ((seenAt xs k).later.tmod 8) = d ∧ 0 ≤ d ∧ d < 8 := by
  have h0 : 0 ≤ (seenAt xs k).later := by
    unfold seenAt
    rw [List.getD_eq_getElem?_getD]
    cases he : xs[k]? with
    | none => exact Int.le_refl _
    | some x => exact h x (List.mem_of_getElem? he)
  rw [Int.tmod_eq_emod_of_nonneg h0, wrap_i64_id (by omega)]
  exact ⟨_, rfl, by omega, by omega⟩
theorem time_rng {xs : List Seen} (h : lateOk xs) : ∀ k : Nat, k ≤ 1000 → 0 ≤ timeAt xs k ∧ timeAt xs k ≤ 8 * k := by
  intro k
  induction k with
  | zero => intro _; exact ⟨Int.le_refl _, Int.le_refl _⟩
  | succ k ih =>
    intro hk
    have := ih (by omega)
    obtain ⟨d, hd, h1, h2⟩ := step_eq h k
    rw [timeAt, hd, wrap_i64_id (by omega)]
    omega
theorem time_mono {xs : List Seen} (h : lateOk xs) (k : Nat) (hk : k < 1000) : timeAt xs k ≤ timeAt xs (k + 1) := by
  have := time_rng h k (by omega)
  obtain ⟨d, hd, h1, h2⟩ := step_eq h k
  rw [timeAt, hd, wrap_i64_id (by omega)]
  omega
theorem sight_time {xs : List Seen} (h : lateOk xs) : ∀ k : Nat, k ≤ 1000 → ∀ s ∈ sightsAt xs k, 0 ≤ s.time ∧ s.time ≤ timeAt xs k := by
  intro k
  induction k with
  | zero => intro _ s hs; cases hs
  | succ k ih =>
    intro hk s hs
    rw [sightsAt, List.mem_append] at hs
    have hm := time_mono h k (by omega)
    rcases hs with hs | hs
    · have := ih (by omega) s hs
      omega
    · rw [List.mem_singleton] at hs
      subst hs
      exact ⟨(time_rng h (k + 1) hk).1, Int.le_refl _⟩
theorem late_head {xs : List Seen} (h : lateOk xs) : lateOk (headS xs) := fun x hx => h x (List.mem_of_mem_take (List.mem_of_mem_drop hx))
theorem last_time (xs : List Seen) (k : Nat) : lastT (sightsAt xs (k + 1)) = timeAt xs (k + 1) := by
  unfold lastT
  rw [sightsAt_len]
  have : (((k + 1 : Nat) : Int) - 1).toNat = k := by omega
  rw [this, sightsAt, List.getD_eq_getElem?_getD, List.getElem?_append_right (by rw [sightsAt_len]; exact Nat.le_refl _), sightsAt_len]
  simp
theorem clamp_id {n : Int} (h : 0 ≤ n ∧ n ≤ 1099511627776) : clampT n = n := by unfold clampT mx mn; split <;> split <;> omega
theorem within_eq {a b n : Int} (ha : 0 ≤ a ∧ a ≤ 1099511627776) (hb : 0 ≤ b ∧ b ≤ 1099511627776) : within a b n = (decide (a - b ≥ 0) && decide (a - b < n)) := by
  unfold within since
  rw [clamp_id ha, clamp_id hb, wrap_i64_id (by omega)]
/-- The last time of a row of sightings, or 0. -/
def lastOr (xs : List Sight) : Int := if decide ((xs.length : Int) > 0) = true then lastT xs else 0
theorem last_le {xs : List Seen} (h : lateOk xs) : (∀ s ∈ sightsL xs, 0 ≤ s.time ∧ s.time ≤ lastOr (sightsL xs)) ∧ 0 ≤ lastOr (sightsL xs) ∧ lastOr (sightsL xs) ≤ 96 := by
  have h12 := headS_le xs
  have hh := late_head h
  unfold sightsL
  cases hn : (headS xs).length with
  | zero => exact ⟨fun s hs => (by cases hs), Int.le_refl _, show (0 : Int) ≤ 96 by omega⟩
  | succ k =>
    rw [hn] at h12
    have h1 := time_rng hh (k + 1) (by omega)
    have : lastOr (sightsAt (headS xs) (k + 1)) = timeAt (headS xs) (k + 1) := by
      unfold lastOr
      rw [sightsAt_len, if_pos (decide_eq_true (by omega)), last_time]
    rw [this]
    exact ⟨sight_time hh (k + 1) (by omega), h1.1, by omega⟩
/-- Nothing is fresh once more than the time of freshness has gone by. -/
theorem old_none {xs : List Seen} {c0 c2 now : Int} (h : lateOk xs) (hc : 1 ≤ c0) (hn : lastOr (sightsL xs) + c0 ≤ now) (hm : now ≤ 1000000) : freshL c0 c2 now (sightsL xs) = [] := by
  obtain ⟨h1, h2, h3⟩ := last_le h
  refine freshL_nil fun s hs => ?_
  have := h1 s hs
  unfold freshS
  rw [within_eq (by omega) (by omega), decide_eq_false (show ¬ now - s.time < c0 by omega), Bool.and_false]
theorem old_old {xs : List Seen} {c1 now : Int} (h : lateOk xs) (hc : 1 ≤ c1) (hn : lastOr (sightsL xs) + c1 ≤ now) (hm : now ≤ 1000000) : oldS c1 now (sightsL xs) = decide (((sightsL xs).length : Int) > 0) := by
  obtain ⟨h1, h2, h3⟩ := last_le h
  unfold oldS
  by_cases hl : ((sightsL xs).length : Int) > 0
  · have hlo : lastOr (sightsL xs) = lastT (sightsL xs) := by unfold lastOr; rw [if_pos (decide_eq_true hl)]
    rw [hlo] at h2 h3 hn
    rw [within_eq (by omega) (by omega), decide_eq_false (show ¬ now - lastT (sightsL xs) < c1 by omega), Bool.and_false]
    simp
  · rw [decide_eq_false hl]; rfl
/-! ### a row of like sightings -/
theorem some_rep (s : Sight) (k : Nat) : ∀ m ∈ someM (List.replicate k s), m = s.mac := by
  intro m hm
  unfold someM at hm
  have := (List.mem_filter.1 hm).1
  rw [List.map_replicate] at this
  exact List.eq_of_mem_replicate this
theorem apart_rep (s : Sight) (k : Nat) : apartGo zeroMac (List.replicate k s) = false := by
  rw [apart_zero, List.any_eq_false]
  intro m hm
  have h0 : (someM (List.replicate k s)).getD 0 zeroMac = s.mac := by
    cases hl : someM (List.replicate k s) with
    | nil => rw [hl] at hm; cases hm
    | cons a l => exact some_rep s k a (by rw [hl]; exact List.mem_cons_self)
  rw [h0, some_rep s k m hm, same_refl]
  simp
theorem foreign_rep (s : Sight) (k : Nat) : foreign s.mac (List.replicate k s) = false := by
  rw [foreign_eq, List.any_eq_false]
  intro m hm
  rw [some_rep s k m hm, same_refl]
  simp
theorem active_rep {c0 c1 c2 now : Int} {s : Sight} {k : Nat} (h : ofOk c2 (List.replicate k s)) (hc : 0 ≤ c2) (hk : c2 ≤ k) (hf : freshS c0 now s = true) : ofH c0 c1 c2 now s.mac (List.replicate k s) = 2 := by
  have hl : freshL c0 c2 now (List.replicate k s) = List.replicate (k - (mx 0 ((k : Int) - c2 - 1)).toNat) s := by
    rw [freshL_all (fun t ht => by rw [List.eq_of_mem_replicate ht]; exact hf)]
    unfold tailS
    rw [fromK_eq h hc, List.take_length, List.drop_replicate, List.length_replicate]
  unfold ofH
  have hx : decide (((freshL c0 c2 now (List.replicate k s)).length : Int) ≥ c2) = true := by
    rw [hl, List.length_replicate]
    refine decide_eq_true ?_
    unfold mx
    split <;> omega
  rw [hx, hl, apart_rep, foreign_rep]
  rfl
end Go.Proofs.Ytpokkmgnapoomaa.Stat
