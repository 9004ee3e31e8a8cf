/- Questions that wait: the plain part of the law ProbeScript. -/
import Derived.Test.YtnjildbclmglpaaProSpecG
namespace Go.Proofs.Ytnjildbclmglpaa.Pro
open Go Go.Proofs.Ytnjildbclmglpaa.Sx

theorem getP_mem2 {xs : List Prb} {k : Nat} (hk : k < xs.length) : getP xs k ∈ xs := by
  unfold getP
  rw [List.getD_eq_getElem?_getD, List.getElem?_eq_getElem hk]
  exact List.getElem_mem _
theorem getP_get {xs : List Prb} {k : Nat} (hk : k < xs.length) : xs[k] = getP xs k := by
  unfold getP
  rw [List.getD_eq_getElem?_getD, List.getElem?_eq_getElem hk]
  rfl
theorem near_u32 (n : Int) : 0 ≤ nearA n ∧ nearA n < 4294967296 := by
  unfold nearA
  simp [IntKind.wrap, IntKind.bits, IntKind.signed]
  omega
/-! ### asking again, the law's way -/
theorem late_same {c5 c6 now now0 room : Int} {xs : List Prb} (h : Good c6 now0 xs) (hn : now0 ≤ now ∧ 0 ≤ now ∧ now ≤ 1099511627776) : lateLL c5 c6 now room xs = lateL c5 c6 now room xs := by
  have key : ∀ k, k ≤ xs.length → lateAtL c5 c6 now room xs k = lateAt c5 c6 now room xs k := by
    intro k
    induction k with
    | zero => intro _; rfl
    | succ k ih =>
      intro hk
      have hs := h.sent _ (getP_mem2 (xs := xs) (k := k) (by omega))
      rw [lateAtL, lateAt, ih (by omega)]
      generalize lateAt c5 c6 now room xs k = r
      generalize getP xs k = p at *
      have h1 : since now p.sent = now - p.sent := by
        unfold since
        rw [clamp_id (n := now) (by omega), clamp_id (n := p.sent) (by omega), wrap_i64_id (by omega)]
      have h2 : oldL c5 now p = !decide (since now p.sent < c5) := by
        unfold oldL
        rw [wrap_i64_id (by omega), h1]
        by_cases hh : now - p.sent < c5
        · rw [decide_eq_true hh, decide_eq_false (by omega)]; rfl
        · rw [decide_eq_false hh, decide_eq_true (by omega)]; rfl
      have h3 : againL now p = againP now p := by
        unfold againL againP
        rw [clamp_id (by omega)]
      unfold lateStepL lateStep
      rw [h2, h3]
      cases decide (since now p.sent < c5) <;> cases decide (p.tries ≥ c6) <;> cases decide ((r.2.length : Int) < room) <;> rfl
  exact key _ (Nat.le_refl _)
theorem same_refl (xs : List Prb) : sameL xs xs = true := by
  have key : ∀ k, sameTo xs xs k = true := by
    intro k
    induction k with
    | zero => rfl
    | succ k ih => rw [sameTo, ih, same5_refl]; rfl
  unfold sameL
  rw [key]
  simp
/-! ### the last of an address -/
theorem last_at (b : Int) (xs : List Prb) : ∀ k, (-1 ≤ lastTo b xs k ∧ lastTo b xs k < k) ∧ (0 ≤ lastTo b xs k → (getP xs (lastTo b xs k).toNat).addr = b) ∧ (lastTo b xs k < 0 → ∀ j, j < k → (getP xs j).addr ≠ b) := by
  intro k
  induction k with
  | zero => exact ⟨⟨by rw [lastTo]; omega, by rw [lastTo]; omega⟩, fun h => absurd h (by rw [lastTo]; omega), fun _ j hj => absurd hj (Nat.not_lt_zero _)⟩
  | succ k ih =>
    obtain ⟨⟨i1, i2⟩, i3, i4⟩ := ih
    rw [lastTo]
    split
    · rename_i hb
      exact ⟨⟨by omega, by omega⟩, fun _ => by rw [Int.toNat_natCast]; exact eq_of_beq hb, fun hc => absurd hc (by omega)⟩
    · rename_i hb
      refine ⟨⟨i1, by omega⟩, i3, fun hc j hj => ?_⟩
      by_cases e : j = k
      · subst e
        intro he
        exact hb (beq_iff_eq.2 he)
      · exact i4 hc j (by omega)
theorem last_rng (b : Int) (xs : List Prb) : -1 ≤ lastI b xs ∧ lastI b xs < xs.length := (last_at b xs xs.length).1
theorem last_some {b : Int} {xs : List Prb} (h : 0 ≤ lastI b xs) : (getP xs (lastI b xs).toNat).addr = b := (last_at b xs xs.length).2.1 h
theorem last_none {b : Int} {xs : List Prb} (h : lastI b xs < 0) {x : Prb} (hx : x ∈ xs) : x.addr ≠ b := by
  obtain ⟨j, hj, rfl⟩ := List.getElem_of_mem hx
  rw [getP_get hj]
  exact (last_at b xs xs.length).2.2 h j hj
theorem uniq {xs : List Prb} (h : (xs.map (·.addr)).Nodup) {i j : Nat} (hi : i < xs.length) (hj : j < xs.length) (he : (getP xs i).addr = (getP xs j).addr) : i = j := by
  have hp := List.pairwise_iff_getElem.1 h
  rcases Nat.lt_trichotomy i j with h1 | h1 | h1
  · have := hp i j (by rw [List.length_map]; omega) (by rw [List.length_map]; omega) h1
    rw [List.getElem_map, List.getElem_map, getP_get hi, getP_get hj] at this
    exact absurd he this
  · exact h1
  · have := hp j i (by rw [List.length_map]; omega) (by rw [List.length_map]; omega) h1
    rw [List.getElem_map, List.getElem_map, getP_get hi, getP_get hj] at this
    exact absurd he.symm this
theorem id_eq {b : Int} (h : 0 ≤ b ∧ b < 4294967296) : idOf b = IntKind.i64.wrap (b.tmod 65536) := by
  unfold idOf
  rw [and32 b h, Int.tmod_eq_emod_of_nonneg h.1]
theorem bad_id {p : Prb} (h : badP p = false) : p.id = idOf p.addr := by
  unfold badP at h
  simp only [Bool.or_eq_false_iff, bne_eq_false_iff_eq] at h
  exact h.1.1.1.1.1
/-- What an answer finds. -/
theorem match_all {c6 now : Int} {xs : List Prb} (h : Good c6 now xs) {b : Int} (hb : 0 ≤ b ∧ b < 4294967296) (an : Bool) (s : Int) :
    matE xs an b (IntKind.i64.wrap (b.tmod 65536)) s = (if (decide (lastI b xs ≥ 0) && an && s == (getP xs (lastI b xs).toNat).num) = true then 0 else 7) ∧
    matL xs an b (IntKind.i64.wrap (b.tmod 65536)) s = (if (decide (lastI b xs ≥ 0) && an && s == (getP xs (lastI b xs).toNat).num) = true then cutAt xs (lastI b xs).toNat else []) := by
  rw [← id_eq hb]
  have hr := last_rng b xs
  have only : ∀ x ∈ xs, ansTo an b (idOf b) s x = true → 0 ≤ lastI b xs ∧ x = getP xs (lastI b xs).toNat ∧ an = true ∧ x.num = s := by
    intro x hx ha
    unfold ansTo at ha
    simp only [Bool.and_eq_true, beq_iff_eq] at ha
    rcases Int.lt_or_le (lastI b xs) 0 with hl | hl
    · exact absurd ha.1.1.2 (last_none hl hx)
    · refine ⟨hl, ?_, ha.1.1.1, ha.2⟩
      obtain ⟨j, hj, rfl⟩ := List.getElem_of_mem hx
      rw [getP_get hj] at ha ⊢
      rw [uniq h.nd hj (show (lastI b xs).toNat < xs.length by omega) (by rw [ha.1.1.2, last_some hl])]
  unfold matE matL
  by_cases hok : (decide (lastI b xs ≥ 0) && an && s == (getP xs (lastI b xs).toNat).num) = true
  · rw [if_pos hok, if_pos hok]
    simp only [Bool.and_eq_true, beq_iff_eq, decide_eq_true_eq] at hok
    obtain ⟨⟨hl, han⟩, hs⟩ := hok
    have hlt : (lastI b xs).toNat < xs.length := by omega
    have hm := getP_mem2 hlt
    have hq : ansTo an b (idOf b) s (getP xs (lastI b xs).toNat) = true := by
      unfold ansTo
      rw [han, bad_id (h.ok _ hm), last_some hl, hs]
      simp
    have hany : xs.any (ansTo an b (idOf b) s) = true := List.any_eq_true.2 ⟨_, hm, hq⟩
    rw [if_pos hany, if_pos hany]
    refine ⟨rfl, ?_⟩
    have hf : xs.findIdx (ansTo an b (idOf b) s) = (lastI b xs).toNat := by
      rw [List.findIdx_eq hlt]
      refine ⟨by rw [getP_get hlt]; exact hq, fun j hj => ?_⟩
      rw [getP_get (by omega)]
      cases hc : ansTo an b (idOf b) s (getP xs j)
      · rfl
      · have hc2 := hc
        unfold ansTo at hc2
        simp only [Bool.and_eq_true, beq_iff_eq] at hc2
        have := uniq h.nd (show j < xs.length by omega) hlt (by rw [hc2.1.1.2, last_some hl])
        omega
    rw [hf]
  · rw [if_neg hok, if_neg hok]
    have hany : ¬ xs.any (ansTo an b (idOf b) s) = true := by
      intro hc
      obtain ⟨x, hx, ha⟩ := List.any_eq_true.1 hc
      obtain ⟨h1, h2, h3, h4⟩ := only x hx ha
      apply hok
      rw [decide_eq_true (show lastI b xs ≥ 0 from h1), h3, ← h2, h4]
      simp
    rw [if_neg hany, if_neg hany]
    exact ⟨rfl, rfl⟩
/-- What putting one comes to. -/
theorem put_all {xs : List Prb} (p : Prb) : putErr xs p = (if decide (lastI p.addr xs ≥ 0) = true then 6 else if decide ((xs.length : Int) ≥ 16) = true then 4 else 0) := by
  have ha : xs.any (sameA p) = decide (lastI p.addr xs ≥ 0) := by
    have hr := last_rng p.addr xs
    by_cases hl : 0 ≤ lastI p.addr xs
    · rw [decide_eq_true (show lastI p.addr xs ≥ 0 from hl)]
      exact List.any_eq_true.2 ⟨_, getP_mem2 (k := (lastI p.addr xs).toNat) (by omega), beq_iff_eq.2 (last_some hl)⟩
    · rw [decide_eq_false (show ¬ lastI p.addr xs ≥ 0 from hl)]
      rw [List.any_eq_false]
      intro x hx hc
      exact last_none (by omega) hx (eq_of_beq hc)
  unfold putErr
  rw [ha]
theorem put_is {xs : List Prb} {p : Prb} (h : putErr xs p = 0) : putL xs p = xs ++ [p] := by
  unfold putErr at h
  unfold putL
  split at h
  · cases h
  · rename_i h1
    split at h
    · cases h
    · rename_i h2
      rw [if_neg h1, if_neg h2]
theorem put_no {xs : List Prb} {p : Prb} (h : putErr xs p ≠ 0) : putL xs p = [] := by
  unfold putErr at h
  unfold putL
  split at h
  · rename_i h1; rw [if_pos h1]
  · rename_i h1
    split at h
    · rename_i h2; rw [if_neg h1, if_pos h2]
    · exact absurd rfl h
theorem raw_is {now : Int} {a : Act} (hn : 0 ≤ now ∧ now ≤ 1099511627776) (ha : 0 ≤ a.num ∧ a.num < 65536) : askP now a = rawP now a := by
  unfold askP ofP rawP
  rw [id_eq (near_u32 _), and64, wrap_i64_id (n := a.num) (by omega), Int.emod_eq_of_lt ha.1 ha.2, clamp_id hn]
theorem cut_sub (xs : List Prb) (k : Nat) : (cutAt xs k).Sublist xs := by
  unfold cutAt
  have h1 := (List.Sublist.refl (xs.take k)).append (List.drop_sublist 1 (xs.drop k))
  rw [List.drop_drop, List.take_append_drop] at h1
  exact h1
theorem Good.sub {c6 now : Int} {xs l : List Prb} (h : Good c6 now xs) (hl : l.Sublist xs) : Good c6 now l := ⟨fun p hp => h.ok p (hl.subset hp), fun p hp => h.rng p (hl.subset hp), h.nd.sublist (hl.map _), Nat.le_trans hl.length_le h.len, fun p hp => h.tries p (hl.subset hp), fun p hp => h.sent p (hl.subset hp)⟩
theorem getA_mem {xs : List Act} {k : Nat} (hk : k < xs.length) : getA xs k ∈ xs := by
  unfold getA
  rw [List.getD_eq_getElem?_getD, List.getElem?_eq_getElem hk]
  exact List.getElem_mem _
theorem scr_1 {c5 c6 : Int} {r : List Prb × Int} {a : Act} (h : isTick a = true) : scrStep c5 c6 r a = ((lateL c5 c6 (nowStep r.2 a) (IntKind.i64.wrap (a.n.tmod 7)) r.1).1, nowStep r.2 a) := if_pos h
theorem scr_2 {c5 c6 : Int} {r : List Prb × Int} {a : Act} (h : isTick a = false) (h2 : isAns a = true) : scrStep c5 c6 r a = ((if okA r.1 a = true then cutAt r.1 (lastI (nearA a.addr) r.1).toNat else r.1), r.2) := by
  unfold scrStep
  rw [if_neg (by rw [h]; simp), if_pos h2]
theorem scr_3 {c5 c6 : Int} {r : List Prb × Int} {a : Act} (h : isTick a = false) (h2 : isAns a = false) : scrStep c5 c6 r a = ((if (putErr r.1 (askP r.2 a) == 0) = true then r.1 ++ [rawP r.2 a] else r.1), r.2) := by
  unfold scrStep
  rw [if_neg (by rw [h]; simp), if_neg (by rw [h2]; simp)]
theorem now_step {now : Int} {a : Act} (hn : 0 ≤ a.n) (hw : 0 ≤ now ∧ now ≤ 100000) : now ≤ nowStep now a ∧ nowStep now a ≤ now + 4 := by
  unfold nowStep
  rw [Int.tmod_eq_emod_of_nonneg hn, wrap_i64_id (n := a.n % 5) (by omega), wrap_i64_id (by omega)]
  omega
theorem scr_good {c5 c6 : Int} {xs : List Act} (hx : nOk2 xs) (hc : 0 ≤ c6 ∧ c6 ≤ 8) : ∀ k, k ≤ xs.length → k ≤ 1000 → Good c6 (scrAt c5 c6 xs k).2 (scrAt c5 c6 xs k).1 ∧ 0 ≤ (scrAt c5 c6 xs k).2 ∧ (scrAt c5 c6 xs k).2 ≤ 5 * k := by
  intro k
  induction k with
  | zero => intro _ _; exact ⟨⟨fun p hp => (by cases hp), fun p hp => (by cases hp), (by simp [scrAt]), Nat.zero_le _, fun p hp => (by cases hp), fun p hp => (by cases hp)⟩, Int.le_refl _, Int.le_refl _⟩
  | succ k ih =>
    intro hk hk2
    obtain ⟨h1, h2, h3⟩ := ih (by omega) (by omega)
    have ha := hx _ (getA_mem (xs := xs) (k := k) (by omega))
    rw [scrAt]
    generalize scrAt c5 c6 xs k = r at *
    generalize getA xs k = a at *
    have hstep := now_step (now := r.2) ha.1 (by omega)
    cases ht : isTick a
    · cases h4 : isAns a
      · rw [scr_3 ht h4]
        refine ⟨?_, h2, by simp only; omega⟩
        simp only
        split
        · rename_i he
          have he := eq_of_beq he
          have := put_good h1 hc.1 (by omega) ask_good rfl he
          rw [put_is he, raw_is (by omega) ha.2] at this
          exact this
        · exact h1
      · rw [scr_2 ht h4]
        refine ⟨?_, h2, by simp only; omega⟩
        simp only
        split
        · exact h1.sub (cut_sub _ _)
        · exact h1
    · rw [scr_1 ht]
      refine ⟨late_good h1 hc ⟨hstep.1, by omega, by omega⟩, by simp only; omega, by simp only; omega⟩
end Go.Proofs.Ytnjildbclmglpaa.Pro
