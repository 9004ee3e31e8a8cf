/- Sightings: the plain part of SeenScript: a map has what rows have. -/
import Derived.Test.YtcgeccpookgoeaaSeenSpecC
import Derived.Test.YtcgeccpookgoeaaMapMath
namespace Go.Proofs.Ytcgeccpookgoeaa.Seen
open Go Go.Proofs.Ytcgeccpookgoeaa.Sx

structure Good3 (ks : List Known) : Prop where
  srt : (ks.map (·.addr)).Pairwise (· < ·)
  one : ∀ x ∈ ks, (1 ≤ x.seen.length ∧ x.seen.length ≤ 8) ∧ okP x.seen
  len : ks.length ≤ 96
theorem Good3.size {ks : List Known} (h : Good3 ks) : sizeOk ks := ⟨by have := h.len; omega, fun x hx => by have := (h.one x hx).1; omega, srt_sorted h.srt⟩
theorem Good3.slen {ks : List Known} (h : Good3 ks) : seenLen ks := ⟨⟨by have := h.len; omega, srt_sorted h.srt⟩, fun x hx => by have := (h.one x hx).1; omega⟩
theorem Good3.row {ks : List Known} (h : Good3 ks) : rowOk ks := ⟨by have := h.len; omega, fun x hx => by have := (h.one x hx).1; omega⟩
theorem Good3.right {ks : List Known} (h : Good3 ks) : rightB ks = true := by
  have hs := srt_sorted h.srt
  have key : ∀ k, k ≤ ks.length → okTo ks k = true := by
    intro k
    induction k with
    | zero => intro _; rfl
    | succ k ih =>
      intro hk
      obtain ⟨h1, h2⟩ := h.one _ (getK_mem (ks := ks) (k := k) (by omega))
      have hb : badK ks k = false := by
        unfold badK
        rw [show (((getK ks k).seen.length : Int) == 0) = false by simpa using (show ¬ ((getK ks k).seen.length : Int) = 0 by omega), decide_eq_false (show ¬ ((getK ks k).seen.length : Int) > 8 by omega)]
        by_cases h0 : (k : Int) > 0
        · have := hs (k - 1) k (by omega) (by omega)
          rw [decide_eq_false (show ¬ (getK ks (k - 1)).addr ≥ (getK ks k).addr by omega), Bool.and_false]
          rfl
        · rw [decide_eq_false h0]
          rfl
      rw [okTo, ih (by omega), hb, okS_of h2 _ (Nat.le_refl _)]
      rfl
  unfold rightB
  rw [key ks.length (Nat.le_refl _), decide_eq_true (by have := h.len; omega)]
  rfl
/-- What is known of one is in order. -/
theorem Good3.seen {ks : List Known} (h : Good3 ks) (a : Int) : okP (seenK ks a) ∧ (seenK ks a).length ≤ 8 ∧ (hasK ks a = true → 1 ≤ (seenK ks a).length) := by
  cases hh : hasK ks a
  · rw [seen_none hh]
    exact ⟨⟨fun t ht => (by cases ht), List.Pairwise.nil⟩, Nat.zero_le _, fun h => by cases h⟩
  · obtain ⟨x, hx, _, hxs⟩ := mem_of_has hh
    rw [hxs]
    exact ⟨(h.one x hx).2, (h.one x hx).1.2, fun _ => (h.one x hx).1.1⟩
theorem Good3.has {ks : List Known} (h : Good3 ks) (a : Int) : hasK ks a = decide ((seenK ks a).length > 0) := by
  cases hh : hasK ks a
  · rw [seen_none hh]; rfl
  · have := (h.seen a).2.2 hh
    exact (decide_eq_true (by omega)).symm
theorem last_ge {xs : List Sight} (h : okP xs) : ∀ t ∈ xs, t.time ≤ (getS xs (xs.length - 1)).time := by
  intro t ht
  obtain ⟨i, hi, rfl⟩ := List.getElem_of_mem ht
  rw [getS_get hi]
  by_cases e : i = xs.length - 1
  · rw [← e]; exact Int.le_refl _
  · have := (List.pairwise_iff_getElem.1 h.2) i (xs.length - 1) hi (by omega) (by omega)
    rw [getS_get hi, getS_get (by omega)] at this
    exact this
theorem Good3.last {ks : List Known} (h : Good3 ks) (a : Int) : 0 ≤ lastT ks a ∧ ∀ t ∈ seenK ks a, t.time ≤ lastT ks a := by
  have hs := (h.seen a).1
  unfold lastT
  by_cases hd : (seenK ks a).length > 0
  · rw [if_pos (decide_eq_true hd)]
    exact ⟨(hs.1 _ (getS_mem (by omega))).2, last_ge hs⟩
  · rw [if_neg (by rw [decide_eq_false hd]; simp)]
    refine ⟨Int.le_refl _, fun t ht => ?_⟩
    have : seenK ks a = [] := List.length_eq_zero_iff.1 (by omega)
    rw [this] at ht
    cases ht
theorem put_is {ks : List Known} {a : Int} {s : Sight} (h0 : putE ks a s = 0) : (0 ≤ s.src ∧ s.src < 4) ∧ (0 ≤ s.time ∧ lastT ks a ≤ s.time) ∧ (hasK ks a = false → ks.length < 96) := by
  unfold putE at h0
  split at h0
  · cases h0
  · rename_i h1
    split at h0
    · cases h0
    · rename_i h2
      split at h0
      · cases h0
      · rename_i h3
        unfold srcBad at h1
        rw [Bool.or_eq_true] at h1
        have a1 : ¬ s.src < 0 := fun hc => h1 (.inl (decide_eq_true hc))
        have a2 : ¬ s.src ≥ 4 := fun hc => h1 (.inr (decide_eq_true hc))
        have a3 : ¬ s.time < mx 0 (lastT ks a) := fun hc => h2 (decide_eq_true hc)
        refine ⟨by omega, by unfold mx at a3; split at a3 <;> omega, fun hh => ?_⟩
        rcases Nat.lt_or_ge ks.length 96 with h4 | h4
        · exact h4
        · exact absurd (by rw [hh, decide_eq_true (show (ks.length : Int) ≥ 96 by omega)]; rfl) h3
def pr (x : Known) : Int × List Sight := (x.addr, x.seen)
structure Sim (ks : List Known) (m : Mp) : Prop where
  good : Good3 ks
  perm : List.Perm (α := Int × List Sight) m (ks.map pr)
theorem Sim.has {ks : List Known} {m : Mp} (s : Sim ks m) (a : Int) : hasM m a = hasK ks a := by
  cases h : hasK ks a with
  | true =>
    obtain ⟨x, hx, hxa, _⟩ := mem_of_has h
    exact hasM_iff.2 ⟨pr x, (s.perm.mem_iff).2 (List.mem_map_of_mem hx), hxa⟩
  | false =>
    refine hasM_false.2 fun p hp hk => ?_
    obtain ⟨x, hx, rfl⟩ := List.mem_map.1 ((s.perm.mem_iff).1 hp)
    have := (seen_of_mem (srt_sorted s.good.srt) hx).1
    have hk : x.addr = a := hk
    rw [hk, h] at this
    cases this
theorem Sim.get {ks : List Known} {m : Mp} (s : Sim ks m) (a : Int) : getM m a ([] : List Sight) = seenK ks a := by
  have h0 := s.has a
  cases h : hasK ks a with
  | true =>
    have hm := getM_mem ([] : List Sight) (h0.trans h)
    obtain ⟨x, hx, he⟩ := List.mem_map.1 ((s.perm.mem_iff).1 hm)
    have h1 : x.addr = a := congrArg Prod.fst he
    have h2 : x.seen = getM m a ([] : List Sight) := congrArg Prod.snd he
    rw [← h2, ← h1]
    exact ((seen_of_mem (srt_sorted s.good.srt) hx).2).symm
  | false => rw [getM_none ([] : List Sight) (h0.trans h), seen_none h]
theorem Sim.len {ks : List Known} {m : Mp} (s : Sim ks m) : m.length = ks.length := by
  have := s.perm.length_eq
  rw [List.length_map] at this
  exact this
theorem Sim.put {ks : List Known} {m : Mp} (S : Sim ks m) {a : Int} {s : Sight} (h0 : putE ks a s = 0) : Sim (putNew ks a s) (setM m a (keepL (seenK ks a) s)) := by
  obtain ⟨p1, p2, p3⟩ := put_is h0
  have h := S.good
  have hsort := srt_sorted h.srt
  obtain ⟨s1, s2, s3⟩ := h.seen a
  have hl := (h.last a).2
  have h8 := keep_len (seenK ks a) s
  have hnew : (1 ≤ (keepL (seenK ks a) s).length ∧ (keepL (seenK ks a) s).length ≤ 8) ∧ okP (keepL (seenK ks a) s) :=
    ⟨by omega, keep_ok s1 ⟨p1, p2.1⟩ (fun t ht => by have := hl t ht; omega)⟩
  cases hh : hasK ks a
  · have hput : putNew ks a s = ks.take (idxK ks a) ++ [⟨a, [s]⟩] ++ ks.drop (idxK ks a) := by unfold putNew; rw [if_neg (by rw [hh]; simp)]
    have hk1 : keepL (seenK ks a) s = [s] := by
      rw [seen_none hh]
      rfl
    rw [hk1] at hnew
    obtain ⟨b1, b2⟩ := idx_before (ks := ks) (a := a)
    have b2 := b2 hsort hh
    have hp96 := p3 hh
    refine ⟨⟨?_, fun x hx => ?_, ?_⟩, ?_⟩
    · rw [hput, List.map_append, List.map_append, List.pairwise_append, List.pairwise_append]
      have hp := h.srt
      rw [← List.take_append_drop (idxK ks a) ks, List.map_append, List.pairwise_append] at hp
      refine ⟨⟨hp.1, by simp, fun x hx y hy => ?_⟩, hp.2.1, fun x hx y hy => ?_⟩
      · obtain ⟨z, hz, rfl⟩ := List.mem_map.1 hx
        simp only [List.map_cons, List.map_nil, List.mem_singleton] at hy
        subst hy
        exact b1 z hz
      · obtain ⟨z, hz, rfl⟩ := List.mem_map.1 hy
        rcases List.mem_append.1 hx with hx | hx
        · exact hp.2.2 x hx _ (List.mem_map_of_mem hz)
        · simp only [List.map_cons, List.map_nil, List.mem_singleton] at hx
          subst hx
          exact b2 z hz
    · rw [hput] at hx
      simp only [List.mem_append, List.mem_singleton] at hx
      rcases hx with (hx | hx) | hx
      · exact h.one x (List.mem_of_mem_take hx)
      · subst hx; exact hnew
      · exact h.one x (List.mem_of_mem_drop hx)
    · have := idx_le ks a
      rw [hput]
      simp only [List.length_append, List.length_take, List.length_drop, List.length_singleton]
      omega
    · rw [setM_new (α := List Sight) _ ((S.has _).trans hh), hput, hk1]
      have e1 : ks.map pr = (ks.take (idxK ks a)).map pr ++ (ks.drop (idxK ks a)).map pr := by rw [← List.map_append, List.take_append_drop]
      rw [List.map_append, List.map_append, List.map_cons, List.map_nil]
      refine (List.Perm.append_right _ S.perm).trans ?_
      rw [e1, List.append_assoc, List.append_assoc]
      exact List.Perm.append_left _ List.perm_append_comm
  · obtain ⟨hi, hia⟩ := has_lt hh
    have hput : putNew ks a s = ks.set (idxK ks a) ⟨a, keepL (seenK ks a) s⟩ := by unfold putNew; rw [if_pos hh, hia, seen_mem hh]
    have hmap : (putNew ks a s).map (·.addr) = ks.map (·.addr) := by
      rw [hput, List.map_set]
      apply List.ext_getElem
      · simp
      · intro j h1 h2
        rw [List.getElem_set]
        split
        · rename_i he
          subst he
          rw [List.getElem_map, getK_get hi, hia]
        · rfl
    refine ⟨⟨by rw [hmap]; exact h.srt, fun x hx => ?_, by rw [hput, List.length_set]; exact h.len⟩, ?_⟩
    · rw [hput] at hx
      rcases List.mem_or_eq_of_mem_set hx with hx | hx
      · exact h.one x hx
      · subst hx; exact hnew
    · have hold : ks.Perm (⟨a, seenK ks a⟩ :: (ks.take (idxK ks a) ++ ks.drop (idxK ks a + 1))) := by
        have e : (⟨a, seenK ks a⟩ : Known) = ks[idxK ks a] := by
          rw [getK_get hi, seen_mem hh]
          generalize getK ks (idxK ks a) = y at hia
          rw [← hia]
        have h3 : ks = ks.take (idxK ks a) ++ ks[idxK ks a] :: ks.drop (idxK ks a + 1) := by rw [List.getElem_cons_drop, List.take_append_drop]
        rw [e]
        exact (List.Perm.of_eq h3).trans List.perm_middle
      have hnw : (putNew ks a s).Perm (⟨a, keepL (seenK ks a) s⟩ :: (ks.take (idxK ks a) ++ ks.drop (idxK ks a + 1))) := by
        rw [hput, List.set_eq_take_append_cons_drop, if_pos hi]
        exact List.perm_middle
      have hM := (S.has a).trans hh
      obtain ⟨v, hv⟩ := delM_perm hM
      have hvm : (a, v) ∈ m := hv.mem_iff.2 (List.mem_cons_self ..)
      obtain ⟨x, hx, he⟩ := List.mem_map.1 ((S.perm.mem_iff).1 hvm)
      have h1 : x.addr = a := congrArg Prod.fst he
      have h2 : x.seen = v := congrArg Prod.snd he
      have h4 : seenK ks a = v := by rw [← h1, (seen_of_mem hsort hx).2, h2]
      have h5 : List.Perm (α := Int × List Sight) ((a, v) :: delM m a) ((a, v) :: (ks.take (idxK ks a) ++ ks.drop (idxK ks a + 1)).map pr) := by
        refine hv.symm.trans (S.perm.trans ?_)
        have := hold.map pr
        rw [List.map_cons, h4] at this
        exact this
      have h6 := h5.cons_inv
      refine (setM_perm _ hM).trans ?_
      refine List.Perm.trans ?_ (hnw.map pr).symm
      rw [List.map_cons]
      exact List.Perm.cons _ h6
theorem putL_new {ks : List Known} {a : Int} {s : Sight} (h : putE ks a s = 0) : putL ks a s = putNew ks a s := by unfold putL; rw [h]; rfl
theorem putL_no {ks : List Known} {a : Int} {s : Sight} (h : putE ks a s ≠ 0) : putL ks a s = [] := by
  unfold putL
  rw [if_neg (fun hc => h (eq_of_beq hc))]
theorem sim_at (odd : List Int) (xs : List Act) : ∀ k, Sim (at3 odd xs k).ks (at3 odd xs k).m := by
  intro k
  induction k with
  | zero => exact ⟨⟨List.Pairwise.nil, fun x hx => (by cases hx), Nat.zero_le _⟩, .nil⟩
  | succ k ih =>
    rw [at3]
    generalize at3 odd xs k = r at *
    unfold step3
    simp only
    split
    · rename_i hc
      have hc := eq_of_beq hc
      rw [putL_new hc, ih.get]
      exact ih.put hc
    · exact ih
theorem now_at (odd : List Int) {xs : List Act} (hx : nOk xs) : ∀ k, k ≤ xs.length → k ≤ 1000 → 0 ≤ (at3 odd xs k).now ∧ (at3 odd xs k).now ≤ 8 * k := by
  intro k
  induction k with
  | zero => intro _ _; exact ⟨Int.le_refl _, Int.le_refl _⟩
  | succ k ih =>
    intro hk h2
    have ih := ih (by omega) (by omega)
    have hn := (getA_ok hx k).2.2
    rw [at3]
    show 0 ≤ nowStep _ _ ∧ nowStep _ _ ≤ _
    unfold nowStep
    rw [Int.tmod_eq_emod_of_nonneg hn, wrap_i64_id (n := (getA xs k).later % 8) (by omega), wrap_i64_id (by omega)]
    omega
end Go.Proofs.Ytcgeccpookgoeaa.Seen
