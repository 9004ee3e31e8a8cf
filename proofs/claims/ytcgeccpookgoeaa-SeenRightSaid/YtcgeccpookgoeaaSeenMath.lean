/- Sightings: the plain part: rows behind some deeds are right; what is kept of each address. -/
import Derived.Test.YtcgeccpookgoeaaSeenWalk
namespace Go.Proofs.Ytcgeccpookgoeaa.Seen
open Go Go.Proofs.Ytcgeccpookgoeaa.Sx

theorem getS_mem {xs : List Sight} {k : Nat} (hk : k < xs.length) : getS xs k ∈ xs := by
  unfold getS
  rw [List.getD_eq_getElem?_getD, List.getElem?_eq_getElem hk]
  exact List.getElem_mem _
theorem getS_get {xs : List Sight} {k : Nat} (hk : k < xs.length) : xs[k] = getS xs k := by
  unfold getS
  rw [List.getD_eq_getElem?_getD, List.getElem?_eq_getElem hk]
  rfl
/-! ### sightings of one -/
def okP (xs : List Sight) : Prop := (∀ s ∈ xs, (0 ≤ s.src ∧ s.src < 4) ∧ 0 ≤ s.time) ∧ xs.Pairwise (fun a b => a.time ≤ b.time)
theorem okS_of {xs : List Sight} (h : okP xs) : ∀ j, j ≤ xs.length → okS xs j = true := by
  intro j
  induction j with
  | zero => intro _; rfl
  | succ j ih =>
    intro hj
    obtain ⟨h1, h2⟩ := h
    have hm := h1 _ (getS_mem (xs := xs) (k := j) (by omega))
    have hb : badS xs j = false := by
      unfold badS
      rw [decide_eq_false (show ¬ (getS xs j).src < 0 by omega), decide_eq_false (show ¬ (getS xs j).src ≥ 4 by omega), decide_eq_false (show ¬ (getS xs j).time < 0 by omega)]
      by_cases h0 : (j : Int) > 0
      · have hp := (List.pairwise_iff_getElem.1 h2) (j - 1) j (by omega) (by omega) (by omega)
        rw [getS_get, getS_get] at hp
        rw [decide_eq_false (show ¬ (getS xs (j - 1)).time > (getS xs j).time by omega), Bool.and_false]
        rfl
      · rw [decide_eq_false h0]
        rfl
    rw [okS, ih (by omega), hb]
    rfl
theorem keep_len (xs : List Sight) (s : Sight) : (keepL xs s).length = min (xs.length + 1) 8 := by
  unfold keepL mx
  have hl : (xs ++ [s]).length = xs.length + 1 := by simp
  rw [List.length_drop, hl]
  split <;> omega
theorem keep_sub (xs : List Sight) (s : Sight) : (keepL xs s).Sublist (xs ++ [s]) := List.drop_sublist _ _
theorem keep_ok {xs : List Sight} {s : Sight} (h : okP xs) (hs : (0 ≤ s.src ∧ s.src < 4) ∧ 0 ≤ s.time) (hl : ∀ t ∈ xs, t.time ≤ s.time) : okP (keepL xs s) := by
  have hall : okP (xs ++ [s]) := by
    refine ⟨fun t ht => ?_, ?_⟩
    · rcases List.mem_append.1 ht with ht | ht
      · exact h.1 t ht
      · rw [List.mem_singleton] at ht; subst ht; exact hs
    · rw [List.pairwise_append]
      refine ⟨h.2, by simp, fun t ht z hz => ?_⟩
      rw [List.mem_singleton] at hz
      subst hz
      exact hl t ht
  exact ⟨fun t ht => hall.1 t ((keep_sub xs s).subset ht), hall.2.sublist (keep_sub xs s)⟩
theorem keep_last (xs : List Sight) (s : Sight) : getS (keepL xs s) ((keepL xs s).length - 1) = s := by
  have h8 := keep_len xs s
  have hpos : 0 < (keepL xs s).length := by omega
  have hl : (xs ++ [s]).length = xs.length + 1 := by simp
  rw [← getS_get (by omega)]
  have : (keepL xs s)[(keepL xs s).length - 1]'(by omega) = (xs ++ [s])[xs.length]'(by rw [hl]; omega) := by
    unfold keepL
    rw [List.getElem_drop]
    congr 1
    have h9 := h8
    unfold keepL at h9 hpos
    rw [List.length_drop, hl] at h9 hpos ⊢
    omega
  rw [this]
  simp
/-! ### rows -/
structure Good (now : Int) (ks : List Known) : Prop where
  srt : (ks.map (·.addr)).Pairwise (· < ·)
  rng : ∀ x ∈ ks, 167772160 ≤ x.addr ∧ x.addr < 167772224
  one : ∀ x ∈ ks, (1 ≤ x.seen.length ∧ x.seen.length ≤ 8) ∧ okP x.seen ∧ ∀ s ∈ x.seen, s.time ≤ now
theorem srt_sorted {ks : List Known} (h : (ks.map (·.addr)).Pairwise (· < ·)) : sortedK ks := by
  intro i j hij hj
  have := (List.pairwise_iff_getElem.1 h) i j (by rw [List.length_map]; omega) (by rw [List.length_map]; omega) hij
  rw [List.getElem_map, List.getElem_map, getK_get (by omega), getK_get hj] at this
  exact this
theorem range_len : ∀ (l : List Int) (lo hi : Int), l.Pairwise (· < ·) → (∀ x ∈ l, lo ≤ x ∧ x < hi) → lo ≤ hi → (l.length : Int) ≤ hi - lo
  | [], lo, hi, _, _, h => by simp; omega
  | x :: l, lo, hi, hp, hm, h => by
    rw [List.pairwise_cons] at hp
    have hx := hm x (List.mem_cons_self ..)
    have := range_len l (x + 1) hi hp.2 (fun y hy => ⟨by have := hp.1 y hy; omega, (hm y (List.mem_cons_of_mem _ hy)).2⟩) (by omega)
    rw [List.length_cons]
    omega
theorem Good.len {now : Int} {ks : List Known} (h : Good now ks) : ks.length ≤ 64 := by
  have := range_len (ks.map (·.addr)) 167772160 167772224 h.srt (fun x hx => by
    obtain ⟨y, hy, rfl⟩ := List.mem_map.1 hx
    exact h.rng y hy) (by decide)
  rw [List.length_map] at this
  omega
theorem Good.size {now : Int} {ks : List Known} (h : Good now ks) : sizeOk ks := ⟨by have := h.len; omega, fun x hx => by have := (h.one x hx).1; omega, srt_sorted h.srt⟩
theorem Good.slen {now : Int} {ks : List Known} (h : Good now ks) : seenLen ks := ⟨⟨by have := h.len; omega, srt_sorted h.srt⟩, fun x hx => by have := (h.one x hx).1; omega⟩
theorem Good.row {now : Int} {ks : List Known} (h : Good now ks) : rowOk ks := ⟨by have := h.len; omega, fun x hx => by have := (h.one x hx).1; omega⟩
theorem Good.right {now : Int} {ks : List Known} (h : Good now ks) : rightB ks = true := by
  have hs := srt_sorted h.srt
  have key : ∀ k, k ≤ ks.length → okTo ks k = true := by
    intro k
    induction k with
    | zero => intro _; rfl
    | succ k ih =>
      intro hk
      obtain ⟨h1, h2, _⟩ := h.one _ (getK_mem (ks := ks) (k := k) (by omega))
      have hb : badK ks k = false := by
        unfold badK
        rw [show (((getK ks k).seen.length : Int) == 0) = false by simpa using (show ¬ ((getK ks k).seen.length : Int) = 0 by omega), decide_eq_false (show ¬ ((getK ks k).seen.length : Int) > 8 by omega)]
        by_cases h0 : (k : Int) > 0
        · have := hs (k - 1) k (by omega) (by omega)
          rw [decide_eq_false (show ¬ (getK ks (k - 1)).addr ≥ (getK ks k).addr by omega), Bool.and_false]
          rfl
        · rw [decide_eq_false h0]
          rfl
      rw [okTo, ih (by omega), hb, okS_of h2 _ (Nat.le_refl _)]
      rfl
  unfold rightB
  rw [key ks.length (Nat.le_refl _), decide_eq_true (by have := h.len; omega)]
  rfl
theorem Good.sub {now : Int} {ks l : List Known} (h : Good now ks) (hl : l.Sublist ks) : Good now l := ⟨h.srt.sublist (hl.map _), fun x hx => h.rng x (hl.subset hx), fun x hx => h.one x (hl.subset hx)⟩
theorem Good.later {now now2 : Int} {ks : List Known} (h : Good now ks) (hn : now ≤ now2) : Good now2 ks := ⟨h.srt, h.rng, fun x hx => ⟨(h.one x hx).1, (h.one x hx).2.1, fun s hs => by have := (h.one x hx).2.2 s hs; omega⟩⟩
/-! ### what is known of one -/
theorem seen_at {ks : List Known} (h : sortedK ks) {i : Nat} (hi : i < ks.length) : idxK ks (getK ks i).addr = i ∧ hasK ks (getK ks i).addr = true := by
  have h1 : idxK ks (getK ks i).addr = i := idx_at (by omega) (fun m hm => by unfold geK; exact decide_eq_false (by have := h m i hm hi; omega)) (fun _ => by unfold geK; exact decide_eq_true (by omega))
  refine ⟨h1, ?_⟩
  unfold hasK
  rw [h1, decide_eq_true (by omega)]
  simp
theorem seen_of_mem {ks : List Known} (h : sortedK ks) {x : Known} (hx : x ∈ ks) : hasK ks x.addr = true ∧ seenK ks x.addr = x.seen := by
  obtain ⟨i, hi, rfl⟩ := List.getElem_of_mem hx
  rw [getK_get hi]
  obtain ⟨h1, h2⟩ := seen_at h hi
  exact ⟨h2, by rw [seen_mem h2, h1]⟩
theorem has_false {ks : List Known} {b : Int} (h : ∀ x ∈ ks, x.addr ≠ b) : hasK ks b = false := by
  cases hh : hasK ks b
  · rfl
  · obtain ⟨h1, h2⟩ := has_lt hh
    exact absurd h2 (h _ (getK_mem h1))
theorem seen_of_not {ks : List Known} {b : Int} (h : ∀ x ∈ ks, x.addr ≠ b) : seenK ks b = [] := seen_none (has_false h)
theorem mem_of_has {ks : List Known} {b : Int} (h : hasK ks b = true) : ∃ x ∈ ks, x.addr = b ∧ seenK ks b = x.seen := ⟨_, getK_mem (has_lt h).1, (has_lt h).2, seen_mem h⟩
theorem idx_before {ks : List Known} {a : Int} : (∀ x ∈ ks.take (idxK ks a), x.addr < a) ∧ (sortedK ks → hasK ks a = false → ∀ x ∈ ks.drop (idxK ks a), a < x.addr) := by
  have hle := idx_le ks a
  refine ⟨fun x hx => ?_, fun hs hn x hx => ?_⟩
  · obtain ⟨j, hj, rfl⟩ := List.getElem_of_mem hx
    rw [List.length_take] at hj
    rw [List.getElem_take]
    have := List.not_of_lt_findIdx (p := geK a) (xs := ks) (i := j) (by unfold idxK at hj; omega)
    simpa [geK] using this
  · obtain ⟨j, hj, rfl⟩ := List.getElem_of_mem hx
    rw [List.length_drop] at hj
    rw [List.getElem_drop, getK_get (by omega)]
    have hi : idxK ks a < ks.length := by omega
    have hge : geK a (getK ks (idxK ks a)) = true := by
      rw [← getK_get hi]
      exact List.findIdx_getElem
    have h1 : (getK ks (idxK ks a)).addr ≥ a := of_decide_eq_true hge
    have h2 : (getK ks (idxK ks a)).addr ≠ a := by
      intro he
      unfold hasK at hn
      rw [decide_eq_true (by omega), he] at hn
      simp at hn
    have h3 : (getK ks (idxK ks a)).addr ≤ (getK ks (idxK ks a + j)).addr := by
      by_cases e : j = 0
      · subst e; exact Int.le_refl _
      · exact Int.le_of_lt (hs _ _ (by omega) (by omega))
    omega
theorem put_good {now : Int} {ks : List Known} {a : Int} {s : Sight} (h : Good now ks) (hn : 0 ≤ now) (hs : 0 ≤ s.src ∧ s.src < 4) (ht : now ≤ s.time) (ha : 167772160 ≤ a ∧ a < 167772224) :
    putE ks a s = 0 ∧ Good s.time (putNew ks a s) ∧ ∀ b, seenK (putNew ks a s) b = if b = a then keepL (seenK ks a) s else seenK ks b := by
  have hsort := srt_sorted h.srt
  have hlast : lastT ks a ≤ now := by
    unfold lastT
    split
    · rename_i hd
      have hd := of_decide_eq_true hd
      have hm : getS (seenK ks a) ((seenK ks a).length - 1) ∈ seenK ks a := getS_mem (by omega)
      cases hh : hasK ks a
      · rw [seen_none hh] at hd; exact absurd hd (by simp)
      · obtain ⟨x, hx, _, hxs⟩ := mem_of_has hh
        rw [hxs] at hm ⊢
        exact (h.one x hx).2.2 _ hm
    · exact hn
  have hlen := h.len
  have he : putE ks a s = 0 := by
    unfold putE srcBad
    rw [decide_eq_false (show ¬ s.src < 0 by omega), decide_eq_false (show ¬ s.src ≥ 4 by omega), if_neg (by decide), decide_eq_false (show ¬ s.time < mx 0 (lastT ks a) by unfold mx; split <;> omega), if_neg (by decide), decide_eq_false (show ¬ (ks.length : Int) ≥ 96 by omega), Bool.and_false, if_neg (by decide)]
  have hnew : (1 ≤ (keepL (seenK ks a) s).length ∧ (keepL (seenK ks a) s).length ≤ 8) ∧ okP (keepL (seenK ks a) s) ∧ ∀ t ∈ keepL (seenK ks a) s, t.time ≤ s.time := by
    have h8 := keep_len (seenK ks a) s
    have hold : okP (seenK ks a) ∧ ∀ t ∈ seenK ks a, t.time ≤ s.time := by
      cases hh : hasK ks a
      · rw [seen_none hh]
        exact ⟨⟨fun t ht => (by cases ht), List.Pairwise.nil⟩, fun t ht => (by cases ht)⟩
      · obtain ⟨x, hx, _, hxs⟩ := mem_of_has hh
        rw [hxs]
        exact ⟨(h.one x hx).2.1, fun t ht2 => by have := (h.one x hx).2.2 t ht2; omega⟩
    refine ⟨by omega, keep_ok hold.1 ⟨hs, by omega⟩ hold.2, fun t ht2 => ?_⟩
    rcases List.mem_append.1 ((keep_sub _ s).subset ht2) with h1 | h1
    · exact hold.2 t h1
    · rw [List.mem_singleton] at h1; subst h1; exact Int.le_refl _
  have h' := h.later ht
  refine ⟨he, ?_⟩
  cases hh : hasK ks a
  · have hput : putNew ks a s = ks.take (idxK ks a) ++ [⟨a, [s]⟩] ++ ks.drop (idxK ks a) := by unfold putNew; rw [if_neg (by rw [hh]; simp)]
    have hk1 : keepL (seenK ks a) s = [s] := by
      rw [seen_none hh]
      rfl
    rw [hk1] at hnew
    obtain ⟨b1, b2⟩ := idx_before (ks := ks) (a := a)
    have b2 := b2 hsort hh
    have hmem : ∀ x, x ∈ putNew ks a s ↔ x ∈ ks ∨ x = ⟨a, [s]⟩ := by
      intro x
      rw [hput]
      simp only [List.mem_append, List.mem_singleton]
      have hx : x ∈ ks ↔ x ∈ ks.take (idxK ks a) ∨ x ∈ ks.drop (idxK ks a) := by rw [← List.mem_append, List.take_append_drop]
      rw [hx]
      constructor
      · rintro ((h | h) | h)
        · exact .inl (.inl h)
        · exact .inr h
        · exact .inl (.inr h)
      · rintro ((h | h) | h)
        · exact .inl (.inl h)
        · exact .inr h
        · exact .inl (.inr h)
    have hg : Good s.time (putNew ks a s) := by
      refine ⟨?_, fun x hx => ?_, fun x hx => ?_⟩
      · rw [hput, List.map_append, List.map_append, List.pairwise_append, List.pairwise_append]
        have hp := h.srt
        rw [← List.take_append_drop (idxK ks a) ks, List.map_append, List.pairwise_append] at hp
        refine ⟨⟨hp.1, by simp, fun x hx y hy => ?_⟩, hp.2.1, fun x hx y hy => ?_⟩
        · obtain ⟨z, hz, rfl⟩ := List.mem_map.1 hx
          simp only [List.map_cons, List.map_nil, List.mem_singleton] at hy
          subst hy
          exact b1 z hz
        · obtain ⟨z, hz, rfl⟩ := List.mem_map.1 hy
          rcases List.mem_append.1 hx with hx | hx
          · exact hp.2.2 x hx _ (List.mem_map_of_mem hz)
          · simp only [List.map_cons, List.map_nil, List.mem_singleton] at hx
            subst hx
            exact b2 z hz
      · rcases (hmem x).1 hx with hx | hx
        · exact h.rng x hx
        · subst hx; exact ha
      · rcases (hmem x).1 hx with hx | hx
        · exact h'.one x hx
        · subst hx; exact hnew
    refine ⟨hg, fun b => ?_⟩
    have hgs := srt_sorted hg.srt
    by_cases hb : b = a
    · subst hb
      rw [if_pos rfl, hk1]
      exact (seen_of_mem hgs (x := ⟨b, [s]⟩) ((hmem _).2 (.inr rfl))).2
    · rw [if_neg hb]
      cases hhb : hasK ks b
      · rw [seen_none hhb]
        refine seen_of_not fun x hx hxb => ?_
        rcases (hmem x).1 hx with hx | hx
        · have := (seen_of_mem hsort hx).1
          rw [hxb, hhb] at this
          cases this
        · subst hx; exact hb hxb.symm
      · obtain ⟨x, hx, hxa, hxs⟩ := mem_of_has hhb
        rw [hxs, ← hxa]
        exact (seen_of_mem hgs ((hmem x).2 (.inl hx))).2
  · obtain ⟨hi, hia⟩ := has_lt hh
    have hput : putNew ks a s = ks.set (idxK ks a) ⟨a, keepL (seenK ks a) s⟩ := by unfold putNew; rw [if_pos hh, hia, seen_mem hh]
    have hmap : (putNew ks a s).map (·.addr) = ks.map (·.addr) := by
      rw [hput, List.map_set]
      apply List.ext_getElem
      · simp
      · intro j h1 h2
        rw [List.getElem_set]
        split
        · rename_i he
          subst he
          rw [List.getElem_map, getK_get hi, hia]
        · rfl
    have hmem1 : ∀ x ∈ putNew ks a s, x ∈ ks ∨ x = ⟨a, keepL (seenK ks a) s⟩ := by
      intro x hx
      rw [hput] at hx
      exact List.mem_or_eq_of_mem_set hx
    have hmem2 : (⟨a, keepL (seenK ks a) s⟩ : Known) ∈ putNew ks a s := by
      rw [hput]
      exact List.mem_set hi _
    have hg : Good s.time (putNew ks a s) := by
      refine ⟨by rw [hmap]; exact h.srt, fun x hx => ?_, fun x hx => ?_⟩
      · rcases hmem1 x hx with hx | hx
        · exact h.rng x hx
        · subst hx; exact ha
      · rcases hmem1 x hx with hx | hx
        · exact h'.one x hx
        · subst hx; exact hnew
    refine ⟨hg, fun b => ?_⟩
    have hgs := srt_sorted hg.srt
    by_cases hb : b = a
    · subst hb
      rw [if_pos rfl]
      exact (seen_of_mem hgs hmem2).2
    · rw [if_neg hb]
      cases hhb : hasK ks b
      · rw [seen_none hhb]
        refine seen_of_not fun x hx hxb => ?_
        rcases hmem1 x hx with hx | hx
        · have := (seen_of_mem hsort hx).1
          rw [hxb, hhb] at this
          cases this
        · subst hx; exact hb hxb.symm
      · obtain ⟨x, hx, hxa, hxs⟩ := mem_of_has hhb
        rw [hxs, ← hxa]
        refine (seen_of_mem hgs (x := x) ?_).2
        obtain ⟨j, hj, rfl⟩ := List.getElem_of_mem hx
        have hne : idxK ks a ≠ j := by
          rintro rfl
          rw [getK_get hj, hia] at hxa
          exact hb hxa.symm
        rw [hput]
        have : (ks.set (idxK ks a) ⟨a, keepL (seenK ks a) s⟩)[j]'(by rw [List.length_set]; exact hj) = ks[j] := by rw [List.getElem_set, if_neg hne]
        rw [← this]
        exact List.getElem_mem _
/-! ### some deeds -/
theorem getA_ok {xs : List Act} (h : nOk xs) (k : Nat) : actOk (getA xs k) := by
  unfold getA
  rw [List.getD_eq_getElem?_getD]
  cases he : xs[k]? with
  | none => exact ⟨Int.le_refl _, Int.le_refl _, Int.le_refl _⟩
  | some x => exact h x (List.mem_of_getElem? he)
theorem near_rng {n : Int} (h : 0 ≤ n) : 167772160 ≤ nearA n ∧ nearA n < 167772224 := by
  unfold nearA
  rw [Int.tmod_eq_emod_of_nonneg h]
  simp [IntKind.wrap, IntKind.bits, IntKind.signed]
  omega
theorem sight_rng {a : Act} {n : Int} (h : actOk a) : 0 ≤ (sightA a n).src ∧ (sightA a n).src < 4 := by
  show 0 ≤ IntKind.i64.wrap (a.src.tmod 4) ∧ IntKind.i64.wrap (a.src.tmod 4) < 4
  rw [Int.tmod_eq_emod_of_nonneg h.2.1, wrap_i64_id (by omega)]
  omega
def cameN (b : Int) (xs : List Act) : Nat → Nat
  | 0 => 0
  | k + 1 => cameN b xs k + (if (nearA (getA xs k).addr == b) = true then 1 else 0)
theorem some_1 {r : List Known × Int} {a : Act} (h : putE r.1 (nearA a.addr) (sightA a (nowStep r.2 a)) = 0) : someStep r a = (putNew r.1 (nearA a.addr) (sightA a (nowStep r.2 a)), nowStep r.2 a) := by
  unfold someStep putL
  rw [h]
  rfl
theorem some_good {xs : List Act} (hx : nOk xs) : ∀ k, k ≤ 1000 → Good (someAt xs k).2 (someAt xs k).1 ∧ (0 ≤ (someAt xs k).2 ∧ (someAt xs k).2 ≤ 8 * k) ∧ ∀ b, (seenK (someAt xs k).1 b).length = min (cameN b xs k) 8 := by
  intro k
  induction k with
  | zero => intro _; exact ⟨⟨List.Pairwise.nil, fun x hx => (by cases hx), fun x hx => (by cases hx)⟩, ⟨Int.le_refl _, Int.le_refl _⟩, fun b => rfl⟩
  | succ k ih =>
    intro hk
    obtain ⟨h1, h2, h3⟩ := ih (by omega)
    have hn := getA_ok hx k
    rw [someAt]
    have hc : ∀ b, cameN b xs (k + 1) = cameN b xs k + (if (nearA (getA xs k).addr == b) = true then 1 else 0) := fun b => rfl
    generalize someAt xs k = r at *
    generalize getA xs k = a at *
    have hstep : r.2 ≤ nowStep r.2 a ∧ nowStep r.2 a ≤ r.2 + 7 := by
      have := hn.2.2
      unfold nowStep
      rw [Int.tmod_eq_emod_of_nonneg this, wrap_i64_id (n := a.later % 8) (by omega), wrap_i64_id (by omega)]
      omega
    obtain ⟨p1, p2, p3⟩ := put_good (a := nearA a.addr) (s := sightA a (nowStep r.2 a)) h1 h2.1 (sight_rng hn) hstep.1 (near_rng hn.1)
    rw [some_1 p1]
    refine ⟨p2, ⟨by simp only; omega, by simp only; omega⟩, fun b => ?_⟩
    simp only
    rw [p3 b, hc b]
    by_cases hb : b = nearA a.addr
    · rw [if_pos hb, keep_len, if_pos (beq_iff_eq.2 hb.symm), ← hb, h3 b]
      omega
    · rw [if_neg hb, if_neg (fun h => hb (eq_of_beq h).symm), h3 b]
      omega
theorem nOk_head {xs : List Act} (h : nOk xs) (n : Int) : nOk (headS xs n) := fun x hx => h x (List.mem_of_mem_take (List.mem_of_mem_drop hx))
theorem headS_le (xs : List Act) (n : Int) (hn : 0 ≤ n) : ((headS xs n).length : Int) ≤ n := by
  unfold headS
  rw [List.length_drop, List.length_take]
  have : mn (xs.length : Int) n ≤ n ∧ 0 ≤ mn (xs.length : Int) n := by unfold mn; split <;> omega
  omega
theorem someL_good {xs : List Act} (hx : nOk xs) : Good (someL xs).2 (someL xs).1 ∧ (0 ≤ (someL xs).2 ∧ (someL xs).2 ≤ 960) ∧ ∀ b, (seenK (someL xs).1 b).length = min (cameN b (headS xs 120) (headS xs 120).length) 8 := by
  have hh := headS_le xs 120 (by decide)
  obtain ⟨h1, h2, h3⟩ := some_good (nOk_head hx 120) (headS xs 120).length (by omega)
  exact ⟨h1, ⟨h2.1, by have := h2.2; show (someAt (headS xs 120) (headS xs 120).length).2 ≤ 960; omega⟩, h3⟩
theorem same8_refl (s : Sight) : same8 s s = true := by simp [same8]
theorem same_refl (xs : List Sight) : sameL xs xs = true := by
  have key : ∀ k, sameTo xs xs k = true := by
    intro k
    induction k with
    | zero => rfl
    | succ k ih => rw [sameTo, ih, same8_refl]; rfl
  unfold sameL
  rw [key]
  simp
end Go.Proofs.Ytcgeccpookgoeaa.Seen
