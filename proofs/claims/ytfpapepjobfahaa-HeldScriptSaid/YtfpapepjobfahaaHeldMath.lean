/- Holders: the plain part: rows behind some deeds are right; what is put is found, what is taken is gone. -/
import Derived.Test.YtfpapepjobfahaaHeldBits
namespace Go.Proofs.Ytfpapepjobfahaa.Held
open Go Go.Proofs.Ytfpapepjobfahaa.Sx

/-! ### owners -/
theorem owner_may {b : Int} (h : 0 ≤ b) : mayB (ownerA b) = true ∧ (ownerA b).size ≤ 8 := by
  have hb : 0 ≤ b.tmod 8 ∧ b.tmod 8 < 8 := by rw [Int.tmod_eq_emod_of_nonneg h]; omega
  have hw : IntKind.u8.wrap (b.tmod 8 + 1) = b.tmod 8 + 1 := by simp [IntKind.wrap, IntKind.bits, IntKind.signed]; omega
  have hsz : ∀ i : Fin 8, mayB ((⟨#[111]⟩ : ByteArray) ++ letters.extract i.val (i.val + 1)) = true ∧ ((⟨#[111]⟩ : ByteArray) ++ letters.extract i.val (i.val + 1)).size ≤ 8 := by decide +kernel
  have h1 := hsz ⟨(b.tmod 8).toNat, by omega⟩
  unfold ownerA
  rw [hw, show (b.tmod 8 + 1).toNat = (b.tmod 8).toNat + 1 by omega]
  exact h1
theorem may_size {s : ByteArray} (h : mayB s = true) : s.size ≤ 8 := by
  unfold mayB at h
  rw [Bool.and_eq_true, Bool.and_eq_true] at h
  have := of_decide_eq_true h.2.2
  omega
theorem ok_bad (c : Int) : okC c = !badC c := by
  unfold okC badC
  by_cases h1 : c < 97 <;> by_cases h2 : c > 122 <;> by_cases h3 : c < 48 <;> by_cases h4 : c > 57 <;> simp [h1, h2, h3, h4] <;> omega
theorem may_to (s : ByteArray) : ∀ k, mayTo s k = mayToL s k := by
  intro k
  induction k with
  | zero => rfl
  | succ k ih => rw [mayTo, mayToL, ih, ok_bad]
theorem loop_len (bs : ByteArray) : ∀ i r, (ByteArray.toList.loop bs i r).length = (bs.size - i) + r.length := by
  intro i r
  induction i, r using ByteArray.toList.loop.induct bs with
  | case1 i r h ih => rw [ByteArray.toList.loop, if_pos h, ih, List.length_cons]; omega
  | case2 i r h => rw [ByteArray.toList.loop, if_neg h, List.length_reverse]; omega
theorem toList_nil (s : ByteArray) : (s.toList == (⟨#[]⟩ : ByteArray).toList) = decide (s.size = 0) := by
  by_cases h : s.size = 0
  · have : s = ⟨#[]⟩ := by
      cases s with
      | mk a =>
        have : a = #[] := Array.eq_empty_of_size_eq_zero h
        rw [this]
    subst this
    rw [decide_eq_true h, beq_self_eq_true]
  · rw [decide_eq_false h]
    refine beq_eq_false_iff_ne.2 fun he => h ?_
    have := congrArg List.length he
    unfold ByteArray.toList at this
    rw [loop_len, loop_len] at this
    have h0 : (⟨#[]⟩ : ByteArray).size = 0 := rfl
    simp only [List.length_nil] at this
    omega
theorem may_eq (s : ByteArray) : mayB s = mayL s := by
  unfold mayB mayL
  rw [may_to, toList_nil]
  congr 1
  by_cases h : s.size = 0
  · simp [h]
  · by_cases h2 : s.size ≤ 8
    · rw [decide_eq_false h, decide_eq_true (show (s.size : Int) ≤ 8 by omega), decide_eq_true (show (s.size : Int) > 0 by omega), decide_eq_true (show (s.size : Int) < 9 by omega)]
      rfl
    · rw [decide_eq_false (show ¬ (s.size : Int) ≤ 8 by omega), decide_eq_false (show ¬ (s.size : Int) < 9 by omega), Bool.and_false, Bool.and_false]
/-! ### rows -/
structure Good (hs : List Holder) : Prop where
  srt : (hs.map (·.addr)).Pairwise (· < ·)
  may : ∀ x ∈ hs, mayB x.owner = true
  len : hs.length ≤ 48
theorem srt_sorted {hs : List Holder} (h : (hs.map (·.addr)).Pairwise (· < ·)) : sortedH hs := by
  intro i j hij hj
  have := (List.pairwise_iff_getElem.1 h) i j (by rw [List.length_map]; omega) (by rw [List.length_map]; omega) hij
  rw [List.getElem_map, List.getElem_map, getH_get (by omega), getH_get hj] at this
  exact this
theorem Good.find {hs : List Holder} (h : Good hs) : findOk hs := ⟨by have := h.len; omega, srt_sorted h.srt⟩
theorem Good.row {hs : List Holder} (h : Good hs) : rowOk hs := ⟨by have := h.len; omega, fun x hx => by have := may_size (h.may x hx); omega⟩
theorem Good.lenOk {hs : List Holder} (h : Good hs) : hs.length < 9223372036854775808 := by have := h.len; omega
theorem Good.right {hs : List Holder} (h : Good hs) : rightB hs = true := by
  have hs1 := srt_sorted h.srt
  have key : ∀ k, k ≤ hs.length → okTo hs k = true := by
    intro k
    induction k with
    | zero => intro _; rfl
    | succ k ih =>
      intro hk
      have hb : badH hs k = false := by
        unfold badH
        rw [h.may _ (getH_mem (by omega))]
        by_cases h0 : (k : Int) > 0
        · have := hs1 (k - 1) k (by omega) (by omega)
          rw [decide_eq_false (show ¬ (getH hs (k - 1)).addr ≥ (getH hs k).addr by omega), Bool.and_false]
          rfl
        · rw [decide_eq_false h0]
          rfl
      rw [okTo, ih (by omega), hb]
      rfl
  unfold rightB
  rw [key hs.length (Nat.le_refl _), decide_eq_true (by have := h.len; omega)]
  rfl
/-! ### what is found -/
theorem found_at {hs : List Holder} (h : sortedH hs) {i : Nat} (hi : i < hs.length) : idxH hs (getH hs i).addr = i ∧ hasH hs (getH hs i).addr = true := by
  have h1 : idxH hs (getH hs i).addr = i := idx_at (by omega) (fun m hm => by unfold geH; exact decide_eq_false (by have := h m i hm hi; omega)) (fun _ => by unfold geH; exact decide_eq_true (by omega))
  refine ⟨h1, ?_⟩
  unfold hasH
  rw [h1, decide_eq_true (by omega)]
  simp
theorem get_of_mem {hs : List Holder} (h : sortedH hs) {x : Holder} (hx : x ∈ hs) : hasH hs x.addr = true ∧ getL hs x.addr = x := by
  obtain ⟨i, hi, rfl⟩ := List.getElem_of_mem hx
  rw [getH_get hi]
  obtain ⟨h1, h2⟩ := found_at h hi
  exact ⟨h2, by unfold getL; rw [if_pos h2, h1]⟩
theorem idx_before {hs : List Holder} {a : Int} : (∀ x ∈ hs.take (idxH hs a), x.addr < a) ∧ (sortedH hs → hasH hs a = false → ∀ x ∈ hs.drop (idxH hs a), a < x.addr) := by
  have hle := idx_le hs a
  refine ⟨fun x hx => ?_, fun hs1 hn x hx => ?_⟩
  · obtain ⟨j, hj, rfl⟩ := List.getElem_of_mem hx
    rw [List.length_take] at hj
    rw [List.getElem_take]
    have := List.not_of_lt_findIdx (p := geH a) (xs := hs) (i := j) (by unfold idxH at hj; omega)
    simpa [geH] using this
  · obtain ⟨j, hj, rfl⟩ := List.getElem_of_mem hx
    rw [List.length_drop] at hj
    rw [List.getElem_drop, getH_get (by omega)]
    have hi : idxH hs a < hs.length := by omega
    have hge : geH a (getH hs (idxH hs a)) = true := by
      rw [← getH_get hi]
      exact List.findIdx_getElem
    have h1 : (getH hs (idxH hs a)).addr ≥ a := of_decide_eq_true hge
    have h2 : (getH hs (idxH hs a)).addr ≠ a := by
      intro he
      unfold hasH at hn
      rw [decide_eq_true (by omega), he] at hn
      simp at hn
    have h3 : (getH hs (idxH hs a)).addr ≤ (getH hs (idxH hs a + j)).addr := by
      by_cases e : j = 0
      · subst e; exact Int.le_refl _
      · exact Int.le_of_lt (hs1 _ _ (by omega) (by omega))
    omega
theorem ge_iff {hs : List Holder} (h : sortedH hs) {a : Int} {k : Nat} (hk : k < hs.length) : a ≤ (getH hs k).addr ↔ idxH hs a ≤ k := by
  constructor
  · intro h1
    rcases Nat.lt_or_ge k (idxH hs a) with h2 | h2
    · have := List.not_of_lt_findIdx (p := geH a) (xs := hs) (i := k) h2
      rw [getH_get hk] at this
      simp [geH] at this
      omega
    · exact h2
  · intro h1
    have hi : idxH hs a < hs.length := by omega
    have hge : geH a (getH hs (idxH hs a)) = true := by
      rw [← getH_get hi]
      exact List.findIdx_getElem
    have := (sort_le h h1 hk).1 hge
    exact of_decide_eq_true this
theorem idx_next {hs : List Holder} (h : sortedH hs) (a : Int) : idxH hs (a + 1) = idxH hs a + (if hasH hs a = true then 1 else 0) := by
  have hle := idx_le hs a
  split
  · rename_i hh
    obtain ⟨h1, h2⟩ := has_lt hh
    refine idx_at (by omega) (fun m hm => ?_) (fun hm => ?_)
    · unfold geH
      refine decide_eq_false ?_
      by_cases e : m = idxH hs a
      · subst e; omega
      · have := h m (idxH hs a) (by omega) h1
        omega
    · unfold geH
      have := h (idxH hs a) (idxH hs a + 1) (by omega) hm
      exact decide_eq_true (by omega)
  · rename_i hh
    rw [Nat.add_zero]
    refine idx_at (by omega) (fun m hm => ?_) (fun hm => ?_)
    · unfold geH
      have := (ge_iff h (a := a) (k := m) (by omega)).1
      exact decide_eq_false (by intro hc; have := this (by omega); omega)
    · unfold geH
      have h1 := (ge_iff h (a := a) hm).2 (Nat.le_refl _)
      have h2 : (getH hs (idxH hs a)).addr ≠ a := by
        intro he
        apply hh
        unfold hasH
        rw [decide_eq_true (by omega), he]
        simp
      exact decide_eq_true (show (getH hs (idxH hs a)).addr ≥ a + 1 by omega)
theorem idx_mono {hs : List Holder} (h : sortedH hs) {a b : Int} (hab : a ≤ b) : idxH hs a ≤ idxH hs b := by
  rcases Nat.lt_or_ge (idxH hs b) (idxH hs a) with h1 | h1
  · have hl := idx_le hs a
    have h2 := (ge_iff h (a := b) (k := idxH hs b) (by omega)).2 (Nat.le_refl _)
    have h3 := (ge_iff h (a := a) (k := idxH hs b) (by omega)).1 (by omega)
    omega
  · exact h1
/-! ### how many of a prefix are held -/
def rngH (hs : List Holder) : Prop := ∀ x ∈ hs, 0 ≤ x.addr ∧ x.addr < 4294967296
theorem used_idx {hs : List Holder} (h : sortedH hs) (hr : rngH hs) {base : Int} {n : Nat} (hn : n ≤ 32) (hb : 0 ≤ base ∧ base < 4294967296) (hR : rightA base n = true) :
    usedL base n hs = (idxH hs (base + 2 ^ (32 - n)) : Int) - idxH hs base := by
  have hp := pw_pos (32 - n)
  have hm := idx_mono h (show base ≤ base + 2 ^ (32 - n) by omega)
  have hl := idx_le hs (base + 2 ^ (32 - n))
  have key : ∀ k, k ≤ hs.length → usedAt base n hs k = min k (idxH hs (base + 2 ^ (32 - n))) - min k (idxH hs base) := by
    intro k
    induction k with
    | zero => intro _; rw [usedAt]; omega
    | succ k ih =>
      intro hk
      rw [usedAt, ih (by omega)]
      have h1 := has_iff hn hb (hr _ (getH_mem (hs := hs) (k := k) (by omega))) hR
      have h2 := ge_iff h (a := base) (k := k) (by omega)
      have h3 := ge_iff h (a := base + 2 ^ (32 - n)) (k := k) (by omega)
      by_cases hh : hasA base n (getH hs k).addr = true
      · rw [if_pos hh]
        have := h1.1 hh
        have h4 := h2.1 this.1
        have h5 : ¬ idxH hs (base + 2 ^ (32 - n)) ≤ k := fun hc => by have := h3.2 hc; omega
        omega
      · rw [if_neg hh]
        by_cases h4 : base ≤ (getH hs k).addr
        · have h5 : base + 2 ^ (32 - n) ≤ (getH hs k).addr := by
            rcases Int.lt_or_le (getH hs k).addr (base + 2 ^ (32 - n)) with h6 | h6
            · exact absurd (h1.2 ⟨h4, h6⟩) hh
            · exact h6
          have h6 := h2.1 h4
          have h7 := h3.1 h5
          omega
        · have h5 : ¬ idxH hs base ≤ k := fun hc => h4 (h2.2 hc)
          have h6 : ¬ idxH hs (base + 2 ^ (32 - n)) ≤ k := fun hc => by have := h3.2 hc; omega
          omega
  unfold usedL
  rw [key _ (Nat.le_refl _)]
  omega
/-! ### putting and taking -/
theorem put_may {hs : List Holder} {x : Holder} (h : putE hs x = 0) : mayB x.owner = true ∧ hasH hs x.addr = false ∧ hs.length < 48 := by
  unfold putE at h
  split at h
  · cases h
  · rename_i h1
    split at h
    · cases h
    · rename_i h2
      split at h
      · cases h
      · rename_i h3
        refine ⟨by simpa using h1, by simpa using h2, ?_⟩
        have : ¬ ((hs.length : Int) ≥ 48) := fun hc => h3 (decide_eq_true hc)
        omega
theorem putL_new {hs : List Holder} {x : Holder} (h : putE hs x = 0) : putL hs x = putNew hs x := by
  unfold putL
  rw [h]
  rfl
theorem put_good {hs : List Holder} {x : Holder} (h : Good hs) (h0 : putE hs x = 0) : Good (putNew hs x) ∧ ∀ y, y ∈ putNew hs x ↔ y ∈ hs ∨ y = x := by
  obtain ⟨h1, h2, h3⟩ := put_may h0
  have hsort := srt_sorted h.srt
  obtain ⟨b1, b2⟩ := idx_before (hs := hs) (a := x.addr)
  have b2 := b2 hsort h2
  have hmem : ∀ y, y ∈ putNew hs x ↔ y ∈ hs ∨ y = x := by
    intro y
    unfold putNew
    simp only [List.mem_append, List.mem_singleton]
    have hx : y ∈ hs ↔ y ∈ hs.take (idxH hs x.addr) ∨ y ∈ hs.drop (idxH hs x.addr) := by rw [← List.mem_append, List.take_append_drop]
    rw [hx]
    constructor
    · rintro ((h | h) | h)
      · exact .inl (.inl h)
      · exact .inr h
      · exact .inl (.inr h)
    · rintro ((h | h) | h)
      · exact .inl (.inl h)
      · exact .inr h
      · exact .inl (.inr h)
  refine ⟨⟨?_, fun y hy => ?_, ?_⟩, hmem⟩
  · unfold putNew
    rw [List.map_append, List.map_append, List.pairwise_append, List.pairwise_append]
    have hp := h.srt
    rw [← List.take_append_drop (idxH hs x.addr) hs, List.map_append, List.pairwise_append] at hp
    refine ⟨⟨hp.1, by simp, fun y hy z hz => ?_⟩, hp.2.1, fun y hy z hz => ?_⟩
    · obtain ⟨w, hw, rfl⟩ := List.mem_map.1 hy
      simp only [List.map_cons, List.map_nil, List.mem_singleton] at hz
      subst hz
      exact b1 w hw
    · obtain ⟨w, hw, rfl⟩ := List.mem_map.1 hz
      rcases List.mem_append.1 hy with hy | hy
      · exact hp.2.2 y hy _ (List.mem_map_of_mem hw)
      · simp only [List.map_cons, List.map_nil, List.mem_singleton] at hy
        subst hy
        exact b2 w hw
  · rcases (hmem y).1 hy with hy | hy
    · exact h.may y hy
    · subst hy; exact h1
  · unfold putNew
    have := idx_le hs x.addr
    simp only [List.length_append, List.length_take, List.length_drop, List.length_singleton]
    omega
theorem put_take {hs : List Holder} {x : Holder} (h : Good hs) (h0 : putE hs x = 0) : takeL (putNew hs x) x.addr = hs ∧ takeE (putNew hs x) x.addr = 0 ∧ (putNew hs x).length = hs.length + 1 := by
  obtain ⟨hg, hm⟩ := put_good h h0
  have hi := idx_le hs x.addr
  have hlt : (hs.take (idxH hs x.addr)).length = idxH hs x.addr := List.length_take_of_le hi
  have hlen : (putNew hs x).length = hs.length + 1 := by
    unfold putNew
    simp only [List.length_append, List.length_take, List.length_drop, List.length_singleton]
    omega
  have hat : getH (putNew hs x) (idxH hs x.addr) = x := by
    unfold getH putNew
    rw [List.getD_eq_getElem?_getD, List.append_assoc, List.getElem?_append_right (by omega), hlt, Nat.sub_self]
    rfl
  obtain ⟨f1, f2⟩ := found_at (srt_sorted hg.srt) (i := idxH hs x.addr) (by omega)
  rw [hat] at f1 f2
  refine ⟨?_, by unfold takeE; rw [if_neg (by rw [f2]; simp)], hlen⟩
  unfold takeL
  rw [if_pos f2, f1]
  have e1 : (putNew hs x).take (idxH hs x.addr) = hs.take (idxH hs x.addr) := by
    unfold putNew
    rw [List.append_assoc]
    exact List.take_left' hlt
  have e2 : (putNew hs x).drop (idxH hs x.addr + 1) = hs.drop (idxH hs x.addr) := by
    unfold putNew
    exact List.drop_left' (by rw [List.length_append, hlt]; rfl)
  rw [e1, e2, List.take_append_drop]
/-! ### rows behind some deeds -/
theorem nOk_head {xs : List Act} (h : nOk xs) (n : Int) : nOk (headS xs n) := fun x hx => h x (List.mem_of_mem_take (List.mem_of_mem_drop hx))
theorem getA_mem {xs : List Act} {k : Nat} (hk : k < xs.length) : getA xs k ∈ xs := by
  unfold getA
  rw [List.getD_eq_getElem?_getD, List.getElem?_eq_getElem hk]
  exact List.getElem_mem _
theorem some_good {xs : List Act} (hx : nOk xs) : ∀ k, k ≤ xs.length → Good (someAt xs k) ∧ rngH (someAt xs k) := by
  intro k
  induction k with
  | zero => intro _; exact ⟨⟨List.Pairwise.nil, fun x hx => (by cases hx), Nat.zero_le _⟩, fun x hx => (by cases hx)⟩
  | succ k ih =>
    intro hk
    obtain ⟨ih1, ih2⟩ := ih (by omega)
    have ha := hx _ (getA_mem (xs := xs) (k := k) (by omega))
    rw [someAt]
    unfold someStep
    split
    · rename_i hc
      rw [Bool.and_eq_true] at hc
      have h0 := eq_of_beq hc.1
      rw [putL_new h0]
      obtain ⟨g1, g2⟩ := put_good ih1 h0
      refine ⟨g1, fun y hy => ?_⟩
      rcases (g2 y).1 hy with hy | hy
      · exact ih2 y hy
      · subst hy
        have := near_rng ha.1
        show 0 ≤ nearA _ ∧ nearA _ < _
        omega
    · exact ⟨ih1, ih2⟩
theorem someL_good {xs : List Act} (hx : nOk xs) : Good (someL xs) ∧ rngH (someL xs) := some_good (nOk_head hx 60) _ (Nat.le_refl _)
end Go.Proofs.Ytfpapepjobfahaa.Held
