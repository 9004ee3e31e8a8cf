/- Cases: the plain part: rows behind some deeds are right; the law's own way is the package's. -/
import Derived.Test.YtlamlmihojodfaaCasWalkB
import Derived.Test.YtlamlmihojodfaaCasSpecB
namespace Go.Proofs.Ytlamlmihojodfaa.Cas
open Go Go.Proofs.Ytlamlmihojodfaa.Sx

theorem getC_mem {xs : List Cse} {k : Nat} (hk : k < xs.length) : getC xs k ∈ xs := by
  unfold getC
  rw [List.getD_eq_getElem?_getD, List.getElem?_eq_getElem hk]
  exact List.getElem_mem _
theorem getC_get {xs : List Cse} {k : Nat} (hk : k < xs.length) : xs[k] = getC xs k := by
  unfold getC
  rw [List.getD_eq_getElem?_getD, List.getElem?_eq_getElem hk]
  rfl
theorem getA_mem {xs : List Act} {k : Nat} (hk : k < xs.length) : getA xs k ∈ xs := by
  unfold getA
  rw [List.getD_eq_getElem?_getD, List.getElem?_eq_getElem hk]
  exact List.getElem_mem _
theorem clamp_id {n : Int} (h : 0 ≤ n ∧ n ≤ 1099511627776) : clampT n = n := by unfold clampT mx mn; split <;> split <;> omega
theorem since_eq {a b : Int} (ha : 0 ≤ a ∧ a ≤ 1099511627776) (hb : 0 ≤ b ∧ b ≤ 1099511627776) : since a b = a - b := by
  unfold since
  rw [clamp_id ha, clamp_id hb, wrap_i64_id (by omega)]
/-! ### finding -/
theorem first_is {q : Cse → Bool} {xs : List Cse} {k : Nat} (hk : k < xs.length) (hq : q (getC xs k) = true) (h : ∀ j, j < k → q (getC xs j) = false) : firstI q xs = (k : Int) := by
  have ha : (xs.take k).any q = false := by
    rw [List.any_eq_false]
    intro x hx
    rw [List.mem_take_iff_getElem] at hx
    obtain ⟨j, hj, rfl⟩ := hx
    rw [getC_get (by omega), h j (by omega)]
    simp
  exact (first_at hk ha hq).symm
theorem first_not {q : Cse → Bool} {xs : List Cse} (h : ∀ j, j < xs.length → q (getC xs j) = false) : firstI q xs = -1 := by
  refine first_none (List.any_eq_false.2 fun x hx => ?_)
  obtain ⟨j, hj, rfl⟩ := List.getElem_of_mem hx
  rw [getC_get hj, h j hj]
  simp
theorem first_hit {q : Cse → Bool} {xs : List Cse} (h : 0 ≤ firstI q xs) : q (getC xs (firstI q xs).toNat) = true := by
  unfold firstI at h ⊢
  split at h
  · rename_i ha
    rw [if_pos ha, Int.toNat_natCast]
    have hl : xs.findIdx q < xs.length := by
      rw [List.findIdx_lt_length]
      rw [List.any_eq_true] at ha
      exact ha
    rw [← getC_get hl]
    exact List.findIdx_getElem
  · omega
theorem first_miss {q : Cse → Bool} {xs : List Cse} (h : firstI q xs < 0) {x : Cse} (hx : x ∈ xs) : q x = false := by
  cases hq : q x
  · rfl
  · have ha : xs.any q = true := List.any_eq_true.2 ⟨x, hx, hq⟩
    unfold firstI at h
    rw [if_pos ha] at h
    omega
theorem at_spec (q : Cse → Bool) (f : Nat → Int) (cs : List Cse) (h0 : f 0 = -1) (hs : ∀ k, f (k + 1) = if (q (getC cs k) && decide (f k < 0)) = true then (k : Int) else f k) : f cs.length = firstI q cs := by
  have key : ∀ k, (f k < 0 ∧ ∀ j, j < k → q (getC cs j) = false) ∨ (∃ i : Nat, i < k ∧ f k = i ∧ q (getC cs i) = true ∧ ∀ j, j < i → q (getC cs j) = false) := by
    intro k
    induction k with
    | zero => exact .inl ⟨by rw [h0]; omega, fun j hj => absurd hj (Nat.not_lt_zero _)⟩
    | succ k ih =>
      rw [hs]
      rcases ih with ⟨i1, i2⟩ | ⟨i, i1, i2, i3, i4⟩
      · cases hq : q (getC cs k)
        · rw [Bool.false_and, if_neg (by decide)]
          refine .inl ⟨i1, fun j hj => ?_⟩
          by_cases e : j = k
          · subst e; exact hq
          · exact i2 j (by omega)
        · rw [decide_eq_true i1, if_pos (show (true && true) = true from rfl)]
          exact .inr ⟨k, by omega, rfl, hq, i2⟩
      · rw [decide_eq_false (show ¬ f k < 0 by omega), Bool.and_false, if_neg (by decide)]
        exact .inr ⟨i, by omega, i2, i3, i4⟩
  rcases key cs.length with ⟨i1, i2⟩ | ⟨i, i1, i2, i3, i4⟩
  · rw [first_not i2]
    have hr : ∀ k, -1 ≤ f k := by
      intro k
      induction k with
      | zero => rw [h0]; omega
      | succ k ih => rw [hs]; split <;> omega
    have := hr cs.length
    omega
  · rw [first_is i1 i3 i4, i2]
theorem atI_eq (x : Int) (cs : List Cse) : atI x cs = firstI (hitF x) cs := at_spec (hitF x) (atTo x cs) cs rfl (fun k => rfl)
theorem want_eq (x : Int) (cs : List Cse) : wantTo x cs cs.length = firstI (hitF x) cs := at_spec (hitF x) (wantTo x cs) cs rfl (fun k => by
  rw [wantTo]
  unfold hitF
  cases (getC cs k).addr == x <;> cases openC (getC cs k) <;> cases decide (wantTo x cs k < 0) <;> rfl)
/-! ### rows -/
def apart (cs : List Cse) : Prop := ∀ i j, i < j → j < cs.length → openC (getC cs i) = true → openC (getC cs j) = true → (getC cs i).addr ≠ (getC cs j).addr
def okAt (now : Int) (c : Cse) : Prop := (0 ≤ c.stage ∧ c.stage ≤ 5) ∧ (0 ≤ c.raised ∧ c.raised ≤ now) ∧ (openC c = true → c.ended = 0) ∧ (openC c = false → c.raised ≤ c.ended ∧ c.ended ≤ now)
structure Good (now : Int) (cs : List Cse) : Prop where
  ok : ∀ c ∈ cs, okAt now c
  uq : cs.Pairwise (fun a b => openC a = true → openC b = true → a.addr ≠ b.addr)
  len : cs.length ≤ 16
theorem okAt.later {now now2 : Int} {c : Cse} (h : okAt now c) (hn : now ≤ now2) : okAt now2 c := ⟨h.1, ⟨h.2.1.1, by have := h.2.1.2; omega⟩, h.2.2.1, fun ho => ⟨(h.2.2.2 ho).1, by have := (h.2.2.2 ho).2; omega⟩⟩
theorem Good.later {now now2 : Int} {cs : List Cse} (h : Good now cs) (hn : now ≤ now2) : Good now2 cs := ⟨fun c hc => (h.ok c hc).later hn, h.uq, h.len⟩
theorem Good.sub {now : Int} {cs l : List Cse} (h : Good now cs) (hl : l.Sublist cs) : Good now l := ⟨fun c hc => h.ok c (hl.subset hc), h.uq.sublist hl, Nat.le_trans hl.length_le h.len⟩
theorem Good.nil (now : Int) : Good now [] := ⟨fun c hc => (by cases hc), List.Pairwise.nil, Nat.zero_le _⟩
theorem Good.apart {now : Int} {cs : List Cse} (h : Good now cs) {i j : Nat} (hi : i < j) (hj : j < cs.length) (h1 : openC (getC cs i) = true) (h2 : openC (getC cs j) = true) : (getC cs i).addr ≠ (getC cs j).addr := by
  have := (List.pairwise_iff_getElem.1 h.uq) i j (by omega) hj hi
  rw [getC_get (by omega), getC_get hj] at this
  exact this h1 h2
theorem Good.first {now : Int} {cs : List Cse} (h : Good now cs) {k : Nat} (hk : k < cs.length) (ho : openC (getC cs k) = true) : firstI (hitF (getC cs k).addr) cs = (k : Int) := by
  refine first_is hk (by unfold hitF; rw [ho]; simp) fun j hj => ?_
  unfold hitF
  cases h1 : openC (getC cs j)
  · simp
  · have := h.apart hj hk h1 ho
    rw [Bool.and_true]
    exact beq_eq_false_iff_ne.2 this
theorem Good.right {now : Int} {cs : List Cse} (h : Good now cs) (hn : now ≤ 1099511627776) : rightB cs = true := by
  have key : ∀ k, k ≤ cs.length → okTo cs k = true := by
    intro k
    induction k with
    | zero => intro _; rfl
    | succ k ih =>
      intro hk
      have hk' : k < cs.length := by omega
      obtain ⟨⟨s1, s2⟩, ⟨r1, r2⟩, ho, hc⟩ := h.ok _ (getC_mem hk')
      have hr : clampT (getC cs k).raised = (getC cs k).raised := clamp_id (by omega)
      have hb : badK cs k = false := by
        unfold badK
        rw [decide_eq_false (show ¬ (getC cs k).stage < 0 by omega), decide_eq_false (show ¬ (getC cs k).stage > 5 by omega), hr]
        cases hop : openC (getC cs k)
        · have h2 := hc hop
          rw [clamp_id (n := (getC cs k).ended) (by omega), decide_eq_false (show ¬ (getC cs k).ended < (getC cs k).raised by omega)]
          simp
        · have h2 := ho hop
          rw [h2, h.first hk' hop]
          simp [clampT, mx, mn]
      rw [okTo, ih (by omega), hb]
      rfl
  unfold rightB
  rw [key cs.length (Nat.le_refl _), decide_eq_true (by have := h.len; omega)]
  rfl
/-- A row in which each one stands for the one that stood there. -/
theorem uq_like {cs l : List Cse} (hl : l.length = cs.length) (h : ∀ k, k < cs.length → openC (getC l k) = true → openC (getC cs k) = true ∧ (getC l k).addr = (getC cs k).addr) (hu : cs.Pairwise (fun a b => openC a = true → openC b = true → a.addr ≠ b.addr)) : l.Pairwise (fun a b => openC a = true → openC b = true → a.addr ≠ b.addr) := by
  rw [List.pairwise_iff_getElem] at hu ⊢
  intro i j hi hj hij h1 h2
  have := hu i j (by omega) (by omega) hij
  rw [getC_get (by omega), getC_get (by omega)] at this
  rw [getC_get hi] at h1 ⊢
  rw [getC_get hj] at h2 ⊢
  obtain ⟨a1, a2⟩ := h i (by omega) h1
  obtain ⟨b1, b2⟩ := h j (by omega) h2
  rw [a2, b2]
  exact this a1 b1
theorem getC_set {cs : List Cse} {k j : Nat} (hk : k < cs.length) (c : Cse) : getC (cs.set k c) j = if j = k then c else getC cs j := by
  unfold getC
  rw [List.getD_eq_getElem?_getD, List.getD_eq_getElem?_getD, List.getElem?_set]
  by_cases e : j = k
  · subst e; rw [if_pos rfl, if_pos rfl, if_pos hk]; rfl
  · rw [if_neg (fun h => e h.symm), if_neg e]
theorem mem_of_getC {l : List Cse} {c : Cse} (h : c ∈ l) : ∃ k, k < l.length ∧ c = getC l k := by
  obtain ⟨k, hk, rfl⟩ := List.getElem_of_mem h
  exact ⟨k, hk, getC_get hk⟩
theorem next_good {now : Int} {cs : List Cse} {a to : Int} (h : Good now cs) (hn : 0 ≤ now ∧ now ≤ 1099511627776) (hf : 0 ≤ firstI (hitF a) cs) (ht : 1 ≤ to ∧ to ≤ 5) : Good now (nextN cs a to now) := by
  have hr := first_rng (hitF a) cs
  have hk : (firstI (hitF a) cs).toNat < cs.length := by omega
  have hh := first_hit hf
  unfold nextN
  generalize (firstI (hitF a) cs).toNat = k at *
  unfold hitF at hh
  rw [Bool.and_eq_true] at hh
  obtain ⟨⟨s1, s2⟩, ⟨r1, r2⟩, ho, _⟩ := h.ok _ (getC_mem hk)
  have he := ho hh.2
  have hm : okAt now (movedC (getC cs k) to now) ∧ (movedC (getC cs k) to now).addr = (getC cs k).addr := by
    unfold movedC
    split
    · rename_i h1
      have h1 : openS to = false := by simpa using h1
      refine ⟨⟨by simp only; omega, ⟨r1, r2⟩, fun hc => ?_, fun _ => ?_⟩, rfl⟩
      · have hc : openS to = true := hc
        rw [h1] at hc
        cases hc
      · simp only
        rw [clamp_id hn]
        omega
    · rename_i h1
      have h1 : openS to = true := by simpa using h1
      refine ⟨⟨by simp only; omega, ⟨r1, r2⟩, fun _ => he, fun hc => ?_⟩, rfl⟩
      have hc : openS to = false := hc
      rw [h1] at hc
      cases hc
  refine ⟨fun c hc => ?_, uq_like (by rw [List.length_set]) (fun j hj ho => ?_) h.uq, by rw [List.length_set]; exact h.len⟩
  · obtain ⟨j, hj, rfl⟩ := mem_of_getC hc
    rw [List.length_set] at hj
    rw [getC_set hk]
    split
    · exact hm.1
    · exact h.ok _ (getC_mem hj)
  · rw [getC_set hk] at ho ⊢
    by_cases e : j = k
    · subst e
      rw [if_pos rfl]
      exact ⟨hh.2, hm.2⟩
    · rw [if_neg e] at ho ⊢
      exact ⟨ho, rfl⟩
theorem tick_at (op now : Int) {cs : List Cse} {k : Nat} (hk : k < cs.length) : getC (tickL op now cs) k = tickC op now (getC cs k) := by
  unfold tickL tickAt getC
  rw [List.take_length, List.drop_length, List.append_nil, List.getD_eq_getElem?_getD, List.getElem?_map, List.getElem?_eq_getElem hk, List.getD_eq_getElem?_getD, List.getElem?_eq_getElem hk]
  rfl
theorem tick_good {op now now2 : Int} {cs : List Cse} (h : Good now cs) (hn : 0 ≤ now ∧ now ≤ now2 ∧ now2 ≤ 1099511627776) : Good now2 (tickL op now2 cs) := by
  have hl : (tickL op now2 cs).length = cs.length := tick_len op now2 cs _
  have hm : ∀ c, okAt now c → okAt now2 (tickC op now2 c) ∧ (tickC op now2 c).addr = c.addr ∧ (openC (tickC op now2 c) = true → openC c = true) := by
    intro c hc
    unfold tickC
    split
    · obtain ⟨_, ⟨r1, r2⟩, _, _⟩ := hc
      refine ⟨⟨by simp only; omega, ⟨r1, by simp only; omega⟩, fun h => (by cases h), fun _ => ?_⟩, rfl, fun h => (by cases h)⟩
      simp only
      rw [clamp_id (by omega)]
      omega
    · exact ⟨hc.later hn.2.1, rfl, fun h => h⟩
  refine ⟨fun c hc => ?_, uq_like hl (fun j hj ho => ?_) h.uq, by rw [hl]; exact h.len⟩
  · obtain ⟨j, hj, rfl⟩ := mem_of_getC hc
    rw [hl] at hj
    rw [tick_at op now2 hj]
    exact (hm _ (h.ok _ (getC_mem hj))).1
  · rw [tick_at op now2 hj] at ho ⊢
    have := hm _ (h.ok _ (getC_mem hj))
    exact ⟨this.2.2 ho, this.2.1⟩
theorem cut_sub (xs : List Cse) (k : Nat) : (cutAt xs k).Sublist xs := by
  unfold cutAt
  have h1 := (List.Sublist.refl (xs.take k)).append (List.drop_sublist 1 (xs.drop k))
  rw [List.drop_drop, List.take_append_drop] at h1
  exact h1
theorem raise_is {q : Int} {cs : List Cse} {a now : Int} (h : raiseE q cs a now = 0) : firstI (hitF a) cs < 0 ∧ cs.any (hitQ q now a) = false ∧ ((cs.length : Int) ≥ 16 → 0 ≤ spareI q now cs) := by
  unfold raiseE at h
  split at h
  · cases h
  · rename_i h1
    split at h
    · cases h
    · rename_i h2
      have h1 : ¬ firstI (hitF a) cs ≥ 0 := fun hc => h1 (decide_eq_true hc)
      refine ⟨by omega, by simpa using h2, fun h3 => ?_⟩
      rw [if_pos (decide_eq_true h3)] at h
      split at h
      · cases h
      · rename_i h4
        have : ¬ spareI q now cs < 0 := fun hc => h4 (decide_eq_true hc)
        omega
theorem raiseN_len {q : Int} {cs : List Cse} {a now : Int} (h : raiseE q cs a now = 0) (hl : cs.length ≤ 16) : (raiseN q cs a now).length = min (cs.length + 1) 16 := by
  obtain ⟨_, _, h3⟩ := raise_is h
  have hr : -1 ≤ spareI q now cs ∧ spareI q now cs < cs.length := spare_rng q now cs cs.length
  unfold raiseN
  rw [List.length_append, List.length_singleton]
  by_cases h4 : (cs.length : Int) ≥ 16
  · have := h3 h4
    rw [if_pos (decide_eq_true h4), cut_len _ _ (by omega)]
    omega
  · rw [if_neg (by rw [decide_eq_false h4]; simp)]
    omega
theorem raise_good {q now : Int} {cs : List Cse} {a : Int} (h : Good now cs) (hn : 0 ≤ now ∧ now ≤ 1099511627776) (h0 : raiseE q cs a now = 0) : Good now (raiseN q cs a now) := by
  obtain ⟨h1, _, _⟩ := raise_is h0
  have hl := raiseN_len h0 h.len
  refine ⟨?_, ?_, by omega⟩
  all_goals
    unfold raiseN
    have hs : (if decide ((cs.length : Int) ≥ 16) = true then cutAt cs (spareI q now cs).toNat else cs).Sublist cs := by
      split
      · exact cut_sub _ _
      · exact List.Sublist.refl _
    generalize (if decide ((cs.length : Int) ≥ 16) = true then cutAt cs (spareI q now cs).toNat else cs) = l at hs
  · intro c hc
    rcases List.mem_append.1 hc with hc | hc
    · exact h.ok c (hs.subset hc)
    · rw [List.mem_singleton] at hc
      subst hc
      refine ⟨by simp only; omega, ?_, fun _ => rfl, fun hc => (by cases hc)⟩
      simp only
      rw [clamp_id hn]
      omega
  · rw [List.pairwise_append]
    refine ⟨h.uq.sublist hs, by simp, fun x hx y hy => ?_⟩
    rw [List.mem_singleton] at hy
    subst hy
    intro ho _ he
    have := first_miss h1 (hs.subset hx)
    unfold hitF at this
    rw [ho, Bool.and_true] at this
    exact absurd he (beq_eq_false_iff_ne.1 this)
/-! ### deeds -/
theorem op_rng {o : Int} (h : 0 ≤ o) : 0 ≤ o.tmod 8 ∧ o.tmod 8 < 8 := by rw [Int.tmod_eq_emod_of_nonneg h]; omega
theorem next_is {cs : List Cse} {a fr : Int} (h : nextE cs a fr = 0) : 0 ≤ firstI (hitF a) cs := by
  unfold nextE at h
  split at h
  · cases h
  · rename_i h1
    have : ¬ firstI (hitF a) cs < 0 := fun hc => h1 (decide_eq_true hc)
    omega
theorem nextL_good {now : Int} {cs : List Cse} {a fr to : Int} (h : Good now cs) (hn : 0 ≤ now ∧ now ≤ 1099511627776) (ht : 1 ≤ to ∧ to ≤ 5) : Good now (nextL cs a fr to now) := by
  unfold nextL
  split
  · rename_i h0
    exact next_good h hn (next_is (eq_of_beq h0)) ht
  · exact Good.nil _
theorem doL_good {q now : Int} {cs : List Cse} {a : Act} (h : Good now cs) (hn : 0 ≤ now ∧ now ≤ 1099511627776) : Good now (doL q cs a now) := by
  have hr : Good now (raiseL q cs (nearA a.addr) now) := by
    unfold raiseL
    split
    · rename_i h0
      exact raise_good h hn (eq_of_beq h0)
    · exact Good.nil _
  unfold doL
  split
  · exact hr
  · split
    · exact hr
    · split
      · exact nextL_good h hn (by decide)
      · split
        · exact nextL_good h hn (by decide)
        · split
          · exact nextL_good h hn (by decide)
          · split
            · unfold cancelL
              split
              · exact Good.nil _
              · rename_i h1
                exact next_good h hn (by have : ¬ firstI (hitF (nearA a.addr)) cs < 0 := fun hc => h1 (decide_eq_true hc)
                                         omega) (by decide)
            · exact h
theorem now_step {now : Int} {a : Act} (hn : 0 ≤ a.n) (hw : 0 ≤ now ∧ now ≤ 100000) : now ≤ nowStep now a ∧ nowStep now a ≤ now + 9 := by
  unfold nowStep
  rw [Int.tmod_eq_emod_of_nonneg hn, wrap_i64_id (n := a.n % 10) (by omega), wrap_i64_id (by omega)]
  omega
theorem some_good {op q : Int} {xs : List Act} (hx : nOk xs) : ∀ k, k ≤ xs.length → k ≤ 1000 → Good (someAt op q xs k).2 (someAt op q xs k).1 ∧ 0 ≤ (someAt op q xs k).2 ∧ (someAt op q xs k).2 ≤ 9 * k := by
  intro k
  induction k with
  | zero => intro _ _; exact ⟨Good.nil _, Int.le_refl _, Int.le_refl _⟩
  | succ k ih =>
    intro hk hk2
    obtain ⟨h1, h2, h3⟩ := ih (by omega) (by omega)
    have ha := hx _ (getA_mem (xs := xs) (k := k) (by omega))
    rw [someAt]
    generalize someAt op q xs k = r at *
    generalize getA xs k = a at *
    have hstep := now_step (now := r.2) ha.2 (by omega)
    have hd : Good r.2 (if (doE q r.1 a r.2 == 0) = true then doL q r.1 a r.2 else r.1) := by
      split
      · exact doL_good h1 (by omega)
      · exact h1
    unfold someStep
    split
    · exact ⟨tick_good hd (by omega), by simp only; omega, by simp only; omega⟩
    · exact ⟨hd, h2, by simp only; omega⟩
theorem nOk_head {xs : List Act} (h : nOk xs) (n : Int) : nOk (headS xs n) := fun x hx => h x (List.mem_of_mem_take (List.mem_of_mem_drop hx))
theorem someL_good {op q : Int} {xs : List Act} (hx : nOk xs) : Good (someL op q xs).2 (someL op q xs).1 ∧ 0 ≤ (someL op q xs).2 ∧ (someL op q xs).2 ≤ 720 := by
  have hh := headS_le xs 80 (by decide)
  obtain ⟨h1, h2, h3⟩ := some_good (op := op) (q := q) (nOk_head hx 80) (headS xs 80).length (Nat.le_refl _) (by omega)
  exact ⟨h1, h2, by show (someAt op q (headS xs 80) (headS xs 80).length).2 ≤ 720; omega⟩
/-! ### the law's own way -/
theorem quiet_eq {q now : Int} {c : Cse} (h : okAt now c) (hn : 0 ≤ now ∧ now ≤ 1099511627776) : quietL q now c = (c.stage == 2 && within now c.ended q) := by
  unfold quietL within
  cases hs : c.stage == 2
  · rfl
  · have hs := eq_of_beq hs
    obtain ⟨_, ⟨r1, r2⟩, _, hc⟩ := h
    have h2 := hc (by unfold openC; rw [hs]; rfl)
    rw [since_eq hn (by omega), wrap_i64_id (by omega), decide_eq_true (show c.ended ≤ now by omega), decide_eq_true (show now - c.ended ≥ 0 by omega)]
    simp
theorem gone_eq {q now : Int} {cs : List Cse} (h : Good now cs) (hn : 0 ≤ now ∧ now ≤ 1099511627776) : goneI q now cs = spareI q now cs := by
  have key : ∀ k, k ≤ cs.length → goneTo q now cs k = spareAt q now cs k := by
    intro k
    induction k with
    | zero => intro _; rfl
    | succ k ih =>
      intro hk
      have hq := quiet_eq (q := q) (h.ok _ (getC_mem (xs := cs) (k := k) (by omega))) hn
      rw [goneTo, spareAt, ih (by omega), hq]
      cases openC (getC cs k) <;> cases ((getC cs k).stage == 2 && within now (getC cs k).ended q) <;> rfl
  exact key _ (Nat.le_refl _)
theorem still_eq {q now x : Int} {cs : List Cse} (h : Good now cs) (hn : 0 ≤ now ∧ now ≤ 1099511627776) : stillTo q now x cs cs.length = cs.any (hitQ q now x) := by
  have key : ∀ k, k ≤ cs.length → stillTo q now x cs k = (cs.take k).any (hitQ q now x) := by
    intro k
    induction k with
    | zero => intro _; rfl
    | succ k ih =>
      intro hk
      have hq := quiet_eq (q := q) (h.ok _ (getC_mem (xs := cs) (k := k) (by omega))) hn
      rw [stillTo, ih (by omega), hq, take_getD cs k (by omega) zeroC, List.any_append]
      congr 1
      show _ = (hitQ q now x (getC cs k) || false)
      unfold hitQ
      rw [Bool.or_false, Bool.and_assoc]
  have := key _ (Nat.le_refl _)
  rw [List.take_length] at this
  exact this
theorem model_eq {q now : Int} {cs : List Cse} {a : Act} (h : Good now cs) (hn : 0 ≤ now ∧ now ≤ 1099511627776) (ho : 0 ≤ a.op) (h6 : decide (a.op.tmod 8 > 5) = false) : modE q cs a now = doE q cs a now ∧ modL q cs a now = doL q cs a now := by
  have h6 := of_decide_eq_false h6
  obtain ⟨o1, o2⟩ := op_rng ho
  have hE : modE q cs a now = doE q cs a now := by
    unfold modE doE raiseE nextE cancelE
    rw [atI_eq, still_eq h hn, gone_eq h hn]
    rcases (show a.op.tmod 8 = 0 ∨ a.op.tmod 8 = 1 ∨ a.op.tmod 8 = 2 ∨ a.op.tmod 8 = 3 ∨ a.op.tmod 8 = 4 ∨ a.op.tmod 8 = 5 by omega) with e | e | e | e | e | e <;> rw [e] <;> simp <;> rfl
  have hN : modE q cs a now = 0 → modN q cs a now = doL q cs a now := by
    intro h0
    have h0d : doE q cs a now = 0 := hE ▸ h0
    unfold modN doL setC
    rw [atI_eq, gone_eq h hn]
    rcases (show a.op.tmod 8 = 0 ∨ a.op.tmod 8 = 1 ∨ a.op.tmod 8 = 2 ∨ a.op.tmod 8 = 3 ∨ a.op.tmod 8 = 4 ∨ a.op.tmod 8 = 5 by omega) with e | e | e | e | e | e
    · have hd : raiseE q cs (nearA a.addr) now = 0 := by unfold doE at h0d; rw [e] at h0d; exact h0d
      rw [e, raise_ok hd]; unfold raiseN; rw [clamp_id hn]; rfl
    · have hd : raiseE q cs (nearA a.addr) now = 0 := by unfold doE at h0d; rw [e] at h0d; exact h0d
      rw [e, raise_ok hd]; unfold raiseN; rw [clamp_id hn]; rfl
    · have hd : nextE cs (nearA a.addr) 0 = 0 := by unfold doE at h0d; rw [e] at h0d; exact h0d
      rw [e, next_ok hd]; rfl
    · have hd : nextE cs (nearA a.addr) 0 = 0 := by unfold doE at h0d; rw [e] at h0d; exact h0d
      rw [e, next_ok (to := 2) (now := now) hd]; unfold nextN movedC; rw [clamp_id hn]; rfl
    · have hd : nextE cs (nearA a.addr) 1 = 0 := by unfold doE at h0d; rw [e] at h0d; exact h0d
      rw [e, next_ok (to := 5) (now := now) hd]; unfold nextN movedC; rw [clamp_id hn]; rfl
    · have hd : cancelE cs (nearA a.addr) = 0 := by unfold doE at h0d; rw [e] at h0d; exact h0d
      unfold cancelE at hd
      rw [e]
      unfold cancelL
      split at hd
      · cases hd
      · rename_i h1
        rw [if_neg h1]; unfold nextN movedC; rw [clamp_id hn]; rfl
  refine ⟨hE, ?_⟩
  by_cases h0 : modE q cs a now = 0
  · rw [mod_ok h0, hN h0]
  · rw [(mod_no rfl h0).1]
    rw [hE] at h0
    unfold doE at h0
    unfold doL
    rcases (show a.op.tmod 8 = 0 ∨ a.op.tmod 8 = 1 ∨ a.op.tmod 8 = 2 ∨ a.op.tmod 8 = 3 ∨ a.op.tmod 8 = 4 ∨ a.op.tmod 8 = 5 by omega) with e | e | e | e | e | e <;> rw [e] at h0 ⊢
    · exact (raise_no rfl h0).1.symm
    · exact (raise_no rfl h0).1.symm
    · exact (next_no rfl h0).1.symm
    · exact (next_no rfl h0).1.symm
    · exact (next_no rfl h0).1.symm
    · have h0 : cancelE cs (nearA a.addr) ≠ 0 := h0
      show [] = cancelL cs (nearA a.addr) now
      unfold cancelE at h0
      unfold cancelL
      split at h0
      · rename_i h1; rw [if_pos h1]
      · exact absurd rfl h0
theorem same_refl (xs : List Cse) : sameL xs xs = true := by
  have key : ∀ k, sameTo xs xs k = true := by
    intro k
    induction k with
    | zero => rfl
    | succ k ih => rw [sameTo, ih]; simp [same4]
  unfold sameL
  rw [key]
  simp
theorem fz_eq {b c : Int} (hb : 0 < b ∧ b ≤ 1000) (h : 0 ≤ c) : 0 ≤ fz b c ∧ fz b c < b := by
  unfold fz
  rw [Int.tmod_eq_emod_of_nonneg h]
  have h1 := Int.emod_nonneg c (show b ≠ 0 by omega)
  have h2 := Int.emod_lt_of_pos c hb.1
  rw [wrap_i64_id (by omega)]
  omega
theorem fc_eq {b c : Int} (hb : 0 < b ∧ b ≤ 1000) (h : 0 ≤ c) : 1 ≤ fc b c ∧ fc b c ≤ b := by
  have := fz_eq hb h
  unfold fc
  rw [wrap_i64_id (by omega)]
  omega
end Go.Proofs.Ytlamlmihojodfaa.Cas
