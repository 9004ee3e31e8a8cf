/- The log, in plain terms: the layout of a log on its disk, and that it is found; opening, appending and beginning, whatever the disk does. -/
import Derived.Test.YtgimkldaeobhnaaWalMathH
import Derived.Test.YtgimkldaeobhnaaWalMathF
namespace Go.Proofs.Ytgimkldaeobhnaa.Dsk
open Go Go.Proofs.Ytgimkldaeobhnaa.Sx

/-! ### torn sectors -/
theorem sec_ext {x y : Sec} (h : ∀ i : Nat, x.l.getD i 0 = y.l.getD i 0) : x = y := by
  refine Sec.ext' (List.ext_getElem (x.h.trans y.h.symm) fun i h1 h2 => ?_)
  have := h i
  rwa [List.getD_eq_getElem?_getD, List.getD_eq_getElem?_getD, List.getElem?_eq_getElem h1, List.getElem?_eq_getElem h2] at this
theorem tear_at (s x : Sec) (n : Int) : ∃ m : Nat, m ≤ 64 ∧ ∀ i, (tearS s x n).l.getD i 0 = if i < m then x.l.getD i 0 else s.l.getD i 0 := by
  have hn := mx_in n
  refine ⟨(mx 0 (mn n 64)).toNat, by omega, fun i => ?_⟩
  unfold tearS
  rw [Sec.of_l (tear_len s x n)]
  unfold tearL
  rw [List.getD_eq_getElem?_getD, List.getElem?_append, List.length_take, x.h]
  by_cases h : i < (mx 0 (mn n 64)).toNat
  · rw [if_pos (by omega), if_pos h, List.getElem?_take, if_pos h, List.getD_eq_getElem?_getD]
  · rw [if_neg (by omega), if_neg h, List.getElem?_drop, List.getD_eq_getElem?_getD]
    congr 2
    omega
theorem zero_at (i : Nat) : zeroS.l.getD i 0 = 0 := by
  show (List.replicate 64 (0 : Int)).getD i 0 = 0
  rw [List.getD_eq_getElem?_getD, List.getElem?_replicate]
  split <;> rfl
theorem head_tail (kind n : Int) (b : List Int) {i : Nat} (hi : 12 ≤ i) : (headS kind n b).l.getD i 0 = 0 := by
  have e : (headS kind n b).l.drop 12 = List.replicate 52 0 := by
    rw [headS_l, headL_eq]
    rfl
  obtain ⟨j, rfl⟩ : ∃ j, i = 12 + j := ⟨i - 12, by omega⟩
  rw [List.getD_eq_getElem?_getD, ← List.getElem?_drop, e, List.getElem?_replicate]
  split <;> rfl
/-- A head that may be torn: no head, or it itself. -/
def HT (x s : Sec) : Prop := (∀ i, 12 ≤ i → s.l.getD i 0 = 0) ∧ (Dead s ∨ s = x)
theorem HT.zero (x : Sec) : HT x zeroS := ⟨fun i _ => zero_at i, .inl zero_dead⟩
theorem HT.tq (kind n : Int) (b : List Int) : HT (headS kind n b) (headS kind n b) ∧ ∀ s m, HT (headS kind n b) s → HT (headS kind n b) (tearS s (headS kind n b) m) := by
  refine ⟨⟨fun i hi => head_tail kind n b hi, .inr rfl⟩, fun s m hs => ?_⟩
  obtain ⟨k, _, h⟩ := tear_at s (headS kind n b) m
  refine ⟨fun i hi => ?_, ?_⟩
  · rw [h]
    split
    · exact head_tail kind n b hi
    · exact hs.1 i hi
  · by_cases hk : 12 ≤ k
    · refine .inr (sec_ext fun i => ?_)
      rw [h]
      split
      · rfl
      · rw [hs.1 i (by omega), head_tail kind n b (by omega)]
    · rcases hs.2 with hd | rfl
      · refine .inl ?_
        unfold Dead at hd ⊢
        rw [h]
        split
        · omega
        · exact hd
      · refine .inr (sec_ext fun i => ?_)
        rw [h]
        split <;> rfl
theorem dead_tear {s : Sec} (h : Dead s) (m : Int) : Dead (tearS s zeroS m) := by
  obtain ⟨k, _, e⟩ := tear_at s zeroS m
  unfold Dead at h ⊢
  rw [e, zero_at]
  split
  · decide
  · exact h
/-- Bytes that are no head of a turn that far. -/
def Low (t : Int) (s : Sec) : Prop := secOk s ∧ (Dead s ∨ oneI s < t)
theorem oneI_eq (s : Sec) : oneI s = numOf [s.l.getD 2 0, s.l.getD 3 0, s.l.getD 4 0, s.l.getD 5 0] := by
  unfold oneI
  have hl := s.h
  match hx : s.l, hl with
  | a :: b :: c :: d :: e :: f :: r, _ => rfl
theorem sec_at {s : Sec} (h : secOk s) (i : Nat) : 0 ≤ s.l.getD i 0 ∧ s.l.getD i 0 < 256 := by
  rw [List.getD_eq_getElem?_getD]
  cases e : s.l[i]? with
  | none => exact ⟨Int.le_refl 0, by decide⟩
  | some x => exact h x (List.mem_of_getElem? e)
theorem low_tear {t : Int} {s : Sec} (h : Low t s) (m : Int) : Low t (tearS s zeroS m) := by
  refine ⟨tear_ok h.1 zero_ok m, ?_⟩
  rcases h.2 with hd | ht
  · exact .inl (dead_tear hd m)
  · obtain ⟨k, _, e⟩ := tear_at s zeroS m
    refine .inr ?_
    rw [oneI_eq] at ht ⊢
    simp only [e, zero_at]
    have h2 := sec_at h.1 2
    have h3 := sec_at h.1 3
    have h4 := sec_at h.1 4
    have h5 := sec_at h.1 5
    rw [num4e _ _ _ _ h2 h3 h4 h5] at ht
    have g : ∀ x : Int, 0 ≤ x ∧ x < 256 → ∀ i : Nat, 0 ≤ (if i < k then 0 else x) ∧ (if i < k then 0 else x) ≤ x := by
      intro x hx i
      split <;> omega
    have g2 := g _ h2 2
    have g3 := g _ h3 3
    have g4 := g _ h4 4
    have g5 := g _ h5 5
    rw [num4e _ _ _ _ ⟨g2.1, by omega⟩ ⟨g3.1, by omega⟩ ⟨g4.1, by omega⟩ ⟨g5.1, by omega⟩]
    omega
theorem low_tq {t : Int} : Low t zeroS ∧ ∀ s n, Low t s → Low t (tearS s zeroS n) := ⟨⟨zero_ok, .inl zero_dead⟩, fun _ n h => low_tear h n⟩

/-! ### the layout -/
/-- Rows behind one another, from a sector on, numbered. -/
def Chain (c : Int → Sec) (p h : Int) : Int → Nat → List (List Int) → Int → Prop
  | a, _, [], n => n = a
  | a, k, b :: rs, n => (c (p + a) = headS 2 (k : Int) b ∧ (∀ j : Nat, j < secsN b.length → c (p + a + 1 + (j : Int)) = chunkS b j) ∧ b.length ≤ 16384 ∧ a + 1 + (secsN b.length : Int) ≤ h) ∧ Chain c p h (a + 1 + (secsN b.length : Int)) (k + 1) rs n
theorem chain_le {c : Int → Sec} {p h : Int} : ∀ {rs : List (List Int)} {a : Int} {k : Nat} {n : Int}, Chain c p h a k rs n → a + (rs.length : Int) ≤ n ∧ (rs ≠ [] → n ≤ h)
  | [], a, k, n, hc => ⟨by have hc : n = a := hc; rw [List.length_nil]; omega, fun hn => absurd rfl hn⟩
  | b :: rs, a, k, n, hc => by
    obtain ⟨⟨_, _, _, h4⟩, h5⟩ := hc
    have ih := chain_le h5
    rw [List.length_cons]
    refine ⟨by omega, fun _ => ?_⟩
    cases rs with
    | nil => have h5 : n = a + 1 + (secsN b.length : Int) := h5; omega
    | cons x xs => exact ih.2 (by simp)
theorem chain_congr {c e : Int → Sec} {p h : Int} : ∀ {rs : List (List Int)} {a : Int} {k : Nat} {n : Int}, Chain c p h a k rs n → (∀ i, p + a ≤ i → i < p + n → e i = c i) → Chain e p h a k rs n
  | [], a, k, n, hc, _ => hc
  | b :: rs, a, k, n, hc, he => by
    obtain ⟨⟨h1, h2, h3, h4⟩, h5⟩ := hc
    have hl := (chain_le h5).1
    refine ⟨⟨?_, fun j hj => ?_, h3, h4⟩, chain_congr h5 fun i hi hj => he i (by omega) hj⟩
    · rw [he _ (by omega) (by omega)]; exact h1
    · rw [he _ (by omega) (by omega)]; exact h2 j hj
theorem chain_snoc {c : Int → Sec} {p h : Int} {b : List Int} : ∀ {rs : List (List Int)} {a : Int} {k : Nat} {n : Int}, Chain c p h a k rs n → (c (p + n) = headS 2 ((k + rs.length : Nat) : Int) b ∧ (∀ j : Nat, j < secsN b.length → c (p + n + 1 + (j : Int)) = chunkS b j) ∧ b.length ≤ 16384 ∧ n + 1 + (secsN b.length : Int) ≤ h) → Chain c p h a k (rs ++ [b]) (n + 1 + (secsN b.length : Int))
  | [], a, k, n, hc, hr => by
    have hc : n = a := hc
    subst hc
    exact ⟨hr, rfl⟩
  | x :: rs, a, k, n, hc, hr => by
    obtain ⟨h1, h5⟩ := hc
    refine ⟨h1, chain_snoc h5 ?_⟩
    rw [List.length_cons] at hr
    rw [show k + 1 + rs.length = k + (rs.length + 1) by omega]
    exact hr
theorem chain_len {c : Int → Sec} {p h : Int} : ∀ {rs : List (List Int)} {a : Int} {k : Nat} {n : Int}, Chain c p h a k rs n → ∀ b ∈ rs, b.length ≤ 16384
  | [], _, _, _, _, b, hb => by cases hb
  | x :: rs, a, k, n, hc, b, hb => by
    rcases List.mem_cons.1 hb with rfl | hb
    · exact hc.1.2.2.1
    · exact chain_len hc.2 b hb
/-- A log that stands on its disk. -/
structure Lay (c : Int → Sec) (h r t : Int) (rs : List (List Int)) (n : Int) : Prop where
  r01 : 0 ≤ r ∧ r ≤ 1
  t32 : 1 ≤ t ∧ t < 4294967296
  head : c (r * h) = headS 1 t []
  chain : Chain c (r * h) h 1 0 rs n
  some : rs ≠ []
  stop : n < h → Dead (c (r * h + n))
  low : Low t (c ((1 - r) * h))
theorem Lay.le {c : Int → Sec} {h r t n : Int} {rs : List (List Int)} (l : Lay c h r t rs n) : 1 + (rs.length : Int) ≤ n ∧ n ≤ h := ⟨(chain_le l.chain).1, (chain_le l.chain).2 l.some⟩
/-- What is read there. -/
theorem reg_in {d : Dk} {r a : Int} (hd : d.kept.length ≤ 512) (hr : 0 ≤ r ∧ r ≤ 1) (ha : 0 ≤ a ∧ a < halfOf d) : 0 ≤ r * halfOf d + a ∧ r * halfOf d + a < d.kept.length := by
  have hh := half_in hd
  rcases (show r = 0 ∨ r = 1 by omega) with rfl | rfl <;> omega
theorem one_cont {d : Dk} {r a kind n : Int} {b : List Int} (hd : d.kept.length ≤ 512) (hw : d.down = false) (hr : 0 ≤ r ∧ r ≤ 1) (hn : 0 ≤ n ∧ n < 4294967296) (hb : b.length ≤ 16384) (ha : 0 ≤ a) (hf : a + 1 + (secsN b.length : Int) ≤ halfOf d)
    (h0 : cont d (r * halfOf d + a) = headS kind n b) (h : ∀ j : Nat, j < secsN b.length → cont d (r * halfOf d + a + 1 + (j : Int)) = chunkS b j) : oneM d r a kind = (n, b, true) := by
  have hh := half_in hd
  have hs := secs_eq b.length (by omega)
  have hp : posOf d r a = r * halfOf d + a := posOf_eq hd hr ⟨ha, by omega⟩
  have h1 := reg_in (d := d) (r := r) (a := a) hd hr ⟨ha, by omega⟩
  refine one_row hd hn hb ha (by omega) ?_ ?_ fun j hj => ?_
  · rw [hp]; exact readE_in hw h1
  · rw [hp, readS_cont hw h1]; exact h0
  · have h2 := reg_in (d := d) (r := r) (a := a + 1 + (j : Int)) hd hr ⟨by omega, by omega⟩
    rw [hp, wrap_i64_id (by omega), show r * halfOf d + a + ((j : Int) + 1) = r * halfOf d + (a + 1 + (j : Int)) by omega, readS_cont hw h2, show r * halfOf d + (a + 1 + (j : Int)) = r * halfOf d + a + 1 + (j : Int) by omega]
    exact h j hj
theorem one_none {d : Dk} {r a kind : Int} (hd : d.kept.length ≤ 512) (hw : d.down = false) (hr : 0 ≤ r ∧ r ≤ 1) (ha : 0 ≤ a) (h : a < halfOf d → Dead (cont d (r * halfOf d + a))) : (oneM d r a kind).2.2 = false := by
  have hh := half_in hd
  by_cases he : a ≥ halfOf d
  · exact one_end he
  · have h1 := reg_in (d := d) (r := r) (a := a) hd hr ⟨ha, by omega⟩
    refine one_dead ?_
    rw [posOf_eq hd hr ⟨ha, by omega⟩, readS_cont hw h1]
    exact h (by omega)
theorem one_low {d : Dk} {r t kind : Int} (hd : d.kept.length ≤ 512) (hw : d.down = false) (hr : 0 ≤ r ∧ r ≤ 1) (ht : 1 ≤ t) (hh0 : 0 < halfOf d) (h : Low t (cont d (r * halfOf d))) : (oneM d r 0 kind).2.2 = false ∨ (oneM d r 0 kind).1 < t := by
  have hh := half_in hd
  have h1 := reg_in (d := d) (r := r) (a := 0) hd hr ⟨by omega, by omega⟩
  have e : readS d (posOf d r 0) = cont d (r * halfOf d) := by rw [posOf_eq hd hr ⟨by omega, by omega⟩, readS_cont hw h1, Int.add_zero]
  rcases h.2 with hx | hx
  · refine .inl (one_dead ?_)
    rw [e]; exact hx
  · right
    unfold oneM
    split
    · exact (by omega : (0 : Int) < t)
    split
    · exact (by omega : (0 : Int) < t)
    · show oneI (readS d (posOf d r 0)) < t
      rw [e]; exact hx

/-! ### it is found -/
theorem find_go {d : Dk} {r : Int} (hd : d.kept.length ≤ 512) (hw : d.down = false) (hr : 0 ≤ r ∧ r ≤ 1) : ∀ (rs : List (List Int)) (m k : Nat) (a n : Int) (pre : List (List Int)), fAt d r k = (pre, a) → pre.length = k → 1 ≤ a → k + rs.length < 1000 → Chain (cont d) (r * halfOf d) (halfOf d) a k rs n → (n < halfOf d → Dead (cont d (r * halfOf d + n))) → rs.length ≤ m → findGo d r k m = (pre ++ rs, n)
  | [], m, k, a, n, pre, hf, hk, ha, _, hc, hs, hm => by
    have hc : n = a := hc
    subst hc
    rw [findGo_stop, hf, List.append_nil]
    unfold okAt
    rw [hf, one_none hd hw hr (by omega) hs, Bool.false_and]
  | b :: rs, m, k, a, n, pre, hf, hk, ha, hl, hc, hs, hm => by
    have hh := half_in hd
    obtain ⟨⟨h1, h2, h3, h4⟩, h5⟩ := hc
    rw [List.length_cons] at hl hm
    have h := one_cont (kind := 2) hd hw hr (n := (k : Int)) ⟨by omega, by omega⟩ h3 (by omega) h4 h1 h2
    have ho : okAt d r k = true := by
      unfold okAt
      rw [hf, h, Bool.true_and, hk]
      exact beq_self_eq_true _
    have hsq := secs_eq b.length (by omega)
    have hf2 : fAt d r (k + 1) = (pre ++ [b], a + 1 + (secsN b.length : Int)) := by
      show ((fAt d r k).1 ++ [(oneM d r (fAt d r k).2 2).2.1], IntKind.i64.wrap ((fAt d r k).2 + secsOf ((oneM d r (fAt d r k).2 2).2.1.length : Int))) = _
      rw [hf]
      show (pre ++ [(oneM d r a 2).2.1], IntKind.i64.wrap (a + secsOf ((oneM d r a 2).2.1.length : Int))) = _
      rw [h]
      show (pre ++ [b], IntKind.i64.wrap (a + secsOf (b.length : Int))) = _
      rw [hsq, wrap_i64_id (by omega), Int.add_assoc]
    obtain ⟨m, rfl⟩ : ∃ m', m = m' + 1 := ⟨m - 1, by omega⟩
    rw [findGo_on ho, find_go hd hw hr rs m (k + 1) _ n _ hf2 (by rw [List.length_append, hk]; rfl) (by omega) (by omega) h5 hs (by omega), List.append_assoc]
    rfl
theorem find_lay {d : Dk} {r t n : Int} {rs : List (List Int)} (hd : d.kept.length ≤ 512) (hw : d.down = false) (hh0 : 4 ≤ halfOf d) (h : Lay (cont d) (halfOf d) r t rs n) : findR d 2 = (r, t) ∧ findP d = (rs, n) := by
  have hh := half_in hd
  have hle := h.le
  have h1 : oneM d r 0 1 = (t, [], true) := one_cont hd hw h.r01 ⟨by have := h.t32; omega, h.t32.2⟩ (by decide) (Int.le_refl 0) (by show (0 : Int) + 1 + ((secsN 0 : Nat) : Int) ≤ _; have : secsN 0 = 0 := rfl; omega) (by rw [Int.add_zero]; exact h.head) (fun j hj => by have : secsN ([] : List Int).length = 0 := rfl; omega)
  have ht := h.t32
  have hR : findR d 2 = (r, t) := by
    rcases (show r = 0 ∨ r = 1 by have := h.r01; omega) with rfl | rfl
    · have h0 : findR d 1 = (0, t) := by
        rw [findR_next, show ((0 : Nat) : Int) = 0 from rfl, h1, if_pos]
        show (true && (([] : List Int).length : Int) == 0 && decide (t > 0)) = true
        rw [decide_eq_true (by omega)]; rfl
      have h2 := one_low (kind := 1) (r := 1) hd hw (by omega) ht.1 (by omega) (by have := h.low; rwa [show (1 : Int) - 0 = 1 from rfl] at this)
      rw [findR_next, h0, if_neg]
      rw [show ((1 : Nat) : Int) = 1 from rfl]
      rcases h2 with h2 | h2
      · rw [h2]; simp
      · rw [decide_eq_false (by show ¬ (oneM d 1 0 1).1 > t; omega)]; simp
    · have h2 := one_low (kind := 1) (r := 0) hd hw (by omega) ht.1 (by omega) (by have := h.low; rwa [show (1 : Int) - 1 = 0 from rfl] at this)
      have h0 : (findR d 1).2 < t := by
        rw [findR_next, show ((0 : Nat) : Int) = 0 from rfl]
        split
        · rename_i hx
          rw [Bool.and_eq_true, Bool.and_eq_true] at hx
          rcases h2 with h2 | h2
          · rw [h2] at hx; exact absurd hx.1.1 (by decide)
          · exact h2
        · show (0 : Int) < t; omega
      rw [findR_next, show ((1 : Nat) : Int) = 1 from rfl, h1, if_pos]
      show (true && (([] : List Int).length : Int) == 0 && decide (t > (findR d 1).2)) = true
      rw [decide_eq_true (by omega)]; rfl
  refine ⟨hR, ?_⟩
  unfold findP
  rw [hR, if_pos (show t > 0 by omega)]
  show findGo d r 0 600 = _
  exact find_go hd hw h.r01 rs 600 0 1 n [] rfl rfl (by omega) (by omega) h.chain h.stop (by omega)

/-! ### what was told leaves the disk up -/
theorem call_down {d : Dk} (h : callE d = 0) : d.call.down = false := by
  unfold callE at h
  split at h
  · cases h
  · rename_i hd
    show (d.down || d.left == 0) = false
    simpa using hd
theorem flush_down {d : Dk} (h : flushE d = 0) : d.flush.down = false := by
  rw [flush0 h]
  exact call_down (flushE0 h).2
theorem clearGo_down {r : Int} : ∀ (m : Nat) (d : Dk) (k : Int), (clearGo d r k m).2 = 0 → (clearGo d r k m).1.down = false
  | 0, d, k, h => flush_down h
  | m + 1, d, k, h => by
    rw [clearGo] at h ⊢
    split at h
    · rename_i he
      exact absurd h (ne0.1 he)
    · rename_i he
      rw [if_neg he]
      exact clearGo_down m _ _ h
theorem clearM_down {d : Dk} {r a : Int} (h : (clearM d r a).2 = 0) : (clearM d r a).1.down = false := clearGo_down _ _ _ h
theorem putEnd_down {p kind id : Int} {b : List Int} {d : Dk} (h : (putEnd d p kind id b).2 = 0) : (putEnd d p kind id b).1.down = false := by
  unfold putEnd at h ⊢
  split at h
  · rename_i he
    exact absurd h (ne0.1 he)
  split at h
  · rename_i he
    exact absurd h (ne0.1 he)
  · rename_i h1 h2
    rw [if_neg h1, if_neg h2]
    exact flush_down h
theorem putGo_down {p kind id : Int} {b : List Int} : ∀ (m : Nat) (d : Dk) (j : Nat), (putGo d p kind id b j m).2 = 0 → (putGo d p kind id b j m).1.down = false
  | 0, d, j, h => putEnd_down h
  | m + 1, d, j, h => by
    rw [putGo] at h ⊢
    split at h
    · rename_i he
      exact absurd h (ne0.1 he)
    · rename_i he
      rw [if_neg he]
      exact putGo_down m _ _ h
theorem putM_down {d : Dk} {r a kind id : Int} {b : List Int} (h : (putM d r a kind id b).2 = 0) : (putM d r a kind id b).1.down = false := putGo_down _ _ _ h
theorem DkB.still {d : Dk} (hd : d.kept.length ≤ 512) (hw : d.wait = []) : DkB d 0 := ⟨hd, by rw [hw]; exact Nat.le_refl _, fun k hk => by rw [hw] at hk; exact absurd hk (Nat.not_lt_zero _)⟩

/-! ### the states of a log -/
structure Good (l : Lg) : Prop where
  wait : l.d.wait = []
  len : l.d.kept.length ≤ 512
  y : DkY l.d
  down : l.d.down = false
  br : l.broken = false
  half : 4 ≤ halfOf l.d
  lay : Lay (cont l.d) (halfOf l.d) l.region l.turn l.recs l.next
  tail : ∀ i, l.next ≤ i → i < halfOf l.d → cont l.d (l.region * halfOf l.d + i) = zeroS
/-- A log that came of a disk. -/
structure Came (d : Dk) (l : Lg) (r t : Int) (rs : List (List Int)) (n : Int) : Prop where
  good : Good l
  region : l.region = r
  turn : l.turn = t
  recs : l.recs = rs
  next : l.next = n
  len : l.d.kept.length = d.kept.length
  same : ∀ i : Int, 0 ≤ i → ¬ (r * halfOf d ≤ i ∧ i < r * halfOf d + halfOf d) → cont l.d i = cont d i
/-- What stands there after a restart. -/
def After (d : Dk) (P : (Int → Sec) → Prop) : Prop := ∀ a t b, P (cont (d.restart a t b))
theorem Safe.after {d : Dk} {m : Nat} (hB : DkB d m) {Q : Int → Sec → Prop} {P : (Int → Sec) → Prop} (h : Safe d Q) (hP : ∀ c : Int → Sec, (∀ i : Int, 0 ≤ i → i < d.kept.length → Q i (c i)) → P c) : After d P := fun a t b =>
  hP _ fun i h0 h1 => by
    have e : cont (d.restart a t b) i = getS (d.restart a t b).kept i.toNat := cont_still rfl i
    rw [e]
    exact (h.restart hB a t b).kept i h0 (by rw [show (d.restart a t b).kept.length = d.kept.length from keptR_len ..]; exact h1)
theorem After.mono {d : Dk} {P R : (Int → Sec) → Prop} (h : After d P) (hPR : ∀ c, P c → R c) : After d R := fun a t b => hPR _ (h a t b)

/-! ### what a layout stands on -/
theorem two_half {d : Dk} (hd : d.kept.length ≤ 512) : 2 * halfOf d ≤ d.kept.length := by have := half_in hd; omega
theorem lay_keep {c e : Int → Sec} {h r t n : Int} {rs : List (List Int)} (l : Lay c h r t rs n) (he : ∀ i : Int, 0 ≤ i → i < 2 * h → i < r * h + n ∨ r * h + h ≤ i → e i = c i) (hs : n < h → Dead (e (r * h + n))) : Lay e h r t rs n := by
  have hr := l.r01
  have hle := l.le
  have key : ∀ i, 0 ≤ i → i < h → i < n → e (r * h + i) = c (r * h + i) := by
    intro i h0 h1 h2
    rcases (show r = 0 ∨ r = 1 by omega) with rfl | rfl
    · exact he _ (by omega) (by omega) (by omega)
    · exact he _ (by omega) (by omega) (by omega)
  refine ⟨l.r01, l.t32, ?_, ?_, l.some, hs, ?_⟩
  · have := key 0 (by omega) (by omega) (by omega)
    rw [Int.add_zero] at this
    rw [this]; exact l.head
  · refine chain_congr l.chain fun i h1 h2 => ?_
    have := key (i - r * h) (by omega) (by omega) (by omega)
    rwa [show r * h + (i - r * h) = i by omega] at this
  · have : e ((1 - r) * h) = c ((1 - r) * h) := by
      rcases (show r = 0 ∨ r = 1 by omega) with rfl | rfl
      · exact he _ (by omega) (by omega) (.inr (by omega))
      · exact he _ (by omega) (by omega) (.inl (by omega))
    rw [this]; exact l.low
theorem lay_snoc {c e : Int → Sec} {h r t n : Int} {rs : List (List Int)} {b : List Int} (l : Lay c h r t rs n) (ht : ∀ i, n ≤ i → i < h → c (r * h + i) = zeroS) (hb : b.length ≤ 16384) (hf : n + 1 + (secsN b.length : Int) ≤ h)
    (h1 : e (r * h + n) = headS 2 (rs.length : Int) b) (h2 : ∀ i : Int, 0 ≤ i → i < 2 * h → i ≠ r * h + n → e i = bodyC c (r * h + n) b i) : Lay e h r t (rs ++ [b]) (n + 1 + (secsN b.length : Int)) := by
  have hr := l.r01
  have hle := l.le
  have key : ∀ i, 0 ≤ i → i < h → i < n → e (r * h + i) = c (r * h + i) := by
    intro i h0 h1 h3
    rw [h2 _ (by rcases (show r = 0 ∨ r = 1 by omega) with rfl | rfl <;> omega) (by rcases (show r = 0 ∨ r = 1 by omega) with rfl | rfl <;> omega) (by omega)]
    unfold bodyC
    rw [if_neg (by omega)]
  refine ⟨l.r01, l.t32, ?_, ?_, by simp, fun hn => ?_, ?_⟩
  · have := key 0 (by omega) (by omega) (by omega)
    rw [Int.add_zero] at this
    rw [this]; exact l.head
  · refine chain_snoc (chain_congr l.chain fun i h1 h3 => ?_) ⟨by rw [Nat.zero_add]; exact h1, fun j hj => ?_, hb, hf⟩
    · have := key (i - r * h) (by omega) (by omega) (by omega)
      rwa [show r * h + (i - r * h) = i by omega] at this
    · rw [h2 _ (by rcases (show r = 0 ∨ r = 1 by omega) with rfl | rfl <;> omega) (by rcases (show r = 0 ∨ r = 1 by omega) with rfl | rfl <;> omega) (by omega)]
      unfold bodyC
      rw [if_pos (by omega), show (r * h + n + 1 + (j : Int) - (r * h + n) - 1).toNat = j by omega]
  · rw [h2 _ (by rcases (show r = 0 ∨ r = 1 by omega) with rfl | rfl <;> omega) (by rcases (show r = 0 ∨ r = 1 by omega) with rfl | rfl <;> omega) (by omega)]
    unfold bodyC
    rw [if_neg (by omega), ht _ (by omega) hn]
    exact zero_dead
  · have : e ((1 - r) * h) = c ((1 - r) * h) := by
      rw [h2 _ (by rcases (show r = 0 ∨ r = 1 by omega) with rfl | rfl <;> omega) (by rcases (show r = 0 ∨ r = 1 by omega) with rfl | rfl <;> omega) (by rcases (show r = 0 ∨ r = 1 by omega) with rfl | rfl <;> omega)]
      unfold bodyC
      rw [if_neg (by rcases (show r = 0 ∨ r = 1 by omega) with rfl | rfl <;> omega)]
    rw [this]; exact l.low

/-! ### opening -/
theorem open_lay {d : Dk} {r t n : Int} {rs : List (List Int)} (hw : d.wait = []) (hd : d.kept.length ≤ 512) (hY : DkY d) (hn : d.down = false) (h4 : 4 ≤ halfOf d) (h : Lay (cont d) (halfOf d) r t rs n) :
    openM d = (⟨(clearM d r n).1, r, t, n, rs, false⟩, (clearM d r n).2) := by
  obtain ⟨hR, hP⟩ := find_lay hd hn h4 h
  have hs : ((findP d).1.length : Int) > 0 := by
    rw [hP]
    have := h.some
    show (rs.length : Int) > 0
    have : rs.length ≠ 0 := fun h0 => this (List.eq_nil_of_length_eq_zero h0)
    omega
  rw [openM_old (by omega) hn hs]
  unfold findM
  rw [show (log0 d).d = d from rfl, hR, hP]
  rfl
theorem open_came {d : Dk} {r t n : Int} {rs : List (List Int)} (hw : d.wait = []) (hd : d.kept.length ≤ 512) (hY : DkY d) (hn : d.down = false) (h4 : 4 ≤ halfOf d) (h : Lay (cont d) (halfOf d) r t rs n) :
    ((openM d).2 = 0 → Came d (openM d).1 r t rs n) ∧ ((openM d).2 ≠ 0 → After (openM d).1.d (fun c => Lay c (halfOf d) r t rs n)) := by
  have hh := half_in hd
  have hle := h.le
  have hr := h.r01
  have hB := DkB.still hd hw
  have hl : (clearM d r n).1.kept.length = d.kept.length := clearM_len ..
  have hy : DkY (clearM d r n).1 := DkY.clearGo hY
  have hb2 : DkB (clearM d r n).1 (0 + (halfOf d - n).toNat) := DkB.clearGo hB
  rw [open_lay hw hd hY hn h4 h]
  obtain ⟨h1, h2⟩ := clearM_spec (Q := fun i s => if i = r * halfOf d + n ∧ n < halfOf d then Dead s else if r * halfOf d + n < i ∧ i < r * halfOf d + halfOf d then True else s = cont d i) (r := r) (k := n) hr hB (by omega)
    (Safe.of hw fun i h0 h1 => by
      show if _ then _ else _
      split
      · rename_i hi
        rw [hi.1]; exact h.stop hi.2
      · split
        · trivial
        · rfl)
    (fun j h1 h2 => by
      refine ⟨?_, fun s m hs => ?_⟩
      · show if _ then _ else _
        split
        · exact zero_dead
        · rw [if_pos (by omega)]; trivial
      · replace hs : if _ then _ else _ := hs
        show if _ then _ else _
        split
        · rename_i hi
          rw [if_pos hi] at hs
          exact dead_tear hs m
        · rw [if_pos (by omega)]; trivial)
  refine ⟨fun he => ?_, fun _ => ?_⟩
  · obtain ⟨h3, h4'⟩ := h2 he
    have hhl : halfOf (clearM d r n).1 = halfOf d := half_len hl
    refine ⟨⟨h3, by rw [hl]; exact hd, hy, clearM_down he, rfl, by rw [hhl]; exact h4, ?_, ?_⟩, rfl, rfl, rfl, rfl, hl, ?_⟩
    · show Lay (cont (clearM d r n).1) (halfOf (clearM d r n).1) r t rs n
      rw [hhl]
      refine lay_keep h (fun i h0 h1 hi => ?_) fun hx => ?_
      · rw [h4' i h0, if_neg (by omega)]
      · rw [h4' _ (by rcases (show r = 0 ∨ r = 1 by omega) with rfl | rfl <;> omega), if_pos (by omega)]
        exact zero_dead
    · show ∀ i, n ≤ i → i < halfOf (clearM d r n).1 → cont (clearM d r n).1 (r * halfOf (clearM d r n).1 + i) = zeroS
      rw [hhl]
      intro i h5 h6
      rw [h4' _ (by rcases (show r = 0 ∨ r = 1 by omega) with rfl | rfl <;> omega), if_pos (by omega)]
    · intro i h0 hi
      show cont (clearM d r n).1 i = cont d i
      rw [h4' i h0, if_neg (by omega)]
  · refine h1.after hb2 fun c hc => ?_
    rw [hl] at hc
    have h2h := two_half hd
    refine lay_keep h (fun i h0 h3 hi => ?_) fun hx => ?_
    · have := hc i h0 (by omega)
      replace this : if _ then _ else _ := this
      rwa [if_neg (by omega), if_neg (by omega)] at this
    · have := hc (r * halfOf d + n) (by rcases (show r = 0 ∨ r = 1 by omega) with rfl | rfl <;> omega) (by rcases (show r = 0 ∨ r = 1 by omega) with rfl | rfl <;> omega)
      replace this : if _ then _ else _ := this
      rwa [if_pos ⟨rfl, hx⟩] at this
theorem open_two {d : Dk} {r t n : Int} {rs : List (List Int)} (hw : d.wait = []) (hd : d.kept.length ≤ 512) (hY : DkY d) (hn : d.down = false) (h4 : 4 ≤ halfOf d) (h : Lay (cont d) (halfOf d) r t rs n) (hf : d.fail = -1) : (openM d).2 = 0 ∨ (openM d).2 = 9 := by
  rw [open_lay hw hd hY hn h4 h]
  exact clearM_two h.r01 hd hf (by have := h.le; omega)
theorem open_calm {d : Dk} {r t n : Int} {rs : List (List Int)} (hw : d.wait = []) (hd : d.kept.length ≤ 512) (hY : DkY d) (h4 : 4 ≤ halfOf d) (h : Lay (cont d) (halfOf d) r t rs n) (hf : Calm d) : (openM d).2 = 0 ∧ Calm (openM d).1.d := by
  rw [open_lay hw hd hY hf.down h4 h]
  exact clearM_calm h.r01 hd hf (by have := h.le; omega)

/-! ### appending -/
theorem append_broken {l : Lg} {b : List Int} (h : l.broken = true) : appendM l b = (l, 11) := by unfold appendM; rw [if_pos h]
theorem append_long {l : Lg} {b : List Int} (h : l.broken = false) (h2 : (b.length : Int) > 16384) : appendM l b = (l, 12) := by unfold appendM; rw [if_neg (by rw [h]; decide), if_pos h2]
theorem Good.room {l : Lg} (g : Good l) {b : List Int} (hb : b.length ≤ 16384) : secsOf (b.length : Int) > IntKind.i64.wrap (halfOf l.d - l.next) ↔ ¬ l.next + 1 + (secsN b.length : Int) ≤ halfOf l.d := by
  have hh := half_in g.len
  have hle := g.lay.le
  rw [secs_eq b.length (by omega), wrap_i64_id (by omega)]
  omega
theorem append_full {l : Lg} {b : List Int} (g : Good l) (hb : b.length ≤ 16384) (hf : ¬ l.next + 1 + (secsN b.length : Int) ≤ halfOf l.d) : appendM l b = (l, 4) := by
  unfold appendM
  rw [if_neg (by rw [g.br]; decide), if_neg (by omega), if_pos ((g.room hb).2 hf)]
theorem append_eq {l : Lg} {b : List Int} (g : Good l) (hb : b.length ≤ 16384) (hf : l.next + 1 + (secsN b.length : Int) ≤ halfOf l.d) : appendM l b = if ((putM l.d l.region l.next 2 (l.recs.length : Int) b).2 != 0) = true then failM l (putM l.d l.region l.next 2 (l.recs.length : Int) b) else
    ({ l with d := (putM l.d l.region l.next 2 (l.recs.length : Int) b).1, next := l.next + 1 + (secsN b.length : Int), recs := l.recs ++ [b] }, 0) := by
  have hh := half_in g.len
  have hle := g.lay.le
  unfold appendM
  rw [if_neg (by rw [g.br]; decide), if_neg (by omega), if_neg (by rw [g.room hb]; omega), secs_eq b.length (by omega), wrap_i64_id (by omega), Int.add_assoc]
theorem append_came {l : Lg} {b : List Int} (g : Good l) (hb : b.length ≤ 16384) (hy : bytesOk b) (hf : l.next + 1 + (secsN b.length : Int) ≤ halfOf l.d) :
    ((appendM l b).2 = 0 → Came l.d (appendM l b).1 l.region l.turn (l.recs ++ [b]) (l.next + 1 + (secsN b.length : Int))) ∧
    ((appendM l b).2 ≠ 0 → (appendM l b).1.broken = true ∧ After (appendM l b).1.d (fun c => Lay c (halfOf l.d) l.region l.turn l.recs l.next ∨ Lay c (halfOf l.d) l.region l.turn (l.recs ++ [b]) (l.next + 1 + (secsN b.length : Int)))) := by
  have hd := g.len
  have hh := half_in g.len
  have hle := g.lay.le
  have hr := g.lay.r01
  have hB := DkB.still g.len g.wait
  have h2h := two_half g.len
  have hl : (putM l.d l.region l.next 2 (l.recs.length : Int) b).1.kept.length = l.d.kept.length := putM_len ..
  have hyy : DkY (putM l.d l.region l.next 2 (l.recs.length : Int) b).1 := DkY.putGo hy g.y
  have hb2 : DkB (putM l.d l.region l.next 2 (l.recs.length : Int) b).1 (0 + secsN b.length + 1) := DkB.putGo hB
  obtain ⟨h1, h2⟩ := putM_spec (Q := fun i s => if l.region * halfOf l.d + l.next < i ∧ i < l.region * halfOf l.d + halfOf l.d then True else s = cont l.d i)
    (R := fun i s => if i = l.region * halfOf l.d + l.next then HT (headS 2 (l.recs.length : Int) b) s else s = bodyC (cont l.d) (l.region * halfOf l.d + l.next) b i)
    (r := l.region) (a := l.next) (kind := 2) (id := (l.recs.length : Int)) (b := b) hr (by omega) hle.2 (by omega) hB
    (Safe.of g.wait fun i _ _ => by
      show if _ then _ else _
      split
      · trivial
      · rfl)
    (fun i hi => by
      refine ⟨?_, fun s m _ => ?_⟩ <;>
      · show if _ then _ else _
        rw [if_pos (by omega)]
        trivial)
    (fun i h0 h3 => by
      show if _ then _ else _
      split
      · rename_i hi
        rw [hi]
        unfold bodyC
        rw [if_neg (by omega), g.tail _ (Int.le_refl _) (by omega)]
        exact HT.zero _
      · rfl)
    (by
      refine ⟨?_, fun s m hs => ?_⟩
      · show if _ then _ else _
        rw [if_pos rfl]
        exact (HT.tq ..).1
      · replace hs : if _ then _ else _ := hs
        show if _ then _ else _
        rw [if_pos rfl] at hs ⊢
        exact (HT.tq ..).2 s m hs)
  rw [append_eq g hb hf]
  by_cases he : (putM l.d l.region l.next 2 (l.recs.length : Int) b).2 = 0
  · rw [if_neg (by rw [he]; decide)]
    refine ⟨fun _ => ?_, fun hx => absurd rfl hx⟩
    obtain ⟨h3, h4⟩ := h2 he
    have hhl : halfOf (putM l.d l.region l.next 2 (l.recs.length : Int) b).1 = halfOf l.d := half_len hl
    have hlay : Lay (cont (putM l.d l.region l.next 2 (l.recs.length : Int) b).1) (halfOf l.d) l.region l.turn (l.recs ++ [b]) (l.next + 1 + (secsN b.length : Int)) := by
      refine lay_snoc g.lay g.tail hb hf ?_ fun i h0 h5 hi => ?_
      · rw [h4 _ (by rcases (show l.region = 0 ∨ l.region = 1 by omega) with hx | hx <;> rw [hx] <;> omega)]
        unfold rowC
        rw [if_pos rfl]
      · rw [h4 _ h0]
        unfold rowC
        rw [if_neg hi]
    refine ⟨⟨h3, by show (putM l.d l.region l.next 2 (l.recs.length : Int) b).1.kept.length ≤ 512; rw [hl]; exact g.len, hyy, putM_down he, g.br, ?_, ?_, ?_⟩, rfl, rfl, rfl, rfl, hl, ?_⟩
    · show 4 ≤ halfOf (putM l.d l.region l.next 2 (l.recs.length : Int) b).1
      rw [hhl]; exact g.half
    · show Lay (cont (putM l.d l.region l.next 2 (l.recs.length : Int) b).1) (halfOf (putM l.d l.region l.next 2 (l.recs.length : Int) b).1) l.region l.turn (l.recs ++ [b]) (l.next + 1 + (secsN b.length : Int))
      rw [hhl]; exact hlay
    · show ∀ i, l.next + 1 + (secsN b.length : Int) ≤ i → i < halfOf (putM l.d l.region l.next 2 (l.recs.length : Int) b).1 → cont (putM l.d l.region l.next 2 (l.recs.length : Int) b).1 (l.region * halfOf (putM l.d l.region l.next 2 (l.recs.length : Int) b).1 + i) = zeroS
      rw [hhl]
      intro i h5 h6
      rw [h4 _ (by rcases (show l.region = 0 ∨ l.region = 1 by omega) with hx | hx <;> rw [hx] <;> omega)]
      unfold rowC bodyC
      rw [if_neg (by omega), if_neg (by omega)]
      exact g.tail i (by omega) h6
    · intro i h0 hi
      show cont (putM l.d l.region l.next 2 (l.recs.length : Int) b).1 i = cont l.d i
      rw [h4 i h0]
      unfold rowC bodyC
      rw [if_neg (by omega), if_neg (by omega)]
  · rw [if_pos (ne0.2 he)]
    refine ⟨fun hx => absurd hx he, fun _ => ⟨?_, ?_⟩⟩
    · show (l.broken || (putM l.d l.region l.next 2 (l.recs.length : Int) b).2 != 0) = true
      rw [ne0.2 he, Bool.or_true]
    · show After (putM l.d l.region l.next 2 (l.recs.length : Int) b).1 _
      rcases h1 he with hS | hS
      · refine hS.after hb2 fun c hc => .inl ?_
        rw [hl] at hc
        have key : ∀ i, 0 ≤ i → i < 2 * halfOf l.d → ¬ (l.region * halfOf l.d + l.next < i ∧ i < l.region * halfOf l.d + halfOf l.d) → c i = cont l.d i := by
          intro i h0 h3 hi
          have := hc i h0 (by omega)
          replace this : if _ then _ else _ := this
          rwa [if_neg hi] at this
        refine lay_keep g.lay (fun i h0 h3 hi => key i h0 h3 (by omega)) fun hx => ?_
        rw [key _ (by rcases (show l.region = 0 ∨ l.region = 1 by omega) with hx | hx <;> rw [hx] <;> omega) (by rcases (show l.region = 0 ∨ l.region = 1 by omega) with hx | hx <;> rw [hx] <;> omega) (by omega)]
        exact g.lay.stop hx
      · refine hS.after hb2 fun c hc => ?_
        rw [hl] at hc
        have hp := hc (l.region * halfOf l.d + l.next) (by rcases (show l.region = 0 ∨ l.region = 1 by omega) with hx | hx <;> rw [hx] <;> omega) (by rcases (show l.region = 0 ∨ l.region = 1 by omega) with hx | hx <;> rw [hx] <;> omega)
        replace hp : if _ then _ else _ := hp
        rw [if_pos rfl] at hp
        have key : ∀ i, 0 ≤ i → i < 2 * halfOf l.d → i ≠ l.region * halfOf l.d + l.next → c i = bodyC (cont l.d) (l.region * halfOf l.d + l.next) b i := by
          intro i h0 h3 hi
          have := hc i h0 (by omega)
          replace this : if _ then _ else _ := this
          rwa [if_neg hi] at this
        rcases hp.2 with hx | hx
        · refine .inl (lay_keep g.lay (fun i h0 h3 hi => ?_) fun _ => hx)
          rw [key i h0 h3 (by omega)]
          unfold bodyC
          rw [if_neg (by omega)]
        · exact .inr (lay_snoc g.lay g.tail hb hf hx key)
theorem append_two {l : Lg} {b : List Int} (g : Good l) (hb : b.length ≤ 16384) (hf : l.next + 1 + (secsN b.length : Int) ≤ halfOf l.d) (hx : l.d.fail = -1) : (appendM l b).2 = 0 ∨ (appendM l b).2 = 9 := by
  have hle := g.lay.le
  rw [append_eq g hb hf]
  split
  · exact putM_two g.len g.lay.r01 (by omega) (by omega) (by rw [secs_eq b.length (by omega)]; omega) hx
  · exact .inl rfl
theorem append_calm {l : Lg} {b : List Int} (g : Good l) (hb : b.length ≤ 16384) (hf : l.next + 1 + (secsN b.length : Int) ≤ halfOf l.d) (hx : Calm l.d) : (appendM l b).2 = 0 ∧ Calm (appendM l b).1.d := by
  have hle := g.lay.le
  have h := putM_calm (kind := 2) (id := (l.recs.length : Int)) g.len g.lay.r01 (show 0 ≤ l.next by omega) (show b.length ≤ 20000 by omega) (by rw [secs_eq b.length (by omega)]; omega) hx
  rw [append_eq g hb hf, if_neg (by rw [h.1]; decide)]
  exact ⟨rfl, h.2⟩

/-- What may stand on the disk while the other region is laid: that region's head is of no turn that far; the rest of the disk is as it was. -/
def BegQ (c : Int → Sec) (h o t : Int) (i : Int) (s : Sec) : Prop := if i = o * h then Low t s else if o * h < i ∧ i < o * h + h then True else s = c i
theorem begQ_zero {c : Int → Sec} {h o t i : Int} (h1 : o * h ≤ i) (h2 : i < o * h + h) : TQ (BegQ c h o t) i zeroS := by
  refine ⟨?_, fun s m hs => ?_⟩
  · show if _ then _ else _
    split
    · exact low_tq.1
    · rw [if_pos (by omega)]; trivial
  · replace hs : if _ then _ else _ := hs
    show if _ then _ else _
    split
    · rename_i hi
      rw [if_pos hi] at hs
      exact low_tq.2 s m hs
    · rw [if_pos (by omega)]; trivial
theorem begQ_in {c : Int → Sec} {h o t i : Int} (x : Sec) (h1 : o * h < i) (h2 : i < o * h + h) : TQ (BegQ c h o t) i x := by
  refine ⟨?_, fun s m _ => ?_⟩ <;>
  · show if _ then _ else _
    rw [if_neg (by omega), if_pos (by omega)]; trivial
/-- What a log must be to begin. -/
structure BegR (l : Lg) : Prop where
  wait : l.d.wait = []
  len : l.d.kept.length ≤ 512
  y : DkY l.d
  br : l.broken = false
  half : 4 ≤ halfOf l.d
  r01 : 0 ≤ l.region ∧ l.region ≤ 1
  turn : 0 ≤ l.turn ∧ l.turn < 4294967295
  other : Low l.turn (cont l.d ((1 - l.region) * halfOf l.d))
  mine : Low (l.turn + 1) (cont l.d (l.region * halfOf l.d))
theorem begin_broken {l : Lg} {b : List Int} (h : l.broken = true) : beginM l b = (l, 11) := by unfold beginM; rw [if_pos h]
theorem begin_long {l : Lg} {b : List Int} (h : l.broken = false) (h2 : (b.length : Int) > 16384) : beginM l b = (l, 12) := by unfold beginM; rw [if_neg (by rw [h]; decide), if_pos h2]
theorem beg_room {b : List Int} (hb : b.length ≤ 16384) : IntKind.i64.wrap (1 + secsOf (b.length : Int)) = 2 + (secsN b.length : Int) := by
  have hsn : 64 * secsN b.length ≤ b.length + 63 := by unfold secsN; omega
  rw [secs_eq b.length (by omega), wrap_i64_id (by omega)]
  omega
theorem begin_full {l : Lg} {b : List Int} (h : l.broken = false) (hb : b.length ≤ 16384) (hf : ¬ 2 + (secsN b.length : Int) ≤ halfOf l.d) : beginM l b = (l, 4) := by
  unfold beginM
  rw [if_neg (by rw [h]; decide), if_neg (by omega), if_pos (by rw [beg_room hb]; omega)]
theorem begin_eq {l : Lg} {b : List Int} (g : BegR l) (hb : b.length ≤ 16384) (hf : 2 + (secsN b.length : Int) ≤ halfOf l.d) : beginM l b =
    if ((begA l).2 != 0) = true then failM l (begA l) else if ((begB l b).2 != 0) = true then failM l (begB l b) else if ((begC l b).2 != 0) = true then failM l (begC l b) else
    (⟨(begC l b).1, 1 - l.region, l.turn + 1, 2 + (secsN b.length : Int), [b], l.broken⟩, 0) := by
  have h1 := g.r01
  have h2 := g.turn
  unfold beginM
  rw [if_neg (by rw [g.br]; decide), if_neg (by omega), if_neg (by rw [beg_room hb]; omega), beg_room hb, wrap_i64_id (n := 1 - l.region) (by omega), wrap_i64_id (n := l.turn + 1) (by omega)]
theorem begA_eq {l : Lg} (g : BegR l) : begA l = clearM l.d (1 - l.region) 0 := by
  have h1 := g.r01
  unfold begA
  rw [wrap_i64_id (by omega)]
theorem begB_eq {l : Lg} (g : BegR l) (b : List Int) : begB l b = putM (begA l).1 (1 - l.region) 1 2 0 b := by
  have h1 := g.r01
  unfold begB
  rw [wrap_i64_id (by omega)]
theorem begC_eq {l : Lg} (g : BegR l) (b : List Int) : begC l b = putM (begB l b).1 (1 - l.region) 0 1 (l.turn + 1) [] := by
  have h1 := g.r01
  have h2 := g.turn
  unfold begC
  rw [wrap_i64_id (n := 1 - l.region) (by omega), wrap_i64_id (by omega)]
/-- What stands there when a region was cleared. -/
def clrC (c : Int → Sec) (p h : Int) (i : Int) : Sec := if p ≤ i ∧ i < p + h then zeroS else c i
/-- What stands in the other region behind all of it. -/
theorem begin_lay {c e : Int → Sec} {h o t : Int} {b : List Int} (ho : 0 ≤ o ∧ o ≤ 1) (ht : 0 ≤ t ∧ t < 4294967295) (hb : b.length ≤ 16384) (hf : 2 + (secsN b.length : Int) ≤ h) (hm : Low (t + 1) (c ((1 - o) * h)))
    (h0 : e (o * h) = headS 1 (t + 1) []) (h1 : ∀ i : Int, 0 ≤ i → i < 2 * h → i ≠ o * h → e i = rowC (clrC c (o * h) h) (o * h + 1) 2 0 b i) :
    Lay e h o (t + 1) [b] (2 + (secsN b.length : Int)) := by
  refine ⟨ho, ⟨by omega, by omega⟩, h0, ⟨⟨?_, fun j hj => ?_, hb, by omega⟩, (by omega : 2 + (secsN b.length : Int) = 1 + 1 + (secsN b.length : Int))⟩, by simp, fun hx => ?_, ?_⟩
  · rw [h1 _ (by rcases (show o = 0 ∨ o = 1 by omega) with rfl | rfl <;> omega) (by rcases (show o = 0 ∨ o = 1 by omega) with rfl | rfl <;> omega) (by omega)]
    unfold rowC
    rw [if_pos rfl]
    rfl
  · rw [h1 _ (by rcases (show o = 0 ∨ o = 1 by omega) with rfl | rfl <;> omega) (by rcases (show o = 0 ∨ o = 1 by omega) with rfl | rfl <;> omega) (by omega)]
    unfold rowC bodyC
    rw [if_neg (by omega), if_pos (by omega), show (o * h + 1 + 1 + (j : Int) - (o * h + 1) - 1).toNat = j by omega]
  · rw [h1 _ (by rcases (show o = 0 ∨ o = 1 by omega) with rfl | rfl <;> omega) (by rcases (show o = 0 ∨ o = 1 by omega) with rfl | rfl <;> omega) (by omega)]
    unfold rowC bodyC clrC
    rw [if_neg (by omega), if_neg (by omega), if_pos (by omega)]
    exact zero_dead
  · have : e ((1 - o) * h) = c ((1 - o) * h) := by
      rw [h1 _ (by rcases (show o = 0 ∨ o = 1 by omega) with rfl | rfl <;> omega) (by rcases (show o = 0 ∨ o = 1 by omega) with rfl | rfl <;> omega) (by rcases (show o = 0 ∨ o = 1 by omega) with rfl | rfl <;> omega)]
      unfold rowC bodyC clrC
      rw [if_neg (by rcases (show o = 0 ∨ o = 1 by omega) with rfl | rfl <;> omega), if_neg (by rcases (show o = 0 ∨ o = 1 by omega) with rfl | rfl <;> omega), if_neg (by rcases (show o = 0 ∨ o = 1 by omega) with rfl | rfl <;> omega)]
    rw [this]; exact hm
theorem begin_came {l : Lg} {b : List Int} (g : BegR l) (hb : b.length ≤ 16384) (hy : bytesOk b) (hf : 2 + (secsN b.length : Int) ≤ halfOf l.d) {P : (Int → Sec) → Prop}
    (hP : ∀ e : Int → Sec, (∀ i : Int, 0 ≤ i → i < 2 * halfOf l.d → BegQ (cont l.d) (halfOf l.d) (1 - l.region) l.turn i (e i)) → P e) :
    ((beginM l b).2 = 0 → Came l.d (beginM l b).1 (1 - l.region) (l.turn + 1) [b] (2 + (secsN b.length : Int))) ∧
    ((beginM l b).2 ≠ 0 → (beginM l b).1.broken = true ∧ After (beginM l b).1.d (fun c => P c ∨ Lay c (halfOf l.d) (1 - l.region) (l.turn + 1) [b] (2 + (secsN b.length : Int)))) := by
  have hh := half_in g.len
  have h4 := g.half
  have hr := g.r01
  have ht := g.turn
  have h2h := two_half g.len
  have hB := DkB.still g.len g.wait
  have ho : 0 ≤ 1 - l.region ∧ 1 - l.region ≤ 1 := by omega
  have eA := begA_eq g
  have eB := begB_eq g b
  have eC := begC_eq g b
  have lA : (begA l).1.kept.length = l.d.kept.length := by rw [eA]; exact clearM_len ..
  have lB : (begB l b).1.kept.length = l.d.kept.length := by rw [eB, putM_len, lA]
  have lC : (begC l b).1.kept.length = l.d.kept.length := by rw [eC, putM_len, lB]
  have hA : halfOf (begA l).1 = halfOf l.d := half_len lA
  have hBh : halfOf (begB l b).1 = halfOf l.d := half_len lB
  have hCh : halfOf (begC l b).1 = halfOf l.d := half_len lC
  have bA : DkB (begA l).1 (0 + (halfOf l.d - 0).toNat) := by rw [eA]; exact DkB.clearGo hB
  have bB : DkB (begB l b).1 (0 + (halfOf l.d - 0).toNat + secsN b.length + 1) := by rw [eB]; exact DkB.putGo bA
  have bC : DkB (begC l b).1 (0 + (halfOf l.d - 0).toNat + secsN b.length + 1 + secsN 0 + 1) := by rw [eC]; exact DkB.putGo bB
  have yA : DkY (begA l).1 := by rw [eA]; exact DkY.clearGo g.y
  have yB : DkY (begB l b).1 := by rw [eB]; exact DkY.putGo hy yA
  have yC : DkY (begC l b).1 := by rw [eC]; exact DkY.putGo (fun x hx => by cases hx) yB
  have r0 : 0 ≤ (1 - l.region) * halfOf l.d ∧ (1 - l.region) * halfOf l.d + halfOf l.d ≤ 2 * halfOf l.d := by rcases (show l.region = 0 ∨ l.region = 1 by omega) with hx | hx <;> rw [hx] <;> omega
  have old : ∀ (d : Dk) (m : Nat), DkB d m → d.kept.length = l.d.kept.length → Safe d (BegQ (cont l.d) (halfOf l.d) (1 - l.region) l.turn) → After d (fun c => P c ∨ Lay c (halfOf l.d) (1 - l.region) (l.turn + 1) [b] (2 + (secsN b.length : Int))) := fun d m hb hl hs =>
    hs.after hb fun c hc => .inl (hP c fun i h0 h1 => hc i h0 (by rw [hl]; omega))
  obtain ⟨sA, cA⟩ := clearM_spec (Q := BegQ (cont l.d) (halfOf l.d) (1 - l.region) l.turn) (r := 1 - l.region) (k := 0) ho hB (Int.le_refl 0)
    (Safe.of g.wait fun i _ _ => by
      show if _ then _ else _
      split
      · rename_i hi
        rw [hi]; exact g.other
      · split
        · trivial
        · rfl)
    (fun j h1 h2 => begQ_zero (by omega) (by omega))
  rw [← eA] at sA cA
  rw [begin_eq g hb hf]
  by_cases heA : (begA l).2 = 0
  case neg =>
    rw [if_pos (ne0.2 heA)]
    refine ⟨fun hx => absurd hx heA, fun _ => ⟨?_, old _ _ bA lA sA⟩⟩
    show (l.broken || (begA l).2 != 0) = true
    rw [ne0.2 heA, Bool.or_true]
  obtain ⟨wA, cA⟩ := cA heA
  rw [if_neg (by rw [heA]; decide)]
  obtain ⟨sB, cB⟩ := putM_spec (Q := BegQ (cont l.d) (halfOf l.d) (1 - l.region) l.turn) (R := BegQ (cont l.d) (halfOf l.d) (1 - l.region) l.turn) (r := 1 - l.region) (a := 1) (kind := 2) (id := 0) (b := b) ho (by omega) (by rw [hA]; omega) (by omega) bA sA
    (fun i hi => by rw [hA]; exact begQ_in _ (by omega) (by omega))
    (fun i h0 h1 => by
      rw [hA]
      by_cases hi : (1 - l.region) * halfOf l.d < i ∧ i < (1 - l.region) * halfOf l.d + halfOf l.d
      · exact (begQ_in _ hi.1 hi.2).1
      · unfold bodyC
        rw [if_neg (by omega), cA i h0]
        by_cases hi2 : i = (1 - l.region) * halfOf l.d
        · rw [if_pos (by omega), hi2]
          exact (begQ_zero (Int.le_refl _) (by omega)).1
        · rw [if_neg (by omega)]
          show if _ then _ else _
          rw [if_neg hi2, if_neg hi])
    (by rw [hA]; exact begQ_in _ (by omega) (by omega))
  rw [← eB] at sB cB
  rw [hA] at cB
  by_cases heB : (begB l b).2 = 0
  case neg =>
    rw [if_pos (ne0.2 heB)]
    refine ⟨fun hx => absurd hx heB, fun _ => ⟨?_, old _ _ bB lB ((sB heB).elim id id)⟩⟩
    show (l.broken || (begB l b).2 != 0) = true
    rw [ne0.2 heB, Bool.or_true]
  obtain ⟨wB, cB⟩ := cB heB
  rw [if_neg (by rw [heB]; decide)]
  have cB' : ∀ i : Int, 0 ≤ i → cont (begB l b).1 i = rowC (clrC (cont l.d) ((1 - l.region) * halfOf l.d) (halfOf l.d)) ((1 - l.region) * halfOf l.d + 1) 2 0 b i := by
    intro i h0
    rw [cB i h0]
    unfold rowC bodyC clrC
    rw [cA i h0]
    simp only [Int.add_zero]
  have cB0 : cont (begB l b).1 ((1 - l.region) * halfOf l.d) = zeroS := by
    rw [cB' _ r0.1]
    unfold rowC bodyC clrC
    rw [if_neg (by omega), if_neg (by omega), if_pos (by omega)]
  have cBo : ∀ i : Int, 0 ≤ i → ¬ ((1 - l.region) * halfOf l.d ≤ i ∧ i < (1 - l.region) * halfOf l.d + halfOf l.d) → cont (begB l b).1 i = cont l.d i := by
    intro i h0 hi
    rw [cB' _ h0]
    unfold rowC bodyC clrC
    rw [if_neg (by omega), if_neg (by omega), if_neg hi]
  have s0 : secsN ([] : List Int).length = 0 := rfl
  have sB2 : Safe (begB l b).1 (BegQ (cont l.d) (halfOf l.d) (1 - l.region) l.turn) := Safe.of wB fun i h0 h1 => by
    show if _ then _ else _
    split
    · rename_i hi
      rw [hi, cB0]; exact low_tq.1
    · split
      · trivial
      · exact cBo i h0 (by omega)
  obtain ⟨sC, cC⟩ := putM_spec (Q := BegQ (cont l.d) (halfOf l.d) (1 - l.region) l.turn) (R := fun i s => if i = (1 - l.region) * halfOf l.d then HT (headS 1 (l.turn + 1) []) s ∧ secOk s else s = cont (begB l b).1 i) (r := 1 - l.region) (a := 0) (kind := 1) (id := l.turn + 1) (b := []) ho (Int.le_refl 0) (by rw [hBh]; omega) (by decide) bB sB2
    (fun i hi => by omega)
    (fun i h0 h1 => by
      rw [hBh]
      show if _ then _ else _
      have e : bodyC (cont (begB l b).1) ((1 - l.region) * halfOf l.d + 0) [] i = cont (begB l b).1 i := by unfold bodyC; rw [s0, if_neg (by omega)]
      rw [e]
      split
      · rename_i hi
        rw [hi, cB0]
        exact ⟨HT.zero _, zero_ok⟩
      · rfl)
    (by
      rw [hBh, Int.add_zero]
      refine ⟨?_, fun s m hs => ?_⟩
      · show if _ then _ else _
        rw [if_pos rfl]
        exact ⟨(HT.tq ..).1, headS_ok _ _ _⟩
      · replace hs : if _ then _ else _ := hs
        show if _ then _ else _
        rw [if_pos rfl] at hs ⊢
        exact ⟨(HT.tq ..).2 s m hs.1, tear_ok hs.2 (headS_ok _ _ _) m⟩)
  rw [← eC] at sC cC
  rw [hBh, Int.add_zero] at cC
  by_cases heC : (begC l b).2 = 0
  case neg =>
    rw [if_pos (ne0.2 heC)]
    refine ⟨fun hx => absurd hx heC, fun _ => ⟨?_, ?_⟩⟩
    · show (l.broken || (begC l b).2 != 0) = true
      rw [ne0.2 heC, Bool.or_true]
    · show After (begC l b).1 _
      rcases sC heC with hS | hS
      · exact old _ _ bC lC hS
      · refine hS.after bC fun c hc => ?_
        rw [lC] at hc
        have hp := hc ((1 - l.region) * halfOf l.d) r0.1 (by omega)
        replace hp : if _ then _ else _ := hp
        rw [if_pos rfl] at hp
        have key : ∀ i, 0 ≤ i → i < 2 * halfOf l.d → i ≠ (1 - l.region) * halfOf l.d → c i = cont (begB l b).1 i := by
          intro i h0 h3 hi
          have := hc i h0 (by omega)
          replace this : if _ then _ else _ := this
          rwa [if_neg hi] at this
        rcases hp.1.2 with hx | hx
        · refine .inl (hP c fun i h0 h3 => ?_)
          show if _ then _ else _
          split
          · rename_i hi
            rw [hi]; exact ⟨hp.2, .inl hx⟩
          · split
            · trivial
            · rw [key i h0 h3 (by assumption)]
              exact cBo i h0 (by omega)
        · refine .inr (begin_lay (c := cont l.d) ho ht hb hf ?_ hx fun i h0 h3 hi => ?_)
          · rw [show 1 - (1 - l.region) = l.region by omega]; exact g.mine
          · rw [key i h0 h3 hi]; exact cB' i h0
  obtain ⟨wC, cC⟩ := cC heC
  rw [if_neg (by rw [heC]; decide)]
  refine ⟨fun _ => ?_, fun hx => absurd rfl hx⟩
  have cC2 : ∀ i : Int, 0 ≤ i → i ≠ (1 - l.region) * halfOf l.d → cont (begC l b).1 i = cont (begB l b).1 i := by
    intro i h0 hi
    rw [cC i h0]
    unfold rowC bodyC
    rw [if_neg hi, s0, if_neg (by omega)]
  have hlay : Lay (cont (begC l b).1) (halfOf l.d) (1 - l.region) (l.turn + 1) [b] (2 + (secsN b.length : Int)) := by
    refine begin_lay (c := cont l.d) ho ht hb hf (by rw [show 1 - (1 - l.region) = l.region by omega]; exact g.mine) ?_ fun i h0 h3 hi => ?_
    · rw [cC _ r0.1]
      unfold rowC
      rw [if_pos rfl]
    · rw [cC2 i h0 hi]; exact cB' i h0
  have dn : (begC l b).1.down = false := by
    rw [eC] at heC ⊢
    exact putM_down heC
  refine ⟨⟨wC, by show (begC l b).1.kept.length ≤ 512; rw [lC]; exact g.len, yC, dn, g.br, ?_, ?_, ?_⟩, rfl, rfl, rfl, rfl, lC, ?_⟩
  · show 4 ≤ halfOf (begC l b).1
    rw [hCh]; exact h4
  · show Lay (cont (begC l b).1) (halfOf (begC l b).1) (1 - l.region) (l.turn + 1) [b] (2 + (secsN b.length : Int))
    rw [hCh]; exact hlay
  · show ∀ i, 2 + (secsN b.length : Int) ≤ i → i < halfOf (begC l b).1 → cont (begC l b).1 ((1 - l.region) * halfOf (begC l b).1 + i) = zeroS
    rw [hCh]
    intro i h5 h6
    rw [cC2 _ (by omega) (by omega), cB' _ (by omega)]
    unfold rowC bodyC clrC
    rw [if_neg (by omega), if_neg (by omega), if_pos (by omega)]
  · intro i h0 hi
    show cont (begC l b).1 i = cont l.d i
    rw [cC2 i h0 (by omega), cBo i h0 hi]
theorem clearM_fail {d : Dk} {r a : Int} (h : d.fail = -1) : (clearM d r a).1.fail = -1 := by
  unfold clearM
  generalize (halfOf d - a).toNat = m
  induction m generalizing d a with
  | zero => exact flush_fail h
  | succ m ih =>
    rw [clearGo]
    split
    · exact write_fail h _ _
    · exact ih (write_fail h _ _)
theorem putEnd_fail {p kind id : Int} {b : List Int} {d : Dk} (h : d.fail = -1) : (putEnd d p kind id b).1.fail = -1 := by
  unfold putEnd
  split
  · exact flush_fail h
  split
  · exact write_fail (flush_fail h) _ _
  · exact flush_fail (write_fail (flush_fail h) _ _)
theorem putGo_fail {p kind id : Int} {b : List Int} : ∀ (m : Nat) (d : Dk) (j : Nat), d.fail = -1 → (putGo d p kind id b j m).1.fail = -1
  | 0, d, j, h => putEnd_fail h
  | m + 1, d, j, h => by
    rw [putGo]
    split
    · exact write_fail h _ _
    · exact putGo_fail m _ _ (write_fail h _ _)
theorem putM_fail {d : Dk} {r a kind id : Int} {b : List Int} (h : d.fail = -1) : (putM d r a kind id b).1.fail = -1 := putGo_fail _ _ _ h
theorem begin_two {l : Lg} {b : List Int} (g : BegR l) (hb : b.length ≤ 16384) (hf : 2 + (secsN b.length : Int) ≤ halfOf l.d) (hx : l.d.fail = -1) : (beginM l b).2 = 0 ∨ (beginM l b).2 = 9 := by
  have hr := g.r01
  have h4 := g.half
  have ho : 0 ≤ 1 - l.region ∧ 1 - l.region ≤ 1 := by omega
  have eA := begA_eq g
  have eB := begB_eq g b
  have eC := begC_eq g b
  have lA : (begA l).1.kept.length = l.d.kept.length := by rw [eA]; exact clearM_len ..
  have lB : (begB l b).1.kept.length = l.d.kept.length := by rw [eB, putM_len, lA]
  have fA : (begA l).1.fail = -1 := by rw [eA]; exact clearM_fail hx
  have fB : (begB l b).1.fail = -1 := by rw [eB]; exact putM_fail fA
  have hs := secs_eq b.length (by omega)
  rw [begin_eq g hb hf]
  split
  · rw [eA]; exact clearM_two ho g.len hx (Int.le_refl 0)
  split
  · rw [eB]; exact putM_two (by rw [lA]; exact g.len) ho (by omega) (by omega) (by rw [half_len lA]; omega) fA
  split
  · rw [eC]
    exact putM_two (by rw [lB]; exact g.len) ho (by omega) (by decide) (by rw [half_len lB, show secsOf (([] : List Int).length : Int) = 1 by decide]; omega) fB
  · exact .inl rfl
theorem begin_calm {l : Lg} {b : List Int} (g : BegR l) (hb : b.length ≤ 16384) (hf : 2 + (secsN b.length : Int) ≤ halfOf l.d) (hx : Calm l.d) : (beginM l b).2 = 0 ∧ Calm (beginM l b).1.d := by
  have hr := g.r01
  have h4 := g.half
  have ho : 0 ≤ 1 - l.region ∧ 1 - l.region ≤ 1 := by omega
  have eA := begA_eq g
  have eB := begB_eq g b
  have eC := begC_eq g b
  have lA : (begA l).1.kept.length = l.d.kept.length := by rw [eA]; exact clearM_len ..
  have lB : (begB l b).1.kept.length = l.d.kept.length := by rw [eB, putM_len, lA]
  have hs := secs_eq b.length (by omega)
  have cA := clearM_calm (k := 0) ho g.len hx (Int.le_refl 0)
  rw [← eA] at cA
  have cB := putM_calm (kind := 2) (id := 0) (a := 1) (b := b) (by rw [lA]; exact g.len) ho (by omega) (by omega) (by rw [half_len lA]; omega) cA.2
  rw [← eB] at cB
  have cC := putM_calm (kind := 1) (id := l.turn + 1) (a := 0) (b := []) (by rw [lB]; exact g.len) ho (by omega) (by decide) (by rw [half_len lB, show secsOf (([] : List Int).length : Int) = 1 by decide]; omega) cB.2
  rw [← eC] at cC
  rw [begin_eq g hb hf, if_neg (by rw [cA.1]; decide), if_neg (by rw [cB.1]; decide), if_neg (by rw [cC.1]; decide)]
  exact ⟨rfl, cC.2⟩
/-- A log that stands on its disk may begin. -/
theorem Good.beg {l : Lg} (g : Good l) (ht : l.turn < 4294967295) : BegR l := by
  have h := g.lay
  refine ⟨g.wait, g.len, g.y, g.br, g.half, h.r01, ⟨by have := h.t32; omega, ht⟩, h.low, ?_⟩
  rw [h.head]
  refine ⟨headS_ok _ _ _, .inr ?_⟩
  rw [oneI_head 1 [] ⟨by have := h.t32; omega, h.t32.2⟩]
  omega
theorem Good.kept {l : Lg} (g : Good l) (e : Int → Sec) (he : ∀ i : Int, 0 ≤ i → i < 2 * halfOf l.d → BegQ (cont l.d) (halfOf l.d) (1 - l.region) l.turn i (e i)) : Lay e (halfOf l.d) l.region l.turn l.recs l.next := by
  have h := g.lay
  have hr := h.r01
  have hle := h.le
  have h4 := g.half
  have key : ∀ i, 0 ≤ i → i < halfOf l.d → e (l.region * halfOf l.d + i) = cont l.d (l.region * halfOf l.d + i) := by
    intro i h0 h1
    have := he (l.region * halfOf l.d + i) (by rcases (show l.region = 0 ∨ l.region = 1 by omega) with hx | hx <;> rw [hx] <;> omega) (by rcases (show l.region = 0 ∨ l.region = 1 by omega) with hx | hx <;> rw [hx] <;> omega)
    replace this : if _ then _ else _ := this
    rwa [if_neg (by rcases (show l.region = 0 ∨ l.region = 1 by omega) with hx | hx <;> rw [hx] <;> omega), if_neg (by rcases (show l.region = 0 ∨ l.region = 1 by omega) with hx | hx <;> rw [hx] <;> omega)] at this
  refine ⟨h.r01, h.t32, ?_, ?_, h.some, fun hn => ?_, ?_⟩
  · have := key 0 (by omega) (by omega)
    rw [Int.add_zero] at this
    rw [this]; exact h.head
  · refine chain_congr h.chain fun i h1 h2 => ?_
    have := key (i - l.region * halfOf l.d) (by omega) (by omega)
    rwa [show l.region * halfOf l.d + (i - l.region * halfOf l.d) = i by omega] at this
  · rw [key _ (by omega) hn]; exact h.stop hn
  · have := he ((1 - l.region) * halfOf l.d) (by rcases (show l.region = 0 ∨ l.region = 1 by omega) with hx | hx <;> rw [hx] <;> omega) (by rcases (show l.region = 0 ∨ l.region = 1 by omega) with hx | hx <;> rw [hx] <;> omega)
    replace this : if _ then _ else _ := this
    rwa [if_pos rfl] at this
theorem begin_good {l : Lg} {b : List Int} (g : Good l) (ht : l.turn < 4294967295) (hb : b.length ≤ 16384) (hy : bytesOk b) (hf : 2 + (secsN b.length : Int) ≤ halfOf l.d) :
    ((beginM l b).2 = 0 → Came l.d (beginM l b).1 (1 - l.region) (l.turn + 1) [b] (2 + (secsN b.length : Int))) ∧
    ((beginM l b).2 ≠ 0 → (beginM l b).1.broken = true ∧ After (beginM l b).1.d (fun c => Lay c (halfOf l.d) l.region l.turn l.recs l.next ∨ Lay c (halfOf l.d) (1 - l.region) (l.turn + 1) [b] (2 + (secsN b.length : Int)))) :=
  begin_came (g.beg ht) hb hy hf g.kept

/-! ### a disk that is new -/
theorem of_len (n : Int) : ((spOf n).kept.length : Int) = mx 0 (mn n 512) := by
  show ((List.replicate (mx 0 (mn n 512)).toNat zeroS).length : Int) = _
  rw [List.length_replicate]
  unfold mx mn
  split <;> split <;> omega
theorem of_cont (n i : Int) : cont (spOf n) i = zeroS := by
  rw [cont_still rfl]
  show (List.replicate (mx 0 (mn n 512)).toNat zeroS).getD _ zeroS = _
  rw [List.getD_eq_getElem?_getD, List.getElem?_replicate]
  split <;> rfl
theorem of_half (n : Int) : halfOf (spOf n) = (mx 0 (mn n 512)) / 2 := by
  rw [(half_in (DkB.of n).1).1, of_len]
theorem of_find {n : Int} (h : 4 ≤ halfOf (spOf n)) : findR (spOf n) 2 = (0, 0) ∧ findP (spOf n) = ([], 1) := by
  have h0 : ∀ r : Int, 0 ≤ r ∧ r ≤ 1 → (oneM (spOf n) r 0 1).2.2 = false := fun r hr => one_none (DkB.of n).1 rfl hr (Int.le_refl 0) fun _ => by rw [of_cont]; exact zero_dead
  have hR : findR (spOf n) 2 = (0, 0) := by
    rw [findR_next, if_neg (by rw [h0 _ (by omega)]; simp), findR_next, if_neg (by rw [h0 _ (by omega)]; simp)]
    rfl
  refine ⟨hR, ?_⟩
  unfold findP
  rw [hR, if_neg (by decide)]
theorem of_beg {n : Int} (h : 4 ≤ halfOf (spOf n)) : BegR (findM (log0 (spOf n))) := by
  obtain ⟨hR, hP⟩ := of_find h
  have hm : findM (log0 (spOf n)) = ⟨spOf n, 0, 0, 1, [], false⟩ := by
    unfold findM
    rw [show (log0 (spOf n)).d = spOf n from rfl, hR, hP]
    rfl
  rw [hm]
  refine ⟨rfl, (DkB.of n).1, DkY.of n, rfl, h, ⟨Int.le_refl 0, (by decide : (0 : Int) ≤ 1)⟩, ⟨Int.le_refl 0, (by decide : (0 : Int) < 4294967295)⟩, ?_, ?_⟩
  · show Low 0 (cont (spOf n) _)
    rw [of_cont]; exact low_tq.1
  · show Low (0 + 1) (cont (spOf n) _)
    rw [of_cont]; exact low_tq.1
/-- Opening a new disk. -/
theorem open_new {n : Int} (h : 4 ≤ halfOf (spOf n)) : (openM (spOf n)).2 = 0 ∧ Came (spOf n) (openM (spOf n)).1 1 1 [[]] 2 ∧ Calm (openM (spOf n)).1.d := by
  obtain ⟨hR, hP⟩ := of_find h
  have g := of_beg h
  have hm : findM (log0 (spOf n)) = ⟨spOf n, 0, 0, 1, [], false⟩ := by
    unfold findM
    rw [show (log0 (spOf n)).d = spOf n from rfl, hR, hP]
    rfl
  rw [openM_new (by omega) rfl (by rw [hP]; decide)]
  rw [hm] at g ⊢
  have hc := begin_calm (b := []) g (by decide) (by show (2 : Int) + ((secsN 0 : Nat) : Int) ≤ halfOf (spOf n); rw [show secsN 0 = 0 from rfl]; omega) (Calm.of n)
  refine ⟨hc.1, ?_, hc.2⟩
  have := (begin_came (b := []) (P := fun _ => True) g (by decide) (fun x hx => by cases hx) (by show (2 : Int) + ((secsN 0 : Nat) : Int) ≤ halfOf (spOf n); rw [show secsN 0 = 0 from rfl]; omega) (fun _ _ => trivial)).1 hc.1
  exact this

/-- The same disk, armed. -/
theorem cont_arm {d : Dk} (hw : d.wait = []) (x y c : Int) (i : Int) : cont { d with left := x, fail := y, calls := c } i = cont d i := (cont_still (d := { d with left := x, fail := y, calls := c }) hw i).trans (cont_still hw i).symm
theorem Good.arm {l : Lg} (g : Good l) (x y c : Int) : Good { l with d := { l.d with left := x, fail := y, calls := c } } := by
  have hc : cont ({ l.d with left := x, fail := y, calls := c } : Dk) = cont l.d := funext fun i => cont_arm g.wait x y c i
  refine ⟨g.wait, g.len, g.y, g.down, g.br, g.half, ?_, ?_⟩
  · show Lay (cont ({ l.d with left := x, fail := y, calls := c } : Dk)) (halfOf l.d) l.region l.turn l.recs l.next
    rw [hc]; exact g.lay
  · show ∀ i, l.next ≤ i → i < halfOf l.d → cont ({ l.d with left := x, fail := y, calls := c } : Dk) (l.region * halfOf l.d + i) = zeroS
    rw [hc]; exact g.tail
theorem Good.b {l : Lg} (g : Good l) {m : Nat} : DkB l.d m := ⟨g.len, by rw [g.wait]; exact Nat.zero_le _, fun k hk => by rw [g.wait] at hk; exact absurd hk (Nat.not_lt_zero _)⟩
theorem Good.log {l : Lg} (g : Good l) : logOk l l.region l.next := ⟨g.b, g.lay.r01, by have := g.lay.le; omega, g.lay.le.2⟩
theorem Good.recs_le {l : Lg} (g : Good l) : l.recs.length ≤ 256 := by
  have h := half_in g.len
  have := g.lay.le
  omega
theorem Good.recs_ok {l : Lg} (g : Good l) : l.recs.length ≤ 1000000 ∧ ∀ b ∈ l.recs, b.length ≤ 1000000 := ⟨by have := g.recs_le; omega, fun b hb => by have := chain_len g.lay.chain b hb; omega⟩
theorem Good.app {l : Lg} (g : Good l) {b : List Int} (hb : b.length * 1 ≤ 140737488355328) : appOk l b := ⟨g.log, by have := g.recs_le; omega, hb⟩
theorem Good.begOk {l : Lg} (g : Good l) {b : List Int} (hb : b.length * 1 ≤ 140737488355328) : begOk l b := ⟨g.b, g.lay.r01, hb⟩
theorem Good.open_ok {l : Lg} (g : Good l) : openOk l.d := ⟨g.b, g.y⟩
theorem call_stop {d : Dk} (h : d.left = 0) : callE d = 9 ∧ d.call.down = true := by
  refine ⟨?_, ?_⟩
  · unfold callE
    rw [h]; simp
  · show (d.down || d.left == 0) = true
    rw [h]; simp
theorem flush_stop {d : Dk} (h : d.left = 0) : flushE d = 9 ∧ d.flush.down = true := by
  have hc := call_stop h
  unfold flushE Dk.flush
  by_cases hd : d.down = true
  · rw [if_pos hd, if_pos hd]; exact ⟨rfl, hd⟩
  · rw [if_neg hd, if_neg hd, if_pos (by rw [hc.1]; decide)]; exact hc
theorem write_stop {d : Dk} (h : d.left = 0) {n : Int} (x : Sec) (hn : 0 ≤ n ∧ n < d.kept.length) : writeE d n = 9 ∧ (d.write n x).down = true := by
  have hc := call_stop h
  unfold writeE Dk.write
  by_cases hd : d.down = true
  · rw [if_pos hd, if_pos hd]; exact ⟨rfl, hd⟩
  · rw [if_neg hd, if_neg hd, if_pos (inD_iff.2 hn), if_pos (inD_iff.2 hn), if_pos (by rw [hc.1]; decide)]
    exact hc
theorem put_stop {d : Dk} {r a kind id : Int} {b : List Int} (hd : d.kept.length ≤ 512) (hr : 0 ≤ r ∧ r ≤ 1) (ha : 0 ≤ a) (hb : b.length ≤ 20000) (hf : a + secsOf (b.length : Int) ≤ halfOf d) (h : d.left = 0) : (putM d r a kind id b).2 = 9 ∧ (putM d r a kind id b).1.down = true := by
  have hp := pos_in hd hr ha hb hf
  unfold putM
  generalize posOf d r a = p at hp ⊢
  have hsn : 64 * secsN b.length ≤ b.length + 63 := by unfold secsN; omega
  cases hs : secsN b.length with
  | zero =>
    show (putEnd d p kind id b).2 = 9 ∧ (putEnd d p kind id b).1.down = true
    have hc := flush_stop h
    unfold putEnd
    rw [if_pos (by rw [hc.1]; decide)]
    exact hc
  | succ m =>
    have hw : IntKind.i64.wrap (p + (((0 : Nat) : Int) + 1)) = p + 1 := by rw [wrap_i64_id (by omega)]; omega
    have hc := write_stop h (n := p + 1) (chunkS b 0) (by omega)
    rw [putGo, hw, if_pos (by rw [hc.1]; decide)]
    exact hc
theorem append_stop {l : Lg} {b : List Int} (g : Good l) (hb : b.length ≤ 16384) (hf : l.next + 1 + (secsN b.length : Int) ≤ halfOf l.d) (h : l.d.left = 0) : (appendM l b).2 = 9 ∧ (appendM l b).1.d.down = true := by
  have hle := g.lay.le
  have hp := put_stop (kind := 2) (id := (l.recs.length : Int)) g.len g.lay.r01 (show 0 ≤ l.next by omega) (show b.length ≤ 20000 by omega) (by rw [secs_eq b.length (by omega)]; omega) h
  rw [append_eq g hb hf, if_pos (by rw [hp.1]; decide)]
  exact hp
theorem append_len (l : Lg) (b : List Int) : (appendM l b).1.d.kept.length = l.d.kept.length := by
  unfold appendM
  split
  · rfl
  split
  · rfl
  split
  · rfl
  split
  · exact putM_len ..
  · exact putM_len ..
theorem of_wrap (n : Int) : IntKind.i64.wrap ((mx 0 (mn n 512)).tdiv 2) = halfOf (spOf n) := by
  unfold halfOf
  rw [of_len]
theorem take_bytes {b : List Int} (h : ∀ x ∈ b, 0 ≤ x ∧ x < 256) (k : Nat) : bytesOk (List.drop 0 (List.take k b)) := fun x hx => h x (List.mem_of_mem_take (List.mem_of_mem_drop hx))
theorem take_len (b : List Int) (m : Int) (hm : 0 ≤ m) : (List.drop 0 (List.take (mn (b.length : Int) m).toNat b)).length = min b.length m.toNat := by
  rw [List.drop_zero, List.length_take]
  unfold mn
  split <;> omega
end Go.Proofs.Ytgimkldaeobhnaa.Dsk
