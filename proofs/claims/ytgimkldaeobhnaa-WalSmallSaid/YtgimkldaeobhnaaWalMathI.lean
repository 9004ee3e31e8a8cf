/- The log, in plain terms: the layout of a log on its disk, and that it is found. -/
import Derived.Test.YtgimkldaeobhnaaWalMathH
import Derived.Test.YtgimkldaeobhnaaWalMathF
namespace Go.Proofs.Ytgimkldaeobhnaa.Dsk
open Go Go.Proofs.Ytgimkldaeobhnaa.Sx

/-! ### torn sectors -/
theorem sec_ext {x y : Sec} (h : ∀ i : Nat, x.l.getD i 0 = y.l.getD i 0) : x = y := by
  refine Sec.ext' (List.ext_getElem (x.h.trans y.h.symm) fun i h1 h2 => ?_)
  have := h i
  rwa [List.getD_eq_getElem?_getD, List.getD_eq_getElem?_getD, List.getElem?_eq_getElem h1, List.getElem?_eq_getElem h2] at this
theorem tear_at (s x : Sec) (n : Int) : ∃ m : Nat, m ≤ 64 ∧ ∀ i, (tearS s x n).l.getD i 0 = if i < m then x.l.getD i 0 else s.l.getD i 0 := by
  have hn := mx_in n
  refine ⟨(mx 0 (mn n 64)).toNat, by omega, fun i => ?_⟩
  unfold tearS
  rw [Sec.of_l (tear_len s x n)]
  unfold tearL
  rw [List.getD_eq_getElem?_getD, List.getElem?_append, List.length_take, x.h]
  by_cases h : i < (mx 0 (mn n 64)).toNat
  · rw [if_pos (by omega), if_pos h, List.getElem?_take, if_pos h, List.getD_eq_getElem?_getD]
  · rw [if_neg (by omega), if_neg h, List.getElem?_drop, List.getD_eq_getElem?_getD]
    congr 2
    omega
theorem zero_at (i : Nat) : zeroS.l.getD i 0 = 0 := by
  show (List.replicate 64 (0 : Int)).getD i 0 = 0
  rw [List.getD_eq_getElem?_getD, List.getElem?_replicate]
  split <;> rfl
theorem head_tail (kind n : Int) (b : List Int) {i : Nat} (hi : 12 ≤ i) : (headS kind n b).l.getD i 0 = 0 := by
  have e : (headS kind n b).l.drop 12 = List.replicate 52 0 := by
    rw [headS_l, headL_eq]
    rfl
  obtain ⟨j, rfl⟩ : ∃ j, i = 12 + j := ⟨i - 12, by omega⟩
  rw [List.getD_eq_getElem?_getD, ← List.getElem?_drop, e, List.getElem?_replicate]
  split <;> rfl
/-- A head that may be torn: no head, or it itself. -/
def HT (x s : Sec) : Prop := (∀ i, 12 ≤ i → s.l.getD i 0 = 0) ∧ (Dead s ∨ s = x)
theorem HT.zero (x : Sec) : HT x zeroS := ⟨fun i _ => zero_at i, .inl zero_dead⟩
theorem HT.tq (kind n : Int) (b : List Int) : HT (headS kind n b) (headS kind n b) ∧ ∀ s m, HT (headS kind n b) s → HT (headS kind n b) (tearS s (headS kind n b) m) := by
  refine ⟨⟨fun i hi => head_tail kind n b hi, .inr rfl⟩, fun s m hs => ?_⟩
  obtain ⟨k, _, h⟩ := tear_at s (headS kind n b) m
  refine ⟨fun i hi => ?_, ?_⟩
  · rw [h]
    split
    · exact head_tail kind n b hi
    · exact hs.1 i hi
  · by_cases hk : 12 ≤ k
    · refine .inr (sec_ext fun i => ?_)
      rw [h]
      split
      · rfl
      · rw [hs.1 i (by omega), head_tail kind n b (by omega)]
    · rcases hs.2 with hd | rfl
      · refine .inl ?_
        unfold Dead at hd ⊢
        rw [h]
        split
        · omega
        · exact hd
      · refine .inr (sec_ext fun i => ?_)
        rw [h]
        split <;> rfl
theorem dead_tear {s : Sec} (h : Dead s) (m : Int) : Dead (tearS s zeroS m) := by
  obtain ⟨k, _, e⟩ := tear_at s zeroS m
  unfold Dead at h ⊢
  rw [e, zero_at]
  split
  · decide
  · exact h
/-- Bytes that are no head of a turn that far. -/
def Low (t : Int) (s : Sec) : Prop := secOk s ∧ (Dead s ∨ oneI s < t)
theorem oneI_eq (s : Sec) : oneI s = numOf [s.l.getD 2 0, s.l.getD 3 0, s.l.getD 4 0, s.l.getD 5 0] := by
  unfold oneI
  have hl := s.h
  match hx : s.l, hl with
  | a :: b :: c :: d :: e :: f :: r, _ => rfl
theorem sec_at {s : Sec} (h : secOk s) (i : Nat) : 0 ≤ s.l.getD i 0 ∧ s.l.getD i 0 < 256 := by
  rw [List.getD_eq_getElem?_getD]
  cases e : s.l[i]? with
  | none => exact ⟨Int.le_refl 0, by decide⟩
  | some x => exact h x (List.mem_of_getElem? e)
theorem low_tear {t : Int} {s : Sec} (h : Low t s) (m : Int) : Low t (tearS s zeroS m) := by
  refine ⟨tear_ok h.1 zero_ok m, ?_⟩
  rcases h.2 with hd | ht
  · exact .inl (dead_tear hd m)
  · obtain ⟨k, _, e⟩ := tear_at s zeroS m
    refine .inr ?_
    rw [oneI_eq] at ht ⊢
    simp only [e, zero_at]
    have h2 := sec_at h.1 2
    have h3 := sec_at h.1 3
    have h4 := sec_at h.1 4
    have h5 := sec_at h.1 5
    rw [num4e _ _ _ _ h2 h3 h4 h5] at ht
    have g : ∀ x : Int, 0 ≤ x ∧ x < 256 → ∀ i : Nat, 0 ≤ (if i < k then 0 else x) ∧ (if i < k then 0 else x) ≤ x := by
      intro x hx i
      split <;> omega
    have g2 := g _ h2 2
    have g3 := g _ h3 3
    have g4 := g _ h4 4
    have g5 := g _ h5 5
    rw [num4e _ _ _ _ ⟨g2.1, by omega⟩ ⟨g3.1, by omega⟩ ⟨g4.1, by omega⟩ ⟨g5.1, by omega⟩]
    omega
theorem low_tq {t : Int} : Low t zeroS ∧ ∀ s n, Low t s → Low t (tearS s zeroS n) := ⟨⟨zero_ok, .inl zero_dead⟩, fun _ n h => low_tear h n⟩

/-! ### the layout -/
/-- Rows behind one another, from a sector on, numbered. -/
def Chain (c : Int → Sec) (p h : Int) : Int → Nat → List (List Int) → Int → Prop
  | a, _, [], n => n = a
  | a, k, b :: rs, n => (c (p + a) = headS 2 (k : Int) b ∧ (∀ j : Nat, j < secsN b.length → c (p + a + 1 + (j : Int)) = chunkS b j) ∧ b.length ≤ 16384 ∧ a + 1 + (secsN b.length : Int) ≤ h) ∧ Chain c p h (a + 1 + (secsN b.length : Int)) (k + 1) rs n
theorem chain_le {c : Int → Sec} {p h : Int} : ∀ {rs : List (List Int)} {a : Int} {k : Nat} {n : Int}, Chain c p h a k rs n → a + (rs.length : Int) ≤ n ∧ (rs ≠ [] → n ≤ h)
  | [], a, k, n, hc => ⟨by have hc : n = a := hc; rw [List.length_nil]; omega, fun hn => absurd rfl hn⟩
  | b :: rs, a, k, n, hc => by
    obtain ⟨⟨_, _, _, h4⟩, h5⟩ := hc
    have ih := chain_le h5
    rw [List.length_cons]
    refine ⟨by omega, fun _ => ?_⟩
    cases rs with
    | nil => have h5 : n = a + 1 + (secsN b.length : Int) := h5; omega
    | cons x xs => exact ih.2 (by simp)
theorem chain_congr {c e : Int → Sec} {p h : Int} : ∀ {rs : List (List Int)} {a : Int} {k : Nat} {n : Int}, Chain c p h a k rs n → (∀ i, p + a ≤ i → i < p + n → e i = c i) → Chain e p h a k rs n
  | [], a, k, n, hc, _ => hc
  | b :: rs, a, k, n, hc, he => by
    obtain ⟨⟨h1, h2, h3, h4⟩, h5⟩ := hc
    have hl := (chain_le h5).1
    refine ⟨⟨?_, fun j hj => ?_, h3, h4⟩, chain_congr h5 fun i hi hj => he i (by omega) hj⟩
    · rw [he _ (by omega) (by omega)]; exact h1
    · rw [he _ (by omega) (by omega)]; exact h2 j hj
theorem chain_snoc {c : Int → Sec} {p h : Int} {b : List Int} : ∀ {rs : List (List Int)} {a : Int} {k : Nat} {n : Int}, Chain c p h a k rs n → (c (p + n) = headS 2 ((k + rs.length : Nat) : Int) b ∧ (∀ j : Nat, j < secsN b.length → c (p + n + 1 + (j : Int)) = chunkS b j) ∧ b.length ≤ 16384 ∧ n + 1 + (secsN b.length : Int) ≤ h) → Chain c p h a k (rs ++ [b]) (n + 1 + (secsN b.length : Int))
  | [], a, k, n, hc, hr => by
    have hc : n = a := hc
    subst hc
    exact ⟨hr, rfl⟩
  | x :: rs, a, k, n, hc, hr => by
    obtain ⟨h1, h5⟩ := hc
    refine ⟨h1, chain_snoc h5 ?_⟩
    rw [List.length_cons] at hr
    rw [show k + 1 + rs.length = k + (rs.length + 1) by omega]
    exact hr
theorem chain_len {c : Int → Sec} {p h : Int} : ∀ {rs : List (List Int)} {a : Int} {k : Nat} {n : Int}, Chain c p h a k rs n → ∀ b ∈ rs, b.length ≤ 16384
  | [], _, _, _, _, b, hb => by cases hb
  | x :: rs, a, k, n, hc, b, hb => by
    rcases List.mem_cons.1 hb with rfl | hb
    · exact hc.1.2.2.1
    · exact chain_len hc.2 b hb
/-- A log that stands on its disk. -/
structure Lay (c : Int → Sec) (h r t : Int) (rs : List (List Int)) (n : Int) : Prop where
  r01 : 0 ≤ r ∧ r ≤ 1
  t32 : 1 ≤ t ∧ t < 4294967296
  head : c (r * h) = headS 1 t []
  chain : Chain c (r * h) h 1 0 rs n
  some : rs ≠ []
  stop : n < h → Dead (c (r * h + n))
  low : Low t (c ((1 - r) * h))
theorem Lay.le {c : Int → Sec} {h r t n : Int} {rs : List (List Int)} (l : Lay c h r t rs n) : 1 + (rs.length : Int) ≤ n ∧ n ≤ h := ⟨(chain_le l.chain).1, (chain_le l.chain).2 l.some⟩
/-- What is read there. -/
theorem reg_in {d : Dk} {r a : Int} (hd : d.kept.length ≤ 512) (hr : 0 ≤ r ∧ r ≤ 1) (ha : 0 ≤ a ∧ a < halfOf d) : 0 ≤ r * halfOf d + a ∧ r * halfOf d + a < d.kept.length := by
  have hh := half_in hd
  rcases (show r = 0 ∨ r = 1 by omega) with rfl | rfl <;> omega
theorem one_cont {d : Dk} {r a kind n : Int} {b : List Int} (hd : d.kept.length ≤ 512) (hw : d.down = false) (hr : 0 ≤ r ∧ r ≤ 1) (hn : 0 ≤ n ∧ n < 4294967296) (hb : b.length ≤ 16384) (ha : 0 ≤ a) (hf : a + 1 + (secsN b.length : Int) ≤ halfOf d)
    (h0 : cont d (r * halfOf d + a) = headS kind n b) (h : ∀ j : Nat, j < secsN b.length → cont d (r * halfOf d + a + 1 + (j : Int)) = chunkS b j) : oneM d r a kind = (n, b, true) := by
  have hh := half_in hd
  have hs := secs_eq b.length (by omega)
  have hp : posOf d r a = r * halfOf d + a := posOf_eq hd hr ⟨ha, by omega⟩
  have h1 := reg_in (d := d) (r := r) (a := a) hd hr ⟨ha, by omega⟩
  refine one_row hd hn hb ha (by omega) ?_ ?_ fun j hj => ?_
  · rw [hp]; exact readE_in hw h1
  · rw [hp, readS_cont hw h1]; exact h0
  · have h2 := reg_in (d := d) (r := r) (a := a + 1 + (j : Int)) hd hr ⟨by omega, by omega⟩
    rw [hp, wrap_i64_id (by omega), show r * halfOf d + a + ((j : Int) + 1) = r * halfOf d + (a + 1 + (j : Int)) by omega, readS_cont hw h2, show r * halfOf d + (a + 1 + (j : Int)) = r * halfOf d + a + 1 + (j : Int) by omega]
    exact h j hj
theorem one_none {d : Dk} {r a kind : Int} (hd : d.kept.length ≤ 512) (hw : d.down = false) (hr : 0 ≤ r ∧ r ≤ 1) (ha : 0 ≤ a) (h : a < halfOf d → Dead (cont d (r * halfOf d + a))) : (oneM d r a kind).2.2 = false := by
  have hh := half_in hd
  by_cases he : a ≥ halfOf d
  · exact one_end he
  · have h1 := reg_in (d := d) (r := r) (a := a) hd hr ⟨ha, by omega⟩
    refine one_dead ?_
    rw [posOf_eq hd hr ⟨ha, by omega⟩, readS_cont hw h1]
    exact h (by omega)
theorem one_low {d : Dk} {r t kind : Int} (hd : d.kept.length ≤ 512) (hw : d.down = false) (hr : 0 ≤ r ∧ r ≤ 1) (ht : 1 ≤ t) (hh0 : 0 < halfOf d) (h : Low t (cont d (r * halfOf d))) : (oneM d r 0 kind).2.2 = false ∨ (oneM d r 0 kind).1 < t := by
  have hh := half_in hd
  have h1 := reg_in (d := d) (r := r) (a := 0) hd hr ⟨by omega, by omega⟩
  have e : readS d (posOf d r 0) = cont d (r * halfOf d) := by rw [posOf_eq hd hr ⟨by omega, by omega⟩, readS_cont hw h1, Int.add_zero]
  rcases h.2 with hx | hx
  · refine .inl (one_dead ?_)
    rw [e]; exact hx
  · right
    unfold oneM
    split
    · exact (by omega : (0 : Int) < t)
    split
    · exact (by omega : (0 : Int) < t)
    · show oneI (readS d (posOf d r 0)) < t
      rw [e]; exact hx

/-! ### it is found -/
theorem find_go {d : Dk} {r : Int} (hd : d.kept.length ≤ 512) (hw : d.down = false) (hr : 0 ≤ r ∧ r ≤ 1) : ∀ (rs : List (List Int)) (m k : Nat) (a n : Int) (pre : List (List Int)), fAt d r k = (pre, a) → pre.length = k → 1 ≤ a → k + rs.length < 1000 → Chain (cont d) (r * halfOf d) (halfOf d) a k rs n → (n < halfOf d → Dead (cont d (r * halfOf d + n))) → rs.length ≤ m → findGo d r k m = (pre ++ rs, n)
  | [], m, k, a, n, pre, hf, hk, ha, _, hc, hs, hm => by
    have hc : n = a := hc
    subst hc
    rw [findGo_stop, hf, List.append_nil]
    unfold okAt
    rw [hf, one_none hd hw hr (by omega) hs, Bool.false_and]
  | b :: rs, m, k, a, n, pre, hf, hk, ha, hl, hc, hs, hm => by
    have hh := half_in hd
    obtain ⟨⟨h1, h2, h3, h4⟩, h5⟩ := hc
    rw [List.length_cons] at hl hm
    have h := one_cont (kind := 2) hd hw hr (n := (k : Int)) ⟨by omega, by omega⟩ h3 (by omega) h4 h1 h2
    have ho : okAt d r k = true := by
      unfold okAt
      rw [hf, h, Bool.true_and, hk]
      exact beq_self_eq_true _
    have hsq := secs_eq b.length (by omega)
    have hf2 : fAt d r (k + 1) = (pre ++ [b], a + 1 + (secsN b.length : Int)) := by
      show ((fAt d r k).1 ++ [(oneM d r (fAt d r k).2 2).2.1], IntKind.i64.wrap ((fAt d r k).2 + secsOf ((oneM d r (fAt d r k).2 2).2.1.length : Int))) = _
      rw [hf]
      show (pre ++ [(oneM d r a 2).2.1], IntKind.i64.wrap (a + secsOf ((oneM d r a 2).2.1.length : Int))) = _
      rw [h]
      show (pre ++ [b], IntKind.i64.wrap (a + secsOf (b.length : Int))) = _
      rw [hsq, wrap_i64_id (by omega), Int.add_assoc]
    obtain ⟨m, rfl⟩ : ∃ m', m = m' + 1 := ⟨m - 1, by omega⟩
    rw [findGo_on ho, find_go hd hw hr rs m (k + 1) _ n _ hf2 (by rw [List.length_append, hk]; rfl) (by omega) (by omega) h5 hs (by omega), List.append_assoc]
    rfl
theorem find_lay {d : Dk} {r t n : Int} {rs : List (List Int)} (hd : d.kept.length ≤ 512) (hw : d.down = false) (hh0 : 4 ≤ halfOf d) (h : Lay (cont d) (halfOf d) r t rs n) : findR d 2 = (r, t) ∧ findP d = (rs, n) := by
  have hh := half_in hd
  have hle := h.le
  have h1 : oneM d r 0 1 = (t, [], true) := one_cont hd hw h.r01 ⟨by have := h.t32; omega, h.t32.2⟩ (by decide) (Int.le_refl 0) (by show (0 : Int) + 1 + ((secsN 0 : Nat) : Int) ≤ _; have : secsN 0 = 0 := rfl; omega) (by rw [Int.add_zero]; exact h.head) (fun j hj => by have : secsN ([] : List Int).length = 0 := rfl; omega)
  have ht := h.t32
  have hR : findR d 2 = (r, t) := by
    rcases (show r = 0 ∨ r = 1 by have := h.r01; omega) with rfl | rfl
    · have h0 : findR d 1 = (0, t) := by
        rw [findR_next, show ((0 : Nat) : Int) = 0 from rfl, h1, if_pos]
        show (true && (([] : List Int).length : Int) == 0 && decide (t > 0)) = true
        rw [decide_eq_true (by omega)]; rfl
      have h2 := one_low (kind := 1) (r := 1) hd hw (by omega) ht.1 (by omega) (by have := h.low; rwa [show (1 : Int) - 0 = 1 from rfl] at this)
      rw [findR_next, h0, if_neg]
      rw [show ((1 : Nat) : Int) = 1 from rfl]
      rcases h2 with h2 | h2
      · rw [h2]; simp
      · rw [decide_eq_false (by show ¬ (oneM d 1 0 1).1 > t; omega)]; simp
    · have h2 := one_low (kind := 1) (r := 0) hd hw (by omega) ht.1 (by omega) (by have := h.low; rwa [show (1 : Int) - 1 = 0 from rfl] at this)
      have h0 : (findR d 1).2 < t := by
        rw [findR_next, show ((0 : Nat) : Int) = 0 from rfl]
        split
        · rename_i hx
          rw [Bool.and_eq_true, Bool.and_eq_true] at hx
          rcases h2 with h2 | h2
          · rw [h2] at hx; exact absurd hx.1.1 (by decide)
          · exact h2
        · show (0 : Int) < t; omega
      rw [findR_next, show ((1 : Nat) : Int) = 1 from rfl, h1, if_pos]
      show (true && (([] : List Int).length : Int) == 0 && decide (t > (findR d 1).2)) = true
      rw [decide_eq_true (by omega)]; rfl
  refine ⟨hR, ?_⟩
  unfold findP
  rw [hR, if_pos (show t > 0 by omega)]
  show findGo d r 0 600 = _
  exact find_go hd hw h.r01 rs 600 0 1 n [] rfl rfl (by omega) (by omega) h.chain h.stop (by omega)
end Go.Proofs.Ytgimkldaeobhnaa.Dsk
