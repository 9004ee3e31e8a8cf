/- Questions that wait: the plain part: rows of questions are right, and end. -/
import Derived.Test.YtnjildbclmglpaaProWalkD
namespace Go.Proofs.Ytnjildbclmglpaa.Pro
open Go Go.Proofs.Ytnjildbclmglpaa.Sx

theorem and32 (a : Int) (h : 0 ≤ a ∧ a < 4294967296) : bitsI .and .u32 a 65535 = a % 65536 := by
  have h1 : (BitVec.ofInt 32 a &&& BitVec.ofInt 32 65535).toNat = (a % 65536).toNat := by
    rw [BitVec.toNat_and, BitVec.toNat_ofInt]
    rw [show (BitVec.ofInt 32 65535).toNat = 2 ^ 16 - 1 from rfl, Nat.and_two_pow_sub_one_eq_mod]
    show (a % (4294967296 : Int)).toNat % 65536 = _
    omega
  show IntKind.u32.wrap ((BitVec.ofInt 32 a &&& BitVec.ofInt 32 65535).toNat : Int) = _
  rw [h1]
  simp [IntKind.wrap, IntKind.bits, IntKind.signed]
  omega
theorem and64 (n : Int) : bitsI .and .i64 n 65535 = n % 65536 := by
  have h : (BitVec.ofInt 64 n &&& BitVec.ofInt 64 65535).toNat = (n % 65536).toNat := by
    rw [BitVec.toNat_and, BitVec.toNat_ofInt]
    rw [show (BitVec.ofInt 64 65535).toNat = 2 ^ 16 - 1 from rfl, Nat.and_two_pow_sub_one_eq_mod]
    show (n % (18446744073709551616 : Int)).toNat % 65536 = _
    omega
  show IntKind.i64.wrap ((BitVec.ofInt 64 n &&& BitVec.ofInt 64 65535).toNat : Int) = _
  rw [h, wrap_i64_id (by omega)]
  omega
def rngL (xs : List Prb) : Prop := ∀ p ∈ xs, 0 ≤ p.addr ∧ p.addr < 4294967296
theorem clamp_rng (n : Int) : 0 ≤ clampT n ∧ clampT n ≤ 1099511627776 := by unfold clampT mx mn; split <;> split <;> omega
theorem clamp_id {n : Int} (h : 0 ≤ n ∧ n ≤ 1099511627776) : clampT n = n := by unfold clampT mx mn; split <;> split <;> omega
theorem clamp_iff (n : Int) : (n != clampT n) = (decide (n < 0) || decide (n > 1099511627776)) := by
  have h := clamp_rng n
  by_cases h1 : n < 0
  · rw [decide_eq_true h1, show (n != clampT n) = true from bne_iff_ne.2 (by omega)]; rfl
  · by_cases h2 : n > 1099511627776
    · rw [decide_eq_true h2, show (n != clampT n) = true from bne_iff_ne.2 (by omega)]; simp
    · rw [decide_eq_false h1, decide_eq_false h2, clamp_id (by omega)]; simp
theorem bad_same (p : Prb) (h : 0 ≤ p.addr ∧ p.addr < 4294967296) : badP p = badL p := by
  unfold badP badL idOf
  rw [and32 p.addr h, clamp_iff, Int.tmod_eq_emod_of_nonneg h.1]
  simp only [Bool.or_assoc]
theorem ok_same {xs : List Prb} (h : rngL xs) : ∀ k, k ≤ xs.length → okTo xs k = okToL xs k := by
  intro k
  induction k with
  | zero => intro _; rfl
  | succ k ih =>
    intro hk
    have hm : getP xs k ∈ xs := by
      unfold getP
      rw [List.getD_eq_getElem?_getD, List.getElem?_eq_getElem (by omega)]
      exact List.getElem_mem _
    rw [okTo, okToL, ih (by omega), bad_same _ (h _ hm)]
theorem right_same {xs : List Prb} (h : rngL xs) : rightB xs = rightL xs := by
  unfold rightB rightL
  rw [ok_same h xs.length (Nat.le_refl _)]
/-! ### rows that are right -/
structure Good (c6 now : Int) (xs : List Prb) : Prop where
  ok : ∀ p ∈ xs, badP p = false
  rng : rngL xs
  nd : (xs.map (·.addr)).Nodup
  len : xs.length ≤ 16
  tries : ∀ p ∈ xs, 0 ≤ p.tries ∧ p.tries ≤ c6
  sent : ∀ p ∈ xs, 0 ≤ p.sent ∧ p.sent ≤ now
theorem dup_false {xs : List Prb} (h : (xs.map (·.addr)).Nodup) {k : Nat} (hk : k < xs.length) : dupP xs k = false := by
  unfold dupP
  rw [List.any_eq_false]
  intro x hx hs
  have ha : x.addr = (getP xs k).addr := eq_of_beq hs
  have h2 : ((xs.take (k + 1)).map (·.addr)).Nodup := by
    rw [List.map_take]
    exact List.Sublist.nodup (List.take_sublist _ _) h
  rw [take_getD xs k hk zeroP, List.map_append, List.nodup_append] at h2
  exact h2.2.2 x.addr (List.mem_map_of_mem hx) (getP xs k).addr (by simp [getP]) ha
theorem okTo_good {xs : List Prb} (h : ∀ p ∈ xs, badP p = false) (hn : (xs.map (·.addr)).Nodup) : ∀ k, k ≤ xs.length → okTo xs k = true := by
  intro k
  induction k with
  | zero => intro _; rfl
  | succ k ih =>
    intro hk
    have hm : getP xs k ∈ xs := by
      unfold getP
      rw [List.getD_eq_getElem?_getD, List.getElem?_eq_getElem (by omega)]
      exact List.getElem_mem _
    exact right_step (ih (by omega)) (h _ hm) (dup_false hn (by omega))
theorem Good.right {c6 now : Int} {xs : List Prb} (h : Good c6 now xs) : rightB xs = true := by
  unfold rightB
  rw [okTo_good h.ok h.nd xs.length (Nat.le_refl _), decide_eq_true (by have := h.len; omega)]
  rfl
theorem bad_again {now : Int} {p : Prb} (h : badP p = false) (ht : 0 ≤ p.tries ∧ p.tries < 8) : badP (againP now p) = false := by
  unfold badP at h ⊢
  simp only [Bool.or_eq_false_iff, bne_eq_false_iff_eq, decide_eq_false_iff_not] at h ⊢
  have hw : IntKind.i64.wrap (p.tries + 1) = p.tries + 1 := wrap_i64_id (by omega)
  have hc := clamp_rng now
  unfold againP
  simp only [hw, clamp_id hc]
  refine ⟨⟨⟨⟨⟨h.1.1.1.1.1, h.1.1.1.1.2⟩, h.1.1.1.2⟩, trivial⟩, by omega⟩, by omega⟩
/-- What a row comes to, with time gone by. -/
theorem late_at {c5 c6 now now0 room : Int} {xs : List Prb} (h : Good c6 now0 xs) (hc : 0 ≤ c6 ∧ c6 ≤ 8) (hn : now0 ≤ now ∧ 0 ≤ now ∧ now ≤ 1099511627776) : ∀ k, k ≤ xs.length →
    ((lateAt c5 c6 now room xs k).1.map (·.addr)).Sublist ((xs.take k).map (·.addr)) ∧ (∀ p ∈ (lateAt c5 c6 now room xs k).1, badP p = false ∧ (0 ≤ p.tries ∧ p.tries ≤ c6) ∧ (0 ≤ p.sent ∧ p.sent ≤ now)) := by
  intro k
  induction k with
  | zero => intro _; exact ⟨List.Sublist.refl _, fun p hp => by cases hp⟩
  | succ k ih =>
    intro hk
    obtain ⟨h1, h2⟩ := ih (by omega)
    have hm : getP xs k ∈ xs := by
      unfold getP
      rw [List.getD_eq_getElem?_getD, List.getElem?_eq_getElem (by omega)]
      exact List.getElem_mem _
    have hk1 : (xs.take (k + 1)).map (·.addr) = (xs.take k).map (·.addr) ++ [(getP xs k).addr] := by
      rw [take_getD xs k (by omega) zeroP, List.map_append]; rfl
    rw [lateAt, hk1]
    generalize lateAt c5 c6 now room xs k = r at *
    have g0 := h.ok _ hm
    have g1 := h.tries _ hm
    have g2 := h.sent _ hm
    generalize getP xs k = p at *
    have keep : ∀ q : Prb, q.addr = p.addr → badP q = false → (0 ≤ q.tries ∧ q.tries ≤ c6) → (0 ≤ q.sent ∧ q.sent ≤ now) →
        ((r.1 ++ [q]).map (·.addr)).Sublist ((xs.take k).map (·.addr) ++ [p.addr]) ∧ (∀ z ∈ r.1 ++ [q], badP z = false ∧ (0 ≤ z.tries ∧ z.tries ≤ c6) ∧ (0 ≤ z.sent ∧ z.sent ≤ now)) := by
      intro q ha hb ht hs
      refine ⟨?_, fun z hz => ?_⟩
      · rw [List.map_append, List.map_cons, List.map_nil, ha]
        exact List.Sublist.append h1 (List.Sublist.refl _)
      · rcases List.mem_append.1 hz with hz | hz
        · exact h2 z hz
        · rw [List.mem_singleton] at hz
          subst hz
          exact ⟨hb, ht, hs⟩
    unfold lateStep
    split
    · exact keep p rfl g0 g1 ⟨g2.1, by omega⟩
    · split
      · exact ⟨h1.trans (List.sublist_append_left _ _), h2⟩
      · rename_i hge
        have hlt : p.tries < c6 := by
          have h' : ¬ p.tries ≥ c6 := fun h => hge (decide_eq_true h)
          omega
        have hw : IntKind.i64.wrap (p.tries + 1) = p.tries + 1 := wrap_i64_id (by omega)
        split
        · refine keep (againP now p) rfl (bad_again g0 (by omega)) ?_ ?_
          · show 0 ≤ IntKind.i64.wrap (p.tries + 1) ∧ IntKind.i64.wrap (p.tries + 1) ≤ c6
            rw [hw]; omega
          · show 0 ≤ clampT now ∧ clampT now ≤ now
            rw [clamp_id hn.2]; omega
        · exact keep p rfl g0 g1 ⟨g2.1, by omega⟩
theorem late_good {c5 c6 now now0 room : Int} {xs : List Prb} (h : Good c6 now0 xs) (hc : 0 ≤ c6 ∧ c6 ≤ 8) (hn : now0 ≤ now ∧ 0 ≤ now ∧ now ≤ 1099511627776) : Good c6 now (lateL c5 c6 now room xs).1 := by
  obtain ⟨h1, h2⟩ := late_at (c5 := c5) (room := room) h hc hn xs.length (Nat.le_refl _)
  rw [List.take_length] at h1
  refine ⟨fun p hp => (h2 p hp).1, fun p hp => ?_, List.Sublist.nodup h1 h.nd, Nat.le_trans (lateL_len _ _ _ _ _) h.len, fun p hp => (h2 p hp).2.1, fun p hp => (h2 p hp).2.2⟩
  have := h1.subset (List.mem_map_of_mem hp)
  obtain ⟨q, hq, he⟩ := List.mem_map.1 this
  have hr := h.rng q hq
  have he : q.addr = p.addr := he
  rw [he] at hr
  exact hr
theorem ask_good {now : Int} {a : Act} : badP (askP now a) = false ∧ (0 ≤ (askP now a).addr ∧ (askP now a).addr < 4294967296) ∧ (askP now a).tries = 0 := by
  refine ⟨?_, ?_, rfl⟩
  · unfold badP askP ofP
    simp only [Bool.or_eq_false_iff, bne_eq_false_iff_eq, decide_eq_false_iff_not]
    have h := and64 (IntKind.i64.wrap a.num)
    refine ⟨⟨⟨⟨⟨trivial, by rw [h]; omega⟩, by rw [h]; omega⟩, (clamp_id (clamp_rng now)).symm⟩, by omega⟩, by omega⟩
  · show 0 ≤ nearA a.addr ∧ nearA a.addr < 4294967296
    unfold nearA
    simp [IntKind.wrap, IntKind.bits, IntKind.signed]
    omega
theorem put_good {c6 now : Int} {xs : List Prb} {p : Prb} (h : Good c6 now xs) (hc : 0 ≤ c6) (hn : 0 ≤ now ∧ now ≤ 1099511627776) (hp : badP p = false ∧ (0 ≤ p.addr ∧ p.addr < 4294967296) ∧ p.tries = 0) (hs : p.sent = clampT now) (he : putErr xs p = 0) : Good c6 now (putL xs p) := by
  unfold putErr at he
  split at he
  · cases he
  · rename_i hd
    split at he
    · cases he
    · rename_i hl
      have hlen : xs.length < 16 := by
        have h' : ¬ (xs.length : Int) ≥ 16 := fun h => hl (decide_eq_true h)
        omega
      have hput : putL xs p = xs ++ [p] := by unfold putL; rw [if_neg hd, if_neg hl]
      rw [hput]
      have both : ∀ {R : Prb → Prop}, (∀ q ∈ xs, R q) → R p → ∀ q ∈ xs ++ [p], R q := by
        intro R h1 h2 q hq
        rcases List.mem_append.1 hq with hq | hq
        · exact h1 q hq
        · rw [List.mem_singleton] at hq; subst hq; exact h2
      refine ⟨both h.ok hp.1, both h.rng hp.2.1, ?_, by simp only [List.length_append, List.length_singleton]; omega, both h.tries (by rw [hp.2.2]; omega), both h.sent (by rw [hs, clamp_id hn]; omega)⟩
      rw [List.map_append, List.nodup_append]
      refine ⟨h.nd, by simp, fun x hx y hy hxy => ?_⟩
      simp only [List.map_cons, List.map_nil, List.mem_singleton] at hy
      obtain ⟨q, hq, hqa⟩ := List.mem_map.1 hx
      refine hd ?_
      rw [List.any_eq_true]
      exact ⟨q, hq, beq_iff_eq.2 (by rw [hqa, hxy, hy])⟩
def nOk (xs : List Act) : Prop := ∀ a ∈ xs, 0 ≤ a.n
theorem getA_n {xs : List Act} (h : nOk xs) (k : Nat) : 0 ≤ (getA xs k).n := by
  unfold getA
  rw [List.getD_eq_getElem?_getD]
  cases he : xs[k]? with
  | none => exact Int.le_refl _
  | some x => exact h x (List.mem_of_getElem? he)
theorem Good.later {c6 now now2 : Int} {xs : List Prb} (h : Good c6 now xs) (hn : now ≤ now2) : Good c6 now2 xs := ⟨h.ok, h.rng, h.nd, h.len, h.tries, fun p hp => ⟨(h.sent p hp).1, by have := (h.sent p hp).2; omega⟩⟩
theorem some_good {c5 c6 : Int} {xs : List Act} (hx : nOk xs) (hc : 0 ≤ c6 ∧ c6 ≤ 8) : ∀ k, k ≤ 1000 → Good c6 (someAt c5 c6 xs k).2 (someAt c5 c6 xs k).1 ∧ 0 ≤ (someAt c5 c6 xs k).2 ∧ (someAt c5 c6 xs k).2 ≤ 5 * k := by
  intro k
  induction k with
  | zero => intro _; exact ⟨⟨fun p hp => (by cases hp), fun p hp => (by cases hp), (by simp [someAt]), Nat.zero_le _, fun p hp => (by cases hp), fun p hp => (by cases hp)⟩, Int.le_refl _, Int.le_refl _⟩
  | succ k ih =>
    intro hk
    obtain ⟨h1, h2, h3⟩ := ih (by omega)
    have hn := getA_n hx k
    rw [someAt]
    generalize someAt c5 c6 xs k = r at *
    generalize getA xs k = a at *
    have hstep : r.2 ≤ nowStep r.2 a ∧ nowStep r.2 a ≤ r.2 + 4 := by
      unfold nowStep
      rw [Int.tmod_eq_emod_of_nonneg hn, wrap_i64_id (n := a.n % 5) (by omega), wrap_i64_id (by omega)]
      omega
    cases ht : isTick a
    · rw [some_2 ht]
      refine ⟨?_, h2, by simp only; omega⟩
      simp only
      split
      · rename_i he
        exact put_good h1 hc.1 (by omega) ask_good rfl (eq_of_beq he)
      · exact h1
    · rw [some_1 ht]
      refine ⟨late_good h1 hc ⟨hstep.1, by omega, by omega⟩, by simp only; omega, by simp only; omega⟩
theorem nOk_head {xs : List Act} (h : nOk xs) (n : Int) : nOk (headS xs n) := fun x hx => h x (List.mem_of_mem_take (List.mem_of_mem_drop hx))
theorem someL_good {c5 c6 : Int} {xs : List Act} (hx : nOk xs) (hc : 0 ≤ c6 ∧ c6 ≤ 8) : Good c6 (someL c5 c6 xs).2 (someL c5 c6 xs).1 ∧ 0 ≤ (someL c5 c6 xs).2 ∧ (someL c5 c6 xs).2 ≤ 300 := by
  have hh := headS_le xs 60 (by decide)
  obtain ⟨h1, h2, h3⟩ := some_good (c5 := c5) (nOk_head hx 60) hc (headS xs 60).length (by omega)
  exact ⟨h1, h2, by show (someAt c5 c6 (headS xs 60) (headS xs 60).length).2 ≤ 300; omega⟩
/-! ### an end -/
def endsAt (c5 c6 now : Int) (ps : List Prb) : Nat → List Prb
  | 0 => ps
  | k + 1 => (lateL c5 c6 (now + ((k + 1 : Nat) : Int)) 64 (endsAt c5 c6 now ps k)).1
def Ends (c5 c6 now : Int) (k : Nat) (xs : List Prb) : Prop := ∀ p ∈ xs, 0 ≤ p.tries ∧ p.tries ≤ c6 ∧ 0 ≤ p.sent ∧ p.sent ≤ now + k ∧ p.sent + c5 * (1 + c6 - p.tries) ≤ now + c5 * (1 + c6) ∧ (0 < k → now + k < p.sent + c5)
theorem ends_step {c5 c6 now : Int} {k : Nat} {xs : List Prb} (h : Ends c5 c6 now k xs) (hl : xs.length ≤ 16) (h5 : 1 ≤ c5) (h6 : 0 ≤ c6 ∧ c6 ≤ 8) (hn : 0 ≤ now ∧ now ≤ 100000) (hk : k ≤ 100000) : Ends c5 c6 now (k + 1) (lateL c5 c6 (now + ((k + 1 : Nat) : Int)) 64 xs).1 := by
  have key : ∀ j, j ≤ xs.length → Ends c5 c6 now (k + 1) (lateAt c5 c6 (now + ((k + 1 : Nat) : Int)) 64 xs j).1 := by
    intro j
    induction j with
    | zero => intro _ p hp; cases hp
    | succ j ih =>
      intro hj
      have h1 := ih (by omega)
      have hm : getP xs j ∈ xs := by
        unfold getP
        rw [List.getD_eq_getElem?_getD, List.getElem?_eq_getElem (by omega)]
        exact List.getElem_mem _
      obtain ⟨g1, g2, g3, g4, g5, g6⟩ := h _ hm
      have hlen := late_len c5 c6 (now + ((k + 1 : Nat) : Int)) 64 xs j
      rw [lateAt]
      generalize lateAt c5 c6 (now + ((k + 1 : Nat) : Int)) 64 xs j = r at *
      generalize getP xs j = p at *
      have keep : ∀ q : Prb, (0 ≤ q.tries ∧ q.tries ≤ c6 ∧ 0 ≤ q.sent ∧ q.sent ≤ now + ((k + 1 : Nat) : Int) ∧ q.sent + c5 * (1 + c6 - q.tries) ≤ now + c5 * (1 + c6) ∧ (0 < k + 1 → now + ((k + 1 : Nat) : Int) < q.sent + c5)) → Ends c5 c6 now (k + 1) (r.1 ++ [q]) := by
        intro q hq z hz
        rcases List.mem_append.1 hz with hz | hz
        · exact h1 z hz
        · rw [List.mem_singleton] at hz
          subst hz
          exact hq
      have hsince : since (now + ((k + 1 : Nat) : Int)) p.sent = now + ((k + 1 : Nat) : Int) - p.sent := by
        unfold since
        rw [clamp_id (by omega), clamp_id (by omega), wrap_i64_id (by omega)]
      unfold lateStep
      rw [hsince]
      split
      · rename_i hs
        have hs := of_decide_eq_true hs
        exact keep p ⟨g1, g2, g3, by omega, g5, fun _ => by omega⟩
      · rename_i hs
        have hs : ¬ now + ((k + 1 : Nat) : Int) - p.sent < c5 := fun h => hs (decide_eq_true h)
        split
        · exact h1
        · rename_i hge
          have hge : ¬ p.tries ≥ c6 := fun h => hge (decide_eq_true h)
          rw [if_pos (decide_eq_true (show ((r.2.length : Nat) : Int) < 64 by omega))]
          have hw : IntKind.i64.wrap (p.tries + 1) = p.tries + 1 := wrap_i64_id (by omega)
          refine keep (againP (now + ((k + 1 : Nat) : Int)) p) ?_
          unfold againP
          simp only [hw, clamp_id (show 0 ≤ now + ((k + 1 : Nat) : Int) ∧ now + ((k + 1 : Nat) : Int) ≤ 1099511627776 by omega)]
          have hx : c5 * (1 + c6 - (p.tries + 1)) = c5 * (1 + c6 - p.tries) - c5 := by
            rw [show 1 + c6 - (p.tries + 1) = (1 + c6 - p.tries) - 1 by omega, Int.mul_sub, Int.mul_one]
          have hx2 : c5 * (1 + c6 - p.tries) ≤ c5 * (1 + c6) := Int.mul_le_mul_of_nonneg_left (by omega) (by omega)
          rw [hx]
          generalize c5 * (1 + c6 - p.tries) = X at *
          generalize c5 * (1 + c6) = M at *
          by_cases hk0 : 0 < k
          · have := g6 hk0
            exact ⟨by omega, by omega, by omega, by omega, by omega, fun _ => by omega⟩
          · exact ⟨by omega, by omega, by omega, by omega, by omega, fun _ => by omega⟩
  exact key xs.length (Nat.le_refl _)
theorem ends_len {c5 c6 now : Int} {ps : List Prb} : ∀ k, (endsAt c5 c6 now ps k).length ≤ ps.length := by
  intro k
  induction k with
  | zero => exact Nat.le_refl _
  | succ k ih => rw [endsAt]; exact Nat.le_trans (lateL_len _ _ _ _ _) ih
theorem ends_all {c5 c6 now : Int} {ps : List Prb} (h : Good c6 now ps) (h5 : 1 ≤ c5) (h6 : 0 ≤ c6 ∧ c6 ≤ 8) (hn : 0 ≤ now ∧ now ≤ 100000) : ∀ k : Nat, k ≤ 100000 → Ends c5 c6 now k (endsAt c5 c6 now ps k) := by
  intro k
  induction k with
  | zero =>
    intro _ p hp
    have g1 := h.tries p hp
    have g2 := h.sent p hp
    have hx2 : c5 * (1 + c6 - p.tries) ≤ c5 * (1 + c6) := Int.mul_le_mul_of_nonneg_left (by omega) (by omega)
    exact ⟨g1.1, g1.2, g2.1, by omega, by omega, fun h => by omega⟩
  | succ k ih =>
    intro hk
    rw [endsAt]
    exact ends_step (ih (by omega)) (Nat.le_trans (ends_len k) h.len) h5 h6 hn (by omega)
theorem ends_nil {c5 c6 now : Int} {ps : List Prb} (h : Good c6 now ps) (h5 : 1 ≤ c5) (h6 : 0 ≤ c6 ∧ c6 ≤ 8) (hn : 0 ≤ now ∧ now ≤ 100000) {k : Nat} (hk : k ≤ 100000) (hm : (k : Int) = c5 * (1 + c6)) : endsAt c5 c6 now ps k = [] := by
  have he := ends_all h h5 h6 hn k hk
  cases hl : endsAt c5 c6 now ps k with
  | nil => rfl
  | cons p r =>
    rw [hl] at he
    obtain ⟨g1, g2, g3, g4, g5, g6⟩ := he p (List.mem_cons_self ..)
    have hx : c5 * 1 ≤ c5 * (1 + c6 - p.tries) := Int.mul_le_mul_of_nonneg_left (by omega) (by omega)
    have hp : c5 * 1 ≤ c5 * (1 + c6) := Int.mul_le_mul_of_nonneg_left (by omega) (by omega)
    rw [Int.mul_one] at hx hp
    have := g6 (by omega)
    omega
/-! ### twice -/
def same5 (p q : Prb) : Bool := p.addr == q.addr && (p.id == q.id && (p.num == q.num && (p.sent == q.sent && (p.tries == q.tries && true))))
def wasP (p q : Prb) : Bool := ((p.addr == q.addr && p.id == q.id) && p.num == q.num) && p.tries == IntKind.i64.wrap (q.tries + 1)
theorem same5_refl (p : Prb) : same5 p p = true := by simp [same5]
theorem twice_at {c5 c6 now room : Int} {xs : List Prb} (hr : 0 ≤ room) : ∀ k, k ≤ xs.length → ((lateAt c5 c6 now room xs k).2.length : Int) ≤ room ∧ ∀ p ∈ (lateAt c5 c6 now room xs k).2, p ∈ (lateAt c5 c6 now room xs k).1 ∧ ∃ q ∈ xs, p = againP now q ∧ q.tries < c6 := by
  intro k
  induction k with
  | zero => intro _; exact ⟨hr, fun p hp => by cases hp⟩
  | succ k ih =>
    intro hk
    obtain ⟨h1, h2⟩ := ih (by omega)
    have hm : getP xs k ∈ xs := by
      unfold getP
      rw [List.getD_eq_getElem?_getD, List.getElem?_eq_getElem (by omega)]
      exact List.getElem_mem _
    rw [lateAt]
    generalize lateAt c5 c6 now room xs k = r at *
    generalize getP xs k = p at *
    have more : ∀ q : Prb, ∀ z ∈ r.2, z ∈ r.1 ++ [q] ∧ ∃ q ∈ xs, z = againP now q ∧ q.tries < c6 := fun q z hz => ⟨List.mem_append_left _ (h2 z hz).1, (h2 z hz).2⟩
    unfold lateStep
    split
    · exact ⟨h1, more p⟩
    · split
      · exact ⟨h1, h2⟩
      · rename_i hge
        have hge : ¬ p.tries ≥ c6 := fun h => hge (decide_eq_true h)
        split
        · rename_i hl
          have hl := of_decide_eq_true hl
          refine ⟨by simp only [List.length_append, List.length_singleton]; omega, fun z hz => ?_⟩
          rcases List.mem_append.1 hz with hz | hz
          · exact more _ z hz
          · rw [List.mem_singleton] at hz
            subst hz
            exact ⟨List.mem_append_right _ (List.mem_singleton.2 rfl), p, hm, rfl, by omega⟩
        · exact ⟨h1, more p⟩
end Go.Proofs.Ytnjildbclmglpaa.Pro
