/- The law DiskScript, in plain terms: what the law's own disk has is what the disk has. -/
import Derived.Test.YtmfpgddnapmgfaaDiskSpecB
import Derived.Test.YtmfpgddnapmgfaaDiskMathB
namespace Go.Proofs.Ytmfpgddnapmgfaa.Dsk
open Go Go.Proofs.Ytmfpgddnapmgfaa.Sx

theorem at_in (a : Act) : -50 < atA a ∧ atA a < 50 := by
  unfold atA
  exact ⟨Int.lt_tmod_of_pos _ (by decide), Int.tmod_lt_of_pos _ (by decide)⟩
theorem mx_m1 {n : Int} (h : n ≤ 1000) : -1 ≤ mx (-1) n ∧ mx (-1) n ≤ 1000 := by unfold mx; split <;> omega
structure Good (d : Dk) (n : Int) (m : Nat) : Prop where
  b : DkB d m
  len : (d.kept.length : Int) = n
  l : -1 ≤ d.left ∧ d.left ≤ 1000
  f : -1 ≤ d.fail ∧ d.fail ≤ 1000
theorem Good.call {d : Dk} {n : Int} {m : Nat} (h : Good d n m) : Good d.call n m := by
  have h1 := h.l
  have h2 := h.f
  refine ⟨h.b.call, h.len, mx_m1 ?_, mx_m1 ?_⟩ <;> (rw [wrap_i64_id (by omega)]; omega)
theorem Good.mono {d : Dk} {n : Int} {m k : Nat} (h : Good d n m) (hm : m ≤ k) : Good d n k := ⟨h.b.mono hm, h.len, h.l, h.f⟩
theorem Good.step {d : Dk} {n : Int} {m : Nat} (h : Good d n m) (a : Act) : Good (stepD a d) n (m + 1) := by
  have ha := at_in a
  unfold stepD
  split
  · exact ⟨h.b.mono (Nat.le_succ _), h.len, mx_m1 (by omega), h.f⟩
  split
  · exact ⟨h.b.mono (Nat.le_succ _), h.len, h.l, mx_m1 (by omega)⟩
  split
  · refine ⟨(h.b.restart _ _ _).mono (Nat.zero_le _), ?_, ⟨show (-1 : Int) ≤ -1 by decide, show (-1 : Int) ≤ 1000 by decide⟩, ⟨show (-1 : Int) ≤ -1 by decide, show (-1 : Int) ≤ 1000 by decide⟩⟩
    show ((keptR d _ _ _ _).length : Int) = n
    rw [keptR_len]
    exact h.len
  split
  · have hb := h.b.flush
    unfold Dk.flush at hb ⊢
    split
    · exact h.mono (Nat.le_succ _)
    · rename_i hd
      rw [if_neg hd] at hb
      split
      · exact h.call.mono (Nat.le_succ _)
      · rename_i he
        rw [if_neg he] at hb
        refine ⟨hb.mono (Nat.le_succ _), ?_, h.call.l, h.call.f⟩
        show ((keptAt d _).length : Int) = n
        rw [keptAt_len]
        exact h.len
  · have hb := h.b.write (atA a) (sectorL a.byte)
    have hk := write_kept d (atA a) (sectorL a.byte)
    refine ⟨hb, by rw [hk]; exact h.len, ?_, ?_⟩ <;>
    · unfold Dk.write
      split
      · first | exact h.l | exact h.f
      · split
        · split <;> first | exact h.call.l | exact h.call.f
        · first | exact h.l | exact h.f
theorem sizeN_in {s : Int} (h : 0 ≤ s ∧ s < 256) : 0 ≤ sizeN s ∧ sizeN s < 40 := by
  unfold sizeN
  rw [Int.tmod_eq_emod_of_nonneg h.1, wrap_i64_id (by omega)]
  omega
theorem good0 {n : Int} (h : 0 ≤ n ∧ n < 40) : Good (spOf n) n 0 := by
  refine ⟨DkB.of n, ?_, ⟨by show (-1 : Int) ≤ -1; decide, by show (-1 : Int) ≤ 1000; decide⟩, ⟨by show (-1 : Int) ≤ -1; decide, by show (-1 : Int) ≤ 1000; decide⟩⟩
  show ((List.replicate (mx 0 (mn n 512)).toNat zeroS).length : Int) = n
  rw [List.length_replicate]
  unfold mx mn
  split <;> split <;> omega
theorem good_at {n : Int} (h : 0 ≤ n ∧ n < 40) (xs : List Act) : ∀ g, Good (dAt n xs g) n g
  | 0 => good0 h
  | g + 1 => (good_at h xs g).step (getA xs g)
theorem call_eq {d : Dk} {n : Int} {m : Nat} (h : Good d n m) (hd : d.down = false) : lE d.fail d.left = callE d ∧ lF d.left = d.call.left ∧ lF d.fail = d.call.fail := by
  have h1 := h.l
  have h2 := h.f
  have key : ∀ f : Int, -1 ≤ f → f ≤ 1000 → lF f = mx (-1) (IntKind.i64.wrap (f - 1)) := by
    intro f h1 h2
    rw [wrap_i64_id (by omega)]
    unfold lF mx
    rw [wrap_i64_id (by omega)]
    split <;> split <;> omega
  refine ⟨?_, key _ h1.1 h1.2, key _ h2.1 h2.2⟩
  unfold lE callE
  rw [hd, Bool.false_or]
theorem in_eq {d : Dk} {n : Int} {m : Nat} (h : Good d n m) (k : Int) : (decide (k ≥ 0) && decide (k < n)) = inD d k := by
  have hl := h.len
  by_cases hi : 0 ≤ k ∧ k < d.kept.length
  · rw [inD_iff.2 hi, decide_eq_true hi.1, decide_eq_true (by omega)]
    rfl
  · have h2 : inD d k = false := by
      cases hc : inD d k with
      | true => exact absurd (inD_iff.1 hc) hi
      | false => rfl
    rw [h2]
    by_cases h0 : k ≥ 0
    · rw [decide_eq_false (show ¬ k < n by omega), Bool.and_false]
    · rw [decide_eq_false h0, Bool.false_and]
/-! ### a sector that takes another one's bytes -/
theorem sec_ext {x y : Sec} (h : ∀ j, j < 64 → x.l.getD j 0 = y.l.getD j 0) : x = y := by
  apply Sec.ext'
  apply List.ext_getElem?
  intro j
  by_cases hj : j < 64
  · have hx : j < x.l.length := by rw [x.h]; exact hj
    have hy : j < y.l.length := by rw [y.h]; exact hj
    have := h j hj
    rw [List.getD_eq_getElem?_getD, List.getD_eq_getElem?_getD, List.getElem?_eq_getElem hx, List.getElem?_eq_getElem hy] at this
    rw [List.getElem?_eq_getElem hx, List.getElem?_eq_getElem hy]
    exact congrArg some this
  · rw [List.getElem?_eq_none (by rw [x.h]; omega), List.getElem?_eq_none (by rw [y.h]; omega)]
theorem mix_get {m t b : Int} {k i j : Nat} {x y : Sec} (hj : j < 64) : (mixS m t b k x y i).l.getD j 0 = if (decide (j < i) && selS m t b k j) = true then y.l.getD j 0 else x.l.getD j 0 := by
  show (mixL m t b k x y i).getD j 0 = _
  unfold mixL
  rw [List.getD_eq_getElem?_getD, List.getElem?_map, List.getElem?_range hj]
  rfl
theorem mix_zero (m t b : Int) (k : Nat) (x y : Sec) : mixS m t b k x y 0 = x := by
  apply sec_ext
  intro j hj
  rw [mix_get hj, if_neg]
  rw [decide_eq_false (Nat.not_lt_zero _)]
  simp
theorem mix_no {m t b : Int} {k i : Nat} {x y : Sec} (h : selS m t b k i = false) : mixS m t b k x y i = mixS m t b k x y (i + 1) := by
  apply sec_ext
  intro j hj
  rw [mix_get hj, mix_get hj]
  by_cases e : j = i
  · subst e
    rw [h]
    simp
  · have : decide (j < i + 1) = decide (j < i) := by
      by_cases hl : j < i
      · rw [decide_eq_true hl, decide_eq_true (by omega)]
      · rw [decide_eq_false hl, decide_eq_false (by omega)]
    rw [this]
theorem mix_yes {m t b : Int} {k i : Nat} {x y : Sec} (hi : i < 64) (h : selS m t b k i = true) : Sec.of ((mixS m t b k x y i).l.set i (y.l.getD i 0)) = mixS m t b k x y (i + 1) := by
  apply sec_ext
  intro j hj
  rw [Sec.of_l (by rw [List.length_set]; exact (mixS m t b k x y i).h), mix_get hj, List.getD_eq_getElem?_getD, List.getElem?_set]
  have hl := (mixS m t b k x y i).h
  by_cases e : i = j
  · subst e
    rw [if_pos rfl, if_pos (by omega), h]
    rw [decide_eq_true (Nat.lt_succ_self _)]
    rfl
  · rw [if_neg e, ← List.getD_eq_getElem?_getD, mix_get hj]
    have : decide (j < i + 1) = decide (j < i) := by
      by_cases hl : j < i
      · rw [decide_eq_true hl, decide_eq_true (by omega)]
      · rw [decide_eq_false hl, decide_eq_false (by omega)]
    rw [this]
theorem mix_all {m t b : Int} {k : Nat} {x y : Sec} (h : ∀ j, j < 64 → selS m t b k j = true) : mixS m t b k x y 64 = y := by
  apply sec_ext
  intro j hj
  rw [mix_get hj, h j hj, decide_eq_true hj]
  rfl
theorem mix_none {m t b : Int} {k : Nat} {x y : Sec} (h : ∀ j, j < 64 → selS m t b k j = false) : mixS m t b k x y 64 = x := by
  apply sec_ext
  intro j hj
  rw [mix_get hj, h j hj, Bool.and_false, if_neg (by decide)]
theorem mix_tear {m t b : Int} {k : Nat} {x y : Sec} (h : ∀ j, j < 64 → selS m t b k j = decide ((j : Int) < b)) : mixS m t b k x y 64 = tearS x y b := by
  apply sec_ext
  intro j hj
  have hn := mx_in b
  rw [mix_get hj, h j hj, decide_eq_true hj, Bool.true_and]
  unfold tearS
  rw [Sec.of_l (tear_len _ _ _)]
  unfold tearL
  have hyl : (List.take (mx 0 (mn b 64)).toNat y.l).length = (mx 0 (mn b 64)).toNat := by rw [List.length_take, y.h]; omega
  rw [List.getD_eq_getElem?_getD (l := _ ++ _), List.getElem?_append, hyl]
  have hx : mx 0 (mn b 64) = if b < 0 then 0 else if b < 64 then b else 64 := by unfold mx mn; split <;> split <;> (try split) <;> (try split) <;> omega
  by_cases hb : (j : Int) < b
  · rw [decide_eq_true hb, if_pos rfl, if_pos (by split at hx <;> (try split at hx) <;> omega), List.getElem?_take, if_pos (by split at hx <;> (try split at hx) <;> omega), ← List.getD_eq_getElem?_getD]
  · rw [decide_eq_false hb, if_neg (by decide), if_neg (by split at hx <;> (try split at hx) <;> omega), List.getElem?_drop, ← List.getD_eq_getElem?_getD]
    congr 1
    split at hx <;> (try split at hx) <;> omega
theorem bit_sel {m : Int} (h : 0 ≤ m ∧ m < 18446744073709551616) (k : Nat) : ((shr .u64 m (Int.tmod (k : Int) 64)).tmod 2 == 1) = bitM m k := by
  unfold bitM
  have hp := shr_pos (k := Int.tmod (k : Int) 64) h.1
  have hl := shr_le (k := Int.tmod (k : Int) 64) h.1
  rw [bit_one hp (by omega), Int.tmod_eq_emod_of_nonneg hp]
/-! ### the law's own disk, when it goes on -/
theorem reK_len (d : Dk) (a : Act) (k : Nat) : (reK d a k).length = d.kept.length := keptR_len d _ _ _ k
theorem reK2_len (d : Dk) (a : Act) (k i : Nat) : (reK2 d a k i).length = d.kept.length := by unfold reK2; rw [List.length_set, reK_len]
theorem set_self (l : List Sec) (i : Nat) : l.set i (getS l i) = l := by
  apply List.ext_getElem?
  intro j
  rw [List.getElem?_set]
  by_cases e : i = j
  · subst e
    rw [if_pos rfl]
    by_cases hi : i < l.length
    · rw [if_pos hi]
      unfold getS
      rw [List.getD_eq_getElem?_getD, List.getElem?_eq_getElem hi]
      rfl
    · rw [if_neg hi, List.getElem?_eq_none (by omega)]
  · rw [if_neg e]
theorem reK2_zero (d : Dk) (a : Act) (k : Nat) : reK d a k = reK2 d a k 0 := by
  unfold reK2
  rw [mix_zero, set_self]
theorem reK2_no {d : Dk} {a : Act} {k i : Nat} (h : selS a.mask (IntKind.i64.wrap a.torn) (IntKind.i64.wrap a.bytes) k i = false) : reK2 d a k i = reK2 d a k (i + 1) := by
  unfold reK2
  rw [mix_no h]
theorem reK2_yes {d : Dk} {a : Act} {k i : Nat} (hi : i < 64) (hk : (getW d.wait k).at_.toNat < d.kept.length) (h : selS a.mask (IntKind.i64.wrap a.torn) (IntKind.i64.wrap a.bytes) k i = true) :
    (reK2 d a k i).set (getW d.wait k).at_.toNat (Sec.of ((getS (reK2 d a k i) (getW d.wait k).at_.toNat).l.set i ((getW d.wait k).data.l.getD i 0))) = reK2 d a k (i + 1) := by
  have hg : getS (reK2 d a k i) (getW d.wait k).at_.toNat = mixS a.mask (IntKind.i64.wrap a.torn) (IntKind.i64.wrap a.bytes) k (getS (reK d a k) (getW d.wait k).at_.toNat) (getW d.wait k).data i := by
    unfold reK2
    rw [getS_set (by rw [reK_len]; exact hk), if_pos rfl]
  rw [hg, mix_yes hi h]
  unfold reK2
  rw [List.set_set]
theorem reK2_last (d : Dk) (a : Act) (k : Nat) (hm : 0 ≤ a.mask ∧ a.mask < 18446744073709551616) : reK2 d a k 64 = reK d a (k + 1) := by
  unfold reK2
  show _ = keptR d _ _ _ (k + 1)
  rw [keptR_next]
  by_cases ht : ((k : Int) == IntKind.i64.wrap a.torn) = true
  · rw [if_pos ht, mix_tear]
    · rfl
    · intro j hj
      unfold selS
      rw [ht]
      have : ((k : Int) != IntKind.i64.wrap a.torn) = false := by unfold bne; rw [ht]; rfl
      rw [this]
      simp
  · have hf : ((k : Int) == IntKind.i64.wrap a.torn) = false := by simpa using ht
    have hn : ((k : Int) != IntKind.i64.wrap a.torn) = true := by unfold bne; rw [hf]; rfl
    rw [if_neg ht]
    have hsel : ∀ j, selS a.mask (IntKind.i64.wrap a.torn) (IntKind.i64.wrap a.bytes) k j = bitM a.mask k := by
      intro j
      unfold selS
      rw [hf, hn, bit_sel hm]
      simp
    by_cases hb : bitM a.mask k = true
    · rw [if_pos hb, mix_all (fun j _ => (hsel j).trans hb)]
      rfl
    · rw [if_neg hb, mix_none (fun j _ => (hsel j).trans (by simpa using hb))]
      exact set_self _ _
theorem headA_le (xs : List Act) : (headA xs).length ≤ 200 := by
  unfold headA
  rw [List.drop_zero, List.length_take]
  unfold mn
  split <;> omega
theorem headA_mem {xs : List Act} {x : Act} (h : x ∈ headA xs) : x ∈ xs := by
  unfold headA at h
  rw [List.drop_zero] at h
  exact List.mem_of_mem_take h
theorem getA_mem {xs : List Act} {g : Nat} (h : g < xs.length) : getA xs g ∈ xs := by
  unfold getA
  rw [List.getD_eq_getElem?_getD, List.getElem?_eq_getElem h]
  exact List.getElem_mem h
end Go.Proofs.Ytmfpgddnapmgfaa.Dsk
