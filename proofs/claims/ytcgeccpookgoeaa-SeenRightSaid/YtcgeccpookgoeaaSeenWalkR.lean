/- Sightings: the law SeenRight, by the bodies' contracts. -/
import Derived.Test.YtcgeccpookgoeaaSeenVcR
import Derived.Test.YtcgeccpookgoeaaSeenWalkC
namespace Go.Proofs.Ytcgeccpookgoeaa.Seen
open Go Go.Proofs.Ytcgeccpookgoeaa.Sx

theorem okSL_time {xs : List Sight} : ∀ j, okSL xs j = true → ∀ i, i < j → 0 ≤ (getS xs i).time
  | 0, _, i, hi => absurd hi (Nat.not_lt_zero i)
  | j + 1, h, i, hi => by
    have h : (okSL xs j && !badSL xs (lastL xs j) j) = true := h
    rw [Bool.and_eq_true] at h
    have ih := okSL_time j h.1
    by_cases hij : i < j
    · exact ih i hij
    · obtain rfl : i = j := by omega
      have hb : badSL xs (lastL xs i) i = false := by simpa using h.2
      unfold badSL at hb
      simp only [Bool.or_eq_false_iff, decide_eq_false_iff_not] at hb
      cases i with
      | zero =>
        have : lastL xs 0 = 0 := rfl
        omega
      | succ i =>
        have h1 : lastL xs (i + 1) = (getS xs i).time := rfl
        have h2 := ih i (by omega)
        omega
theorem okS_eq (xs : List Sight) : ∀ j, okS xs j = okSL xs j
  | 0 => rfl
  | j + 1 => by
    show (okS xs j && !badS xs j) = (okSL xs j && !badSL xs (lastL xs j) j)
    rw [okS_eq xs j]
    cases h : okSL xs j with
    | false => rfl
    | true =>
      rw [Bool.true_and, Bool.true_and]
      congr 1
      have ht := okSL_time j h
      rw [Bool.eq_iff_iff]
      unfold badS badSL
      simp only [Bool.or_eq_true, Bool.and_eq_true, decide_eq_true_eq]
      cases j with
      | zero =>
        have : lastL xs 0 = 0 := rfl
        rw [this]
        constructor <;> intro hh <;> omega
      | succ j =>
        have h1 : lastL xs (j + 1) = (getS xs j).time := rfl
        have h2 := ht j (by omega)
        have h3 : getS xs (j + 1 - 1) = getS xs j := rfl
        rw [h1, h3]
        constructor <;> intro hh <;> omega
theorem badK_eq (ks : List Known) (k : Nat) : badK ks k = badKL ks k := by
  unfold badK badKL
  have : (((getK ks k).seen.length : Int) == 0) = decide (((getK ks k).seen.length : Int) < 1) := by
    rw [Bool.eq_iff_iff]
    simp only [beq_iff_eq, decide_eq_true_eq]
    omega
  rw [this]
theorem okTo_eq (ks : List Known) : ∀ k, okTo ks k = okToL ks k
  | 0 => rfl
  | k + 1 => by
    show (okTo ks k && (!badK ks k && okS (getK ks k).seen (getK ks k).seen.length)) = (okToL ks k && (!badKL ks k && okSL (getK ks k).seen (getK ks k).seen.length))
    rw [okTo_eq ks k, badK_eq, okS_eq]
theorem right_eq (ks : List Known) : rightB ks = rightL ks := by
  unfold rightB rightL
  rw [okTo_eq]
  by_cases h : (ks.length : Int) > 96
  · rw [if_pos (decide_eq_true h), decide_eq_false (by omega), Bool.and_false]
  · rw [if_neg (by simpa using h), decide_eq_true (by omega), Bool.and_true]
theorem bodyLRight (raw : List Known) (acts : List Act) (n s m0 m1 m2 m3 m4 m5 t : Int) (h : rightOk raw acts n) : BodyOk Try.prog u tab6 [103009, 109012, 7000009011012, 8000011011000] [] Try.f5 [.csl 53 raw, .csl 28 acts, .int .u8 n, .agg [.int .i64 s, .int .u8 m0, .int .u8 m1, .int .u8 m2, .int .u8 m3, .int .u8 m4, .int .u8 m5, .int .i64 t]] (.bool true) := by
  constructor
  have eqn : bodyW Try.prog u tab6 [103009, 109012, 7000009011012, 8000011011000] (drawW Try.prog u tab6) (loopsBy u []) Try.f5 [.csl 53 raw, .csl 28 acts, .int .u8 n, .agg [.int .i64 s, .int .u8 m0, .int .u8 m1, .int .u8 m2, .int .u8 m3, .int .u8 m4, .int .u8 m5, .int .i64 t]] (.bool true) = vcLRight raw acts n s m0 m1 m2 m3 m4 m5 t := by kernel_rfl
  rw [eqn]
  unfold vcLRight
  obtain ⟨hr, ha, hn⟩ := h
  refine ⟨fun h => absurd h (by decide), fun _ => ⟨ha, fun v hv => ?_⟩⟩
  have hg : Good (someL acts).2 v := by
    rw [hv]
    exact (someL_good ha.2).1
  clear hv
  refine ⟨hg.row, fun _ => hr, fun _ => hr, fun hx => ?_, fun _ => ⟨fun _ => rfl, fun hz => ?_⟩⟩
  · rw [hg.right, right_eq raw, beq_self_eq_true] at hx
    exact absurd hx (by decide)
  have h0 : v.length ≠ 0 := by
    intro h0
    rw [h0] at hz
    exact absurd hz (by decide)
  have hlen := hg.len
  have hw : IntKind.i64.wrap n = n := wrap_i64_id (by omega)
  rw [hw]
  have k1 := Int.tmod_nonneg (v.length : Int) hn.1
  have k2 := Int.tmod_lt_of_pos n (show (0 : Int) < (v.length : Int) by omega)
  generalize n.tmod (v.length : Int) = k at *
  have hkl : k.toNat < v.length := by omega
  have hmem : v.getD k.toNat (u.dflt 53) ∈ v := getK_mem hkl
  have hone := (hg.one _ hmem).1
  generalize (v.getD k.toNat (u.dflt 53) : Known) = x at *
  have t1 : 0 ≤ n.tdiv 3 ∧ n.tdiv 3 ≤ n := by rw [Int.tdiv_eq_ediv_of_nonneg hn.1]; omega
  have t2 : IntKind.i64.wrap (n.tdiv 3) = n.tdiv 3 := wrap_i64_id (by omega)
  rw [t2]
  have q1 := Int.tmod_nonneg (x.seen.length : Int) t1.1
  have q2 := Int.tmod_lt_of_pos (n.tdiv 3) (show (0 : Int) < (x.seen.length : Int) by omega)
  have hrow : ∀ y : Known, y.seen.length = x.seen.length → rowOk (v.set k.toNat y) := by
    intro y hy
    refine ⟨by rw [List.length_set]; omega, fun z hz => ?_⟩
    rcases List.mem_or_eq_of_mem_set hz with hz | rfl
    · exact hg.row.2 z hz
    · omega
  refine ⟨by omega, by omega, ⟨k1, k2⟩, fun v1 hv1 => ⟨⟨by omega, hkl⟩, by omega, ⟨by omega, hkl⟩, ⟨by omega, hkl⟩, by decide, ⟨by omega, hkl⟩, by omega, ⟨q1, q2⟩, hrow _ (List.length_set), hrow _ (List.length_set), fun _ => hg.row, ?_⟩⟩
  rw [right_eq, beq_self_eq_true, hg.right]
  rfl
theorem okLRight : FnOk Try.prog u 5 spLRight := by
  refine fn_ok Try.prog u tab6 mo laws6 Try.func5 ?_
  intro xs c y h hc
  unfold spLRight at h
  split at h
  · cases h
    exact ⟨by kernel_rfl, _, _, bodyLRight _ _ _ _ _ _ _ _ _ _ _ hc⟩
  · cases h
end Go.Proofs.Ytcgeccpookgoeaa.Seen
