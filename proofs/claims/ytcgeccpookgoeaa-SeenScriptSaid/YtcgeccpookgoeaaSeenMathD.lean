/- Sightings: what the law SeenScript's loop asks, plainly. -/
import Derived.Test.YtcgeccpookgoeaaSeenMathC
namespace Go.Proofs.Ytcgeccpookgoeaa.Seen
open Go Go.Proofs.Ytcgeccpookgoeaa.Sx

/-! ### SeenScript -/
theorem lastB_eq (ks : List Known) (x : Int) : lastB ks x = decide (((seenK ks x).length : Int) > 0) := by
  unfold lastB
  by_cases h : (seenK ks x).length > 0
  · rw [decide_eq_true h, decide_eq_true (show ((seenK ks x).length : Int) > 0 by omega)]
  · rw [decide_eq_false h, decide_eq_false (show ¬ ((seenK ks x).length : Int) > 0 by omega)]
def chkP (ks : List Known) (x : Int) (M1 : List Sight) (Q1 Q2 : Prop) : Prop :=
  seenLen ks ∧ ∀ v24 : Bool, v24 = lastB ks x → ∀ v25 : Int, v25 = lastT ks x → seenLen ks ∧ ((seenK ks x).length.succ.le 9223372036854775808 ∧ M1.length.succ.le 9223372036854775808) ∧
      ((!sameL (seenK ks x) M1 || !v24 == decide ((M1.length : Int) > 0)) = false → v24 = true → 0 ≤ IntKind.i64.wrap ((M1.length : Int) - 1) ∧ IntKind.i64.wrap ((M1.length : Int) - 1) < (M1.length : Int)) ∧
      ((!sameL (seenK ks x) M1 || !v24 == decide ((M1.length : Int) > 0) || v24 && v25 != (List.getD M1 (IntKind.i64.wrap ((M1.length : Int) - 1)).toNat zeroS).time || !v24 && v25 != 0) = false → rowOk ks) ∧
      ∀ v26 : Bool, v26 = (!sameL (seenK ks x) M1 || !v24 == decide ((M1.length : Int) > 0) || v24 && v25 != (List.getD M1 (IntKind.i64.wrap ((M1.length : Int) - 1)).toNat zeroS).time || !v24 && v25 != 0 || !rightB ks) →
        (v26 = true → false = true) ∧ (v26 = false → (((M1.length : Int) == 0) = true → Q1) ∧ (((M1.length : Int) == 0) = false → Q2))
theorem chk {ks : List Known} {x : Int} {M1 : List Sight} {Q1 Q2 : Prop} (h : Good3 ks) (hM : M1 = seenK ks x) (q1 : M1.length = 0 → Q1) (q2 : Q2) : chkP ks x M1 Q1 Q2 := by
  have h8 := (h.seen x).2.1
  subst hM
  refine ⟨h.slen, fun v24 h24 v25 h25 => ?_⟩
  rw [lastB_eq] at h24
  refine ⟨h.slen, ⟨show (seenK ks x).length < 9223372036854775808 by omega, show (seenK ks x).length < 9223372036854775808 by omega⟩, fun _ hv => ?_, fun _ => h.row, fun v26 h26 => ?_⟩
  · rw [hv] at h24
    have hp := of_decide_eq_true h24.symm
    rw [wrap_i64_id (by omega)]
    omega
  · have hf : v26 = false := by
      rw [h26, h25, same_refl, h.right]
      by_cases hd : ((seenK ks x).length : Int) > 0
      · rw [decide_eq_true hd] at h24 ⊢
        have hw : (IntKind.i64.wrap (((seenK ks x).length : Int) - 1)).toNat = (seenK ks x).length - 1 := by rw [wrap_i64_id (by omega)]; omega
        have hl : lastT ks x = ((seenK ks x).getD ((seenK ks x).length - 1) zeroS).time := by
          unfold lastT
          rw [if_pos (decide_eq_true (by omega))]
          rfl
        rw [h24, hw, hl]
        simp
      · rw [decide_eq_false hd] at h24 ⊢
        have hl : lastT ks x = 0 := by
          unfold lastT
          rw [if_neg (by rw [decide_eq_false (by omega)]; simp)]
        rw [h24, hl]
        simp
    exact ⟨fun hc => absurd (hc.symm.trans hf) (by decide), fun _ => ⟨fun hq => q1 (by have := eq_of_beq hq; omega), fun _ => q2⟩⟩
theorem keep_cut {L : List Sight} (h : L.length ≤ 9) : List.take ((L.length : Int).toNat - (mx 0 (IntKind.i64.wrap ((L.length : Int) - 8))).toNat) (List.drop (0 + (mx 0 (IntKind.i64.wrap ((L.length : Int) - 8))).toNat) L) = L.drop (mx 0 ((L.length : Int) - 8)).toNat := by
  rw [wrap_i64_id (by omega), Nat.zero_add]
  refine List.take_of_length_le ?_
  rw [List.length_drop]
  omega
def cutL (L : List Sight) : List Sight := List.take ((L.length : Int).toNat - (mx 0 (IntKind.i64.wrap ((L.length : Int) - 8))).toNat) (List.drop (0 + (mx 0 (IntKind.i64.wrap ((L.length : Int) - 8))).toNat) L)
def goP (odd : List Int) (X : List Act) (g : Nat) (v4 : Int) (ks : List Known) (m : Mp) : Prop :=
  ∃ g1 : Nat, g1.le X.length ∧ (annScript odd X).μ g1 < (annScript odd X).μ g ∧ (odd = odd ∧ X = X ∧ (X.length : Int) = (X.length : Int) ∧ IntKind.i64.wrap ((g : Int) + 1) = (g1 : Int) ∧ ks = (at3 odd X g1).ks ∧ True ∧ v4 = (at3 odd X g1).now) ∧ m = (at3 odd X g1).m
def srcOut (s : Sight) : Bool := decide (s.src < 0) || decide (s.src > 3)
theorem src_bad (s : Sight) : srcBad s = srcOut s := by
  unfold srcBad srcOut
  congr 1
theorem want1 {ks : List Known} {x : Int} {s : Sight} (hb : srcOut s = true) : 12 = putE ks x s := by
  unfold putE
  rw [src_bad, hb]
  rfl
theorem want2 {ks : List Known} {m : Mp} (S : Sim ks m) {x : Int} {s : Sight} (ht : 0 ≤ s.time) (hb : srcOut s = false)
    (hq : (decide (((getM m x []).length : Int) > 0) && decide (s.time < (List.getD (getM m x []) (IntKind.i64.wrap (((getM m x []).length : Int) - 1)).toNat zeroS).time)) = true) : 3 = putE ks x s := by
  have hget := S.get x
  have h8 := (S.good.seen x).2.1
  rw [hget, Bool.and_eq_true] at hq
  have h1 := of_decide_eq_true hq.1
  have h2 := of_decide_eq_true hq.2
  have hl : lastT ks x = ((seenK ks x).getD (IntKind.i64.wrap (((seenK ks x).length : Int) - 1)).toNat zeroS).time := by
    unfold lastT
    rw [if_pos (decide_eq_true (by omega)), wrap_i64_id (by omega)]
    congr 2
    omega
  unfold putE
  rw [src_bad, hb, if_neg (by decide), if_pos]
  refine decide_eq_true ?_
  rw [← hl] at h2
  unfold mx
  split <;> omega
theorem want3 {ks : List Known} {m : Mp} (S : Sim ks m) {x : Int} {s : Sight} (ht : 0 ≤ s.time) (hb : srcOut s = false)
    (hq : (decide (((getM m x []).length : Int) > 0) && decide (s.time < (List.getD (getM m x []) (IntKind.i64.wrap (((getM m x []).length : Int) - 1)).toNat zeroS).time)) = false) {v : Int}
    (hv : v = if (((getM m x []).length : Int) == 0 && decide ((m.length : Int) ≥ 96)) = true then 4 else 0) : v = putE ks x s := by
  have hget := S.get x
  have hlen := S.len
  have hhas := S.good.has x
  have h8 := (S.good.seen x).2.1
  rw [hget] at hv hq
  have h3 : ¬ s.time < mx 0 (lastT ks x) := by
    by_cases h1 : ((seenK ks x).length : Int) > 0
    · have hl : lastT ks x = ((seenK ks x).getD (IntKind.i64.wrap (((seenK ks x).length : Int) - 1)).toNat zeroS).time := by
        unfold lastT
        rw [if_pos (decide_eq_true (by omega)), wrap_i64_id (by omega)]
        congr 2
        omega
      rw [decide_eq_true h1, Bool.true_and, ← hl] at hq
      have := of_decide_eq_false hq
      unfold mx
      split <;> omega
    · have hl : lastT ks x = 0 := by
        unfold lastT
        rw [if_neg (by rw [decide_eq_false (by omega)]; simp)]
      rw [hl]
      unfold mx
      split <;> omega
  unfold putE
  rw [src_bad, hb, if_neg (by decide), decide_eq_false h3, if_neg (by decide), hv, hlen, hhas]
  by_cases h0 : (seenK ks x).length > 0
  · rw [decide_eq_true h0, show (((seenK ks x).length : Int) == 0) = false by simp only [beq_eq_false_iff_ne, ne_eq]; omega]
    rfl
  · rw [decide_eq_false h0, show (((seenK ks x).length : Int) == 0) = true by simp only [beq_iff_eq]; omega]
    rfl
theorem idx3 {ks : List Known} {m : Mp} (S : Sim ks m) {x : Int} (hp : decide (((getM m x []).length : Int) > 0) = true) : 0 ≤ IntKind.i64.wrap (((getM m x []).length : Int) - 1) ∧ IntKind.i64.wrap (((getM m x []).length : Int) - 1) < ((getM m x []).length : Int) := by
  have hp := of_decide_eq_true hp
  have hget := S.get x
  have h8 := (S.good.seen x).2.1
  rw [hget] at hp ⊢
  rw [wrap_i64_id (by omega)]
  omega
/-- A deed that is put. -/
theorem put3 {odd : List Int} {X : List Act} {g : Nat} {x v4 : Int} {s : Sight} (hx : x = xA (getA X g)) (h4 : v4 = nowStep (at3 odd X g).now (getA X g)) (hs : s = sA odd g (getA X g) v4) (hz : putE (at3 odd X g).ks x s = 0) :
    ((getM (at3 odd X g).m x []).length * 24 ≤ 140737488355328 ∧ ((getM (at3 odd X g).m x []).length + [s].length) * 24 ≤ 140737488355328) ∧
    ∀ L : List Sight, L = getM (at3 odd X g).m x [] ++ [s] → (0 ≤ mx 0 (IntKind.i64.wrap ((L.length : Int) - 8)) ∧ mx 0 (IntKind.i64.wrap ((L.length : Int) - 8)) ≤ (L.length : Int) ∧ (L.length : Int) ≤ (L.length : Int)) ∧
      ∀ M' : Mp, M' = setM (at3 odd X g).m x (cutL L) → putL (at3 odd X g).ks x s = (at3 odd X (g + 1)).ks ∧ M' = (at3 odd X (g + 1)).m := by
  have S := sim_at odd X g
  have hks : (at3 odd X (g + 1)).ks = if (putE (at3 odd X g).ks x s == 0) = true then putL (at3 odd X g).ks x s else (at3 odd X g).ks := by rw [at3]; unfold step3; rw [hs, h4, hx]
  have hm : (at3 odd X (g + 1)).m = if (putE (at3 odd X g).ks x s == 0) = true then setM (at3 odd X g).m x (keepL (getM (at3 odd X g).m x []) s) else (at3 odd X g).m := by rw [at3]; unfold step3; rw [hs, h4, hx]
  have hget := S.get x
  have h8 := (S.good.seen x).2.1
  have hLl : (getM (at3 odd X g).m x [] ++ [s]).length = (seenK (at3 odd X g).ks x).length + 1 := by rw [hget]; simp
  have hcut : cutL (getM (at3 odd X g).m x [] ++ [s]) = keepL (getM (at3 odd X g).m x []) s := keep_cut (by omega)
  rw [if_pos (by rw [hz]; rfl)] at hks hm
  refine ⟨⟨by rw [hget]; omega, by rw [hget]; simp only [List.length_singleton]; omega⟩, ?_⟩
  intro L hL
  subst hL
  refine ⟨⟨?_, ?_, Int.le_refl _⟩, ?_⟩
  · unfold mx; split <;> omega
  · rw [hLl, wrap_i64_id (by omega)]; unfold mx; split <;> omega
  intro M' hM'
  rw [hcut] at hM'
  exact ⟨hks.symm, hM'.trans hm.symm⟩
/-- A deed that is not. -/
theorem noPut3 {odd : List Int} {X : List Act} {g : Nat} {x v4 : Int} {s : Sight} (hx : x = xA (getA X g)) (h4 : v4 = nowStep (at3 odd X g).now (getA X g)) (hs : s = sA odd g (getA X g) v4) (hz : putE (at3 odd X g).ks x s ≠ 0) :
    (at3 odd X g).ks = (at3 odd X (g + 1)).ks ∧ (at3 odd X g).m = (at3 odd X (g + 1)).m := by
  have hks : (at3 odd X (g + 1)).ks = if (putE (at3 odd X g).ks x s == 0) = true then putL (at3 odd X g).ks x s else (at3 odd X g).ks := by rw [at3]; unfold step3; rw [hs, h4, hx]
  have hm : (at3 odd X (g + 1)).m = if (putE (at3 odd X g).ks x s == 0) = true then setM (at3 odd X g).m x (keepL (getM (at3 odd X g).m x []) s) else (at3 odd X g).m := by rw [at3]; unfold step3; rw [hs, h4, hx]
  have hz : ¬ (putE (at3 odd X g).ks x s == 0) = true := fun h => hz (eq_of_beq h)
  rw [if_neg hz] at hks hm
  exact ⟨hks.symm, hm.symm⟩
theorem go3 {odd : List Int} {X : List Act} {g : Nat} (hg : g < X.length) (hl : X.length < 9223372036854775808) {v4 : Int} (h4 : v4 = nowStep (at3 odd X g).now (getA X g)) {m : Mp} (hm : m = (at3 odd X (g + 1)).m) : goP odd X g v4 (at3 odd X (g + 1)).ks m :=
  ⟨g + 1, hg, show X.length - (g + 1) < X.length - g by omega, ⟨rfl, rfl, rfl, wrap_next (show (g : Int) < (X.length : Int) by omega) (by omega), rfl, trivial, by rw [h4]; rfl⟩, hm⟩
theorem chk3 {odd : List Int} {X : List Act} {g : Nat} (hg : g < X.length) (hl : X.length < 9223372036854775808) {x v4 : Int} (h4 : v4 = nowStep (at3 odd X g).now (getA X g)) :
    chkP (at3 odd X (g + 1)).ks x (getM (at3 odd X (g + 1)).m x []) (goP odd X g v4 (at3 odd X (g + 1)).ks (delM (at3 odd X (g + 1)).m x)) (goP odd X g v4 (at3 odd X (g + 1)).ks (at3 odd X (g + 1)).m) := by
  have S := sim_at odd X (g + 1)
  have hget := S.get x
  refine chk S.good hget (fun h0 => ?_) (go3 hg hl h4 rfl)
  have : hasM (at3 odd X (g + 1)).m x = false := by rw [S.has, S.good.has, ← hget, h0]; rfl
  rw [delM_no this]
  exact go3 hg hl h4 rfl
end Go.Proofs.Ytcgeccpookgoeaa.Seen
