/- Questions that wait: the contracts of the package's functions. -/
import Derived.Test.YtnjildbclmglpaaProVcC
namespace Go.Proofs.Ytnjildbclmglpaa.Pro
open Go Go.Proofs.Ytnjildbclmglpaa.Sx

theorem bodyContR (x1 x2 x3 x4 x5 : Int) (xs : List Prb) (h : lenOk xs) : BodyOk Try.prog u tab3 [] [] Try.f23 [.csl 29 xs, .fn 24 [.cptr [.int .u32 x1, .int .i64 x2, .int .i64 x3, .int .i64 x4, .int .i64 x5] 0]] (.bool (xs.any (sameA ⟨x1, x2, x3, x4, x5⟩))) := by
  constructor
  have eqn : bodyW Try.prog u tab3 [] (drawW Try.prog u tab3) (loopsBy u []) Try.f23 [.csl 29 xs, .fn 24 [.cptr [.int .u32 x1, .int .i64 x2, .int .i64 x3, .int .i64 x4, .int .i64 x5] 0]] (.bool (xs.any (sameA ⟨x1, x2, x3, x4, x5⟩))) = vcContR x1 x2 x3 x4 x5 xs := by kernel_rfl
  rw [eqn]
  exact ⟨h, first_ge _ _⟩
theorem bodyContP (x1 x2 x3 x4 x5 : Int) (xs : List Prb) (h : lenOk xs) : BodyOk Try.prog u tab3 [] [] Try.f23 [.csl 29 xs, .fn 30 [.cptr [.int .u32 x1, .int .i64 x2, .int .i64 x3, .int .i64 x4, .int .i64 x5] 0]] (.bool (xs.any (sameA ⟨x1, x2, x3, x4, x5⟩))) := by
  constructor
  have eqn : bodyW Try.prog u tab3 [] (drawW Try.prog u tab3) (loopsBy u []) Try.f23 [.csl 29 xs, .fn 30 [.cptr [.int .u32 x1, .int .i64 x2, .int .i64 x3, .int .i64 x4, .int .i64 x5] 0]] (.bool (xs.any (sameA ⟨x1, x2, x3, x4, x5⟩))) = vcContP x1 x2 x3 x4 x5 xs := by kernel_rfl
  rw [eqn]
  exact ⟨h, first_ge _ _⟩
theorem okContains : FnOk Try.prog u 23 spContains := by
  refine fn_ok Try.prog u tab3 mo laws3 Try.func23 ?_
  intro xs c y h hc
  unfold spContains at h
  split at h
  · cases h
    exact ⟨by kernel_rfl, _, _, bodyContR _ _ _ _ _ _ hc⟩
  · cases h
    exact ⟨by kernel_rfl, _, _, bodyContP _ _ _ _ _ _ hc⟩
  · cases h
theorem laws4 : Laws Try.prog u tab4 := by
  refine ⟨law, clean, fun p hp => ?_⟩
  rcases List.mem_cons.1 hp with rfl | hp
  · exact okContains
  rcases List.mem_cons.1 hp with rfl | hp
  · exact okClone
  exact laws3.tab p hp
theorem getP_drop (xs : List Prb) (g j : Nat) (h : j < g) : ((xs.take g).drop 0).getD j zeroP = getP xs j := by
  unfold getP
  rw [List.drop_zero, List.getD_eq_getElem?_getD, List.getD_eq_getElem?_getD, List.getElem?_take_of_lt h]
theorem len_take0 (xs : List Prb) (g : Nat) (h : g ≤ xs.length) : ((xs.take g).drop 0).length = g := by
  rw [List.drop_zero, List.length_take]
  omega
theorem okTo_le (xs : List Prb) : ∀ (m k : Nat), k ≤ m → okTo xs m = true → okTo xs k = true := by
  intro m
  induction m with
  | zero => intro k hk h; obtain rfl : k = 0 := by omega
            exact h
  | succ m ih =>
    intro k hk h
    by_cases e : k = m + 1
    · subst e; exact h
    · rw [okTo, Bool.and_eq_true] at h
      exact ih k (by omega) h.1
theorem right_bad {xs : List Prb} {k : Nat} (hk : k < xs.length) (h : badP (getP xs k) = true ∨ dupP xs k = true) : false = rightB xs := by
  unfold rightB
  cases ho : okTo xs xs.length
  · rfl
  · have h1 := okTo_le xs xs.length (k + 1) (by omega) ho
    rw [okTo] at h1
    rcases h with h | h <;> rw [h] at h1 <;> simp at h1
theorem right_step {xs : List Prb} {k : Nat} (h0 : okTo xs k = true) (h1 : badP (getP xs k) = false) (h2 : dupP xs k = false) : okTo xs (k + 1) = true := by
  rw [okTo, h0, h1, h2]; rfl
theorem okToL_le (xs : List Prb) : ∀ (m k : Nat), k ≤ m → okToL xs m = true → okToL xs k = true := by
  intro m
  induction m with
  | zero => intro k hk h; obtain rfl : k = 0 := by omega
            exact h
  | succ m ih =>
    intro k hk h
    by_cases e : k = m + 1
    · subst e; exact h
    · rw [okToL, Bool.and_eq_true] at h
      exact ih k (by omega) h.1
theorem rightL_bad {xs : List Prb} {k : Nat} (hk : k < xs.length) (h : badL (getP xs k) = true ∨ dupP xs k = true) : false = rightL xs := by
  unfold rightL
  cases ho : okToL xs xs.length
  · rfl
  · have h1 := okToL_le xs xs.length (k + 1) (by omega) ho
    rw [okToL] at h1
    rcases h with h | h <;> rw [h] at h1 <;> simp at h1
theorem rightL_step {xs : List Prb} {k : Nat} (h0 : okToL xs k = true) (h1 : badL (getP xs k) = false) (h2 : dupP xs k = false) : okToL xs (k + 1) = true := by
  rw [okToL, h0, h1, h2]; rfl
theorem any_take_lt {q : Prb → Bool} {xs : List Prb} {j k : Nat} (hj : j < k) (hk : j < xs.length) (hq : q (getP xs j) = true) : (xs.take k).any q = true := by
  rw [any_take_drop q (xs.take k) (j + 1), List.take_take, show min (j + 1) k = j + 1 by omega, take_getD xs j hk zeroP, List.any_append]
  have hq : q (xs.getD j zeroP) = true := hq
  rw [List.any_cons, hq]
  simp
theorem late_len (c5 c6 now room : Int) (xs : List Prb) : ∀ k, (lateAt c5 c6 now room xs k).1.length ≤ k ∧ (lateAt c5 c6 now room xs k).2.length ≤ (lateAt c5 c6 now room xs k).1.length := by
  intro k
  induction k with
  | zero => exact ⟨Nat.le_refl _, Nat.le_refl _⟩
  | succ k ih =>
    rw [lateAt]
    unfold lateStep
    split
    · simp only [List.length_append, List.length_singleton]; omega
    · split
      · omega
      · split
        · simp only [List.length_append, List.length_singleton]; omega
        · simp only [List.length_append, List.length_singleton]; omega
theorem late_1 {c5 c6 now room : Int} {r : List Prb × List Prb} {p : Prb} (h1 : decide (since now p.sent < c5) = true) : lateStep c5 c6 now room r p = (r.1 ++ [p], r.2) := if_pos h1
theorem late_2 {c5 c6 now room : Int} {r : List Prb × List Prb} {p : Prb} (h1 : decide (since now p.sent < c5) = false) (h2 : decide (p.tries ≥ c6) = true) : lateStep c5 c6 now room r p = r := by
  unfold lateStep; rw [if_neg (by rw [h1]; simp), if_pos h2]
theorem late_3 {c5 c6 now room : Int} {r : List Prb × List Prb} {p : Prb} (h1 : decide (since now p.sent < c5) = false) (h2 : decide (p.tries ≥ c6) = false) (h3 : decide ((r.2.length : Int) < room) = true) : lateStep c5 c6 now room r p = (r.1 ++ [againP now p], r.2 ++ [againP now p]) := by
  unfold lateStep; rw [if_neg (by rw [h1]; simp), if_neg (by rw [h2]; simp), if_pos h3]
theorem late_4 {c5 c6 now room : Int} {r : List Prb × List Prb} {p : Prb} (h1 : decide (since now p.sent < c5) = false) (h2 : decide (p.tries ≥ c6) = false) (h3 : decide ((r.2.length : Int) < room) = false) : lateStep c5 c6 now room r p = (r.1 ++ [p], r.2) := by
  unfold lateStep; rw [if_neg (by rw [h1]; simp), if_neg (by rw [h2]; simp), if_neg (by rw [h3]; simp)]
theorem bodyPut (xs : List Prb) (a b c d e : Int) (h : lenOk xs) : BodyOk Try.prog u tab4 [] [] Try.f21 [.csl 29 xs, .agg [.int .u32 a, .int .i64 b, .int .i64 c, .int .i64 d, .int .i64 e]] (.tup [.csl 29 (putL xs ⟨a, b, c, d, e⟩), .int .i64 (putErr xs ⟨a, b, c, d, e⟩)]) := by
  constructor
  have eqn : bodyW Try.prog u tab4 [] (drawW Try.prog u tab4) (loopsBy u []) Try.f21 [.csl 29 xs, .agg [.int .u32 a, .int .i64 b, .int .i64 c, .int .i64 d, .int .i64 e]] (.tup [.csl 29 (putL xs ⟨a, b, c, d, e⟩), .int .i64 (putErr xs ⟨a, b, c, d, e⟩)]) = vcPut xs a b c d e := by kernel_rfl
  rw [eqn]
  unfold vcPut
  have h : xs.length < 9223372036854775808 := h
  unfold putL putErr
  refine ⟨h, fun h1 => ?_, fun h1 => ⟨fun h2 => ?_, fun h2 => ?_⟩⟩
  · rw [if_pos h1, if_pos h1]; exact ⟨rfl, rfl⟩
  · rw [if_neg (by rw [h1]; simp), if_pos h2, if_neg (by rw [h1]; simp), if_pos h2]; exact ⟨rfl, rfl⟩
  · have hl : ¬ (xs.length : Int) ≥ 16 := of_decide_eq_false h2
    rw [if_neg (by rw [h1]; simp), if_neg (by rw [h2]; simp), if_neg (by rw [h1]; simp), if_neg (by rw [h2]; simp)]
    exact ⟨show xs.length * 40 ≤ 140737488355328 by omega, show (xs.length + 1) * 40 ≤ 140737488355328 by omega, rfl, rfl⟩
theorem okPut : FnOk Try.prog u 21 spPut := by
  refine fn_ok Try.prog u tab4 mo laws4 Try.func21 ?_
  intro xs c y h hc
  unfold spPut at h
  split at h
  · cases h
    exact ⟨by kernel_rfl, _, _, bodyPut _ _ _ _ _ _ hc⟩
  · cases h
theorem bodyLate (c0 c1 c2 c3 c4 c5 c6 c7 c8 : Int) (xs : List Prb) (now room : Int) (h : sizeOk xs) : BodyOk Try.prog u tab4 [] [(0, .inv (annLate c5 c6 now room xs))] Try.f14 [.agg (cfg c0 c1 c2 c3 c4 c5 c6 c7 c8), .csl 29 xs, .int .i64 now, .int .i64 room] (.tup [.csl 29 (lateL c5 c6 now room xs).1, .csl 29 (lateL c5 c6 now room xs).2]) := by
  constructor
  have eqn : bodyW Try.prog u tab4 [] (drawW Try.prog u tab4) (loopsBy u [(0, .inv (annLate c5 c6 now room xs))]) Try.f14 [.agg (cfg c0 c1 c2 c3 c4 c5 c6 c7 c8), .csl 29 xs, .int .i64 now, .int .i64 room] (.tup [.csl 29 (lateL c5 c6 now room xs).1, .csl 29 (lateL c5 c6 now room xs).2]) = vcLate c0 c1 c2 c3 c4 c5 c6 c7 c8 xs now room := by kernel_rfl
  rw [eqn]
  unfold vcLate
  have h : xs.length * 40 ≤ 140737488355328 := h
  refine ⟨⟨0, Nat.zero_le _, ⟨rfl, rfl, trivial, rfl, rfl, rfl, trivial, trivial⟩, ⟨rfl, rfl, rfl, rfl, rfl, rfl, rfl, rfl, rfl⟩, rfl, rfl⟩, fun g hg => ⟨fun hlt => ?_, fun hge => ?_⟩⟩
  · have hlt := of_decide_eq_true hlt
    have hlt' : g < xs.length := by omega
    obtain ⟨hs1, hs2⟩ := late_len c5 c6 now room xs g
    have hw : IntKind.i64.wrap ((g : Int) + 1) = ((g + 1 : Nat) : Int) := wrap_next hlt (by omega)
    have hmu : (annLate c5 c6 now room xs).μ (g + 1) < (annLate c5 c6 now room xs).μ g := show xs.length - (g + 1) < xs.length - g by omega
    have hstep : lateAt c5 c6 now room xs (g + 1) = lateStep c5 c6 now room (lateAt c5 c6 now room xs g) (getP xs g) := rfl
    have z1 : ((lateAt c5 c6 now room xs g).1.length + 1) * 40 ≤ 140737488355328 := by omega
    have z2 : ((lateAt c5 c6 now room xs g).2.length + 1) * 40 ≤ 140737488355328 := by omega
    refine ⟨⟨by omega, hlt⟩, fun h1 => ⟨z1, g + 1, hlt', hmu, ⟨rfl, rfl, trivial, rfl, rfl, hw, trivial, trivial⟩, ⟨rfl, rfl, rfl, rfl, rfl, rfl, rfl, rfl, rfl⟩, ?_, ?_⟩, fun h1 => ⟨fun h2 => ⟨g + 1, hlt', hmu, ⟨rfl, rfl, trivial, rfl, rfl, hw, trivial, trivial⟩, ⟨rfl, rfl, rfl, rfl, rfl, rfl, rfl, rfl, rfl⟩, ?_, ?_⟩, fun h2 => ⟨fun h3 => ⟨z2, z1, g + 1, hlt', hmu, ⟨rfl, rfl, trivial, rfl, rfl, hw, trivial, trivial⟩, ⟨rfl, rfl, rfl, rfl, rfl, rfl, rfl, rfl, rfl⟩, ?_, ?_⟩, fun h3 => ⟨z1, g + 1, hlt', hmu, ⟨rfl, rfl, trivial, rfl, rfl, hw, trivial, trivial⟩, ⟨rfl, rfl, rfl, rfl, rfl, rfl, rfl, rfl, rfl⟩, ?_, ?_⟩⟩⟩⟩
    · exact (congrArg Prod.fst (hstep.trans (late_1 h1))).symm
    · exact (congrArg Prod.snd (hstep.trans (late_1 h1))).symm
    · exact (congrArg Prod.fst (hstep.trans (late_2 h1 h2))).symm
    · exact (congrArg Prod.snd (hstep.trans (late_2 h1 h2))).symm
    · exact (congrArg Prod.fst (hstep.trans (late_3 h1 h2 h3))).symm
    · exact (congrArg Prod.snd (hstep.trans (late_3 h1 h2 h3))).symm
    · exact (congrArg Prod.fst (hstep.trans (late_4 h1 h2 h3))).symm
    · exact (congrArg Prod.snd (hstep.trans (late_4 h1 h2 h3))).symm
  · have hge := of_decide_eq_false hge
    have hg : g ≤ xs.length := hg
    have : g = xs.length := by omega
    subst this
    exact ⟨rfl, rfl⟩
theorem okLate : FnOk Try.prog u 14 spLate := by
  refine fn_ok Try.prog u tab4 mo laws4 Try.func14 ?_
  intro xs c y h hc
  unfold spLate at h
  split at h
  · cases h
    exact ⟨by kernel_rfl, _, _, bodyLate _ _ _ _ _ _ _ _ _ _ _ _ hc⟩
  · cases h
theorem bodyRight (xs : List Prb) (h : lenOk xs) : BodyOk Try.prog u tab4 [] [(0, .inv (annRight xs))] Try.f12 [.csl 29 xs] (.bool (rightB xs)) := by
  constructor
  have eqn : bodyW Try.prog u tab4 [] (drawW Try.prog u tab4) (loopsBy u [(0, .inv (annRight xs))]) Try.f12 [.csl 29 xs] (.bool (rightB xs)) = vcRight xs := by kernel_rfl
  rw [eqn]
  unfold vcRight
  have h : xs.length < 9223372036854775808 := h
  refine ⟨⟨0, ⟨Nat.zero_le _, rfl⟩, rfl, rfl, rfl, rfl⟩, fun g hg => ⟨fun hlt => ?_, fun hge => ?_⟩⟩
  · have hlt := of_decide_eq_true hlt
    have hlt' : g < xs.length := by omega
    have hl := len_take0 xs g hg.1
    have hd : dupP xs g = (List.drop 0 (List.take (g : Int).toNat xs)).any (sameA (getP xs g)) := rfl
    refine ⟨⟨by omega, hlt⟩, fun hb => right_bad hlt' (.inl hb), fun hb => ⟨⟨by decide, by omega, by omega⟩, ?_, fun h2 => right_bad hlt' (.inr h2), fun h2 => ⟨g + 1, ⟨hlt', right_step hg.2 hb h2⟩, show xs.length - (g + 1) < xs.length - g by omega, rfl, rfl, rfl, wrap_next hlt h⟩⟩⟩
    show (List.drop 0 (List.take g xs)).length < _
    rw [hl]
    omega
  · have hge := of_decide_eq_false hge
    have hg1 := hg.1
    have : g = xs.length := by omega
    subst this
    unfold rightB
    rw [hg.2]
    rfl
theorem okRight : FnOk Try.prog u 12 spRight := by
  refine fn_ok Try.prog u tab4 mo laws4 Try.func12 ?_
  intro xs c y h hc
  unfold spRight at h
  split at h
  · cases h
    exact ⟨by kernel_rfl, _, _, bodyRight _ hc⟩
  · cases h
theorem bodyRightL (xs : List Prb) (h : lenOk xs) : BodyOk Try.prog u tab4 [] [(0, .inv (annRightL xs)), (2, .see 9 (annRightL2 xs))] Try.f13 [.csl 29 xs] (.bool (rightL xs)) := by
  constructor
  have eqn : bodyW Try.prog u tab4 [] (drawW Try.prog u tab4) (loopsBy u [(0, .inv (annRightL xs)), (2, .see 9 (annRightL2 xs))]) Try.f13 [.csl 29 xs] (.bool (rightL xs)) = vcRightL xs := by kernel_rfl
  rw [eqn]
  unfold vcRightL
  have h : xs.length < 9223372036854775808 := h
  refine ⟨⟨0, ⟨Nat.zero_le _, rfl⟩, rfl, rfl, rfl, rfl⟩, fun g hg => ⟨fun hlt => ?_, fun hge => ?_⟩⟩
  · have hlt := of_decide_eq_true hlt
    have hlt' : g < xs.length := by omega
    have hl : (List.drop 0 (List.take (g : Int).toNat xs)).length = g := len_take0 xs g hg.1
    refine ⟨⟨by omega, hlt⟩, by decide, fun hb => rightL_bad hlt' (.inl hb), fun hb => ⟨⟨by decide, by omega, by omega⟩, ⟨0, ⟨Nat.zero_le _, rfl⟩, ⟨rfl, rfl, rfl, rfl, trivial, rfl, rfl, rfl⟩, rfl, rfl, rfl, rfl, rfl⟩, fun j hj => ⟨fun hjl => ?_, fun hjg => ?_⟩⟩⟩
    · have hjl := of_decide_eq_true hjl
      rw [hl] at hjl
      have hjg : j < g := by omega
      have e : (List.drop 0 (List.take (g : Int).toNat xs)).getD (j : Int).toNat zeroP = getP xs j := getP_drop xs g j hjg
      refine ⟨⟨by omega, by rw [hl]; omega⟩, fun hx => ?_, fun hx => ?_⟩
      · have hx : (((List.drop 0 (List.take (g : Int).toNat xs)).getD (j : Int).toNat zeroP).addr == (getP xs g).addr) = true := hx
        rw [e] at hx
        exact rightL_bad hlt' (.inr (any_take_lt hjg (by omega) hx))
      · have hx : (((List.drop 0 (List.take (g : Int).toNat xs)).getD (j : Int).toNat zeroP).addr == (getP xs g).addr) = false := hx
        rw [e] at hx
        exact ⟨j + 1, ⟨hjg, any_next (by omega) hj.2 hx⟩, show g - (j + 1) < g - j by omega, ⟨rfl, rfl, rfl, rfl, trivial, rfl, rfl, wrap_next (n := g) (by omega) (by omega)⟩, rfl, rfl, rfl, rfl, rfl⟩
    · have hjg := of_decide_eq_false hjg
      rw [hl] at hjg
      have hj1 := hj.1
      have : j = g := by omega
      subst this
      exact ⟨j + 1, ⟨hlt', rightL_step hg.2 hb hj.2⟩, show xs.length - (j + 1) < xs.length - j by omega, rfl, rfl, rfl, wrap_next hlt h⟩
  · have hge := of_decide_eq_false hge
    have hg1 := hg.1
    have : g = xs.length := by omega
    subst this
    unfold rightL
    rw [hg.2]
    rfl
theorem okRightL : FnOk Try.prog u 13 spRightL := by
  refine fn_ok Try.prog u tab4 mo laws4 Try.func13 ?_
  intro xs c y h hc
  unfold spRightL at h
  split at h
  · cases h
    exact ⟨by kernel_rfl, _, _, bodyRightL _ hc⟩
  · cases h
end Go.Proofs.Ytnjildbclmglpaa.Pro
