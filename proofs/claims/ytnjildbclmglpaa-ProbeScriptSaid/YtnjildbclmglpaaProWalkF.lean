/- Questions that wait: the contracts of taking one out; the law ProbeAnswer. -/
import Derived.Test.YtnjildbclmglpaaProVcF
namespace Go.Proofs.Ytnjildbclmglpaa.Pro
open Go Go.Proofs.Ytnjildbclmglpaa.Sx

theorem del_eq (xs : List Prb) (k : Nat) (hk : k < xs.length) : k - 0 + ((xs.drop (0 + (k + 1))).take (xs.length - (k + 1))).length = xs.length - 1 ∧
    ((xs.take (k - 0) ++ (xs.drop (0 + (k + 1))).take (xs.length - (k + 1)) ++ xs.drop (xs.length - 1)).take (0 + (xs.length - 1)) ++ List.replicate (xs.length - (xs.length - 1)) zeroP ++ (xs.take (k - 0) ++ (xs.drop (0 + (k + 1))).take (xs.length - (k + 1)) ++ xs.drop (xs.length - 1)).drop (0 + (xs.length - 1) + (xs.length - (xs.length - 1)))) = cutAt xs k ++ [zeroP] ∧
    (xs.take (k - 0) ++ (xs.drop (0 + (k + 1))).take (xs.length - (k + 1)) ++ xs.drop (xs.length - 1)).length = xs.length := by
  have h1 : (xs.drop (0 + (k + 1))).take (xs.length - (k + 1)) = xs.drop (k + 1) := by rw [Nat.zero_add, List.take_of_length_le (by rw [List.length_drop]; omega)]
  have h2 : (xs.take k ++ xs.drop (k + 1)).length = xs.length - 1 := by rw [List.length_append, List.length_take, List.length_drop]; omega
  have h3 : (xs.take k ++ xs.drop (k + 1) ++ xs.drop (xs.length - 1)).length = xs.length := by rw [List.length_append, h2, List.length_drop]; omega
  rw [h1, Nat.sub_zero, Nat.zero_add]
  refine ⟨by rw [List.length_drop]; omega, ?_, h3⟩
  have h4 : (xs.take k ++ xs.drop (k + 1) ++ xs.drop (xs.length - 1)).drop (xs.length - 1 + 1) = [] := List.drop_of_length_le (by rw [h3]; omega)
  have h5 : (xs.take k ++ xs.drop (k + 1) ++ xs.drop (xs.length - 1)).take (xs.length - 1) = xs.take k ++ xs.drop (k + 1) := List.take_left' h2
  rw [show xs.length - (xs.length - 1) = 1 by omega, h4, h5, List.append_nil]
  rfl
theorem cut_len (xs : List Prb) (k : Nat) (hk : k < xs.length) : (cutAt xs k).length = xs.length - 1 := by
  unfold cutAt
  rw [List.length_append, List.length_take, List.length_drop]
  omega
theorem first_of {q : Prb → Bool} {xs : List Prb} (h : xs.any q = true) : firstI q xs = (xs.findIdx q : Int) ∧ xs.findIdx q < xs.length := by
  refine ⟨by unfold firstI; rw [if_pos h], ?_⟩
  rw [List.findIdx_lt_length]
  rw [List.any_eq_true] at h
  exact h
theorem lateL_1 {c5 c6 now room : Int} {r : List Prb × List Prb} {p : Prb} (h1 : (oldL c5 now p && decide (p.tries ≥ c6)) = true) : lateStepL c5 c6 now room r p = r := if_pos h1
theorem lateL_2 {c5 c6 now room : Int} {r : List Prb × List Prb} {p : Prb} (h1 : (oldL c5 now p && decide (p.tries ≥ c6)) = false) (h2 : (oldL c5 now p && decide ((r.2.length : Int) < room)) = true) : lateStepL c5 c6 now room r p = (r.1 ++ [againL now p], r.2 ++ [againL now p]) := by
  unfold lateStepL; rw [if_neg (by rw [h1]; simp), if_pos h2]
theorem lateL_3 {c5 c6 now room : Int} {r : List Prb × List Prb} {p : Prb} (h1 : (oldL c5 now p && decide (p.tries ≥ c6)) = false) (h2 : (oldL c5 now p && decide ((r.2.length : Int) < room)) = false) : lateStepL c5 c6 now room r p = (r.1 ++ [p], r.2) := by
  unfold lateStepL; rw [if_neg (by rw [h1]; simp), if_neg (by rw [h2]; simp)]
theorem lateL_at_len (c5 c6 now room : Int) (xs : List Prb) : ∀ k, (lateAtL c5 c6 now room xs k).1.length ≤ k ∧ (lateAtL c5 c6 now room xs k).2.length ≤ k := by
  intro k
  induction k with
  | zero => exact ⟨Nat.le_refl _, Nat.le_refl _⟩
  | succ k ih =>
    rw [lateAtL]
    unfold lateStepL
    split
    · omega
    · split <;> simp only [List.length_append, List.length_singleton] <;> omega
theorem sameTo_le (a b : List Prb) : ∀ (m k : Nat), k ≤ m → sameTo a b m = true → sameTo a b k = true := by
  intro m
  induction m with
  | zero => intro k hk h; obtain rfl : k = 0 := by omega
            exact h
  | succ m ih =>
    intro k hk h
    by_cases e : k = m + 1
    · subst e; exact h
    · rw [sameTo, Bool.and_eq_true] at h
      exact ih k (by omega) h.1
theorem mat_one (p : Prb) (an : Bool) (f i s : Int) : (matE [p] an f i s == 0) = ansTo an f i s p := by
  unfold matE
  rw [List.any_cons, List.any_nil, Bool.or_false]
  cases ansTo an f i s p <;> rfl
theorem ans_fin (p : Prb) (an : Bool) (f i o : Int) (r : Bool) (h : ansTo an f i o p = r) : ((matE [p] an f i o == 0) == r && matE [p] true p.addr p.id p.num == 0) = true := by
  rw [mat_one, mat_one, h]
  simp [ansTo]
theorem bodyDelete (xs : List Prb) (i j : Int) (h : j = i + 1 ∧ 0 ≤ i ∧ i < xs.length ∧ xs.length ≤ 1000000) : BodyOkH Try.prog u tab6 [] [] Try.f28 [.orow 0, .int .i64 i, .int .i64 j] [.row 29 xs] (.osl 0 0 (xs.length - 1)) [.row 29 (cutAt xs i.toNat ++ [zeroP])] := by
  constructor
  have eqn : bodyH Try.prog u tab6 [] (drawW Try.prog u tab6) (loopsBy u []) Try.f28 [.orow 0, .int .i64 i, .int .i64 j] [.row 29 xs] (.osl 0 0 (xs.length - 1)) [.row 29 (cutAt xs i.toNat ++ [zeroP])] = vcDelete xs i j := by kernel_rfl
  rw [eqn]
  unfold vcDelete
  obtain ⟨hj, h0, h1, h2⟩ := h
  obtain ⟨k, rfl⟩ := Int.eq_ofNat_of_zero_le h0
  subst hj
  have hk : k < xs.length := by omega
  obtain ⟨d1, d2, d3⟩ := del_eq xs k hk
  have hN : ((k : Nat) : Int).toNat = k := rfl
  have hN1 : ((k : Int) + 1).toNat = k + 1 := by omega
  have hN2 : ((xs.length : Nat) : Int).toNat = xs.length := rfl
  have hN3 : ((xs.length - 1 : Nat) : Int).toNat = xs.length - 1 := rfl
  rw [hN, hN1, hN2, d1, hN3, d3]
  have hcl : (cutAt xs k ++ [zeroP]).length = xs.length := by rw [List.length_append, cut_len xs k hk, List.length_singleton]; omega
  exact ⟨⟨by omega, by omega, by omega, Int.le_refl _⟩, fun he => absurd (eq_of_beq he) (by omega), fun _ => ⟨⟨by decide, by omega, by omega⟩, ⟨by omega, by omega, Int.le_refl _⟩, by omega, ⟨by omega, by omega, by omega⟩, ⟨rfl, rfl⟩, d2, hcl, trivial⟩⟩
theorem okDelete : FnOkH Try.prog u 28 hDelete := by
  refine fn_okH Try.prog u tab6 mo laws6 Try.func28 ?_
  intro xs os c y os2 h hc
  unfold hDelete at h
  split at h
  · cases h
    exact ⟨_, _, bodyDelete _ _ _ hc⟩
  · cases h
theorem laws7 : Laws Try.prog u tab7 := by
  refine ⟨law, clean, fun p hp => ?_⟩
  rcases List.mem_cons.1 hp with rfl | hp
  · exact okDelete
  exact laws6.tab p hp
theorem bodyMatch (xs : List Prb) (an : Bool) (f t m0 m1 m2 m3 m4 m5 i s : Int) (h : xs.length ≤ 1000000) : BodyOk Try.prog u tab7 [] [] Try.f20 [.csl 29 xs, .agg [.bool an, .int .u32 f, .int .u32 t, .int .u8 m0, .int .u8 m1, .int .u8 m2, .int .u8 m3, .int .u8 m4, .int .u8 m5, .int .i64 i, .int .i64 s]] (.tup [.csl 29 (matL xs an f i s), .int .i64 (matE xs an f i s)]) := by
  constructor
  have eqn : bodyW Try.prog u tab7 [] (drawW Try.prog u tab7) (loopsBy u []) Try.f20 [.csl 29 xs, .agg [.bool an, .int .u32 f, .int .u32 t, .int .u8 m0, .int .u8 m1, .int .u8 m2, .int .u8 m3, .int .u8 m4, .int .u8 m5, .int .i64 i, .int .i64 s]] (.tup [.csl 29 (matL xs an f i s), .int .i64 (matE xs an f i s)]) = vcMatch xs an f t m0 m1 m2 m3 m4 m5 i s := by kernel_rfl
  rw [eqn]
  unfold vcMatch
  refine ⟨show xs.length < 9223372036854775808 by omega, fun hb => ?_, fun hb => ?_⟩
  · have hb := of_decide_eq_true hb
    have hn : xs.any (ansTo an f i s) = false := by
      cases ha : xs.any (ansTo an f i s)
      · rfl
      · have := (first_of ha).1; omega
    unfold matL matE
    rw [if_neg (by rw [hn]; simp), if_neg (by rw [hn]; simp)]
    exact ⟨rfl, rfl⟩
  · have hb := of_decide_eq_false hb
    have ha : xs.any (ansTo an f i s) = true := by
      cases ha : xs.any (ansTo an f i s)
      · have := first_none ha; omega
      · rfl
    obtain ⟨f1, f2⟩ := first_of ha
    rw [f1]
    have hN : ((xs.findIdx (ansTo an f i s) : Nat) : Int).toNat = xs.findIdx (ansTo an f i s) := rfl
    rw [hN]
    refine ⟨show xs.length * 40 ≤ 140737488355328 by omega, ⟨wrap_i64_id (by omega), by omega, by omega, h⟩, ?_, ?_⟩
    · unfold matL
      rw [if_pos ha, List.drop_zero, List.take_left' (cut_len xs _ f2)]
    · unfold matE
      rw [if_pos ha]
theorem okMatch : FnOk Try.prog u 20 spMatch := by
  refine fn_ok Try.prog u tab7 mo laws7 Try.func20 ?_
  intro xs c y h hc
  unfold spMatch at h
  split at h
  · cases h
    exact ⟨by kernel_rfl, _, _, bodyMatch _ _ _ _ _ _ _ _ _ _ _ _ hc⟩
  · cases h
theorem bodyLateL (c0 c1 c2 c3 c4 c5 c6 c7 c8 : Int) (xs : List Prb) (now room : Int) (h : sizeOk xs) : BodyOk Try.prog u tab7 [] [(0, .inv (annLateL c5 c6 now room xs))] Try.f18 [.agg (cfg c0 c1 c2 c3 c4 c5 c6 c7 c8), .csl 29 xs, .int .i64 now, .int .i64 room] (.tup [.csl 29 (lateLL c5 c6 now room xs).1, .csl 29 (lateLL c5 c6 now room xs).2]) := by
  constructor
  have eqn : bodyW Try.prog u tab7 [] (drawW Try.prog u tab7) (loopsBy u [(0, .inv (annLateL c5 c6 now room xs))]) Try.f18 [.agg (cfg c0 c1 c2 c3 c4 c5 c6 c7 c8), .csl 29 xs, .int .i64 now, .int .i64 room] (.tup [.csl 29 (lateLL c5 c6 now room xs).1, .csl 29 (lateLL c5 c6 now room xs).2]) = vcLateL c0 c1 c2 c3 c4 c5 c6 c7 c8 xs now room := by kernel_rfl
  rw [eqn]
  unfold vcLateL
  have h : xs.length * 40 ≤ 140737488355328 := h
  refine ⟨⟨0, Nat.zero_le _, ⟨rfl, rfl, trivial, rfl, rfl, rfl, trivial, trivial⟩, ⟨rfl, rfl, rfl, rfl, rfl, rfl, rfl, rfl, rfl⟩, rfl, rfl⟩, fun g hg => ⟨fun hlt => ?_, fun hge => ?_⟩⟩
  · have hlt := of_decide_eq_true hlt
    have hlt' : g < xs.length := by omega
    obtain ⟨hs1, hs2⟩ := lateL_at_len c5 c6 now room xs g
    have hw : IntKind.i64.wrap ((g : Int) + 1) = ((g + 1 : Nat) : Int) := wrap_next hlt (by omega)
    have hmu : (annLateL c5 c6 now room xs).μ (g + 1) < (annLateL c5 c6 now room xs).μ g := show xs.length - (g + 1) < xs.length - g by omega
    have hstep : lateAtL c5 c6 now room xs (g + 1) = lateStepL c5 c6 now room (lateAtL c5 c6 now room xs g) (getP xs g) := rfl
    have z1 : ((lateAtL c5 c6 now room xs g).1.length + 1) * 40 ≤ 140737488355328 := by omega
    have z2 : ((lateAtL c5 c6 now room xs g).2.length + 1) * 40 ≤ 140737488355328 := by omega
    refine ⟨⟨by omega, hlt⟩, fun h1 => ⟨g + 1, hlt', hmu, ⟨rfl, rfl, trivial, rfl, rfl, hw, trivial, trivial⟩, ⟨rfl, rfl, rfl, rfl, rfl, rfl, rfl, rfl, rfl⟩, ?_, ?_⟩, fun h1 => ⟨fun h2 => ⟨z2, z1, g + 1, hlt', hmu, ⟨rfl, rfl, trivial, rfl, rfl, hw, trivial, trivial⟩, ⟨rfl, rfl, rfl, rfl, rfl, rfl, rfl, rfl, rfl⟩, ?_, ?_⟩, fun h2 => ⟨z1, g + 1, hlt', hmu, ⟨rfl, rfl, trivial, rfl, rfl, hw, trivial, trivial⟩, ⟨rfl, rfl, rfl, rfl, rfl, rfl, rfl, rfl, rfl⟩, ?_, ?_⟩⟩⟩
    · exact (congrArg Prod.fst (hstep.trans (lateL_1 h1))).symm
    · exact (congrArg Prod.snd (hstep.trans (lateL_1 h1))).symm
    · exact (congrArg Prod.fst (hstep.trans (lateL_2 h1 h2))).symm
    · exact (congrArg Prod.snd (hstep.trans (lateL_2 h1 h2))).symm
    · exact (congrArg Prod.fst (hstep.trans (lateL_3 h1 h2))).symm
    · exact (congrArg Prod.snd (hstep.trans (lateL_3 h1 h2))).symm
  · have hge := of_decide_eq_false hge
    have hg : g ≤ xs.length := hg
    have : g = xs.length := by omega
    subst this
    exact ⟨rfl, rfl⟩
theorem okLateL : FnOk Try.prog u 18 spLateL := by
  refine fn_ok Try.prog u tab7 mo laws7 Try.func18 ?_
  intro xs c y h hc
  unfold spLateL at h
  split at h
  · cases h
    exact ⟨by kernel_rfl, _, _, bodyLateL _ _ _ _ _ _ _ _ _ _ _ _ hc⟩
  · cases h
theorem bodySame (xs ys : List Prb) (h : lenOk xs ∧ lenOk ys) : BodyOk Try.prog u tab7 [] [(0, .inv (annSame xs ys))] Try.f19 [.csl 29 xs, .csl 29 ys] (.bool (sameL xs ys)) := by
  constructor
  have eqn : bodyW Try.prog u tab7 [] (drawW Try.prog u tab7) (loopsBy u [(0, .inv (annSame xs ys))]) Try.f19 [.csl 29 xs, .csl 29 ys] (.bool (sameL xs ys)) = vcSame xs ys := by kernel_rfl
  rw [eqn]
  unfold vcSame
  obtain ⟨hx, hy⟩ := h
  have hx : xs.length < 9223372036854775808 := hx
  refine ⟨fun hn => ?_, fun hn => ⟨⟨0, ⟨Nat.zero_le _, ?_, rfl⟩, rfl, rfl, rfl, rfl, rfl⟩, fun g hg => ⟨fun hlt => ?_, fun hge => ?_⟩⟩⟩
  · unfold sameL
    have : ((xs.length : Int) == ys.length) = false := by simpa using hn
    rw [this]
    rfl
  · have := bne_eq_false_iff_eq.1 hn
    omega
  · have hlt := of_decide_eq_true hlt
    obtain ⟨g1, g2, g3⟩ := hg
    have hlt' : g < xs.length := by omega
    refine ⟨⟨by omega, hlt⟩, ⟨by omega, by omega⟩, fun hb => ?_, fun hb => ⟨g + 1, ⟨hlt', g2, ?_⟩, show xs.length - (g + 1) < xs.length - g by omega, rfl, rfl, rfl, rfl, wrap_next hlt hx⟩⟩
    · have hb : (!same5 (getP xs g) (getP ys g)) = true := hb
      unfold sameL
      cases ho : sameTo xs ys xs.length
      · simp
      · have h1 := sameTo_le xs ys xs.length (g + 1) (by omega) ho
        rw [sameTo, g3] at h1
        have h2 : same5 (getP xs g) (getP ys g) = false := by simpa using hb
        rw [h2] at h1
        cases h1
    · have hb : (!same5 (getP xs g) (getP ys g)) = false := hb
      have h2 : same5 (getP xs g) (getP ys g) = true := by simpa using hb
      rw [sameTo, g3, h2]
      rfl
  · have hge := of_decide_eq_false hge
    obtain ⟨g1, g2, g3⟩ := hg
    have : g = xs.length := by omega
    subst this
    unfold sameL
    rw [g3, show ((xs.length : Int) == ys.length) = true from beq_iff_eq.2 (by omega)]
    rfl
theorem okSame : FnOk Try.prog u 19 spSame := by
  refine fn_ok Try.prog u tab7 mo laws7 Try.func19 ?_
  intro xs c y h hc
  unfold spSame at h
  split at h
  · cases h
    exact ⟨by kernel_rfl, _, _, bodySame _ _ hc⟩
  · cases h
theorem laws8 : Laws Try.prog u tab8 := by
  refine ⟨law, clean, fun p hp => ?_⟩
  rcases List.mem_cons.1 hp with rfl | hp
  · exact okMatch
  rcases List.mem_cons.1 hp with rfl | hp
  · exact okLateL
  rcases List.mem_cons.1 hp with rfl | hp
  · exact okSame
  exact laws7.tab p hp
theorem bodyLAnswer (a s z o : Int) (an : Bool) (h : answerOk a s z o) : BodyOk Try.prog u tab8 [] [] Try.f8 [.int .u32 a, .int .u16 s, .int .u8 z, .int .u16 o, .bool an] (.bool true) := by
  constructor
  have eqn : bodyW Try.prog u tab8 [] (drawW Try.prog u tab8) (loopsBy u []) Try.f8 [.int .u32 a, .int .u16 s, .int .u8 z, .int .u16 o, .bool an] (.bool true) = vcLAnswer a s z o an := by kernel_rfl
  rw [eqn]
  unfold vcLAnswer
  obtain ⟨ha, hz, hs, ho⟩ := h
  obtain ⟨ha1, ha2⟩ := ha
  have hws : IntKind.i64.wrap s = s := wrap_i64_id (by omega)
  have hwo : IntKind.i64.wrap o = o := wrap_i64_id (by omega)
  rw [hws, hwo]
  have hnum : (ofP a s 1).num = s := by show bitsI .and .i64 s 65535 = s; rw [and64]; omega
  have hid : (ofP a s 1).id = a % 65536 := by
    show IntKind.i64.wrap (bitsI .and .u32 a 65535) = _
    rw [and32 a ⟨ha1, ha2⟩, wrap_i64_id (by omega)]
  have haddr : (ofP a s 1).addr = a := rfl
  have l1 : (putL [] (ofP a s 1)).length ≤ 1000000 := show 1 ≤ 1000000 by decide
  have hz4 : z.tmod 4 = z % 4 := Int.tmod_eq_emod_of_nonneg hz
  have fin : ∀ (f i : Int) (r : Bool), ansTo an f i o (ofP a s 1) = r → ((matE (putL [] (ofP a s 1)) an f i o == 0) == r && matE (putL [] (ofP a s 1)) true (ofP a s 1).addr (ofP a s 1).id (ofP a s 1).num == 0) = true := fun f i r hr => ans_fin (ofP a s 1) an f i o r hr
  have e1 : ∀ f : Int, (z.tmod 4 == 0) = true → ansTo an f (IntKind.i64.wrap ((ofP a s 1).id + 1)) o (ofP a s 1) = (an && decide (z.tmod 4 > 1) && o == s) := by
    intro f hzz
    have hzz := eq_of_beq hzz
    have hne : ((ofP a s 1).id == IntKind.i64.wrap ((ofP a s 1).id + 1)) = false := by
      rw [hid, wrap_i64_id (by omega)]
      exact beq_eq_false_iff_ne.2 (by omega)
    unfold ansTo
    rw [hne, hzz, Bool.and_false, Bool.false_and, decide_eq_false (by decide), Bool.and_false, Bool.false_and]
  have e2 : ∀ i : Int, (z.tmod 4 == 1) = true → ansTo an (IntKind.u32.wrap ((ofP a s 1).addr + 1)) i o (ofP a s 1) = (an && decide (z.tmod 4 > 1) && o == s) := by
    intro i hzz
    have hzz := eq_of_beq hzz
    have hne : ((ofP a s 1).addr == IntKind.u32.wrap ((ofP a s 1).addr + 1)) = false := by
      rw [haddr]
      refine beq_eq_false_iff_ne.2 ?_
      simp [IntKind.wrap, IntKind.bits, IntKind.signed]
      omega
    unfold ansTo
    rw [hne, hzz, Bool.and_false, Bool.false_and, Bool.false_and, decide_eq_false (by decide), Bool.and_false, Bool.false_and]
  have e3 : (z.tmod 4 == 0) = false → (z.tmod 4 == 1) = false → ansTo an (ofP a s 1).addr (ofP a s 1).id o (ofP a s 1) = (an && decide (z.tmod 4 > 1) && o == s) := by
    intro h1 h2
    have h1 := beq_eq_false_iff_ne.1 h1
    have h2 := beq_eq_false_iff_ne.1 h2
    rw [hz4] at h1 h2 ⊢
    rw [decide_eq_true (show z % 4 > 1 by omega)]
    unfold ansTo
    rw [hnum, beq_self_eq_true, beq_self_eq_true]
    simp only [Bool.and_true]
    congr 1
    by_cases hos : s = o
    · rw [hos]
    · rw [beq_eq_false_iff_ne.2 hos, beq_eq_false_iff_ne.2 (fun h => hos h.symm)]
  have hp0 : (putErr [] (ofP a s 1) != 0) = false := rfl
  refine ⟨fun h => absurd h (by decide), fun _ => ⟨Nat.le_of_ble_eq_true rfl, fun h => absurd (hp0.symm.trans h) (by decide), fun _ => ⟨by decide, fun h0 => ⟨by decide, fun h1 => ⟨l1, l1, fun _ => by decide, fin _ _ _ (e1 _ h0)⟩, fun h1 => ⟨l1, l1, fun _ => by decide, fin _ _ _ (e1 _ h0)⟩⟩, fun h0 => ⟨by decide, fun h1 => ⟨l1, l1, fun _ => by decide, fin _ _ _ (e2 _ h1)⟩, fun h1 => ⟨l1, l1, fun _ => by decide, fin _ _ _ (e3 h0 h1)⟩⟩⟩⟩⟩
theorem okLAnswer : FnOk Try.prog u 8 spLAnswer := by
  refine fn_ok Try.prog u tab8 mo laws8 Try.func8 ?_
  intro xs c y h hc
  unfold spLAnswer at h
  split at h
  · cases h
    exact ⟨by kernel_rfl, _, _, bodyLAnswer _ _ _ _ _ hc⟩
  · cases h
end Go.Proofs.Ytnjildbclmglpaa.Pro
