/- The log: the contracts of its small functions. -/
import Derived.Test.YtgimkldaeobhnaaWalVcB
import Derived.Test.YtgimkldaeobhnaaWalWalk
namespace Go.Proofs.Ytgimkldaeobhnaa.Dsk
open Go Go.Proofs.Ytgimkldaeobhnaa.Sx

theorem layK_len (xs : List Int) (lo len : Nat) (n : Int) : ∀ k, (layK xs lo len n k).length = xs.length
  | 0 => rfl
  | k + 1 => by unfold layK; rw [List.length_set, layK_len xs lo len n k]
theorem bodyCheck (xs : List Int) (h : lenOk (α := Int) xs) : BodyOk Try.prog u tab0 [] [(0, .inv (annCheck xs)), (2, .see 9 (annCheck2 xs))] Try.f35 [.csl 5 xs] (.int .u32 (crc xs)) := by
  constructor
  have eqn : bodyW Try.prog u tab0 [] (drawW Try.prog u tab0) (loopsBy u [(0, .inv (annCheck xs)), (2, .see 9 (annCheck2 xs))]) Try.f35 [.csl 5 xs] (.int .u32 (crc xs)) = vcCheck xs := by kernel_rfl
  rw [eqn]
  unfold vcCheck
  have hl : xs.length < 9223372036854775808 := h
  refine ⟨⟨0, Nat.zero_le _, rfl, rfl, rfl, rfl⟩, fun g hg => ⟨fun hlt => ?_, fun hge => ?_⟩⟩
  · have hlt : (g : Int) < (xs.length : Int) := of_decide_eq_true hlt
    refine ⟨⟨by omega, hlt⟩, ⟨0, Nat.zero_le _, rfl, rfl, rfl, rfl, rfl⟩, fun i hi => ⟨fun hli => ?_, fun hli => ?_⟩⟩
    · have hli : (i : Int) < 8 := of_decide_eq_true hli
      exact ⟨by decide, fun _ => trivial, fun _ => trivial, fun v hv => ⟨i + 1, show i + 1 ≤ 8 by omega, show 8 - (i + 1) < 8 - i by omega, rfl, rfl, rfl, wrap_next (n := 8) hli (by decide), hv⟩⟩
    · have hge : ¬ (i : Int) < 8 := of_decide_eq_false hli
      obtain rfl : i = 8 := by have hi : i ≤ 8 := hi; omega
      exact ⟨g + 1, show g + 1 ≤ xs.length by omega, show xs.length - (g + 1) < xs.length - g by omega, rfl, rfl, wrap_next hlt hl, rfl⟩
  · have hge : ¬ (g : Int) < (xs.length : Int) := of_decide_eq_false hge
    obtain rfl : g = xs.length := by have hg : g ≤ xs.length := hg; omega
    rfl
theorem okCheck : FnOk Try.prog u 35 spCheck := by
  refine fn_ok Try.prog u tab0 mo laws0 Try.func35 ?_
  intro xs c y h hc
  unfold spCheck at h
  split at h
  · cases h
    exact ⟨by kernel_rfl, _, _, bodyCheck _ hc⟩
  · cases h
theorem bodyLay (xs : List Int) (lo len : Nat) (n : Int) (h : len ≤ 1000) : BodyOkH Try.prog u tab0 [] [(0, .inv (annLay xs lo len n))] Try.f43 [.osl 0 lo len, .int .i64 n] [.row 5 xs] (.tup []) [.row 5 (layK xs lo len n len)] := by
  constructor
  have eqn : bodyH Try.prog u tab0 [] (drawW Try.prog u tab0) (loopsBy u [(0, .inv (annLay xs lo len n))]) Try.f43 [.osl 0 lo len, .int .i64 n] [.row 5 xs] (.tup []) [.row 5 (layK xs lo len n len)] = vcLay xs lo len n := by kernel_rfl
  rw [eqn]
  unfold vcLay
  refine ⟨⟨0, Nat.zero_le _, ⟨rfl, rfl, ⟨rfl, rfl⟩, rfl⟩, rfl⟩, fun g hg => ⟨fun hlt => ?_, fun hge => ?_⟩⟩
  · have hlt : (g : Int) < (len : Int) := of_decide_eq_true hlt
    refine ⟨?_, ⟨by omega, hlt⟩, g + 1, show g + 1 ≤ len by omega, show len - (g + 1) < len - g by omega, ⟨rfl, rfl, ⟨rfl, rfl⟩, wrap_next hlt (by omega)⟩, rfl⟩
    rw [wrap_i64_id (n := (len : Int) - 1) (by omega), wrap_i64_id (n := (len : Int) - 1 - g) (by omega), wrap_i64_id (by omega)]
    omega
  · have hge : ¬ (g : Int) < (len : Int) := of_decide_eq_false hge
    obtain rfl : g = len := by have hg : g ≤ len := hg; omega
    exact ⟨trivial, rfl, layK_len _ _ _ _ _, trivial⟩
theorem okLay : FnOkH Try.prog u 43 hLay := by
  refine fn_okH Try.prog u tab0 mo laws0 Try.func43 ?_
  intro xs os c y os2 h hc
  unfold hLay at h
  split at h
  · cases h
    exact ⟨_, _, bodyLay _ _ _ _ hc⟩
  · cases h
theorem bodyNumber (xs : List Int) (h : lenOk (α := Int) xs) : BodyOk Try.prog u tab0 [] [(0, .inv (annNumber xs))] Try.f41 [.csl 5 xs] (.int .i64 (numOf xs)) := by
  constructor
  have eqn : bodyW Try.prog u tab0 [] (drawW Try.prog u tab0) (loopsBy u [(0, .inv (annNumber xs))]) Try.f41 [.csl 5 xs] (.int .i64 (numOf xs)) = vcNumber xs := by kernel_rfl
  rw [eqn]
  unfold vcNumber
  have hl : xs.length < 9223372036854775808 := h
  refine ⟨⟨0, Nat.zero_le _, rfl, rfl, rfl, rfl⟩, fun g hg => ⟨fun hlt => ?_, fun hge => ?_⟩⟩
  · have hlt : (g : Int) < (xs.length : Int) := of_decide_eq_true hlt
    exact ⟨⟨by omega, hlt⟩, by decide, g + 1, show g + 1 ≤ xs.length by omega, show xs.length - (g + 1) < xs.length - g by omega, rfl, rfl, wrap_next hlt hl, rfl⟩
  · have hge : ¬ (g : Int) < (xs.length : Int) := of_decide_eq_false hge
    obtain rfl : g = xs.length := by have hg : g ≤ xs.length := hg; omega
    rfl
theorem okNumber : FnOk Try.prog u 41 spNumber := by
  refine fn_ok Try.prog u tab0 mo laws0 Try.func41 ?_
  intro xs c y h hc
  unfold spNumber at h
  split at h
  · cases h
    exact ⟨by kernel_rfl, _, _, bodyNumber _ hc⟩
  · cases h
theorem bodySectors (n : Int) : BodyOk Try.prog u tab0 [] [] Try.f25 [.int .i64 n] (.int .i64 (secsOf n)) := by
  constructor
  have eqn : bodyW Try.prog u tab0 [] (drawW Try.prog u tab0) (loopsBy u []) Try.f25 [.int .i64 n] (.int .i64 (secsOf n)) = vcSectors n := by kernel_rfl
  rw [eqn]
  exact ⟨by decide, rfl⟩
theorem okSectors : FnOk Try.prog u 25 spSectors := by
  refine fn_ok Try.prog u tab0 mo laws0 Try.func25 ?_
  intro xs c y h hc
  unfold spSectors at h
  split at h
  · cases h
    exact ⟨by kernel_rfl, _, _, bodySectors _⟩
  · cases h
theorem laws3 : Laws Try.prog u tab3 := by
  refine ⟨law, clean, fun p hp => ?_⟩
  rcases List.mem_cons.1 hp with rfl | hp
  · exact okCheck
  rcases List.mem_cons.1 hp with rfl | hp
  · exact okLay
  rcases List.mem_cons.1 hp with rfl | hp
  · exact okNumber
  rcases List.mem_cons.1 hp with rfl | hp
  · exact okSectors
  exact laws2.tab p hp
theorem nilTo_rep {e : E A} : ∀ {xs : List (SV A)} {vs : List Value}, RepL Try.prog u e xs vs → RepL Try.prog u e (xs.map (nilTo 5)) vs
  | [], vs, h => h
  | x :: r, vs, h => by
    obtain ⟨v, ws, rfl, h1, h2⟩ := h.split Try.prog u
    refine RepL.cons Try.prog u ?_ (nilTo_rep h2)
    unfold nilTo
    split
    · cases h1 with
      | nils h0 => exact .csl _ [] none 0 0 (fun _ => []) rfl (Nat.le_refl _) (.inl rfl) (fun i hi => by simp at hi) (fun i x hi => by simp at hi) h0
    · exact h1
theorem nilP_ok {f : Nat} {sp : Sx.Spec A} (h : FnOk Try.prog u f sp) : FnOk Try.prog u f (nilP 5 sp) := fun xs c y hs hc w O vs hO hx => h _ c y hs hc w O vs hO (nilTo_rep hx)
theorem nilH_ok {f : Nat} {sp : HSpec A} (h : FnOkH Try.prog u f sp) : FnOkH Try.prog u f (nilH 5 sp) := fun xs os c y os2 hs hc w0 O0 e vs hr he hx => h _ os c y os2 hs hc w0 O0 e vs hr he (nilTo_rep hx)
theorem bodyHead (k n : Int) (b : List Int) (h : lenOk (α := Int) b) : BodyOk Try.prog u tab3 [102007, 103007, 104007] [] Try.f40 [.int .i64 k, .int .i64 n, .csl 5 b] (.el 53 (headS k n b)) := by
  constructor
  have eqn : bodyW Try.prog u tab3 [102007, 103007, 104007] (drawW Try.prog u tab3) (loopsBy u []) Try.f40 [.int .i64 k, .int .i64 n, .csl 5 b] (.el 53 (headS k n b)) = vcHead k n b := by kernel_rfl
  rw [eqn]
  unfold vcHead
  have hb : b.length < 9223372036854775808 := h
  have h0 : (secP.get zeroS : List Int).length = 64 := zeroS.h
  refine ⟨⟨by decide, by decide, by decide, rfl⟩, by decide, fun v hv => ?_⟩
  have l1 : v.length = 64 := by rw [hv]; exact (layK_len _ _ _ _ _).trans h0
  refine ⟨⟨by decide, by decide, by decide, l1⟩, by decide, fun v1 hv1 => ?_⟩
  have l2 : v1.length = 64 := by rw [hv1]; exact (layK_len _ _ _ _ _).trans l1
  refine ⟨⟨by decide, by decide, by decide, l2⟩, hb, by decide, fun v2 hv2 => ?_⟩
  have l3 : v2.length = 64 := by rw [hv2]; exact (layK_len _ _ _ _ _).trans l2
  have l4 : ((v2.set 10 (IntKind.u8.wrap k)).set 11 197).length = 64 := by rw [List.length_set, List.length_set]; exact l3
  rw [put_row l4]
  refine ⟨⟨by decide, by decide, by omega⟩, ⟨by decide, by decide, by rw [List.length_set]; omega⟩, by omega, rfl, Nat.le_of_eq l4.symm, ?_⟩
  rw [put_get]
  subst hv hv1 hv2
  exact Sec.ext' (Sec.of_l l4).symm
theorem okHead : FnOk Try.prog u 40 spHead := by
  refine fn_ok Try.prog u tab3 mo laws3 Try.func40 ?_
  intro xs c y h hc
  unfold spHead at h
  split at h
  · cases h
    exact ⟨by kernel_rfl, _, _, bodyHead _ _ _ hc⟩
  · cases h
theorem lgH_eq {f : List (SV A) → Lg → Option (Option Prop × SV A × List (Own A))} {xs : List (SV A)} {os : List (Own A)} {r : Option Prop × SV A × List (Own A)} (h : lgH f xs os = some r) : ∃ l d, xs = .optr 0 0 :: l ∧ os = d.own ∧ f l d = some r := by
  unfold lgH at h
  split at h
  · rename_i l r t n br a b dn c rs ks ws
    exact ⟨l, ⟨⟨ks, ws, a, b, dn, c⟩, r, t, n, rs, br⟩, rfl, rfl, h⟩
  · cases h
theorem lgL_eq {f : List (SV A) → Lg → Option (Option Prop × SV A)} {xs : List (SV A)} {os : List (Own A)} {r : Option Prop × SV A} (h : lgL f xs os = some r) : ∃ l d, xs = .optr 0 0 :: l ∧ os = d.own ∧ f l d = some r := by
  unfold lgL at h
  split at h
  · rename_i l r t n br a b dn c rs ks ws
    exact ⟨l, ⟨⟨ks, ws, a, b, dn, c⟩, r, t, n, rs, br⟩, rfl, rfl, h⟩
  · cases h
theorem bodyHalf (l : Lg)  : BodyOkH Try.prog u tab1 [] [] Try.f29 (.optr 0 0 :: []) l.own (.int .i64 (halfOf l.d)) l.own := by
  constructor
  have eqn : bodyH Try.prog u tab1 [] (drawW Try.prog u tab1) (loopsBy u []) Try.f29 (.optr 0 0 :: []) l.own (.int .i64 (halfOf l.d)) l.own = vcHalf l := by kernel_rfl
  rw [eqn]
  exact ⟨by decide, rfl, ⟨⟨trivial, rfl, rfl, rfl, trivial, rfl⟩, ⟨trivial, trivial, rfl, rfl, rfl, rfl⟩, rfl, rfl, rfl⟩, rfl, rfl, rfl, trivial⟩
theorem okHalf : FnOkH Try.prog u 29 (lookH lHalf) := by
  refine fn_okH Try.prog u tab1 mo laws1 Try.func29 ?_
  intro xs os c y os2 h hc
  unfold lookH at h
  split at h
  case h_2 => cases h
  rename_i c' y' h'
  cases h
  obtain ⟨l, d, rfl, rfl, hh⟩ := lgL_eq h'
  split at hh
  · cases hh
    exact ⟨_, _, bodyHalf d⟩
  · cases hh
theorem bodyTurn (l : Lg)  : BodyOkH Try.prog u tab1 [] [] Try.f22 (.optr 0 0 :: []) l.own (.int .i64 l.turn) l.own := by
  constructor
  have eqn : bodyH Try.prog u tab1 [] (drawW Try.prog u tab1) (loopsBy u []) Try.f22 (.optr 0 0 :: []) l.own (.int .i64 l.turn) l.own = vcTurn l := by kernel_rfl
  rw [eqn]
  exact ⟨rfl, ⟨⟨trivial, rfl, rfl, rfl, trivial, rfl⟩, ⟨trivial, trivial, rfl, rfl, rfl, rfl⟩, rfl, rfl, rfl⟩, rfl, rfl, rfl, trivial⟩
theorem okTurn : FnOkH Try.prog u 22 (lookH lTurn) := by
  refine fn_okH Try.prog u tab1 mo laws1 Try.func22 ?_
  intro xs os c y os2 h hc
  unfold lookH at h
  split at h
  case h_2 => cases h
  rename_i c' y' h'
  cases h
  obtain ⟨l, d, rfl, rfl, hh⟩ := lgL_eq h'
  split at hh
  · cases hh
    exact ⟨_, _, bodyTurn d⟩
  · cases hh
theorem bodyBroken (l : Lg)  : BodyOkH Try.prog u tab1 [] [] Try.f18 (.optr 0 0 :: []) l.own (.bool l.broken) l.own := by
  constructor
  have eqn : bodyH Try.prog u tab1 [] (drawW Try.prog u tab1) (loopsBy u []) Try.f18 (.optr 0 0 :: []) l.own (.bool l.broken) l.own = vcBroken l := by kernel_rfl
  rw [eqn]
  exact ⟨rfl, ⟨⟨trivial, rfl, rfl, rfl, trivial, rfl⟩, ⟨trivial, trivial, rfl, rfl, rfl, rfl⟩, rfl, rfl, rfl⟩, rfl, rfl, rfl, trivial⟩
theorem okBroken : FnOkH Try.prog u 18 (lookH lBroken) := by
  refine fn_okH Try.prog u tab1 mo laws1 Try.func18 ?_
  intro xs os c y os2 h hc
  unfold lookH at h
  split at h
  case h_2 => cases h
  rename_i c' y' h'
  cases h
  obtain ⟨l, d, rfl, rfl, hh⟩ := lgL_eq h'
  split at hh
  · cases hh
    exact ⟨_, _, bodyBroken d⟩
  · cases hh
theorem bodyFailL (l : Lg) (e : Int) : BodyOkH Try.prog u tab1 [] [] Try.f34 (.optr 0 0 :: [.int .i64 e]) l.own (.int .i64 e) { l with broken := l.broken || e != 0 }.own := by
  constructor
  have eqn : bodyH Try.prog u tab1 [] (drawW Try.prog u tab1) (loopsBy u []) Try.f34 (.optr 0 0 :: [.int .i64 e]) l.own (.int .i64 e) { l with broken := l.broken || e != 0 }.own = vcFailL l e := by kernel_rfl
  rw [eqn]
  exact ⟨rfl, ⟨⟨trivial, rfl, rfl, rfl, trivial, rfl⟩, ⟨trivial, trivial, rfl, rfl, rfl, rfl⟩, rfl, rfl, rfl⟩, rfl, rfl, rfl, trivial⟩
theorem okFailL : FnOkH Try.prog u 34 hFailL := by
  refine fn_okH Try.prog u tab1 mo laws1 Try.func34 ?_
  intro xs os c y os2 h hc
  obtain ⟨l, d, rfl, rfl, hh⟩ := lgH_eq h
  split at hh
  · cases hh
    exact ⟨_, _, bodyFailL d _⟩
  · cases hh
theorem laws4 : Laws Try.prog u tab4 := by
  refine ⟨law, clean, fun p hp => ?_⟩
  rcases List.mem_cons.1 hp with rfl | hp
  · exact (nilP_ok okHead)
  rcases List.mem_cons.1 hp with rfl | hp
  · exact okHalf
  rcases List.mem_cons.1 hp with rfl | hp
  · exact okTurn
  rcases List.mem_cons.1 hp with rfl | hp
  · exact okBroken
  rcases List.mem_cons.1 hp with rfl | hp
  · exact okFailL
  exact laws3.tab p hp
theorem bodyRoom (l : Lg)  : BodyOkH Try.prog u tab4 [] [] Try.f11 (.optr 0 0 :: []) l.own (.int .i64 (IntKind.i64.wrap (halfOf l.d - l.next))) l.own := by
  constructor
  have eqn : bodyH Try.prog u tab4 [] (drawW Try.prog u tab4) (loopsBy u []) Try.f11 (.optr 0 0 :: []) l.own (.int .i64 (IntKind.i64.wrap (halfOf l.d - l.next))) l.own = vcRoom l := by kernel_rfl
  rw [eqn]
  exact ⟨rfl, ⟨⟨trivial, rfl, rfl, rfl, trivial, rfl⟩, ⟨trivial, trivial, rfl, rfl, rfl, rfl⟩, rfl, rfl, rfl⟩, rfl, rfl, rfl, trivial⟩
theorem okRoom : FnOkH Try.prog u 11 (lookH lRoom) := by
  refine fn_okH Try.prog u tab4 mo laws4 Try.func11 ?_
  intro xs os c y os2 h hc
  unfold lookH at h
  split at h
  case h_2 => cases h
  rename_i c' y' h'
  cases h
  obtain ⟨l, d, rfl, rfl, hh⟩ := lgL_eq h'
  split at hh
  · cases hh
    exact ⟨_, _, bodyRoom d⟩
  · cases hh
theorem bodyRecords (l : Lg)  (h : l.recs.length ≤ 1000000 ∧ ∀ b ∈ l.recs, b.length ≤ 1000000) : BodyOkH Try.prog u tab0 [] [(0, .inv (annRecords l))] Try.f20 (.optr 0 0 :: []) l.own (.csl 22 l.recs) l.own := by
  constructor
  have eqn : bodyH Try.prog u tab0 [] (drawW Try.prog u tab0) (loopsBy u [(0, .inv (annRecords l))]) Try.f20 (.optr 0 0 :: []) l.own (.csl 22 l.recs) l.own = vcRecords l := by kernel_rfl
  rw [eqn]
  unfold vcRecords
  obtain ⟨hl, hb⟩ := h
  refine ⟨⟨0, Nat.zero_le _, ⟨trivial, rfl, trivial, rfl⟩, rfl, ⟨trivial, rfl, rfl, rfl, trivial, rfl⟩, ⟨trivial, trivial, rfl, rfl, rfl, rfl⟩, rfl, rfl, rfl⟩, fun g hg => ⟨fun hlt => ?_, fun hge => ?_⟩⟩
  · have hlt : (g : Int) < (l.recs.length : Int) := of_decide_eq_true hlt
    have hm : l.recs.getD g [] ∈ l.recs := by
      rw [List.getD_eq_getElem?_getD, List.getElem?_eq_getElem (by omega)]
      exact List.getElem_mem _
    have hm2 := hb _ hm
    refine ⟨⟨by omega, hlt⟩, (show (l.recs.getD g []).length * 1 ≤ _ by omega), ?_, g + 1, show g + 1 ≤ l.recs.length by omega, show l.recs.length - (g + 1) < l.recs.length - g by omega, ⟨trivial, rfl, trivial, wrap_next hlt (by omega)⟩, rfl, ⟨trivial, rfl, rfl, rfl, trivial, rfl⟩, ⟨trivial, trivial, rfl, rfl, rfl, rfl⟩, rfl, rfl, ?_⟩
    · rw [List.length_take, List.length_singleton]
      omega
    · show List.take g l.recs ++ [l.recs.getD g []] = List.take (g + 1) l.recs
      rw [List.take_add_one, List.getElem?_eq_getElem (by omega), List.getD_eq_getElem?_getD, List.getElem?_eq_getElem (by omega)]
      rfl
  · have hge : ¬ (g : Int) < (l.recs.length : Int) := of_decide_eq_false hge
    obtain rfl : g = l.recs.length := by have hg : g ≤ l.recs.length := hg; omega
    exact ⟨List.take_length, ⟨⟨trivial, rfl, rfl, rfl, trivial, rfl⟩, ⟨trivial, trivial, rfl, rfl, rfl, rfl⟩, rfl, rfl, rfl⟩, rfl, rfl, rfl, trivial⟩
theorem okRecords : FnOkH Try.prog u 20 (lookH lRecords) := by
  refine fn_okH Try.prog u tab0 mo laws0 Try.func20 ?_
  intro xs os c y os2 h hc
  unfold lookH at h
  split at h
  case h_2 => cases h
  rename_i c' y' h'
  cases h
  obtain ⟨l, d, rfl, rfl, hh⟩ := lgL_eq h'
  split at hh
  · cases hh
    exact ⟨_, _, bodyRecords d hc⟩
  · cases hh

end Go.Proofs.Ytgimkldaeobhnaa.Dsk
