/- Questions that wait: the contracts of finding one, and of copying them. -/
import Derived.Test.YtnjildbclmglpaaProVcB
namespace Go.Proofs.Ytnjildbclmglpaa.Pro
open Go Go.Proofs.Ytnjildbclmglpaa.Sx

theorem wrap_i64_id {n : Int} (h : -9223372036854775808 ≤ n ∧ n < 9223372036854775808) : IntKind.i64.wrap n = n := by rw [IntKind.wrap_i64]; omega
theorem wrap_next {g n : Nat} (h : (g : Int) < n) (hn : n < 9223372036854775808) : IntKind.i64.wrap ((g : Int) + 1) = ((g + 1 : Nat) : Int) := by
  rw [IntKind.wrap_i64]
  omega
theorem drop_getD {α : Type} (xs : List α) (g : Nat) (h : g < xs.length) (d : α) : xs.drop g = xs.getD g d :: xs.drop (g + 1) := by
  rw [List.drop_eq_getElem_cons h]
  simp [List.getD, List.getElem?_eq_getElem h]
theorem take_getD {α : Type} (xs : List α) (g : Nat) (h : g < xs.length) (d : α) : xs.take (g + 1) = xs.take g ++ [xs.getD g d] := by
  rw [List.take_add_one, List.getElem?_eq_getElem h]
  simp [List.getD, List.getElem?_eq_getElem h]
theorem any_take_drop {α : Type} (p : α → Bool) (xs : List α) (g : Nat) : xs.any p = ((xs.take g).any p || (xs.drop g).any p) := by
  rw [← List.any_append, List.take_append_drop]
theorem any_next {q : Prb → Bool} {xs : List Prb} {k : Nat} (hk : k < xs.length) (h : (xs.take k).any q = false) (hq : q (xs.getD k zeroP) = false) : (xs.take (k + 1)).any q = false := by
  rw [take_getD xs k hk zeroP, List.any_append, h]
  simpa using hq
theorem first_none {q : Prb → Bool} {xs : List Prb} (h : xs.any q = false) : firstI q xs = -1 := by
  unfold firstI
  rw [if_neg (by rw [h]; simp)]
theorem first_at {q : Prb → Bool} {xs : List Prb} {k : Nat} (hk : k < xs.length) (h : (xs.take k).any q = false) (hq : q (xs.getD k zeroP) = true) : (k : Int) = firstI q xs := by
  have ha : xs.any q = true := by
    rw [any_take_drop q xs k, drop_getD xs k hk zeroP, List.any_cons, hq]
    simp
  unfold firstI
  rw [if_pos ha]
  have hx : xs.findIdx q = k := by
    rw [List.findIdx_eq hk]
    refine ⟨by simpa [List.getD, List.getElem?_eq_getElem hk] using hq, fun j hj => ?_⟩
    rw [List.any_eq_false] at h
    have := h xs[j] (by rw [List.mem_take_iff_getElem]; exact ⟨j, by omega, rfl⟩)
    simpa using this
  rw [hx]
theorem first_ge (q : Prb → Bool) (xs : List Prb) : decide (firstI q xs ≥ 0) = xs.any q := by
  cases h : xs.any q
  · rw [first_none h]; rfl
  · unfold firstI
    rw [if_pos h]
    exact decide_eq_true (Int.natCast_nonneg _)
theorem bodyIndexR (x1 x2 x3 x4 x5 : Int) (xs : List Prb) (h : lenOk xs) : BodyOk Try.prog u tab2 [] [(0, .inv (annIndex (sameA ⟨x1, x2, x3, x4, x5⟩) xs))] Try.f26 [.csl 29 xs, .fn 24 [.cptr [.int .u32 x1, .int .i64 x2, .int .i64 x3, .int .i64 x4, .int .i64 x5] 0]] (.int .i64 (firstI (sameA ⟨x1, x2, x3, x4, x5⟩) xs)) := by
  constructor
  have eqn : bodyW Try.prog u tab2 [] (drawW Try.prog u tab2) (loopsBy u [(0, .inv (annIndex (sameA ⟨x1, x2, x3, x4, x5⟩) xs))]) Try.f26 [.csl 29 xs, .fn 24 [.cptr [.int .u32 x1, .int .i64 x2, .int .i64 x3, .int .i64 x4, .int .i64 x5] 0]] (.int .i64 (firstI (sameA ⟨x1, x2, x3, x4, x5⟩) xs)) = vcIndexR x1 x2 x3 x4 x5 xs := by kernel_rfl
  rw [eqn]
  unfold vcIndexR
  have h : xs.length < 9223372036854775808 := h
  refine ⟨⟨0, ⟨Nat.zero_le _, rfl⟩, rfl, ⟨rfl, rfl, rfl, rfl, rfl, rfl, rfl⟩, rfl, rfl, rfl⟩, fun k hk => ⟨fun hlt => ?_, fun hge => ?_⟩⟩
  · have hlt := of_decide_eq_true hlt
    have hlt' : k < xs.length := by omega
    refine ⟨⟨by omega, hlt⟩, fun hq => first_at hlt' hk.2 hq, fun hq => ⟨k + 1, ⟨hlt', any_next hlt' hk.2 hq⟩, show xs.length - (k + 1) < xs.length - k by omega, rfl, ⟨rfl, rfl, rfl, rfl, rfl, rfl, rfl⟩, rfl, rfl, wrap_next hlt h⟩⟩
  · have hge := of_decide_eq_false hge
    have hk1 := hk.1
    have hx : k = xs.length := by omega
    have h2 := hk.2
    rw [hx, List.take_length] at h2
    exact (first_none h2).symm
theorem bodyIndexP (x1 x2 x3 x4 x5 : Int) (xs : List Prb) (h : lenOk xs) : BodyOk Try.prog u tab2 [] [(0, .inv (annIndex (sameA ⟨x1, x2, x3, x4, x5⟩) xs))] Try.f26 [.csl 29 xs, .fn 30 [.cptr [.int .u32 x1, .int .i64 x2, .int .i64 x3, .int .i64 x4, .int .i64 x5] 0]] (.int .i64 (firstI (sameA ⟨x1, x2, x3, x4, x5⟩) xs)) := by
  constructor
  have eqn : bodyW Try.prog u tab2 [] (drawW Try.prog u tab2) (loopsBy u [(0, .inv (annIndex (sameA ⟨x1, x2, x3, x4, x5⟩) xs))]) Try.f26 [.csl 29 xs, .fn 30 [.cptr [.int .u32 x1, .int .i64 x2, .int .i64 x3, .int .i64 x4, .int .i64 x5] 0]] (.int .i64 (firstI (sameA ⟨x1, x2, x3, x4, x5⟩) xs)) = vcIndexP x1 x2 x3 x4 x5 xs := by kernel_rfl
  rw [eqn]
  unfold vcIndexP
  have h : xs.length < 9223372036854775808 := h
  refine ⟨⟨0, ⟨Nat.zero_le _, rfl⟩, rfl, ⟨rfl, rfl, rfl, rfl, rfl, rfl, rfl⟩, rfl, rfl, rfl⟩, fun k hk => ⟨fun hlt => ?_, fun hge => ?_⟩⟩
  · have hlt := of_decide_eq_true hlt
    have hlt' : k < xs.length := by omega
    refine ⟨⟨by omega, hlt⟩, fun hq => first_at hlt' hk.2 hq, fun hq => ⟨k + 1, ⟨hlt', any_next hlt' hk.2 hq⟩, show xs.length - (k + 1) < xs.length - k by omega, rfl, ⟨rfl, rfl, rfl, rfl, rfl, rfl, rfl⟩, rfl, rfl, wrap_next hlt h⟩⟩
  · have hge := of_decide_eq_false hge
    have hk1 := hk.1
    have hx : k = xs.length := by omega
    have h2 := hk.2
    rw [hx, List.take_length] at h2
    exact (first_none h2).symm
theorem bodyIndexM (an : Bool) (f t m0 m1 m2 m3 m4 m5 i s : Int) (xs : List Prb) (h : lenOk xs) : BodyOk Try.prog u tab2 [] [(0, .inv (annIndex (ansTo an f i s) xs))] Try.f26 [.csl 29 xs, .fn 27 [.cptr [.bool an, .int .u32 f, .int .u32 t, .int .u8 m0, .int .u8 m1, .int .u8 m2, .int .u8 m3, .int .u8 m4, .int .u8 m5, .int .i64 i, .int .i64 s] 0]] (.int .i64 (firstI (ansTo an f i s) xs)) := by
  constructor
  have eqn : bodyW Try.prog u tab2 [] (drawW Try.prog u tab2) (loopsBy u [(0, .inv (annIndex (ansTo an f i s) xs))]) Try.f26 [.csl 29 xs, .fn 27 [.cptr [.bool an, .int .u32 f, .int .u32 t, .int .u8 m0, .int .u8 m1, .int .u8 m2, .int .u8 m3, .int .u8 m4, .int .u8 m5, .int .i64 i, .int .i64 s] 0]] (.int .i64 (firstI (ansTo an f i s) xs)) = vcIndexM an f t m0 m1 m2 m3 m4 m5 i s xs := by kernel_rfl
  rw [eqn]
  unfold vcIndexM
  have h : xs.length < 9223372036854775808 := h
  refine ⟨⟨0, ⟨Nat.zero_le _, rfl⟩, rfl, ⟨rfl, rfl, rfl, rfl, rfl, rfl, rfl, rfl, rfl, rfl, rfl, rfl, rfl⟩, rfl, rfl, rfl⟩, fun k hk => ⟨fun hlt => ?_, fun hge => ?_⟩⟩
  · have hlt := of_decide_eq_true hlt
    have hlt' : k < xs.length := by omega
    refine ⟨⟨by omega, hlt⟩, fun hq => first_at hlt' hk.2 hq, fun hq => ⟨k + 1, ⟨hlt', any_next hlt' hk.2 hq⟩, show xs.length - (k + 1) < xs.length - k by omega, rfl, ⟨rfl, rfl, rfl, rfl, rfl, rfl, rfl, rfl, rfl, rfl, rfl, rfl, rfl⟩, rfl, rfl, wrap_next hlt h⟩⟩
  · have hge := of_decide_eq_false hge
    have hk1 := hk.1
    have hx : k = xs.length := by omega
    have h2 := hk.2
    rw [hx, List.take_length] at h2
    exact (first_none h2).symm
theorem okIndex : FnOk Try.prog u 26 spIndex := by
  refine fn_ok Try.prog u tab2 mo laws2 Try.func26 ?_
  intro xs c y h hc
  unfold spIndex at h
  split at h
  · cases h
    exact ⟨by kernel_rfl, _, _, bodyIndexR _ _ _ _ _ _ hc⟩
  · cases h
    exact ⟨by kernel_rfl, _, _, bodyIndexP _ _ _ _ _ _ hc⟩
  · cases h
    exact ⟨by kernel_rfl, _, _, bodyIndexM _ _ _ _ _ _ _ _ _ _ _ _ hc⟩
  · cases h
theorem laws3 : Laws Try.prog u tab3 := by
  refine ⟨law, clean, fun p hp => ?_⟩
  rcases List.mem_cons.1 hp with rfl | hp
  · exact okIndex
  exact laws2.tab p hp
theorem bodyCloneN (q : Bool) (xs : List Prb) (h : (q = true → xs = []) ∧ sizeOk xs) : BodyOkH Try.prog u tab0 [] [] Try.f29 [.nsl q 29 xs] [] (.orow 0) [.row 29 xs] := by
  constructor
  have eqn : bodyH Try.prog u tab0 [] (drawW Try.prog u tab0) (loopsBy u []) Try.f29 [.nsl q 29 xs] [] (.orow 0) [.row 29 xs] = vcCloneN q xs := by kernel_rfl
  rw [eqn]
  unfold vcCloneN
  obtain ⟨h1, h2⟩ := h
  refine ⟨fun hq => ⟨trivial, h1 hq, trivial⟩, fun _ => ⟨by rw [Nat.zero_add]; exact h2, trivial, rfl, trivial⟩⟩
theorem okCloneN : FnOkH Try.prog u 29 hCloneN := by
  refine fn_okH Try.prog u tab0 mo laws0 Try.func29 ?_
  intro xs os c y os2 h hc
  unfold hCloneN at h
  split at h
  · cases h
    exact ⟨_, _, bodyCloneN _ _ hc⟩
  · cases h
theorem okClone : FnOkH Try.prog u 29 hClone := by
  intro xs os c y os2 h hc w0 O0 e vs hr he hx
  unfold hClone at h
  split at h
  · rename_i ys
    cases h
    cases hx with
    | csl _ _ a len cap vss hl hcap hm hz hx h0 =>
      cases h0
      have hn : (a.isNone = true → ys = []) ∧ sizeOk ys := ⟨fun hn => hm.elim id (fun ⟨b, o, ha, _⟩ => by rw [ha] at hn; cases hn), hc⟩
      exact okCloneN [.nsl a.isNone 29 ys] [] (some ((a.isNone = true → ys = []) ∧ sizeOk ys)) (.orow 0) [.row 29 ys] rfl hn w0 O0 e _ hr he (.nsl a.isNone _ _ a len cap vss hl hcap hm hz hx rfl .nil)
  · cases h
end Go.Proofs.Ytnjildbclmglpaa.Pro
