/- Sums of bytes: the laws SumOne, SumThree, SumSeal and SumTurned, by the bodies' contracts. -/
import Derived.Test.YtacafjapnppacaaSumVcC
import Derived.Test.YtacafjapnppacaaSumMathD
namespace Go.Proofs.Ytacafjapnppacaa.Sum
open Go Go.Proofs.Ytacafjapnppacaa.Sx

/-! ### SumOne -/
theorem wrap_i64_id {n : Int} (h : -9223372036854775808 ≤ n ∧ n < 9223372036854775808) : IntKind.i64.wrap n = n := by rw [IntKind.wrap_i64]; omega
theorem tmod_rng {a n : Int} (ha : 0 ≤ a) (hn : 0 < n) : 0 ≤ a.tmod n ∧ a.tmod n < n := by
  rw [Int.tmod_eq_emod_of_nonneg ha]
  exact ⟨Int.emod_nonneg _ (by omega), Int.emod_lt_of_pos _ hn⟩
def oneOk (xs : List Int) (t b : Int) : Prop := xs.length ≤ 140737488355328 ∧ bytes xs ∧ (0 ≤ t ∧ t < 65536) ∧ (0 ≤ b ∧ b < 256)
def sp4 : Sx.Spec A
  | [.csl 5 xs, .int .u16 t, .int .u8 b] => some (some (oneOk xs t b), .bool true)
  | _ => none
theorem body4 (xs : List Int) (t b : Int) (h : oneOk xs t b) : BodyOk Try.prog u tab2 [106007] [] Try.f4 [.csl 5 xs, .int .u16 t, .int .u8 b] (.bool true) := by
  constructor
  have e : bodyW Try.prog u tab2 [106007] (drawW Try.prog u tab2) (loopsBy u []) Try.f4 [.csl 5 xs, .int .u16 t, .int .u8 b] (.bool true) = vc4 xs t b := by kernel_rfl
  rw [e]
  obtain ⟨hl, hb, ht, hby⟩ := h
  have hlen : xs.length.succ.le 9223372036854775808 := show xs.length + 1 ≤ 9223372036854775808 by omega
  unfold vc4
  refine ⟨fun h => absurd h (by decide), fun _ => ⟨fun h0 => ⟨hlen, ?_⟩, fun h0 => ?_⟩⟩
  · have : xs = [] := by
      have := beq_iff_eq.1 h0
      cases xs with
      | nil => rfl
      | cons _ _ => simp at this; omega
    subst this
    decide
  · have hne : (xs.length : Int) ≠ 0 := fun hc => by rw [hc] at h0; exact absurd h0 (by decide)
    have hr := tmod_rng (a := IntKind.i64.wrap t) (n := xs.length) (by rw [IntKind.wrap_i64]; omega) (by omega)
    refine ⟨by omega, hne, hr, hr, ?_⟩
    have hs := one_turned xs hb (i := ((IntKind.i64.wrap t).tmod (xs.length : Int)).toNat) (by omega) hby
    first
      | exact ⟨by rw [List.length_set]; exact hlen, hlen, hs⟩
      | (intro v hv; subst hv; exact ⟨by rw [List.length_set]; exact hlen, hlen, hs⟩)
theorem ok4 : FnOk Try.prog u 4 sp4 := by
  refine fn_ok Try.prog u tab2 mo laws2 Try.func4 ?_
  intro xs c y h hc
  unfold sp4 at h
  split at h
  · cases h
    rename_i zs t b
    exact ⟨by kernel_rfl, [106007], [], body4 zs t b hc⟩
  · cases h

/-! ### SumTurned -/
def turnOk (xs : List Int) (t b : Int) : Prop := xs.length < 9223372036854775808 ∧ bytes xs ∧ (0 ≤ t ∧ t < 256) ∧ (0 ≤ b ∧ b < 256)
def sp8 : Sx.Spec A
  | [.csl 5 xs, .int .u8 t, .int .u8 b] => some (some (turnOk xs t b), .bool true)
  | _ => none
def lits8 : List Nat := [103007, 104008, 105007, 108009, 109010, 110007]
theorem mn_eq (a b : Int) : mn a b = min a b := by unfold mn; split <;> omega
theorem body8 (xs : List Int) (t b : Int) (h : turnOk xs t b) : BodyOk Try.prog u tab2 lits8 [] Try.f8 [.csl 5 xs, .int .u8 t, .int .u8 b] (.bool true) := by
  constructor
  have e : bodyW Try.prog u tab2 lits8 (drawW Try.prog u tab2) (loopsBy u []) Try.f8 [.csl 5 xs, .int .u8 t, .int .u8 b] (.bool true) = vc8 xs t b := by kernel_rfl
  rw [e]
  obtain ⟨hl, hb, ht, hby⟩ := h
  unfold vc8
  have hm : IntKind.i64.wrap (IntKind.i64.wrap ((mn (xs.length : Int) 100).tdiv 2) * 2) = (mn (xs.length : Int) 100) / 2 * 2 := by
    rw [mn_eq, Int.tdiv_eq_ediv_of_nonneg (by omega), wrap_i64_id (n := min (xs.length : Int) 100 / 2) (by omega), wrap_i64_id (by omega)]
  rw [hm, mn_eq]
  have hlen : (xs.take ((min (xs.length : Int) 100) / 2 * 2).toNat).length = ((min (xs.length : Int) 100) / 2 * 2).toNat := List.length_take_of_le (by omega)
  refine ⟨fun h => absurd h (by decide), fun _ => ⟨by decide, ⟨by decide, by omega, by omega⟩, by rw [List.drop_zero, hlen]; omega, fun v hv => ?_⟩⟩
  rw [List.drop_zero] at hv
  have hvl : v.length = 2 + ((min (xs.length : Int) 100) / 2 * 2).toNat := by rw [hv, List.length_append, hlen]; rfl
  have hvb : bytes v := by rw [hv]; exact bytes_app (bytes_two (by omega) (by omega)) (bytes_take _ hb)
  have hvp : 0 < SW 0 v := by
    rw [hv, SW_append]
    have := SW_nonneg _ (0 + [(69 : Int), 0].length) (bytes_take ((min (xs.length : Int) 100) / 2 * 2).toNat hb)
    have e : SW 0 [(69 : Int), 0] = 17664 := by decide
    rw [e]
    omega
  clear hv
  refine ⟨show v.length + 1 ≤ 9223372036854775808 by omega, fun s hs => ⟨by decide, by simp; omega, fun v2 hv2 => ?_⟩⟩
  obtain ⟨hb2, hz2⟩ := sealed_end v hvb (by omega) hvp s hs
  have hv2' : v2 = v ++ [IntKind.u8.wrap (shr .u16 s 8), IntKind.u8.wrap s] := hv2
  rw [← hv2'] at hb2 hz2
  have hl2 : v2.length = v.length + 2 := by rw [hv2', List.length_append]; rfl
  clear hv2 hv2'
  refine ⟨show v2.length + 1 ≤ 9223372036854775808 by omega, ?_⟩
  refine ⟨fun h => absurd h (by simpa using hz2), fun _ => ⟨by omega, fun k hk => ?_⟩⟩
  have hr := tmod_rng (a := IntKind.i64.wrap t) (n := v2.length) (by rw [IntKind.wrap_i64]; omega) (by omega)
  rw [← hk] at hr
  refine ⟨hr, fun w hw => ⟨hr, fun v4 hv4 => ?_⟩⟩
  have hw : w = v2.getD k.toNat 0 := hw
  have hkn : k.toNat < v2.length := by omega
  have ht := turned v2 hb2 hz2 hkn (IntKind.u8.wrap (w + b)) (wrap8_rng _)
  have hv4' : v4 = v2.set k.toNat (IntKind.u8.wrap (w + b)) := hv4
  have hl4 : v4.length = v2.length := by rw [hv4', List.length_set]
  rw [← hv4'] at ht
  have hg : v4.getD k.toNat 0 = IntKind.u8.wrap (w + b) := by
    rw [hv4']
    simp [List.getD, List.getElem?_set, hkn]
  refine ⟨show v4.length + 1 ≤ 9223372036854775808 by omega, by omega, ?_⟩
  show ((notW (IntKind.u16.wrap (wAt v4 v4.length)) == 0) == (w == v4.getD k.toNat 0)) = true
  rw [hg, hw] at *
  exact ht
theorem ok8 : FnOk Try.prog u 8 sp8 := by
  refine fn_ok Try.prog u tab2 mo laws2 Try.func8 ?_
  intro xs c y h hc
  unfold sp8 at h
  split at h
  · cases h
    rename_i zs t b
    exact ⟨by kernel_rfl, lits8, [], body8 zs t b hc⟩
  · cases h
end Go.Proofs.Ytacafjapnppacaa.Sum
