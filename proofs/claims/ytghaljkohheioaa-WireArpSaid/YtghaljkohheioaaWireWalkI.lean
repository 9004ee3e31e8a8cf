/- Packets of the wire: the law WireArp, by the bodies' contracts. -/
import Derived.Test.YtghaljkohheioaaWireVcI
namespace Go.Proofs.Ytghaljkohheioaa.Wire
open Go Go.Proofs.Ytghaljkohheioaa.Sx Go.Proofs.Ytghaljkohheioaa.Sum

def spWArp : Sx.Spec A
  | [.agg [.bool a, .int .u32 f, .int .u32 t, .int .u8 m0, .int .u8 m1, .int .u8 m2, .int .u8 m3, .int .u8 m4, .int .u8 m5, .int .i64 i, .int .i64 q], .int .u8 z, .int .u8 y, .csl 5 xs] => some (some (arpOk xs f t m0 m1 m2 m3 m4 m5 z y), .bool true)
  | _ => none
set_option maxHeartbeats 4000000 in
theorem bodyWArp (a : Bool) (f t m0 m1 m2 m3 m4 m5 i q : Int) (z y : Int) (xs : List Int) (h : arpOk xs f t m0 m1 m2 m3 m4 m5 z y) : BodyOk Try.prog u tab6 [103009, 106010, 107010, 108045, 110012, 112015, 113083] [(0, .inv annWArp)] Try.f7 [pkt a f t m0 m1 m2 m3 m4 m5 i q, .int .u8 z, .int .u8 y, .csl 5 xs] (.bool true) := by
  constructor
  have eqn : bodyW Try.prog u tab6 [103009, 106010, 107010, 108045, 110012, 112015, 113083] (drawW Try.prog u tab6) (loopsBy u [(0, .inv annWArp)]) Try.f7 [pkt a f t m0 m1 m2 m3 m4 m5 i q, .int .u8 z, .int .u8 y, .csl 5 xs] (.bool true) = vcWArp a f t m0 m1 m2 m3 m4 m5 i q z y xs := by kernel_rfl
  rw [eqn]
  unfold vcWArp
  obtain ⟨hl, hb, hft, hm, hz, hy⟩ := h
  have hzz : IntKind.i64.wrap z = z := wrap_i64_id (by omega)
  rw [hzz]
  have hzr := tmod_rng (a := z) (n := 28) hz.1 (by omega)
  refine ⟨fun h => absurd h (by decide), fun _ => fun v hv => ⟨hft, fun hx => ?_, fun _ => ?_⟩⟩
  · subst hv
    have hx : (!((bytesOf (arpB a f t m0 m1 m2 m3 m4 m5)).toList == (bytesOf (arpB a f t m0 m1 m2 m3 m4 m5)).toList)) = true := hx
    simp at hx
  have hvb : Sum.bytes v := by rw [hv]; exact arpB_bytes hft.1 hft.2 hm
  have hvl : v.length = 28 := by rw [hv]; exact arpB_len hft.1 hft.2
  refine ⟨by omega, fun v1 hv1 => ?_⟩
  subst hv1
  refine ⟨by rw [hvl]; decide, by rw [hvl]; exact hzr, fun w2 hw2 => ?_⟩
  have h2b : Sum.bytes w2 := by rw [hw2]; exact bytes_set hvb hy
  have h2l : w2.length = 28 := by rw [hw2, List.length_set]; exact hvl
  refine ⟨by rw [h2l]; decide, by rw [h2l]; exact ⟨by decide, hzr.1, Int.le_of_lt hzr.2⟩, fun r hr => ⟨⟨0, Nat.zero_le _, ⟨trivial, rfl, rfl⟩, rfl⟩, fun g hg => ⟨fun hlt => ?_, fun _ => rfl⟩⟩⟩
  have hlt : (g : Int) < ((4 : Nat) : Int) := of_decide_eq_true hlt
  refine ⟨⟨by omega, by subst hr; exact hlt⟩, fun w hw => ?_⟩
  have hwb : Sum.bytes w := by
    subst hw hr
    exact row4_bytes hvb h2b hb _ g
  have hwl : w.length < 9223372036854775808 := by
    subst hw hr
    exact row4_len hvl h2l hl _ g
  have l28 : ∀ x : Bool, ((w.length : Int) == 28 && x) = true → w.length = 28 := by
    intro x hx
    simp only [Bool.and_eq_true, beq_iff_eq] at hx
    omega
  have lok : formA w = true → w.length = 28 := by
    intro hx
    rw [form_eq] at hx
    exact badA_len (by simpa using hx)
  refine ⟨hwl, fun hx => ⟨by decide, by decide, by have := eq_of_beq hx; omega⟩, fun hx => ⟨by decide, by have := l28 _ hx; omega⟩, fun hx _ => ⟨by decide, by have := l28 _ hx; omega⟩, fun o ho => ?_⟩
  have ho : o = formA w := ho
  refine ⟨fun hx => ⟨by decide, by have := lok (ho ▸ hx); omega⟩, fun o2 ho2 => ?_⟩
  have ho2 : o2 = (formA w && w.getD 7 0 == 2) := by rw [ho2, ho]; rfl
  have l6 : o2 = true → w.length = 28 := by
    intro hx
    rw [ho2, Bool.and_eq_true] at hx
    exact lok hx.1
  have p6 : o2 = true → 6 ≤ (List.drop 8 (List.take 14 w)).length := by
    intro hx
    have := l6 hx
    rw [List.length_drop, List.length_take]
    omega
  refine ⟨fun hx => ⟨⟨by decide, by decide, by have := l6 hx; omega⟩, p6 hx, fun _ => ⟨by decide, by decide, by have := l6 hx; omega⟩, fun _ => p6 hx⟩, fun _ => trivial, fun o3 ho3 => ?_⟩
  have ho3 : o3 = okA w := by rw [ho3, ho2, ho]; rfl
  have ho4 : o3 = (errA w == 0) := by rw [ho3, okA_eq]
  have l7 : o3 = true → w.length = 28 := by
    intro hx
    rw [ho4] at hx
    exact badA_len (errA_form (eq_of_beq hx))
  refine ⟨fun hx => ?_, fun _ => ?_⟩
  · have hx : ckA w o3 = true := hx
    rw [ho3, ckA_false] at hx
    cases hx
  have sz : (bytesOf (againA w)).size = 28 := by rw [bytesOf_size, again_len]
  have r1 := aN_rng w (numOf (part w 14 18))
  have r2 := aN_rng w (numOf (part w 24 28))
  refine ⟨fun _ => ⟨r1, r2⟩, fun _ => ⟨by decide, by decide, (show (18 : Int) ≤ ((bytesOf (againA w)).size : Int) by rw [sz]; decide)⟩, fun hx => ⟨by decide, by decide, by have := l7 hx; omega⟩, fun _ _ => ⟨r1, r2⟩, fun _ _ => ⟨by decide, (show (24 : Int) ≤ ((bytesOf (againA w)).size : Int) by rw [sz]; decide), Int.le_refl _⟩, fun hx _ => ⟨by decide, by have := l7 hx; omega, Int.le_refl _⟩, fun hx => ?_, fun _ => ⟨g + 1, show g + 1 ≤ 4 by omega, show 4 - (g + 1) < 4 - g by omega, ⟨trivial, rfl, wrap_next (n := 4) hlt (by omega)⟩, rfl⟩⟩
  exact absurd (Eq.trans (Eq.symm hx) (ckB_false hwb o3 ho4)) (by decide)
theorem okWArp : FnOk Try.prog u 7 spWArp := by
  refine fn_ok Try.prog u tab6 mo laws6 Try.func7 ?_
  intro xs c y h hc
  unfold spWArp at h
  split at h
  · cases h
    exact ⟨by kernel_rfl, _, _, bodyWArp _ _ _ _ _ _ _ _ _ _ _ _ _ _ hc⟩
  · cases h
end Go.Proofs.Ytghaljkohheioaa.Wire
