/- Packets of the wire: the contract of reading an echo. -/
import Derived.Test.YtghaljkohheioaaWireVcC
namespace Go.Proofs.Ytghaljkohheioaa.Wire
open Go Go.Proofs.Ytghaljkohheioaa.Sx Go.Proofs.Ytghaljkohheioaa.Sum

theorem bodyNone (m0 m1 m2 m3 m4 m5 : Int) : BodyOk Try.prog u tab2 [] [] Try.f20 [.agg [.int .u8 m0, .int .u8 m1, .int .u8 m2, .int .u8 m3, .int .u8 m4, .int .u8 m5]] (.bool (noneM m0 m1 m2 m3 m4 m5)) := by
  constructor
  have e : bodyW Try.prog u tab2 [] (drawW Try.prog u tab2) (loopsBy u []) Try.f20 [.agg [.int .u8 m0, .int .u8 m1, .int .u8 m2, .int .u8 m3, .int .u8 m4, .int .u8 m5]] (.bool (noneM m0 m1 m2 m3 m4 m5)) = vcNone m0 m1 m2 m3 m4 m5 := by kernel_rfl
  rw [e]
  unfold vcNone noneM
  simp only [Bool.and_true]
theorem okNone : FnOk Try.prog u 20 spNone := by
  refine fn_ok Try.prog u tab2 mo laws2 Try.func20 ?_
  intro xs c y h hc
  unfold spNone at h
  split at h
  · cases h
    exact ⟨by kernel_rfl, [], [], bodyNone _ _ _ _ _ _⟩
  · cases h
theorem bodyGroup (m0 m1 m2 m3 m4 m5 : Int) : BodyOk Try.prog u tab2 [] [] Try.f21 [.agg [.int .u8 m0, .int .u8 m1, .int .u8 m2, .int .u8 m3, .int .u8 m4, .int .u8 m5]] (.bool (groupM m0)) := by
  constructor
  have e : bodyW Try.prog u tab2 [] (drawW Try.prog u tab2) (loopsBy u []) Try.f21 [.agg [.int .u8 m0, .int .u8 m1, .int .u8 m2, .int .u8 m3, .int .u8 m4, .int .u8 m5]] (.bool (groupM m0)) = vcGroup m0 m1 m2 m3 m4 m5 := by kernel_rfl
  rw [e]
  rfl
theorem okGroup : FnOk Try.prog u 21 spGroup := by
  refine fn_ok Try.prog u tab2 mo laws2 Try.func21 ?_
  intro xs c y h hc
  unfold spGroup at h
  split at h
  · cases h
    exact ⟨by kernel_rfl, [], [], bodyGroup _ _ _ _ _ _⟩
  · cases h
def litsReadE : List Nat := [101004, 103045]
def outE (xs : List Int) : SV A := .tup [pkt (rA xs) (rN xs (IntKind.u32.wrap (numOf (part xs 12 16)))) (rN xs (IntKind.u32.wrap (numOf (part xs 16 20)))) 0 0 0 0 0 0 (rN xs (numOf (part xs 24 26))) (rN xs (numOf (part xs 26 28))), .int .i64 (errE xs)]
theorem part_le (xs : List Int) (lo hi : Nat) (h : xs.length < 9223372036854775808) : ((part xs lo hi).length).succ.le 9223372036854775808 := by
  show (part xs lo hi).length + 1 ≤ 9223372036854775808
  unfold part
  rw [List.length_drop, List.length_take]
  omega
theorem bodyReadE (xs : List Int) (hl : lenOk xs) : BodyOk Try.prog u tab2 litsReadE [] Try.f11 [.csl 5 xs] (outE xs) := by
  constructor
  have e : bodyW Try.prog u tab2 litsReadE (drawW Try.prog u tab2) (loopsBy u []) Try.f11 [.csl 5 xs] (outE xs) = vcReadE xs := by kernel_rfl
  rw [e]
  unfold vcReadE
  have hl : xs.length < 9223372036854775808 := hl
  have hz : u.dflt 5 = (0 : Int) := rfl
  rw [hz]
  have hp := fun lo hi => part_le xs lo hi hl
  have key : ∀ {b : Bool}, ((xs.length : Int) != 32 || b) = false → xs.length = 32 := by
    intro b h
    simp only [Bool.or_eq_false_iff, bne_eq_false_iff_eq] at h
    omega
  refine ⟨fun h => ?_, fun h => ?_, fun h => ?_, fun h => ?_, fun h => ?_, fun h _ => ?_, fun h => ?_, fun v hv => ?_⟩
  · simp only [bne_eq_false_iff_eq] at h; omega
  · have := key h; omega
  · exact hp 2 4
  · simp only [Bool.or_assoc] at h; have := key h; omega
  · simp only [Bool.or_assoc] at h; have := key h; omega
  · simp only [Bool.or_assoc] at h; have := key h; omega
  · simp only [Bool.or_assoc] at h; have := key h; omega
  · have hv : v = badE xs := hv
    subst hv
    refine ⟨fun h => ?_, fun h => ?_⟩
    · have he : errE xs = 1 := by unfold errE; rw [if_pos h]
      unfold rA rN
      rw [he]
      simp
    · have h32 : xs.length = 32 := by
        have h2 := h
        unfold badE at h2
        simp only [Bool.or_assoc] at h2
        exact key h2
      refine ⟨by omega, hp 0 20, fun _ => by omega, fun _ => hp 20 xs.length, fun v hv => ?_⟩
      have hv : v = sumE xs := hv
      subst hv
      refine ⟨fun h2 => ?_, fun h2 => ?_⟩
      · have he : errE xs = 2 := by unfold errE; rw [h, h2]; rfl
        unfold rA rN
        rw [he]
        simp
      · have he : errE xs = 0 := by unfold errE; rw [h, h2]; rfl
        refine ⟨by omega, by omega, hp 12 16, by omega, hp 16 20, by omega, hp 24 26, by omega, hp 26 28, ?_⟩
        unfold rA rN
        rw [he]
        exact ⟨⟨rfl, rfl, rfl, rfl, rfl, rfl, rfl, rfl, rfl, rfl, rfl⟩, rfl⟩
theorem okReadE : FnOk Try.prog u 11 spReadE := by
  refine fn_ok Try.prog u tab2 mo laws2 Try.func11 ?_
  intro xs c y h hc
  unfold spReadE at h
  split at h
  · cases h
    exact ⟨by kernel_rfl, litsReadE, [], bodyReadE _ hc⟩
  · cases h
end Go.Proofs.Ytghaljkohheioaa.Wire
