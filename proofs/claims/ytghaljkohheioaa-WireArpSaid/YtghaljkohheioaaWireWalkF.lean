/- Packets of the wire: the contract of reading the other kind of packet. -/
import Derived.Test.YtghaljkohheioaaWireVcF
namespace Go.Proofs.Ytghaljkohheioaa.Wire
open Go Go.Proofs.Ytghaljkohheioaa.Sx Go.Proofs.Ytghaljkohheioaa.Sum

theorem bodyReadA (xs : List Int) (h : lenOk xs) : BodyOk Try.prog u tab5 [101004] [] Try.f19 [.csl 5 xs] (outA xs) := by
  constructor
  have eqn : bodyW Try.prog u tab5 [101004] (drawW Try.prog u tab5) (loopsBy u []) Try.f19 [.csl 5 xs] (outA xs) = vcReadA xs := by kernel_rfl
  rw [eqn]
  unfold vcReadA
  have hl : xs.length < 9223372036854775808 := h
  have hz : u.dflt 5 = (0 : Int) := rfl
  rw [hz]
  have hp := fun lo hi => part_le xs lo hi hl
  have key : ∀ {b : Bool}, ((xs.length : Int) != 28 || b) = false → xs.length = 28 := by
    intro b h
    simp only [Bool.or_eq_false_iff, bne_eq_false_iff_eq] at h
    omega
  refine ⟨fun h => ?_, fun h => ?_, fun h => ?_, fun h => ?_, fun h => ?_⟩
  · simp only [bne_eq_false_iff_eq] at h; omega
  · have := key h; omega
  · simp only [Bool.or_assoc] at h; have := key h; omega
  · have h : badA xs = true := h
    have he : errA xs = 1 := by unfold errA; rw [if_pos h]
    unfold aB aN
    rw [he]
    simp
  · have h28 : xs.length = 28 := by
      simp only [Bool.or_assoc] at h
      exact key h
    have h : badA xs = false := h
    have hpl : (List.drop 8 (List.take 14 xs)).length = 6 := by rw [List.length_drop, List.length_take]; omega
    refine ⟨by omega, by omega, hp 14 18, by omega, hp 24 28, by omega, ?_, fun hm => ?_, fun hm => ?_⟩
    · rw [hpl]; exact Nat.le_refl _
    · have hm : macA xs = true := hm
      have he : errA xs = 1 := by unfold errA; rw [h, hm]; rfl
      unfold aB aN
      rw [he]
      simp
    · have hm : macA xs = false := hm
      have he : errA xs = 0 := by unfold errA; rw [h, hm]; rfl
      unfold aB aN
      rw [he]
      exact ⟨⟨rfl, rfl, rfl, rfl, rfl, rfl, rfl, rfl, rfl, rfl, rfl⟩, rfl⟩
theorem okReadA : FnOk Try.prog u 19 spReadA := by
  refine fn_ok Try.prog u tab5 mo laws5 Try.func19 ?_
  intro xs c y h hc
  unfold spReadA at h
  split at h
  · cases h
    exact ⟨by kernel_rfl, _, _, bodyReadA _ hc⟩
  · cases h
def tab6 : List (Nat × Con A) := (19, .pure spReadA) :: tab5
theorem laws6 : Laws Try.prog u tab6 := by
  refine ⟨law, clean, fun p hp => ?_⟩
  rcases List.mem_cons.1 hp with rfl | hp
  · exact okReadA
  exact laws5.tab p hp
end Go.Proofs.Ytghaljkohheioaa.Wire
