/- A disk that is too small, or down, has no log: the law's walk. -/
import Derived.Test.YtgimkldaeobhnaaWalVcH
import Derived.Test.YtgimkldaeobhnaaWalWalkF
import Derived.Test.YtgimkldaeobhnaaWalSpecB
import Derived.Test.YtgimkldaeobhnaaWalMathL
namespace Go.Proofs.Ytgimkldaeobhnaa.Dsk
open Go Go.Proofs.Ytgimkldaeobhnaa.Sx

set_option maxRecDepth 100000 in
set_option maxHeartbeats 8000000 in
theorem bodyLSmall (n : Int) (b : List Int) (h : lenOk (α := Int) b ∧ bytesOk b) : BodyOk Try.prog u tab8 [103005, 104006, 110045, 111047] [] Try.f3 [.int .i64 n, .csl 5 b] (.bool true) := by
  constructor
  have eqn : bodyW Try.prog u tab8 [103005, 104006, 110045, 111047] (drawW Try.prog u tab8) (loopsBy u []) Try.f3 [.int .i64 n, .csl 5 b] (.bool true) = vcLSmall n b := by kernel_rfl
  rw [eqn]
  unfold vcLSmall
  have hb0 : b.length < 9223372036854775808 := h.1
  have e8 := of_wrap n
  refine nm (spOf n) ?_
  rw [Dk.eta]
  refine ⟨fun ht => ⟨⟨⟨(DkB.of n).mono (by omega), DkY.of n⟩, ht⟩, nmL (openM (spOf n)).1 ?_⟩, fun hf => ⟨⟨⟨(DkB.of n).mono (by omega), DkY.of n⟩, hf⟩, by decide, fun h8 => ?_, fun h8 => ?_⟩⟩
  · rw [Dk.eta, Lg.eta, e8]
    have h4 : ¬ halfOf (spOf n) < 4 := fun hh => by rw [openM_small hh] at ht; exact absurd (show ((12 : Int) == 0) = true from ht) (by decide)
    obtain ⟨_, hc, _⟩ := open_new (n := n) (by omega)
    have hhl : halfOf (openM (spOf n)).1.d = halfOf (spOf n) := half_len hc.len
    refine ⟨by decide, fun h8 => absurd (of_decide_eq_true h8) h4, fun _ => ⟨fun h7 => ?_, fun _ => ?_⟩⟩
    · rw [hhl, hc.next] at h7
      simp at h7
    · have g1 := hc.good.arm 0 (openM (spOf n)).1.d.fail (openM (spOf n)).1.d.calls
      refine nm { (openM (spOf n)).1.d with left := 0 } ?_
      rw [Dk.eta]
      have e1 : (⟨{ (openM (spOf n)).1.d with left := 0 }, (openM (spOf n)).1.region, (openM (spOf n)).1.turn, (openM (spOf n)).1.next, (openM (spOf n)).1.recs, (openM (spOf n)).1.broken⟩ : Lg) = { (openM (spOf n)).1 with d := { (openM (spOf n)).1.d with left := 0, fail := (openM (spOf n)).1.d.fail, calls := (openM (spOf n)).1.d.calls } } := rfl
      rw [e1]
      have g2 : ({ (openM (spOf n)).1 with d := { (openM (spOf n)).1.d with left := 0, fail := (openM (spOf n)).1.d.fail, calls := (openM (spOf n)).1.d.calls } } : Lg).next = 2 := hc.next
      have g3 : ({ (openM (spOf n)).1 with d := { (openM (spOf n)).1.d with left := 0, fail := (openM (spOf n)).1.d.fail, calls := (openM (spOf n)).1.d.calls } } : Lg).d.left = 0 := rfl
      have g4 : halfOf ({ (openM (spOf n)).1 with d := { (openM (spOf n)).1.d with left := 0, fail := (openM (spOf n)).1.d.fail, calls := (openM (spOf n)).1.d.calls } } : Lg).d = halfOf (spOf n) := hhl
      generalize ({ (openM (spOf n)).1 with d := { (openM (spOf n)).1.d with left := 0, fail := (openM (spOf n)).1.d.fail, calls := (openM (spOf n)).1.d.calls } } : Lg) = l1 at g1 g2 g3 g4 ⊢
      have hm : 0 ≤ mn (b.length : Int) 60 ∧ mn (b.length : Int) 60 ≤ (b.length : Int) := by unfold mn; split <;> omega
      have hB := take_len b 60 (by omega)
      have hY := take_bytes h.2 (mn (b.length : Int) 60).toNat
      generalize List.drop 0 (List.take (mn (b.length : Int) 60).toNat b) = B at hB hY ⊢
      have hB2 : B.length ≤ 60 := by omega
      have hsn : secsN B.length ≤ 1 := by unfold secsN; omega
      have ha := append_stop g1 (b := B) (by omega) (by omega) g3
      have hk := half_len (append_len l1 B)
      have hok : openOk (appendM l1 B).1.d := ⟨(append_b g1.b (b := B) (n := 0) (by omega)).mono (by omega), append_y g1.y hY⟩
      have hop := openM_down (d := (appendM l1 B).1.d) (by omega) ha.2
      refine ⟨⟨by omega, hm.1, hm.2⟩, g1.app (by omega), nmL (appendM l1 B).1 ?_⟩
      rw [Dk.eta, ha.1]
      refine ⟨fun hx => absurd hx (by decide), fun _ => ⟨fun hx => ?_, fun hx => ⟨⟨hok, hx⟩, by rw [hop]; rfl⟩⟩⟩
      rw [hop] at hx
      exact absurd (show ((9 : Int) == 0) = true from hx) (by decide)
  · rw [e8] at h8
    rw [openM_small (of_decide_eq_true h8)]
    rfl
  · rw [e8] at h8
    have h4 : ¬ halfOf (spOf n) < 4 := of_decide_eq_false h8
    rw [(open_new (n := n) (by omega)).1] at hf
    exact absurd hf (by decide)
theorem okLSmall : FnOk Try.prog u 3 spSmallW := by
  refine fn_ok Try.prog u tab8 mo laws8 Try.func3 ?_
  intro xs c y h hc
  unfold spSmallW at h
  split at h
  · cases h
    exact ⟨by kernel_rfl, _, _, bodyLSmall _ _ hc⟩
  · cases h
end Go.Proofs.Ytgimkldaeobhnaa.Dsk
