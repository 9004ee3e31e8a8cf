/- The log: the contract of the law's example. -/
import Derived.Test.YtgimkldaeobhnaaWalVcG
import Derived.Test.YtgimkldaeobhnaaWalWalkE
import Derived.Test.YtgimkldaeobhnaaWalMathF
namespace Go.Proofs.Ytgimkldaeobhnaa.Dsk
open Go Go.Proofs.Ytgimkldaeobhnaa.Sx

set_option maxRecDepth 100000 in
set_option maxHeartbeats 8000000 in
theorem bodyAwakeW : BodyOk Try.prog u tab7 [101001, 102002, 15025022, 15029026, 106030, 107032, 108036, 109007] [] Try.f8 [] (.lit true) := by
  constructor
  have eqn : bodyW Try.prog u tab7 [101001, 102002, 15025022, 15029026, 106030, 107032, 108036, 109007] (drawW Try.prog u tab7) (loopsBy u []) Try.f8 [] (.lit true) = vcAwakeW  := by kernel_rfl
  rw [eqn]
  unfold vcAwakeW
  have e1 : DkB aw1.d 900000 := DkB.mono aw_b1.1 (by omega)
  have e2 : DkB aw2.d 1000000 := DkB.mono aw_b2.1 (by omega)
  have e4 : DkB aw4l.d 900000 := DkB.mono aw_b4.1 (by omega)
  have e5 : DkOk aw5.d := aw_b5.1.ok (by omega)
  have e6 : DkB aw6 800000 := DkB.mono aw_b6.1 (by omega)
  have h4l : (⟨aw4, aw3.region, aw3.turn, aw3.next, aw3.recs, aw3.broken⟩ : Lg) = aw4l := rfl
  refine nm (spOf 40) ?_
  rw [Dk.eta]
  refine ⟨fun ht => ⟨⟨⟨(DkB.of 40).mono (by omega), DkY.of 40⟩, ht⟩, nmL aw1 ?_⟩, fun hf => absurd (hf.symm.trans aw_e1) (by decide)⟩
  rw [Dk.eta, Lg.eta]
  refine ⟨fun h => absurd h (by decide), fun _ => ⟨by omega, ⟨e1, inB_of aw_r1, by omega⟩, nmL aw2 ?_⟩⟩
  rw [Dk.eta, Lg.eta]
  refine ⟨by omega, ⟨⟨e2, inB_of aw_r2, inB_of aw_n2⟩, Nat.le_trans (Nat.le_of_ble_eq_true aw_l2) (by omega), by omega⟩, nmL aw3 ?_⟩
  refine nm aw4 ?_
  rw [Dk.eta, h4l]
  refine ⟨by omega, ⟨e4, inB_of aw_r4, by omega⟩, nmL aw5 ?_⟩
  rw [Dk.eta]
  refine ⟨e5, nm aw6 ?_⟩
  rw [Dk.eta]
  refine ⟨fun ht => ⟨⟨⟨e6, aw_b6.2⟩, ht⟩, nmL aw7 ?_⟩, fun hf => absurd (hf.symm.trans aw_e7) (by decide)⟩
  rw [Dk.eta, Lg.eta]
  have hl : aw7.recs.length = 2 := aw_recs.1
  refine ⟨⟨(show aw7.recs.length ≤ 1000000 by omega), fun b hb => Nat.le_trans (aw_recs.2 b hb) (by omega)⟩, fun _ => ⟨by omega, (show (0 : Int) < (aw7.recs.length : Int) by omega)⟩, fun _ => ⟨by omega, (show (1 : Int) < (aw7.recs.length : Int) by omega)⟩, ?_⟩
  kernel_rfl
theorem okAwakeW : FnOk Try.prog u 8 spAwakeW := by
  refine fn_ok Try.prog u tab7 mo laws7 Try.func8 ?_
  intro xs c y h hc
  unfold spAwakeW at h
  split at h
  · cases h
    exact ⟨by kernel_rfl, _, _, bodyAwakeW⟩
  · cases h
theorem laws8 : Laws Try.prog u tab8 := by
  refine ⟨law, clean, fun p hp => ?_⟩
  rcases List.mem_cons.1 hp with rfl | hp
  · exact okAwakeW
  exact laws7.tab p hp

end Go.Proofs.Ytgimkldaeobhnaa.Dsk
