/- The log: the contract of opening. -/
import Derived.Test.YtgimkldaeobhnaaWalVcF
import Derived.Test.YtgimkldaeobhnaaWalWalkD
namespace Go.Proofs.Ytgimkldaeobhnaa.Dsk
open Go Go.Proofs.Ytgimkldaeobhnaa.Sx

theorem laws6 : Laws Try.prog u tab6 := by
  refine ⟨law, clean, fun p hp => ?_⟩
  rcases List.mem_cons.1 hp with rfl | hp
  · exact okFind
  rcases List.mem_cons.1 hp with rfl | hp
  · exact okAppend
  rcases List.mem_cons.1 hp with rfl | hp
  · exact (nilH_ok okBegin)
  rcases List.mem_cons.1 hp with rfl | hp
  · exact okRecords
  exact laws5.tab p hp
theorem bodyHalf0 (d : Dk) (r t n : Int) (br : Bool) : BodyOkH Try.prog u tab1 [] [] Try.f29 [.optr 0 0] (own0 d r t n br) (.int .i64 (halfOf d)) (own0 d r t n br) := by
  constructor
  have eqn : bodyH Try.prog u tab1 [] (drawW Try.prog u tab1) (loopsBy u []) Try.f29 [.optr 0 0] (own0 d r t n br) (.int .i64 (halfOf d)) (own0 d r t n br) = vcHalf0 d r t n br := by kernel_rfl
  rw [eqn]
  exact ⟨by decide, rfl, ⟨⟨trivial, rfl, rfl, rfl, trivial, rfl⟩, ⟨trivial, trivial, rfl, rfl, rfl, rfl⟩, rfl, rfl⟩, rfl, rfl, trivial⟩
theorem okHalf0 : FnOkH Try.prog u 29 hHalf0 := by
  refine fn_okH Try.prog u tab1 mo laws1 Try.func29 ?_
  intro xs os c y os2 h hc
  unfold hHalf0 at h
  split at h
  · rename_i r t n br a b dn c' ks ws
    cases h
    exact ⟨_, _, bodyHalf0 ⟨ks, ws, a, b, dn, c'⟩ r t n br⟩
  · cases h
theorem lawsO : Laws Try.prog u tabO := by
  refine ⟨law, clean, fun p hp => ?_⟩
  rcases List.mem_cons.1 hp with rfl | hp
  · exact okHalf0
  exact laws6.tab p hp
set_option maxHeartbeats 8000000 in
theorem bodyOpenT (d : Dk) (h : openOk d ∧ ((openM d).2 == 0) = true) : BodyOkH Try.prog u tabO [5000011, 107014, 109026] [(1000011, .cut 3 (cutOpen d))] Try.f10 [.optr 0 0] d.own (.tup [.optr 3 0, .int .i64 0]) (openT d) := by
  constructor
  have eqn : bodyH Try.prog u tabO [5000011, 107014, 109026] (drawW Try.prog u tabO) (loopsBy u [(1000011, .cut 3 (cutOpen d))]) Try.f10 [.optr 0 0] d.own (.tup [.optr 3 0, .int .i64 0]) (openT d) = vcOpenT d := by kernel_rfl
  rw [eqn]
  unfold vcOpenT
  obtain ⟨⟨hB, hY⟩, ht⟩ := h
  have hr2 := findR_in d 2 (Nat.le_refl _)
  refine ⟨⟨fun h0 => ?_, fun h0 => ⟨PUnit.unit, of_decide_eq_false h0, ⟨trivial, trivial⟩, ⟨trivial, trivial, rfl, rfl, rfl, rfl⟩, rfl, rfl, ⟨trivial, rfl, rfl, rfl, trivial, rfl⟩, rfl⟩⟩, fun _ hn => ⟨fun hd => ?_, fun hd => ⟨⟨hB.mono (by omega), hY, rfl, rfl, rfl⟩, ?_⟩⟩⟩
  · exfalso
    rw [openM_small (of_decide_eq_true h0)] at ht
    have ht : ((12 : Int) == 0) = true := ht
    exact absurd ht (by decide)
  · exfalso
    rw [openM_down hn hd] at ht
    have ht : ((9 : Int) == 0) = true := ht
    exact absurd ht (by decide)
  · rintro _ rfl _ rfl _ rfl _ rfl _ rfl _ rfl _ rfl _ rfl _ rfl _ rfl _ rfl
    refine ⟨fun h3 => ?_, fun h3 => ⟨⟨hB.mono (by omega), hr2, by decide⟩, ?_⟩⟩
    · have h3 : ((findP d).1.length : Int) > 0 := of_decide_eq_true h3
      obtain ⟨p1, p2⟩ := findP_in hB hY h3
      have e := openM_old hn hd h3
      refine ⟨⟨hB.mono (by omega), hr2, (show 0 ≤ (findP d).2 by omega), p2⟩, ?_⟩
      refine ⟨fun he => ?_, fun he => ?_⟩
      · exfalso
        rw [e] at ht
        have ht : ((clearM d (findR d 2).1 (findP d).2).2 == 0) = true := ht
        have he : ((clearM d (findR d 2).1 (findP d).2).2 != 0) = true := he
        unfold bne at he
        rw [ht] at he
        exact absurd he (by decide)
      · rw [e]
        exact ⟨⟨trivial, rfl⟩, ⟨⟨trivial, trivial, rfl, rfl, rfl, rfl⟩, rfl, trivial, ⟨trivial, rfl, rfl, rfl, trivial, rfl⟩, rfl, rfl⟩, clearM_len .., trivial⟩
    · have h3 : ¬ ((findP d).1.length : Int) > 0 := of_decide_eq_false h3
      have e := openM_new hn hd h3
      rintro _ rfl _ rfl _ rfl _ rfl _ rfl _ rfl _ rfl _ rfl _ rfl _ rfl _ rfl
      refine ⟨fun he => ?_, fun he => ?_⟩
      · exfalso
        rw [e] at ht
        have ht : ((beginM (findM (log0 d)) []).2 == 0) = true := ht
        have he : ((beginM (findM (log0 d)) []).2 != 0) = true := he
        unfold bne at he
        rw [ht] at he
        exact absurd he (by decide)
      · rw [e]
        exact ⟨⟨trivial, rfl⟩, ⟨⟨trivial, trivial, rfl, rfl, rfl, rfl⟩, rfl, trivial, ⟨trivial, rfl, rfl, rfl, trivial, rfl⟩, rfl, rfl⟩, beginM_len .., trivial⟩
set_option maxHeartbeats 8000000 in
theorem bodyOpenF (d : Dk) (h : openOk d ∧ ((openM d).2 == 0) = false) : BodyOkH Try.prog u tabO [5000011, 107014, 109026] [(1000011, .cut 3 (cutOpen d))] Try.f10 [.optr 0 0] d.own (.tup [.nilp, .int .i64 (openM d).2]) (openF d) := by
  constructor
  have eqn : bodyH Try.prog u tabO [5000011, 107014, 109026] (drawW Try.prog u tabO) (loopsBy u [(1000011, .cut 3 (cutOpen d))]) Try.f10 [.optr 0 0] d.own (.tup [.nilp, .int .i64 (openM d).2]) (openF d) = vcOpenF d := by kernel_rfl
  rw [eqn]
  unfold vcOpenF
  obtain ⟨⟨hB, hY⟩, ht⟩ := h
  have hr2 := findR_in d 2 (Nat.le_refl _)
  refine ⟨⟨fun h0 => ?_, fun h0 => ⟨PUnit.unit, of_decide_eq_false h0, ⟨trivial, trivial⟩, ⟨trivial, trivial, rfl, rfl, rfl, rfl⟩, rfl, rfl, ⟨trivial, rfl, rfl, rfl, trivial, rfl⟩, rfl⟩⟩, fun _ hn => ⟨fun hd => ?_, fun hd => ⟨⟨hB.mono (by omega), hY, rfl, rfl, rfl⟩, ?_⟩⟩⟩
  · rw [openM_small (of_decide_eq_true h0)]
    exact ⟨⟨trivial, rfl⟩, ⟨⟨trivial, trivial, rfl, rfl, rfl, rfl⟩, rfl, trivial, rfl⟩, rfl, trivial⟩
  · rw [openM_down hn hd]
    exact ⟨⟨trivial, rfl⟩, ⟨⟨trivial, trivial, rfl, rfl, rfl, rfl⟩, rfl, trivial, rfl⟩, rfl, trivial⟩
  · rintro _ rfl _ rfl _ rfl _ rfl _ rfl _ rfl _ rfl _ rfl _ rfl _ rfl _ rfl
    refine ⟨fun h3 => ?_, fun h3 => ⟨⟨hB.mono (by omega), hr2, by decide⟩, ?_⟩⟩
    · have h3 : ((findP d).1.length : Int) > 0 := of_decide_eq_true h3
      obtain ⟨p1, p2⟩ := findP_in hB hY h3
      have e := openM_old hn hd h3
      refine ⟨⟨hB.mono (by omega), hr2, (show 0 ≤ (findP d).2 by omega), p2⟩, ?_⟩
      refine ⟨fun he => ?_, fun he => ?_⟩
      · rw [e]
        exact ⟨⟨trivial, rfl⟩, ⟨⟨trivial, trivial, rfl, rfl, rfl, rfl⟩, rfl, trivial, rfl⟩, clearM_len .., trivial⟩
      · exfalso
        rw [e] at ht
        have ht : ((clearM d (findR d 2).1 (findP d).2).2 == 0) = false := ht
        have he : ((clearM d (findR d 2).1 (findP d).2).2 != 0) = false := he
        unfold bne at he
        rw [ht] at he
        exact absurd he (by decide)
    · have h3 : ¬ ((findP d).1.length : Int) > 0 := of_decide_eq_false h3
      have e := openM_new hn hd h3
      rintro _ rfl _ rfl _ rfl _ rfl _ rfl _ rfl _ rfl _ rfl _ rfl _ rfl _ rfl
      refine ⟨fun he => ?_, fun he => ?_⟩
      · rw [e]
        exact ⟨⟨trivial, rfl⟩, ⟨⟨trivial, trivial, rfl, rfl, rfl, rfl⟩, rfl, trivial, rfl⟩, beginM_len .., trivial⟩
      · exfalso
        rw [e] at ht
        have ht : ((beginM (findM (log0 d)) []).2 == 0) = false := ht
        have he : ((beginM (findM (log0 d)) []).2 != 0) = false := he
        unfold bne at he
        rw [ht] at he
        exact absurd he (by decide)
theorem hOpen_eq {xs : List (SV A)} {os : List (Own A)} {r : Option Prop × Bool × (SV A × List (Own A)) × (SV A × List (Own A))} (h : hOpen xs os = some r) : ∃ d : Dk, xs = [.optr 0 0] ∧ os = d.own ∧ r = (some (openOk d), (openM d).2 == 0, (.tup [.optr 3 0, .int .i64 0], openT d), (.tup [.nilp, .int .i64 (openM d).2], openF d)) := by
  unfold hOpen at h
  split at h
  · rename_i a b dn c ks ws
    cases h
    exact ⟨⟨ks, ws, a, b, dn, c⟩, rfl, rfl, rfl⟩
  · cases h
theorem okOpen : ∀ b, FnOkH Try.prog u 10 (pickF b hOpen) := by
  intro b
  refine fn_okH Try.prog u tabO mo lawsO Try.func10 ?_
  intro xs os c y os2 h hc
  unfold pickF at h
  split at h
  · rename_i c' t r1 r2 hs
    obtain ⟨d, rfl, rfl, hr⟩ := hOpen_eq hs
    cases hr
    cases b with
    | true => cases h; exact ⟨_, _, bodyOpenT d hc⟩
    | false => cases h; exact ⟨_, _, bodyOpenF d hc⟩
  · cases h
theorem laws7 : Laws Try.prog u tab7 := by
  refine ⟨law, clean, fun p hp => ?_⟩
  rcases List.mem_cons.1 hp with rfl | hp
  · exact okOpen
  exact laws6.tab p hp

end Go.Proofs.Ytgimkldaeobhnaa.Dsk
