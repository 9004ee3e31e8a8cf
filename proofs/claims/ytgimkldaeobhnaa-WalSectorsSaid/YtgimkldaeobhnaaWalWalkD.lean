/- The log: the contracts of appending, beginning, finding. -/
import Derived.Test.YtgimkldaeobhnaaWalVcD
import Derived.Test.YtgimkldaeobhnaaWalVcE
import Derived.Test.YtgimkldaeobhnaaWalWalkC
import Derived.Test.YtgimkldaeobhnaaWalMathD
namespace Go.Proofs.Ytgimkldaeobhnaa.Dsk
open Go Go.Proofs.Ytgimkldaeobhnaa.Sx

theorem laws5 : Laws Try.prog u tab5 := by
  refine ⟨law, clean, fun p hp => ?_⟩
  rcases List.mem_cons.1 hp with rfl | hp
  · exact okRoom
  rcases List.mem_cons.1 hp with rfl | hp
  · exact okClear
  rcases List.mem_cons.1 hp with rfl | hp
  · exact (nilH_ok okPut)
  rcases List.mem_cons.1 hp with rfl | hp
  · exact okOne
  exact laws4.tab p hp
theorem bodyAppend (l : Lg) (b : List Int) (h : appOk l b) : BodyOkH Try.prog u tab5 [107022] [] Try.f13 (.optr 0 0 :: [.csl 5 b]) l.own (.int .i64 (appendM l b).2) (appendM l b).1.own6 := by
  constructor
  have eqn : bodyH Try.prog u tab5 [107022] (drawW Try.prog u tab5) (loopsBy u []) Try.f13 (.optr 0 0 :: [.csl 5 b]) l.own (.int .i64 (appendM l b).2) (appendM l b).1.own6 = vcAppend l b := by kernel_rfl
  rw [eqn]
  unfold vcAppend
  obtain ⟨hl, hrec, hb⟩ := h
  refine ⟨fun h0 => ?_, fun h0 => ⟨fun h1 => ?_, fun h1 => ⟨fun h2 => ?_, fun h2 => ⟨⟨hl, ?_⟩, ?_⟩⟩⟩⟩
  · have e : appendM l b = (l, 11) := by unfold appendM; rw [if_pos h0]
    rw [e]
    exact ⟨rfl, ⟨⟨trivial, rfl, rfl, rfl, trivial, rfl⟩, ⟨trivial, trivial, rfl, rfl, rfl, rfl⟩, trivial, rfl, trivial, rfl, rfl⟩, rfl, trivial⟩
  · have e : appendM l b = (l, 12) := by unfold appendM; rw [if_neg (by rw [h0]; decide), if_pos (of_decide_eq_true h1)]
    rw [e]
    exact ⟨rfl, ⟨⟨trivial, rfl, rfl, rfl, trivial, rfl⟩, ⟨trivial, trivial, rfl, rfl, rfl, rfl⟩, trivial, rfl, trivial, rfl, rfl⟩, rfl, trivial⟩
  · have e : appendM l b = (l, 4) := by unfold appendM; rw [if_neg (by rw [h0]; decide), if_neg (of_decide_eq_false h1), if_pos (of_decide_eq_true h2)]
    rw [e]
    exact ⟨rfl, ⟨⟨trivial, rfl, rfl, rfl, trivial, rfl⟩, ⟨trivial, trivial, rfl, rfl, rfl, rfl⟩, trivial, rfl, trivial, rfl, rfl⟩, rfl, trivial⟩
  · have := of_decide_eq_false h1
    omega
  · have hlen := putM_len l.d l.region l.next 2 (l.recs.length : Int) b
    rintro _ rfl _ rfl _ rfl _ rfl _ rfl _ rfl _ rfl _ rfl _ rfl _ rfl _ rfl
    refine ⟨fun he => ?_, fun he => ?_⟩
    · have he : ((putM l.d l.region l.next 2 (l.recs.length : Int) b).2 != 0) = true := he
      have e : appendM l b = failM l (putM l.d l.region l.next 2 (l.recs.length : Int) b) := by unfold appendM; rw [if_neg (by rw [h0]; decide), if_neg (of_decide_eq_false h1), if_neg (of_decide_eq_false h2), if_pos he]
      rw [e]
      exact ⟨rfl, ⟨⟨trivial, rfl, rfl, rfl, trivial, rfl⟩, ⟨trivial, trivial, rfl, rfl, rfl, rfl⟩, trivial, rfl, trivial, rfl, rfl⟩, hlen, trivial⟩
    · have he : ((putM l.d l.region l.next 2 (l.recs.length : Int) b).2 != 0) = false := he
      have e : appendM l b = (⟨(putM l.d l.region l.next 2 (l.recs.length : Int) b).1, l.region, l.turn, IntKind.i64.wrap (l.next + secsOf (b.length : Int)), l.recs ++ [b], l.broken⟩, 0) := by unfold appendM; rw [if_neg (by rw [h0]; decide), if_neg (of_decide_eq_false h1), if_neg (of_decide_eq_false h2), if_neg (by rw [he]; decide)]
      rw [e]
      exact ⟨hb, (show (l.recs.length + 1) * 24 ≤ 140737488355328 by omega), rfl, ⟨⟨trivial, rfl, rfl, rfl, trivial, rfl⟩, ⟨trivial, trivial, rfl, rfl, rfl, rfl⟩, trivial, rfl, trivial, rfl, rfl⟩, hlen, trivial⟩
theorem okAppend : FnOkH Try.prog u 13 hAppend := by
  refine fn_okH Try.prog u tab5 mo laws5 Try.func13 ?_
  intro xs os c y os2 h hc
  obtain ⟨l, d, rfl, rfl, hh⟩ := lgH_eq h
  split at hh
  · cases hh
    exact ⟨_, _, bodyAppend d _ hc⟩
  · cases hh
set_option maxHeartbeats 8000000 in
theorem bodyBegin (l : Lg) (b : List Int) (h : begOk l b) : BodyOkH Try.prog u tab5 [108031, 111039, 114048] [] Try.f16 (.optr 0 0 :: [.csl 5 b]) l.own (.int .i64 (beginM l b).2) (beginM l b).1.own6 := by
  constructor
  have eqn : bodyH Try.prog u tab5 [108031, 111039, 114048] (drawW Try.prog u tab5) (loopsBy u []) Try.f16 (.optr 0 0 :: [.csl 5 b]) l.own (.int .i64 (beginM l b).2) (beginM l b).1.own6 = vcBegin l b := by kernel_rfl
  rw [eqn]
  unfold vcBegin
  obtain ⟨hB, hr, hb⟩ := h
  have hh := half_in hB.1
  have hro : 0 ≤ IntKind.i64.wrap (1 - l.region) ∧ IntKind.i64.wrap (1 - l.region) ≤ 1 := by rw [wrap_i64_id (by omega)]; omega
  refine ⟨fun h0 => ?_, fun h0 => ⟨fun h1 => ?_, fun h1 => ⟨fun h2 => ?_, fun h2 => ⟨⟨hB.mono (by omega), hro, Int.le_refl _, hh.2.1⟩, ?_⟩⟩⟩⟩
  · have e : beginM l b = (l, 11) := by unfold beginM; rw [if_pos h0]
    rw [e]
    exact ⟨rfl, ⟨⟨trivial, rfl, rfl, rfl, trivial, rfl⟩, ⟨trivial, trivial, rfl, rfl, rfl, rfl⟩, trivial, rfl, trivial, rfl, rfl⟩, rfl, trivial⟩
  · have e : beginM l b = (l, 12) := by unfold beginM; rw [if_neg (by rw [h0]; decide), if_pos (of_decide_eq_true h1)]
    rw [e]
    exact ⟨rfl, ⟨⟨trivial, rfl, rfl, rfl, trivial, rfl⟩, ⟨trivial, trivial, rfl, rfl, rfl, rfl⟩, trivial, rfl, trivial, rfl, rfl⟩, rfl, trivial⟩
  · have e : beginM l b = (l, 4) := by unfold beginM; rw [if_neg (by rw [h0]; decide), if_neg (of_decide_eq_false h1), if_pos (of_decide_eq_true h2)]
    rw [e]
    exact ⟨rfl, ⟨⟨trivial, rfl, rfl, rfl, trivial, rfl⟩, ⟨trivial, trivial, rfl, rfl, rfl, rfl⟩, trivial, rfl, trivial, rfl, rfl⟩, rfl, trivial⟩
  have hb1 := of_decide_eq_false h1
  have hs := secs_eq b.length (by omega)
  have hsn : 64 * secsN b.length ≤ b.length + 63 := by unfold secsN; omega
  have hhalf : 2 ≤ halfOf l.d := by
    have h2 := of_decide_eq_false h2
    rw [hs, wrap_i64_id (by omega)] at h2
    omega
  have hA : DkB (begA l).1 (900000 + (halfOf l.d - 0).toNat) := DkB.clearGo hB
  have hAl : (begA l).1.kept.length = l.d.kept.length := clearM_len ..
  have hBb : DkB (begB l b).1 (900000 + (halfOf l.d - 0).toNat + secsN b.length + 1) := DkB.putGo hA
  have hBl : (begB l b).1.kept.length = l.d.kept.length := (putM_len ..).trans hAl
  have hCl : (begC l b).1.kept.length = l.d.kept.length := (putM_len ..).trans hBl
  have ha2 := half_len hAl
  have hb2 := half_len hBl
  rintro _ rfl _ rfl _ rfl _ rfl _ rfl _ rfl _ rfl _ rfl _ rfl _ rfl _ rfl
  refine ⟨fun he => ?_, fun he => ⟨⟨⟨hA.mono (by omega), hro, by decide, (show 1 ≤ halfOf (begA l).1 by rw [ha2]; omega)⟩, by omega⟩, ?_⟩⟩
  · have he : ((begA l).2 != 0) = true := he
    have e : beginM l b = failM l (begA l) := by unfold beginM; rw [if_neg (by rw [h0]; decide), if_neg (of_decide_eq_false h1), if_neg (of_decide_eq_false h2), if_pos he]
    rw [e]
    exact ⟨rfl, ⟨⟨trivial, rfl, rfl, rfl, trivial, rfl⟩, ⟨trivial, trivial, rfl, rfl, rfl, rfl⟩, trivial, rfl, trivial, rfl, rfl⟩, hAl, trivial⟩
  have he : ((begA l).2 != 0) = false := he
  rintro _ rfl _ rfl _ rfl _ rfl _ rfl _ rfl _ rfl _ rfl _ rfl _ rfl _ rfl
  refine ⟨fun hf => ?_, fun hf => ⟨⟨⟨hBb.mono (by omega), hro, Int.le_refl _, (show 0 ≤ halfOf (begB l b).1 by rw [hb2]; omega)⟩, by decide⟩, ?_⟩⟩
  · have hf : ((begB l b).2 != 0) = true := hf
    have e : beginM l b = failM l (begB l b) := by unfold beginM; rw [if_neg (by rw [h0]; decide), if_neg (of_decide_eq_false h1), if_neg (of_decide_eq_false h2), if_neg (by rw [he]; decide), if_pos hf]
    rw [e]
    exact ⟨rfl, ⟨⟨trivial, rfl, rfl, rfl, trivial, rfl⟩, ⟨trivial, trivial, rfl, rfl, rfl, rfl⟩, trivial, rfl, trivial, rfl, rfl⟩, hBl, trivial⟩
  have hf : ((begB l b).2 != 0) = false := hf
  rintro _ rfl _ rfl _ rfl _ rfl _ rfl _ rfl _ rfl _ rfl _ rfl _ rfl _ rfl
  refine ⟨fun hg => ?_, fun hg => ?_⟩
  · have hg : ((begC l b).2 != 0) = true := hg
    have e : beginM l b = failM l (begC l b) := by unfold beginM; rw [if_neg (by rw [h0]; decide), if_neg (of_decide_eq_false h1), if_neg (of_decide_eq_false h2), if_neg (by rw [he]; decide), if_neg (by rw [hf]; decide), if_pos hg]
    rw [e]
    exact ⟨rfl, ⟨⟨trivial, rfl, rfl, rfl, trivial, rfl⟩, ⟨trivial, trivial, rfl, rfl, rfl, rfl⟩, trivial, rfl, trivial, rfl, rfl⟩, hCl, trivial⟩
  · have hg : ((begC l b).2 != 0) = false := hg
    have e : beginM l b = (⟨(begC l b).1, IntKind.i64.wrap (1 - l.region), IntKind.i64.wrap (l.turn + 1), IntKind.i64.wrap (1 + secsOf (b.length : Int)), [b], l.broken⟩, 0) := by unfold beginM; rw [if_neg (by rw [h0]; decide), if_neg (of_decide_eq_false h1), if_neg (of_decide_eq_false h2), if_neg (by rw [he]; decide), if_neg (by rw [hf]; decide), if_neg (by rw [hg]; decide)]
    rw [e]
    exact ⟨hb, rfl, ⟨⟨trivial, rfl, rfl, rfl, trivial, rfl⟩, ⟨trivial, trivial, rfl, rfl, rfl, rfl⟩, trivial, rfl, trivial, rfl, rfl⟩, hCl, trivial⟩
theorem okBegin : FnOkH Try.prog u 16 hBegin := by
  refine fn_okH Try.prog u tab5 mo laws5 Try.func16 ?_
  intro xs os c y os2 h hc
  obtain ⟨l, d, rfl, rfl, hh⟩ := lgH_eq h
  split at hh
  · cases hh
    exact ⟨_, _, bodyBegin d _ hc⟩
  · cases hh
set_option maxHeartbeats 8000000 in
theorem bodyFind (l : Lg)  (h : findOk l) : BodyOkH Try.prog u tab5 [] [(0, .inv (annFind l)), (2, .inv (annFind2 l))] Try.f31 (.optr 0 0 :: []) l.own (.bool (decide (((findP l.d).1.length : Int) > 0))) (findM l).own7 := by
  constructor
  have eqn : bodyH Try.prog u tab5 [] (drawW Try.prog u tab5) (loopsBy u [(0, .inv (annFind l)), (2, .inv (annFind2 l))]) Try.f31 (.optr 0 0 :: []) l.own (.bool (decide (((findP l.d).1.length : Int) > 0))) (findM l).own7 = vcFind l := by kernel_rfl
  rw [eqn]
  unfold vcFind
  obtain ⟨hB, hY, hr0, ht0, hrec0⟩ := h
  have hh := half_in hB.1
  have hR := fun k (hk : k ≤ 2) => findR_in l.d k hk
  refine ⟨⟨0, Nat.zero_le _, ⟨trivial, rfl⟩, ⟨trivial, hr0, ht0, rfl, trivial, rfl⟩, ⟨trivial, trivial, rfl, rfl, rfl, rfl⟩, rfl, rfl, rfl⟩, fun g hg => ⟨fun hlt => ?_, fun hge => ?_⟩⟩
  · have hlt : (g : Int) < 2 := of_decide_eq_true hlt
    have hw : IntKind.i64.wrap ((g : Int) + 1) = ((g + 1 : Nat) : Int) := wrap_next (n := 2) hlt (by decide)
    refine ⟨⟨hB, hY, ⟨by omega, by omega⟩, by decide, by decide⟩, fun hc => ?_, fun hc => ?_⟩
    · have e : findR l.d (g + 1) = ((g : Int), (oneM l.d g 0 1).1) := by rw [findR_next]; exact if_pos hc
      exact ⟨g + 1, (show g + 1 ≤ 2 by omega), (show 2 - (g + 1) < 2 - g by omega), ⟨trivial, hw⟩, ⟨trivial, (congrArg Prod.fst e).symm, (congrArg Prod.snd e).symm, rfl, trivial, rfl⟩, ⟨trivial, trivial, rfl, rfl, rfl, rfl⟩, rfl, rfl, rfl⟩
    · have e : findR l.d (g + 1) = findR l.d g := by rw [findR_next]; exact if_neg (fun hx => by have hx := hx.symm.trans hc; cases hx)
      exact ⟨g + 1, (show g + 1 ≤ 2 by omega), (show 2 - (g + 1) < 2 - g by omega), ⟨trivial, hw⟩, ⟨trivial, (congrArg Prod.fst e).symm, (congrArg Prod.snd e).symm, rfl, trivial, rfl⟩, ⟨trivial, trivial, rfl, rfl, rfl, rfl⟩, rfl, rfl, rfl⟩
  · have hge : ¬ (g : Int) < 2 := of_decide_eq_false hge
    obtain rfl : g = 2 := by have hg : g ≤ 2 := hg; omega
    refine ⟨⟨0, ⟨.inl rfl, ⟨Int.le_refl 1, (by show (1 : Int) ≤ 256; decide), (by show ((0 : Nat) : Int) < 1; decide)⟩, rfl, rfl⟩, trivial, ⟨trivial, rfl, rfl, rfl, trivial, rfl⟩, ⟨trivial, trivial, rfl, rfl, rfl, rfl⟩, rfl, rfl, hrec0⟩, fun g hg => ?_⟩
    obtain ⟨j1, ⟨j2, j3, j4⟩, j5, j6⟩ := hg
    have hr2 := hR 2 (Nat.le_refl _)
    refine ⟨fun ht => ?_, fun ht => ?_⟩
    · have ht : (findR l.d 2).2 > 0 := of_decide_eq_true ht
      have hokE : okAt l.d (findR l.d 2).1 g = ((oneM l.d (findR l.d 2).1 (fAt l.d (findR l.d 2).1 g).2 2).2.2 && (oneM l.d (findR l.d 2).1 (fAt l.d (findR l.d 2).1 g).2 2).1 == ((fAt l.d (findR l.d 2).1 g).1.length : Int)) := rfl
      refine ⟨⟨hB, hY, hr2, (show 0 ≤ (fAt l.d (findR l.d 2).1 g).2 by omega), (show (fAt l.d (findR l.d 2).1 g).2 ≤ 100000 by omega)⟩, fun hc => ?_, fun hc => ?_⟩
      · have hc : (!(oneM l.d (findR l.d 2).1 (fAt l.d (findR l.d 2).1 g).2 2).2.2 || (oneM l.d (findR l.d 2).1 (fAt l.d (findR l.d 2).1 g).2 2).1 != ((fAt l.d (findR l.d 2).1 g).1.length : Int)) = true := hc
        have hok : okAt l.d (findR l.d 2).1 g = false := by
          rw [hokE]
          cases hx : (oneM l.d (findR l.d 2).1 (fAt l.d (findR l.d 2).1 g).2 2).2.2 with
          | false => rfl
          | true =>
            rw [hx] at hc
            simpa [bne] using hc
        have hP : findP l.d = fAt l.d (findR l.d 2).1 g := by unfold findP; rw [if_pos ht, j6]; exact findGo_stop hok
        exact ⟨by rw [hP], ⟨⟨trivial, rfl, rfl, (congrArg Prod.snd hP).symm, trivial, rfl⟩, ⟨trivial, trivial, rfl, rfl, rfl, rfl⟩, trivial, rfl, rfl, (congrArg Prod.fst hP).symm⟩, rfl, rfl, trivial⟩
      · have hc : (!(oneM l.d (findR l.d 2).1 (fAt l.d (findR l.d 2).1 g).2 2).2.2 || (oneM l.d (findR l.d 2).1 (fAt l.d (findR l.d 2).1 g).2 2).1 != ((fAt l.d (findR l.d 2).1 g).1.length : Int)) = false := hc
        rw [Bool.or_eq_false_iff] at hc
        have hb1 : (oneM l.d (findR l.d 2).1 (fAt l.d (findR l.d 2).1 g).2 2).2.2 = true := by simpa using hc.1
        have hok : okAt l.d (findR l.d 2).1 g = true := by
          rw [hokE, hb1, Bool.true_and]
          simpa [bne] using hc.2
        obtain ⟨o1, o2, o3⟩ := one_ok hB hY ⟨by omega, by omega⟩ hb1
        have hg600 : 600 - g = (600 - (g + 1)) + 1 := by omega
        have e6 : findGo l.d (findR l.d 2).1 0 600 = findGo l.d (findR l.d 2).1 (g + 1) (600 - (g + 1)) := by rw [j6, hg600]; exact findGo_on hok
        have hnx : (fAt l.d (findR l.d 2).1 (g + 1)).2 = (fAt l.d (findR l.d 2).1 g).2 + secsOf ((oneM l.d (findR l.d 2).1 (fAt l.d (findR l.d 2).1 g).2 2).2.1.length : Int) := wrap_i64_id (by omega)
        have hln : (fAt l.d (findR l.d 2).1 (g + 1)).1.length = g + 1 := by
          show ((fAt l.d (findR l.d 2).1 g).1 ++ [_]).length = _
          rw [List.length_append, j5]
          rfl
        exact ⟨(show ((fAt l.d (findR l.d 2).1 g).1.length + 1) * 24 ≤ 140737488355328 by omega), g + 1, ⟨.inr ht, ⟨by omega, by omega, by omega⟩, hln, e6⟩, (show 600 - (g + 1) < 600 - g by omega), trivial, ⟨trivial, rfl, rfl, rfl, trivial, rfl⟩, ⟨trivial, trivial, rfl, rfl, rfl, rfl⟩, rfl, rfl, rfl⟩
    · have htn : ¬ (findR l.d 2).2 > 0 := of_decide_eq_false ht
      have hP : findP l.d = ([], 1) := by unfold findP; exact if_neg htn
      obtain rfl : g = 0 := j1.resolve_right htn
      exact ⟨by rw [hP]; rfl, ⟨⟨trivial, rfl, rfl, (congrArg Prod.snd hP).symm, trivial, rfl⟩, ⟨trivial, trivial, rfl, rfl, rfl, rfl⟩, trivial, rfl, rfl, (congrArg Prod.fst hP).symm⟩, rfl, rfl, trivial⟩
theorem okFind : FnOkH Try.prog u 31 hFind := by
  refine fn_okH Try.prog u tab5 mo laws5 Try.func31 ?_
  intro xs os c y os2 h hc
  obtain ⟨l, d, rfl, rfl, hh⟩ := lgH_eq h
  split at hh
  · cases hh
    exact ⟨_, _, bodyFind d hc⟩
  · cases hh

end Go.Proofs.Ytgimkldaeobhnaa.Dsk
