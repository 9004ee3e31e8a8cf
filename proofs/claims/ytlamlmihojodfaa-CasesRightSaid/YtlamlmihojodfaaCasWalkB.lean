/- Cases: the contracts of the deeds. -/
import Derived.Test.YtlamlmihojodfaaCasVcB
import Derived.Test.YtlamlmihojodfaaCasWalk
namespace Go.Proofs.Ytlamlmihojodfaa.Cas
open Go Go.Proofs.Ytlamlmihojodfaa.Sx

theorem bodyRaise (c0 c1 c2 c3 c4 c5 c6 c7 c8 : Int) (xs : List Cse) (a now : Int) (h : lenS xs) : BodyOk Try.prog u tab7 [] [] Try.f15 [.agg (cfg c0 c1 c2 c3 c4 c5 c6 c7 c8), .csl 30 xs, .int .u32 a, .int .i64 now] (.tup [.csl 30 (raiseL c8 xs a now), .int .i64 (raiseE c8 xs a now)]) := by
  constructor
  have eqn : bodyW Try.prog u tab7 [] (drawW Try.prog u tab7) (loopsBy u []) Try.f15 [.agg (cfg c0 c1 c2 c3 c4 c5 c6 c7 c8), .csl 30 xs, .int .u32 a, .int .i64 now] (.tup [.csl 30 (raiseL c8 xs a now), .int .i64 (raiseE c8 xs a now)]) = vcRaise c0 c1 c2 c3 c4 c5 c6 c7 c8 xs a now := by kernel_rfl
  rw [eqn]
  unfold vcRaise
  have hl : xs.length ≤ 1000000 := h
  have hl2 : xs.length < 9223372036854775808 := by omega
  have hr := spare_rng c8 now xs xs.length
  have hr : -1 ≤ spareI c8 now xs ∧ spareI c8 now xs < xs.length := hr
  refine ⟨hl2, fun h1 => raise_no (by unfold raiseE; rw [if_pos h1]) (by decide), fun h1 => ⟨hl2, fun h2 => raise_no (by unfold raiseE; rw [if_neg (by rw [h1]; simp), if_pos h2]) (by decide), fun h2 => ⟨show xs.length * 32 ≤ 140737488355328 by omega, fun h3 => ⟨hl2, fun h4 => raise_no (by unfold raiseE; rw [if_neg (by rw [h1]; simp), if_neg (by rw [h2]; simp), if_pos h3, if_pos h4]) (by decide), fun h4 => ?_⟩, fun h3 => ?_⟩⟩⟩
  · have he : raiseE c8 xs a now = 0 := by unfold raiseE; rw [if_neg (by rw [h1]; simp), if_neg (by rw [h2]; simp), if_pos h3, if_neg (by rw [h4]; simp)]
    have h0 : 0 ≤ spareI c8 now xs := by have := of_decide_eq_false h4; omega
    have hcl := cut_len xs (spareI c8 now xs).toNat (by omega)
    rw [raise_ok he, he]
    refine ⟨⟨wrap_i64_id (by omega), h0, hr.2, hl⟩, by rw [List.length_singleton]; omega, ?_, rfl⟩
    unfold raiseN
    rw [if_pos h3, List.take_left' hcl]
  · have he : raiseE c8 xs a now = 0 := by unfold raiseE; rw [if_neg (by rw [h1]; simp), if_neg (by rw [h2]; simp), if_neg (by rw [h3]; simp)]
    rw [raise_ok he, he]
    refine ⟨by rw [List.length_singleton]; omega, ?_, rfl⟩
    unfold raiseN
    rw [if_neg (by rw [h3]; simp)]
theorem okRaise : FnOk Try.prog u 15 spRaise := by
  refine fn_ok Try.prog u tab7 mo laws7 Try.func15 ?_
  intro xs c y h hc
  unfold spRaise at h
  split at h
  · cases h
    exact ⟨by kernel_rfl, _, _, bodyRaise _ _ _ _ _ _ _ _ _ _ _ _ hc⟩
  · cases h
theorem bodyApprove (xs : List Cse) (a now : Int) (h : lenS xs) : BodyOk Try.prog u tab7 [] [] Try.f26 [.csl 30 xs, .int .u32 a, .int .i64 now] (.tup [.csl 30 (nextL xs a 0 1 now), .int .i64 (nextE xs a 0)]) := by
  constructor
  have eqn : bodyW Try.prog u tab7 [] (drawW Try.prog u tab7) (loopsBy u []) Try.f26 [.csl 30 xs, .int .u32 a, .int .i64 now] (.tup [.csl 30 (nextL xs a 0 1 now), .int .i64 (nextE xs a 0)]) = vcApprove xs a now := by kernel_rfl
  rw [eqn]
  exact ⟨h, rfl, rfl⟩
theorem okApprove : FnOk Try.prog u 26 (spStep 0 1) := by
  refine fn_ok Try.prog u tab7 mo laws7 Try.func26 ?_
  intro xs c y h hc
  unfold spStep at h
  split at h
  · cases h
    exact ⟨by kernel_rfl, _, _, bodyApprove _ _ _ hc⟩
  · cases h
theorem bodyReject (xs : List Cse) (a now : Int) (h : lenS xs) : BodyOk Try.prog u tab7 [] [] Try.f16 [.csl 30 xs, .int .u32 a, .int .i64 now] (.tup [.csl 30 (nextL xs a 0 2 now), .int .i64 (nextE xs a 0)]) := by
  constructor
  have eqn : bodyW Try.prog u tab7 [] (drawW Try.prog u tab7) (loopsBy u []) Try.f16 [.csl 30 xs, .int .u32 a, .int .i64 now] (.tup [.csl 30 (nextL xs a 0 2 now), .int .i64 (nextE xs a 0)]) = vcReject xs a now := by kernel_rfl
  rw [eqn]
  exact ⟨h, rfl, rfl⟩
theorem okReject : FnOk Try.prog u 16 (spStep 0 2) := by
  refine fn_ok Try.prog u tab7 mo laws7 Try.func16 ?_
  intro xs c y h hc
  unfold spStep at h
  split at h
  · cases h
    exact ⟨by kernel_rfl, _, _, bodyReject _ _ _ hc⟩
  · cases h
theorem bodyDone (xs : List Cse) (a now : Int) (h : lenS xs) : BodyOk Try.prog u tab7 [] [] Try.f25 [.csl 30 xs, .int .u32 a, .int .i64 now] (.tup [.csl 30 (nextL xs a 1 5 now), .int .i64 (nextE xs a 1)]) := by
  constructor
  have eqn : bodyW Try.prog u tab7 [] (drawW Try.prog u tab7) (loopsBy u []) Try.f25 [.csl 30 xs, .int .u32 a, .int .i64 now] (.tup [.csl 30 (nextL xs a 1 5 now), .int .i64 (nextE xs a 1)]) = vcDone xs a now := by kernel_rfl
  rw [eqn]
  exact ⟨h, rfl, rfl⟩
theorem okDone : FnOk Try.prog u 25 (spStep 1 5) := by
  refine fn_ok Try.prog u tab7 mo laws7 Try.func25 ?_
  intro xs c y h hc
  unfold spStep at h
  split at h
  · cases h
    exact ⟨by kernel_rfl, _, _, bodyDone _ _ _ hc⟩
  · cases h
theorem bodyCancel (xs : List Cse) (a now : Int) (h : lenS xs) : BodyOk Try.prog u tab7 [] [] Try.f27 [.csl 30 xs, .int .u32 a, .int .i64 now] (.tup [.csl 30 (cancelL xs a now), .int .i64 (cancelE xs a)]) := by
  constructor
  have eqn : bodyW Try.prog u tab7 [] (drawW Try.prog u tab7) (loopsBy u []) Try.f27 [.csl 30 xs, .int .u32 a, .int .i64 now] (.tup [.csl 30 (cancelL xs a now), .int .i64 (cancelE xs a)]) = vcCancel xs a now := by kernel_rfl
  rw [eqn]
  unfold vcCancel
  have hl : xs.length ≤ 1000000 := h
  have hr := first_rng (hitF a) xs
  unfold cancelL cancelE
  refine ⟨show xs.length < 9223372036854775808 by omega, fun hb => ?_, fun hb => ?_⟩
  · rw [if_pos hb, if_pos hb]; exact ⟨rfl, rfl⟩
  · have hb0 : 0 ≤ firstI (hitF a) xs := by have := of_decide_eq_false hb; omega
    rw [if_neg (by rw [hb]; simp), if_neg (by rw [hb]; simp)]
    have he : nextE xs a (xs.getD (firstI (hitF a) xs).toNat (u.dflt 30)).stage = 0 := by
      unfold nextE
      rw [if_neg (by rw [hb]; simp)]
      exact if_neg (fun hc => absurd (show ((getC xs (firstI (hitF a) xs).toNat).stage != (getC xs (firstI (hitF a) xs).toNat).stage) = true from hc) (by simp))
    exact ⟨⟨hb0, hr.2⟩, hl, next_ok he, he⟩
theorem okCancel : FnOk Try.prog u 27 spCancel := by
  refine fn_ok Try.prog u tab7 mo laws7 Try.func27 ?_
  intro xs c y h hc
  unfold spCancel at h
  split at h
  · cases h
    exact ⟨by kernel_rfl, _, _, bodyCancel _ _ _ hc⟩
  · cases h
theorem bodyTick (c0 c1 c2 c3 c4 c5 c6 c7 c8 : Int) (xs : List Cse) (now : Int) (h : lenS xs) : BodyOk Try.prog u tab7 [] [(0, .inv (annTick c7 now xs))] Try.f17 [.agg (cfg c0 c1 c2 c3 c4 c5 c6 c7 c8), .csl 30 xs, .int .i64 now] (.csl 30 (tickL c7 now xs)) := by
  constructor
  have eqn : bodyW Try.prog u tab7 [] (drawW Try.prog u tab7) (loopsBy u [(0, .inv (annTick c7 now xs))]) Try.f17 [.agg (cfg c0 c1 c2 c3 c4 c5 c6 c7 c8), .csl 30 xs, .int .i64 now] (.csl 30 (tickL c7 now xs)) = vcTick c0 c1 c2 c3 c4 c5 c6 c7 c8 xs now := by kernel_rfl
  rw [eqn]
  unfold vcTick
  have hl : xs.length ≤ 1000000 := h
  refine ⟨show xs.length * 32 ≤ 140737488355328 by omega, ⟨0, Nat.zero_le _, ⟨rfl, trivial, rfl, rfl, trivial, trivial⟩, ⟨rfl, rfl, rfl, rfl, rfl, rfl, rfl, rfl, rfl⟩, rfl⟩, fun g hg => ⟨fun hlt => ?_, fun hge => ?_⟩⟩
  · have hlt := of_decide_eq_true hlt
    have hlt' : g < xs.length := by omega
    have hw := wrap_next hlt (by omega)
    have hmu : (annTick c7 now xs).μ (g + 1) < (annTick c7 now xs).μ g := show xs.length - (g + 1) < xs.length - g by omega
    have hg1 : (tickAt c7 now xs g).getD (g : Int).toNat (u.dflt 30) = getC xs g := tick_get c7 now hlt'
    have hN : (g : Int).toNat = g := rfl
    have hl1 : g < (tickAt c7 now xs g).length := by rw [tick_len]; exact hlt'
    rw [hg1, hN]
    refine ⟨⟨by omega, by rw [tick_len]; exact hlt⟩, fun hb => ?_, fun hb => ⟨g + 1, hlt', hmu, ⟨rfl, trivial, rfl, hw, trivial, trivial⟩, ⟨rfl, rfl, rfl, rfl, rfl, rfl, rfl, rfl, rfl⟩, tick_id c7 now hlt' (if_neg (by rw [hb]; simp))⟩⟩
    rw [set_getC hl1 _ (u.dflt 30), List.set_set]
    refine ⟨⟨by omega, by rw [tick_len]; exact hlt⟩, ⟨by omega, by rw [List.length_set, tick_len]; exact hlt⟩, g + 1, hlt', hmu, ⟨rfl, trivial, rfl, hw, trivial, trivial⟩, ⟨rfl, rfl, rfl, rfl, rfl, rfl, rfl, rfl, rfl⟩, ?_⟩
    have e : tickC c7 now (getC xs g) = ⟨(getC xs g).addr, (getC xs g).raised, clampT now, 3⟩ := if_pos hb
    have ts := tick_set c7 now hlt'
    rw [e] at ts
    exact ts
  · have hge := of_decide_eq_false hge
    have hg : g ≤ xs.length := hg
    have : g = xs.length := by omega
    subst this
    rfl
theorem okTick : FnOk Try.prog u 17 spTick := by
  refine fn_ok Try.prog u tab7 mo laws7 Try.func17 ?_
  intro xs c y h hc
  unfold spTick at h
  split at h
  · cases h
    exact ⟨by kernel_rfl, _, _, bodyTick _ _ _ _ _ _ _ _ _ _ _ hc⟩
  · cases h
theorem nilNext_ok {T f : Nat} {sp : Sx.Spec A} (h : FnOk Try.prog u f sp) : FnOk Try.prog u f (nilNext T sp) := by
  intro xs c y hs hc w O vs hO hx
  unfold nilNext at hs
  split at hs
  · cases hx with
    | agg _ _ hr1 hr2 => cases hr2 with
      | nils hr => exact h _ _ _ hs hc w O _ hO (.agg _ _ hr1 (.csl T [] none 0 0 (fun _ => []) rfl (Nat.le_refl _) (.inl rfl) (fun i hi => by simp at hi) (fun i x hi => by simp at hi) hr))
  · exact h _ _ _ hs hc w O vs hO hx
theorem okRaiseN : FnOk Try.prog u 15 (nilNext 30 spRaise) := nilNext_ok okRaise
theorem laws8 : Laws Try.prog u tab8 := by
  refine ⟨law, clean, fun p hp => ?_⟩
  rcases List.mem_cons.1 hp with rfl | hp
  · exact okRaiseN
  rcases List.mem_cons.1 hp with rfl | hp
  · exact okApprove
  rcases List.mem_cons.1 hp with rfl | hp
  · exact okReject
  rcases List.mem_cons.1 hp with rfl | hp
  · exact okDone
  rcases List.mem_cons.1 hp with rfl | hp
  · exact okCancel
  rcases List.mem_cons.1 hp with rfl | hp
  · exact okTick
  exact laws7.tab p hp
theorem bodyDo (c0 c1 c2 c3 c4 c5 c6 c7 c8 : Int) (xs : List Cse) (o a n now : Int) (h : lenS xs) : BodyOk Try.prog u tab8 [] [] Try.f18 [.agg (cfg c0 c1 c2 c3 c4 c5 c6 c7 c8), .csl 30 xs, .agg [.int .u8 o, .int .u8 a, .int .u8 n], .int .i64 now] (.tup [.csl 30 (doL c8 xs ⟨o, a, n⟩ now), .int .i64 (doE c8 xs ⟨o, a, n⟩ now)]) := by
  constructor
  have eqn : bodyW Try.prog u tab8 [] (drawW Try.prog u tab8) (loopsBy u []) Try.f18 [.agg (cfg c0 c1 c2 c3 c4 c5 c6 c7 c8), .csl 30 xs, .agg [.int .u8 o, .int .u8 a, .int .u8 n], .int .i64 now] (.tup [.csl 30 (doL c8 xs ⟨o, a, n⟩ now), .int .i64 (doE c8 xs ⟨o, a, n⟩ now)]) = vcDo c0 c1 c2 c3 c4 c5 c6 c7 c8 xs o a n now := by kernel_rfl
  rw [eqn]
  unfold vcDo
  have hl : xs.length ≤ 1000000 := h
  refine ⟨by decide, fun _ => trivial, fun _ => trivial, fun v hv => ⟨fun hvt => ⟨hl, do_01 (a := ⟨o, a, n⟩) (hv.symm.trans hvt)⟩, fun hvf => ?_⟩⟩
  have h01 := do_not (a := ⟨o, a, n⟩) (hv.symm.trans hvf)
  exact ⟨fun h2 => ⟨hl, do_2 (a := ⟨o, a, n⟩) h01 h2⟩, fun h2 => ⟨fun h3 => ⟨hl, do_3 (a := ⟨o, a, n⟩) h01 h2 h3⟩, fun h3 => ⟨fun h4 => ⟨hl, do_4 (a := ⟨o, a, n⟩) h01 h2 h3 h4⟩, fun h4 => ⟨fun h5 => ⟨hl, do_5 (a := ⟨o, a, n⟩) h01 h2 h3 h4 h5⟩, fun h5 => do_6 (a := ⟨o, a, n⟩) h01 h2 h3 h4 h5⟩⟩⟩⟩
theorem okDo : FnOk Try.prog u 18 spDo := by
  refine fn_ok Try.prog u tab8 mo laws8 Try.func18 ?_
  intro xs c y h hc
  unfold spDo at h
  split at h
  · cases h
    exact ⟨by kernel_rfl, _, _, bodyDo _ _ _ _ _ _ _ _ _ _ _ _ _ _ hc⟩
  · cases h
theorem bodyModel (c0 c1 c2 c3 c4 c5 c6 c7 c8 : Int) (xs : List Cse) (o a n now : Int) (h : lenS xs ∧ 0 ≤ o ∧ o.tmod 8 < 6) : BodyOk Try.prog u tab8 [] [(0, .inv (annModel c8 now (nearA a) xs)), (2, .inv (annModel2 c8 now xs))] Try.f19 [.agg (cfg c0 c1 c2 c3 c4 c5 c6 c7 c8), .csl 30 xs, .agg [.int .u8 o, .int .u8 a, .int .u8 n], .int .i64 now] (.tup [.csl 30 (modL c8 xs ⟨o, a, n⟩ now), .int .i64 (modE c8 xs ⟨o, a, n⟩ now)]) := by
  constructor
  have eqn : bodyW Try.prog u tab8 [] (drawW Try.prog u tab8) (loopsBy u [(0, .inv (annModel c8 now (nearA a) xs)), (2, .inv (annModel2 c8 now xs))]) Try.f19 [.agg (cfg c0 c1 c2 c3 c4 c5 c6 c7 c8), .csl 30 xs, .agg [.int .u8 o, .int .u8 a, .int .u8 n], .int .i64 now] (.tup [.csl 30 (modL c8 xs ⟨o, a, n⟩ now), .int .i64 (modE c8 xs ⟨o, a, n⟩ now)]) = vcModel c0 c1 c2 c3 c4 c5 c6 c7 c8 xs o a n now := by kernel_rfl
  rw [eqn]
  unfold vcModel
  obtain ⟨hl, ho, ho6⟩ := h
  have hl : xs.length ≤ 1000000 := hl
  have ho8 : 0 ≤ o.tmod 8 := by rw [Int.tmod_eq_emod_of_nonneg ho]; omega
  refine ⟨⟨0, Nat.zero_le _, ⟨rfl, rfl, trivial, trivial, rfl, rfl, rfl, rfl, rfl, rfl⟩, ⟨rfl, rfl, rfl, rfl, rfl, rfl, rfl, rfl, rfl⟩, rfl, rfl, rfl⟩, fun g hg => ⟨fun hlt => ?_, fun hge => ?_⟩⟩
  · have hlt := of_decide_eq_true hlt
    have hlt' : g < xs.length := by omega
    exact ⟨⟨by omega, hlt⟩, fun _ => trivial, fun _ => trivial, fun v hv => ⟨g + 1, hlt', show xs.length - (g + 1) < xs.length - g by omega, ⟨rfl, rfl, trivial, trivial, rfl, rfl, rfl, wrap_next hlt (by omega), hv, rfl⟩, ⟨rfl, rfl, rfl, rfl, rfl, rfl, rfl, rfl, rfl⟩, rfl, rfl, rfl⟩⟩
  have hge := of_decide_eq_false hge
  have hg : g ≤ xs.length := hg
  have hge' : g = xs.length := by omega
  subst hge'
  have hr := at_rng (nearA a) xs xs.length
  have hgr := gone_rng c8 now xs xs.length
  rw [show atTo (nearA a) xs xs.length = atI (nearA a) xs from rfl] at hr ⊢
  refine ⟨by omega, by decide, fun h2 => ⟨fun h3 => mod_no (by unfold modE; rw [if_pos h2]; exact if_pos h3) (by decide), fun h3 => ⟨fun h4 => mod_no (by unfold modE; rw [if_pos h2, if_neg (fun h => absurd (h3.symm.trans h) (by decide))]; exact if_pos h4) (by decide), fun h4 => ⟨fun h5 => ?_, fun h5 => ?_⟩⟩⟩, fun h2 => ⟨fun h3 => mod_no (by unfold modE; rw [if_neg (fun h => absurd (h2.symm.trans h) (by decide))]; exact if_pos h3) (by decide), fun h3 => ?_⟩⟩
  · refine ⟨⟨0, Nat.zero_le _, ⟨rfl, trivial, rfl, rfl, rfl, rfl, trivial, trivial⟩, ⟨rfl, rfl, rfl, rfl, rfl, rfl, rfl, rfl, rfl⟩, rfl⟩, fun k hk => ⟨fun hlt => ?_, fun hge2 => ?_⟩⟩
    · have hlt := of_decide_eq_true hlt
      have hlt' : k < xs.length := by omega
      have hkr := gone_rng c8 now xs k
      exact ⟨⟨by omega, hlt⟩, fun _ h7 => ⟨by have := of_decide_eq_false h7; omega, by omega⟩, fun _ => trivial, fun _ => trivial, fun v hv => ⟨k + 1, hlt', show xs.length - (k + 1) < xs.length - k by omega, ⟨rfl, trivial, rfl, rfl, wrap_next hlt (by omega), hv, trivial, trivial⟩, ⟨rfl, rfl, rfl, rfl, rfl, rfl, rfl, rfl, rfl⟩, rfl⟩⟩
    · have hge2 := of_decide_eq_false hge2
      have hk : k ≤ xs.length := hk
      have hke : k = xs.length := by omega
      subst hke
      rw [show goneTo c8 now xs xs.length = goneI c8 now xs from rfl] at hgr ⊢
      refine ⟨fun h6 => mod_no (by unfold modE; rw [if_pos h2, if_neg (fun h => absurd (h3.symm.trans h) (by decide)), if_neg (fun h => absurd (h4.symm.trans h) (by decide)), if_pos h5]; exact if_pos h6) (by decide), fun h6 => ?_⟩
      have he : modE c8 xs ⟨o, a, n⟩ now = 0 := by unfold modE; rw [if_pos h2, if_neg (fun h => absurd (h3.symm.trans h) (by decide)), if_neg (fun h => absurd (h4.symm.trans h) (by decide)), if_pos h5]; exact if_neg (fun h => absurd (h6.symm.trans h) (by decide))
      have h0 : 0 ≤ goneI c8 now xs := by have := of_decide_eq_false h6; omega
      rw [mod_ok he, he, wrap_i64_id (n := goneI c8 now xs + 1) (by omega)]
      obtain ⟨k, hk⟩ := Int.eq_ofNat_of_zero_le h0
      have hkl : k < xs.length := by omega
      obtain ⟨d1, _, _⟩ := del_eq xs k hkl
      have hN : ((k : Nat) : Int).toNat = k := rfl
      have hN1 : ((k : Int) + 1).toNat = k + 1 := by omega
      have hN2 : ((xs.length : Nat) : Int).toNat = xs.length := rfl
      have e1 : (xs.drop (0 + (k + 1))).take (xs.length - (k + 1)) = xs.drop (k + 1) := by rw [Nat.zero_add, List.take_of_length_le (by rw [List.length_drop]; omega)]
      have e2 : (xs.take k ++ xs.drop (k + 1)).length = xs.length - 1 := by rw [List.length_append, List.length_take, List.length_drop]; omega
      rw [hk, hN, hN1, hN2, d1, e1, Nat.sub_zero, List.take_left' e2]
      refine ⟨⟨by decide, by omega, by omega⟩, ⟨by omega, by omega, Int.le_refl _⟩, by omega, by rw [List.length_singleton]; omega, ?_, rfl⟩
      unfold modN
      rw [if_pos h2, if_pos h5, hk]
      rfl
  · have he : modE c8 xs ⟨o, a, n⟩ now = 0 := by unfold modE; rw [if_pos h2, if_neg (fun h => absurd (h3.symm.trans h) (by decide)), if_neg (fun h => absurd (h4.symm.trans h) (by decide))]; exact if_neg (fun h => absurd (h5.symm.trans h) (by decide))
    rw [mod_ok he, he]
    refine ⟨by rw [List.length_singleton]; omega, ?_, rfl⟩
    unfold modN
    rw [if_pos h2, if_neg (fun h => absurd (h5.symm.trans h) (by decide))]
  · have h0 : 0 ≤ atI (nearA a) xs := by have := of_decide_eq_false h3; omega
    have hb : 0 ≤ atI (nearA a) xs ∧ atI (nearA a) xs < (xs.length : Int) := ⟨h0, hr.2⟩
    have hk : (atI (nearA a) xs).toNat < xs.length := by omega
    refine ⟨fun _ => hb, fun _ _ => hb, fun h4 => mod_no (by unfold modE; rw [if_neg (fun h => absurd (h2.symm.trans h) (by decide)), if_neg (fun h => absurd (h3.symm.trans h) (by decide))]; exact if_pos h4) (by decide), fun h4 => ?_⟩
    have he : modE c8 xs ⟨o, a, n⟩ now = 0 := by unfold modE; rw [if_neg (fun h => absurd (h2.symm.trans h) (by decide)), if_neg (fun h => absurd (h3.symm.trans h) (by decide))]; exact if_neg (fun h => absurd (h4.symm.trans h) (by decide))
    rw [mod_ok he, he]
    refine ⟨⟨ho8, ho6⟩, hb, fun h5 => ?_, fun h5 => ?_⟩
    · rw [set_getC hk _ (u.dflt 30), List.set_set]
      refine ⟨⟨h0, by rw [List.length_set]; exact hr.2⟩, ?_, rfl⟩
      unfold modN setC
      rw [if_neg (fun h => absurd (h2.symm.trans h) (by decide)), if_pos h5]
      rfl
    · refine ⟨?_, rfl⟩
      unfold modN setC
      rw [if_neg (fun h => absurd (h2.symm.trans h) (by decide)), if_neg (fun h => absurd (h5.symm.trans h) (by decide))]
      rfl
theorem okModel : FnOk Try.prog u 19 spModel := by
  refine fn_ok Try.prog u tab8 mo laws8 Try.func19 ?_
  intro xs c y h hc
  unfold spModel at h
  split at h
  · cases h
    exact ⟨by kernel_rfl, _, _, bodyModel _ _ _ _ _ _ _ _ _ _ _ _ _ _ hc⟩
  · cases h
theorem bodyAwake : BodyOk Try.prog u tab8 [] [] Try.f10 [] (.bool true) := by
  constructor
  have eqn : bodyW Try.prog u tab8 [] (drawW Try.prog u tab8) (loopsBy u []) Try.f10 [] (.bool true) = vcAwake  := by kernel_rfl
  rw [eqn]
  unfold vcAwake
  refine ⟨Nat.le_of_ble_eq_true rfl, Nat.le_of_ble_eq_true rfl, Nat.le_of_ble_eq_true rfl, Nat.le_of_ble_eq_true rfl, fun _ => by decide, fun _ => Nat.le_of_ble_eq_true rfl, ?_⟩
  decide +kernel
theorem okAwake : FnOk Try.prog u 10 spAwake := by
  refine fn_ok Try.prog u tab8 mo laws8 Try.func10 ?_
  intro xs c y h hc
  unfold spAwake at h
  split at h
  · cases h
    exact ⟨by kernel_rfl, _, _, bodyAwake⟩
  · cases h
theorem laws9 : Laws Try.prog u tab9 := by
  refine ⟨law, clean, fun p hp => ?_⟩
  rcases List.mem_cons.1 hp with rfl | hp
  · exact okDo
  rcases List.mem_cons.1 hp with rfl | hp
  · exact okModel
  rcases List.mem_cons.1 hp with rfl | hp
  · exact okAwake
  exact laws8.tab p hp
theorem bodySome (c0 c1 c2 c3 c4 c5 c6 c7 c8 : Int) (xs : List Act) (h : lenOk xs) : BodyOk Try.prog u tab9 [] [(0, .inv (annSome c7 c8 (headS xs 80)))] Try.f22 [.agg (cfg c0 c1 c2 c3 c4 c5 c6 c7 c8), .csl 46 xs] (.tup [.csl 30 (someL c7 c8 xs).1, .int .i64 (someL c7 c8 xs).2]) := by
  constructor
  have eqn : bodyW Try.prog u tab9 [] (drawW Try.prog u tab9) (loopsBy u [(0, .inv (annSome c7 c8 (headS xs 80)))]) Try.f22 [.agg (cfg c0 c1 c2 c3 c4 c5 c6 c7 c8), .csl 46 xs] (.tup [.csl 30 (someL c7 c8 xs).1, .int .i64 (someL c7 c8 xs).2]) = vcSome c0 c1 c2 c3 c4 c5 c6 c7 c8 xs := by kernel_rfl
  rw [eqn]
  unfold vcSome
  have hl : xs.length < 9223372036854775808 := h
  have hhl := headS_le xs 80 (by decide)
  refine ⟨⟨Int.le_refl _, by unfold mn; split <;> omega, by unfold mn; split <;> omega⟩, ⟨0, Nat.zero_le _, ⟨trivial, rfl, rfl, rfl, rfl, rfl⟩, rfl, rfl, rfl, rfl, rfl, rfl, rfl, rfl, rfl⟩, fun g hg => ⟨fun hlt => ?_, fun hge => ?_⟩⟩
  · have hlt : (g : Int) < ((headS xs 80).length : Int) := of_decide_eq_true hlt
    have hlt' : g < (headS xs 80).length := by omega
    have hsl := someL_len c7 c8 (headS xs 80) g
    have hdl := doL_len c8 (someAt c7 c8 (headS xs 80) g).1 (getA (headS xs 80) g) (someAt c7 c8 (headS xs 80) g).2
    have hmu : (annSome c7 c8 (headS xs 80)).μ (g + 1) < (annSome c7 c8 (headS xs 80)).μ g := show (headS xs 80).length - (g + 1) < (headS xs 80).length - g by omega
    refine ⟨⟨by omega, hlt⟩, show (someAt c7 c8 (headS xs 80) g).1.length ≤ 1000000 by omega, fun _ => trivial, fun _ => trivial, fun v hv => ⟨by decide, fun _ => ⟨by decide, ?_⟩, fun _ => trivial, fun w hw z hz => ⟨g + 1, hlt', hmu, ⟨trivial, rfl, rfl, wrap_next hlt (by omega), ?_, ?_⟩, rfl, rfl, rfl, rfl, rfl, rfl, rfl, rfl, rfl⟩⟩⟩
    · have hv : v = if (doE c8 (someAt c7 c8 (headS xs 80) g).1 (getA (headS xs 80) g) (someAt c7 c8 (headS xs 80) g).2 == 0) = true then doL c8 (someAt c7 c8 (headS xs 80) g).1 (getA (headS xs 80) g) (someAt c7 c8 (headS xs 80) g).2 else (someAt c7 c8 (headS xs 80) g).1 := hv
      show v.length ≤ 1000000
      rw [hv]
      split <;> omega
    · subst hv
      rw [someAt]
      unfold someStep
      cases hc : decide ((getA (headS xs 80) g).op.tmod 8 > 5)
      · have hz := hz.trans (if_neg (fun h => absurd (hc.symm.trans h) (by decide)))
        exact hz
      · have hz := hz.trans (if_pos hc)
        exact hz
    · rw [someAt]
      unfold someStep
      cases hc : decide ((getA (headS xs 80) g).op.tmod 8 > 5)
      · exact hw.trans (if_neg (fun h => absurd (hc.symm.trans h) (by decide)))
      · exact hw.trans (if_pos hc)
  · have hge : ¬ (g : Int) < ((headS xs 80).length : Int) := of_decide_eq_false hge
    have hg : g ≤ (headS xs 80).length := hg
    have : g = (headS xs 80).length := by omega
    subst this
    exact ⟨rfl, rfl⟩
theorem okSome : FnOk Try.prog u 22 spSome := by
  refine fn_ok Try.prog u tab9 mo laws9 Try.func22 ?_
  intro xs c y h hc
  unfold spSome at h
  split at h
  · cases h
    exact ⟨by kernel_rfl, _, _, bodySome _ _ _ _ _ _ _ _ _ _ hc⟩
  · cases h
theorem laws10 : Laws Try.prog u tab10 := by
  refine ⟨law, clean, fun p hp => ?_⟩
  rcases List.mem_cons.1 hp with rfl | hp
  · exact okSome
  exact laws9.tab p hp

end Go.Proofs.Ytlamlmihojodfaa.Cas
