/- What an address stands as: the laws StatusEvict, StatusOld, StatusActive and StatusNames, by the bodies' contracts. -/
import Derived.Test.YtpokkmgnapoomaaStatVcE
namespace Go.Proofs.Ytpokkmgnapoomaa.Stat
open Go Go.Proofs.Ytpokkmgnapoomaa.Sx

theorem name_in (k : Int) (h : 0 ≤ k ∧ k < 6) : (!(nameS k).toList == ByteArray.toList (words.getD k.toNat ByteArray.empty) || worthS k != ([0, 0, 0, 1, 2, 3] : List Int).getD k.toNat 0) = false := by
  have : k = 0 ∨ k = 1 ∨ k = 2 ∨ k = 3 ∨ k = 4 ∨ k = 5 := by omega
  rcases this with rfl | rfl | rfl | rfl | rfl | rfl <;> decide +kernel
theorem name_out (k : Int) (h : k < 0 ∨ k ≥ 6) : (!(nameS k).toList == ByteArray.toList ⟨#[45]⟩ || worthS k != 0) = false := by
  have h1 : nameS k = ⟨#[45]⟩ := by
    unfold nameS
    rw [if_pos (by simp only [Bool.or_eq_true, decide_eq_true_eq]; omega)]
  have h2 : worthS k = 0 := by
    unfold worthS
    rw [if_neg (by simp; omega), if_neg (by simp; omega), if_neg (by simp; omega)]
  rw [h1, h2]
  decide +kernel
theorem bodyNames (n m : Int) (h : namesOk n m) : BodyOk Try.prog u tab6 [22] [(0, .rounds 3)] Try.f8 [.int .i8 n, .int .i8 m] (.bool true) := by
  constructor
  have eqn : bodyW Try.prog u tab6 [22] (drawW Try.prog u tab6) (loopsBy u [(0, .rounds 3)]) Try.f8 [.int .i8 n, .int .i8 m] (.bool true) = vcNames n m := by kernel_rfl
  rw [eqn]
  unfold vcNames
  obtain ⟨hn, hm⟩ := h
  have hw : IntKind.i64.wrap n = n := wrap_i64_id (by omega)
  have hv : IntKind.i64.wrap m = m := wrap_i64_id (by omega)
  rw [hw, hv]
  generalize m.tmod 6 = k
  have hin : ∀ x : Int, (decide (x ≥ 0) && decide (x < 6)) = true → 0 ≤ x ∧ x < 6 := by
    intro x hx
    simp only [Bool.and_eq_true, decide_eq_true_eq] at hx
    omega
  have hout : ∀ x : Int, (decide (x ≥ 0) && decide (x < 6)) = false → x < 0 ∨ x ≥ 6 := by
    intro x hx
    simp only [Bool.and_eq_false_iff, decide_eq_false_iff_not] at hx
    omega
  refine ⟨fun h => absurd h (by decide), fun _ => ⟨by decide, ⟨by decide, show (0 : Int) < ((2 : Nat) : Int) by omega⟩, fun hc => ⟨hin _ hc, hin _ hc, fun hx => absurd (hx.symm.trans (name_in n (hin _ hc))) (by decide), fun _ => ⟨⟨by decide, show (1 : Int) < ((2 : Nat) : Int) by omega⟩, fun hd => ⟨hin _ hd, hin _ hd, fun hx => absurd (hx.symm.trans (name_in k (hin _ hd))) (by decide), fun _ => rfl⟩, fun hd => ⟨fun hx => absurd (hx.symm.trans (name_out k (hout _ hd))) (by decide), fun _ => rfl⟩⟩⟩, fun hc => ⟨fun hx => absurd (hx.symm.trans (name_out n (hout _ hc))) (by decide), fun _ => ⟨⟨by decide, show (1 : Int) < ((2 : Nat) : Int) by omega⟩, fun hd => ⟨hin _ hd, hin _ hd, fun hx => absurd (hx.symm.trans (name_in k (hin _ hd))) (by decide), fun _ => rfl⟩, fun hd => ⟨fun hx => absurd (hx.symm.trans (name_out k (hout _ hd))) (by decide), fun _ => rfl⟩⟩⟩⟩⟩
theorem okNames : FnOk Try.prog u 8 spNames := by
  refine fn_ok Try.prog u tab6 mo laws6 Try.func8 ?_
  intro xs c y h hc
  unfold spNames at h
  split at h
  · cases h
    exact ⟨by kernel_rfl, _, _, bodyNames _ _ hc⟩
  · cases h
theorem bodyEvict (c0 c1 c2 c3 c4 c5 c6 c7 c8 : Int) (xs : List Seen) (mc : Int) (hd : Bool) (nw : Int) (h : evictOk c2 xs) : BodyOk Try.prog u tab6 [] [(0, .inv (annEvict (fc 6 c2) (sightsL xs)))] Try.f5 [.agg (cho c0 c1 c2 c3 c4 c5 c6 c7 c8), .csl 57 xs, .int .u8 mc, .bool hd, .int .u8 nw] (.bool true) := by
  constructor
  have eqn : bodyW Try.prog u tab6 [] (drawW Try.prog u tab6) (loopsBy u [(0, .inv (annEvict (fc 6 c2) (sightsL xs)))]) Try.f5 [.agg (cho c0 c1 c2 c3 c4 c5 c6 c7 c8), .csl 57 xs, .int .u8 mc, .bool hd, .int .u8 nw] (.bool true) = vcEvict c0 c1 c2 c3 c4 c5 c6 c7 c8 xs mc hd nw := by kernel_rfl
  rw [eqn]
  unfold vcEvict
  obtain ⟨hl, h2⟩ := h
  have hok := sights_ok xs c2 h2
  have hkk : (sightsL xs).length * 24 ≤ 140737488355328 ∧ fc 6 c2 < 4611686018427387904 := hok
  have hc2 := fc_eq (b := 6) (c := c2) (by omega) h2
  have hw : IntKind.i64.wrap (fc 6 c2 + 1) = fc 6 c2 + 1 := wrap_i64_id (by omega)
  rw [hw]
  have keyd : ∀ g : Nat, List.drop 1 (List.take (↑(List.drop g (sightsL xs)).length : Int).toNat (List.drop g (sightsL xs))) = List.drop (g + 1) (sightsL xs) := by intro g; rw [Int.toNat_natCast, List.take_length, List.drop_drop]
  refine ⟨fun h => absurd h (by decide), fun _ => ⟨hl, fun hd => ⟨hkk, ⟨0, ⟨Nat.zero_le _, .inl rfl⟩, ⟨rfl, trivial, trivial, rfl, rfl⟩, ⟨rfl, rfl, rfl, rfl, rfl, rfl, rfl, rfl, rfl⟩, rfl, rfl, rfl, rfl, rfl, rfl, rfl, rfl⟩, fun g hg => ⟨fun hlt => ?_, fun _ => rfl⟩⟩, fun hd => ⟨hkk, ⟨0, ⟨Nat.zero_le _, .inl rfl⟩, ⟨rfl, trivial, trivial, rfl, rfl⟩, rfl, rfl, rfl, rfl, rfl, rfl, rfl, rfl, rfl⟩, fun g hg => ⟨fun hlt => ?_, fun _ => rfl⟩⟩⟩⟩
  · have hlt := of_decide_eq_true hlt
    rw [List.length_drop] at hlt
    rw [keyd g]
    refine ⟨⟨by omega, by rw [List.length_drop]; omega, Int.le_refl _⟩, ⟨by rw [List.length_drop]; omega, hkk.2⟩, fun hx => absurd hx (by rw [ofH_drops hok (by omega) (g + 1) (by omega)]; simp), fun _ => ⟨g + 1, ⟨by omega, .inr (by omega)⟩, show (sightsL xs).length - (g + 1) < (sightsL xs).length - g by omega, ⟨rfl, trivial, trivial, rfl, rfl⟩, ⟨rfl, rfl, rfl, rfl, rfl, rfl, rfl, rfl, rfl⟩, rfl, rfl, rfl, rfl, rfl, rfl, rfl, rfl⟩⟩
  · have hlt := of_decide_eq_true hlt
    rw [List.length_drop] at hlt
    rw [keyd g]
    refine ⟨⟨by omega, by rw [List.length_drop]; omega, Int.le_refl _⟩, ⟨by rw [List.length_drop]; omega, hkk.2⟩, fun hx => absurd hx (by rw [ofN_drops hok (by omega) (g + 1) (by omega)]; simp), fun _ => ⟨g + 1, ⟨by omega, .inr (by omega)⟩, show (sightsL xs).length - (g + 1) < (sightsL xs).length - g by omega, ⟨rfl, trivial, trivial, rfl, rfl⟩, rfl, rfl, rfl, rfl, rfl, rfl, rfl, rfl, rfl⟩⟩
theorem okEvict : FnOk Try.prog u 5 spEvict := by
  refine fn_ok Try.prog u tab6 mo laws6 Try.func5 ?_
  intro xs c y h hc
  unfold spEvict at h
  split at h
  · cases h
    exact ⟨by kernel_rfl, _, _, bodyEvict _ _ _ _ _ _ _ _ _ _ _ _ _ hc⟩
  · cases h
theorem bodyOld (c0 c1 c2 c3 c4 c5 c6 c7 c8 : Int) (xs : List Seen) (hd : Bool) (n : Int) (h : oldOk c0 c1 c2 n xs) : BodyOk Try.prog u tab6 [] [] Try.f6 [.agg (cho c0 c1 c2 c3 c4 c5 c6 c7 c8), .csl 57 xs, .bool hd, .int .u16 n] (.bool true) := by
  constructor
  have eqn : bodyW Try.prog u tab6 [] (drawW Try.prog u tab6) (loopsBy u []) Try.f6 [.agg (cho c0 c1 c2 c3 c4 c5 c6 c7 c8), .csl 57 xs, .bool hd, .int .u16 n] (.bool true) = vcOld c0 c1 c2 c3 c4 c5 c6 c7 c8 xs hd n := by kernel_rfl
  rw [eqn]
  unfold vcOld
  obtain ⟨hl, hlate, h0, h1, h2, hn⟩ := h
  have hok := sights_ok xs c2 h2
  have hkk : (sightsL xs).length * 24 ≤ 140737488355328 ∧ fc 6 c2 < 4611686018427387904 := hok
  have hf := fc_eq (b := 30) (c := c0) (by omega) h0
  have hz := fz_eq (b := 60) (c := c1) (by omega) h1
  have hc2 := fc_eq (b := 6) (c := c2) (by omega) h2
  have hw : IntKind.i64.wrap (fc 30 c0 + fz 60 c1) = fc 30 c0 + fz 60 c1 := wrap_i64_id (by omega)
  have hlast : IntKind.i64.wrap (((sightsL xs).length : Int) - 1) = ((sightsL xs).length : Int) - 1 := wrap_i64_id (by omega)
  have hnn : IntKind.i64.wrap n = n := wrap_i64_id (by omega)
  rw [hw, hlast, hnn]
  have hL := last_le hlate
  have hco : fc 30 c0 ≤ fc 30 c0 + fz 60 c1 ∧ fc 30 c0 + fz 60 c1 ≤ 90 := by omega
  generalize fc 30 c0 + fz 60 c1 = co at *
  generalize fc 30 c0 = cf at *
  have hwr : ∀ d : Int, 0 ≤ d ∧ d < 65536 → IntKind.i64.wrap (IntKind.i64.wrap (lastOr (sightsL xs) + co) + d) = lastOr (sightsL xs) + co + d := by
    intro d hd
    rw [wrap_i64_id (n := lastOr (sightsL xs) + co) (by omega), wrap_i64_id (by omega)]
  have kN : ∀ d : Int, 0 ≤ d ∧ d < 65536 → ofN cf (fc 6 c2) (IntKind.i64.wrap (IntKind.i64.wrap (lastOr (sightsL xs) + co) + d)) (sightsL xs) = 0 := by
    intro d hd
    rw [hwr d hd]
    exact ofN_nil (old_none hlate hf.1 (by omega) (by omega))
  have kH : ∀ d : Int, 0 ≤ d ∧ d < 65536 → ∀ s : Mac, ofH cf co (fc 6 c2) (IntKind.i64.wrap (IntKind.i64.wrap (lastOr (sightsL xs) + co) + d)) s (sightsL xs) = if (((sightsL xs).length : Int) == 0) = true then 1 else 3 := by
    intro d hd s
    rw [hwr d hd, ofH_nil (old_none hlate hf.1 (by omega) (by omega)) hc2.1, old_old hlate (by omega) (by omega) (by omega)]
    by_cases hp : ((sightsL xs).length : Int) > 0
    · rw [if_pos (decide_eq_true hp), if_neg (fun h => by have := eq_of_beq h; omega)]
    · rw [if_neg (fun h => hp (of_decide_eq_true h)), if_pos (beq_iff_eq.2 (by omega))]
  have hp : decide (((sightsL xs).length : Int) > 0) = true → (0 : Int) ≤ ((sightsL xs).length : Int) - 1 ∧ ((sightsL xs).length : Int) - 1 < ((sightsL xs).length : Int) := by
    intro h
    have := of_decide_eq_true h
    omega
  refine ⟨fun h => absurd h (by decide), fun _ => ⟨hl, fun hd => ⟨fun _ => ⟨fun _ => trivial, fun _ => trivial, fun v hv => ⟨hp, fun _ => trivial, fun w hw => ⟨hkk, fun _ => hkk, ?_⟩⟩⟩, fun hd' => absurd (hd.symm.trans hd') (by decide)⟩, fun hd => ⟨fun hd' => absurd (hd.symm.trans hd') (by decide), fun _ => ⟨hp, fun _ => trivial, fun w hw => ⟨hkk, fun _ => hkk, ?_⟩⟩⟩⟩⟩
  · have hw : w = lastOr (sightsL xs) := hw
    subst hw hv
    rw [kH n hn, kH 1 (by omega)]
    simp
  · have hw : w = lastOr (sightsL xs) := hw
    subst hw
    rw [kN n hn, kN 1 (by omega)]
    rfl
theorem okOld : FnOk Try.prog u 6 spOld := by
  refine fn_ok Try.prog u tab6 mo laws6 Try.func6 ?_
  intro xs c y h hc
  unfold spOld at h
  split at h
  · cases h
    exact ⟨by kernel_rfl, _, _, bodyOld _ _ _ _ _ _ _ _ _ _ _ _ hc⟩
  · cases h
theorem bodyActive (c0 c1 c2 c3 c4 c5 c6 c7 c8 : Int) (n mc nw : Int) (h : activeOk c0 c2 n nw) : BodyOk Try.prog u tab6 [] [(0, .inv (annActive mc nw (manyOf c2 n)))] Try.f7 [.agg (cho c0 c1 c2 c3 c4 c5 c6 c7 c8), .int .u8 n, .int .u8 mc, .int .u16 nw] (.bool true) := by
  constructor
  have eqn : bodyW Try.prog u tab6 [] (drawW Try.prog u tab6) (loopsBy u [(0, .inv (annActive mc nw (manyOf c2 n)))]) Try.f7 [.agg (cho c0 c1 c2 c3 c4 c5 c6 c7 c8), .int .u8 n, .int .u8 mc, .int .u16 nw] (.bool true) = vcActive c0 c1 c2 c3 c4 c5 c6 c7 c8 n mc nw := by kernel_rfl
  rw [eqn]
  unfold vcActive
  obtain ⟨h0, h2, hn, hnw⟩ := h
  have hf := fc_eq (b := 30) (c := c0) (by omega) h0
  have hc2 := fc_eq (b := 6) (c := c2) (by omega) h2
  have hm : manyOf c2 n = fc 6 c2 + n % 4 := by
    unfold manyOf
    rw [Int.tmod_eq_emod_of_nonneg hn.1, wrap_i64_id (n := n % 4) (by omega), wrap_i64_id (by omega)]
  have hnn : IntKind.i64.wrap nw = nw := wrap_i64_id (by omega)
  refine ⟨fun h => absurd h (by decide), fun _ => ⟨⟨0, show ((0 : Nat) : Int) ≤ manyOf c2 n by omega, ⟨rfl, rfl, trivial, trivial, rfl, trivial⟩, ⟨rfl, rfl, rfl, rfl, rfl, rfl, rfl, rfl, rfl⟩, ⟨rfl, rfl, rfl, rfl, rfl, rfl, rfl, rfl⟩, rfl⟩, fun g hg => ⟨by decide, fun hlt => ?_, fun hge => ?_⟩⟩⟩
  · have hlt : (g : Int) < manyOf c2 n := of_decide_eq_true hlt
    refine ⟨?_, g + 1, show ((g + 1 : Nat) : Int) ≤ manyOf c2 n by omega, show (manyOf c2 n - ((g + 1 : Nat) : Int)).toNat < (manyOf c2 n - (g : Int)).toNat by omega, ⟨rfl, rfl, trivial, trivial, wrap_i64_id (by omega), trivial⟩, ⟨rfl, rfl, rfl, rfl, rfl, rfl, rfl, rfl, rfl⟩, ⟨rfl, rfl, rfl, rfl, rfl, rfl, rfl, rfl⟩, ?_⟩
    · show ((List.replicate g (likeS mc nw)).length + 1) * 24 ≤ 140737488355328
      rw [List.length_replicate]
      omega
    · exact (List.replicate_succ' (n := g) (a := likeS mc nw)).symm
  · have hge : ¬ (g : Int) < manyOf c2 n := of_decide_eq_false hge
    have hg : (g : Int) ≤ manyOf c2 n := hg
    have hgm : (g : Int) = manyOf c2 n := by omega
    have hok : ofOk (fc 6 c2) (List.replicate g (likeS mc nw)) := ⟨by rw [List.length_replicate]; omega, by omega⟩
    have hkk : (List.replicate g (likeS mc nw)).length * 24 ≤ 140737488355328 ∧ fc 6 c2 < 4611686018427387904 := hok
    have f1 : freshS (fc 30 c0) (IntKind.i64.wrap nw) (likeS mc nw) = true := by
      show within (IntKind.i64.wrap nw) (IntKind.i64.wrap nw) (fc 30 c0) = true
      rw [hnn, within_eq (by omega) (by omega), decide_eq_true (show nw - nw ≥ 0 by omega), decide_eq_true (show nw - nw < fc 30 c0 by omega)]
      rfl
    have k1 : ∀ co : Int, ofH (fc 30 c0) co (fc 6 c2) (IntKind.i64.wrap nw) ⟨(station mc).m0, (station mc).m1, (station mc).m2, (station mc).m3, (station mc).m4, (station mc).m5⟩ (List.replicate g (likeS mc nw)) = 2 := fun co => active_rep hok (by omega) (by omega) f1
    refine ⟨hkk, fun _ _ => hkk, ?_⟩
    rw [k1]
    by_cases hl : fc 30 c0 < 2
    · rw [decide_eq_true hl]
      rfl
    · have hw : IntKind.i64.wrap (IntKind.i64.wrap nw + 1) = nw + 1 := by rw [hnn, wrap_i64_id (by omega)]
      have f2 : freshS (fc 30 c0) (nw + 1) (likeS mc nw) = true := by
        show within (nw + 1) (IntKind.i64.wrap nw) (fc 30 c0) = true
        rw [hnn, within_eq (by omega) (by omega), decide_eq_true (show nw + 1 - nw ≥ 0 by omega), decide_eq_true (show nw + 1 - nw < fc 30 c0 by omega)]
        rfl
      have k2 : ∀ co : Int, ofH (fc 30 c0) co (fc 6 c2) (nw + 1) ⟨(station mc).m0, (station mc).m1, (station mc).m2, (station mc).m3, (station mc).m4, (station mc).m5⟩ (List.replicate g (likeS mc nw)) = 2 := fun co => active_rep hok (by omega) (by omega) f2
      rw [hw, k2]
      simp
theorem okActive : FnOk Try.prog u 7 spActive := by
  refine fn_ok Try.prog u tab6 mo laws6 Try.func7 ?_
  intro xs c y h hc
  unfold spActive at h
  split at h
  · cases h
    exact ⟨by kernel_rfl, _, _, bodyActive _ _ _ _ _ _ _ _ _ _ _ _ hc⟩
  · cases h
end Go.Proofs.Ytpokkmgnapoomaa.Stat
