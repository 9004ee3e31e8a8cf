/- Cases: the law CasesRight, by the bodies' contracts. -/
import Derived.Test.YtlamlmihojodfaaCasVcD
import Derived.Test.YtlamlmihojodfaaCasMathB
namespace Go.Proofs.Ytlamlmihojodfaa.Cas
open Go Go.Proofs.Ytlamlmihojodfaa.Sx

theorem bodyRightR (xs : List Cse) (h : lenOk xs) : BodyOk Try.prog u tab1 [105067] [(0, .inv (annRightR xs))] Try.f23 [.csl 30 xs] (.bool (rightR xs)) := by
  constructor
  have eqn : bodyW Try.prog u tab1 [105067] (drawW Try.prog u tab1) (loopsBy u [(0, .inv (annRightR xs))]) Try.f23 [.csl 30 xs] (.bool (rightR xs)) = vcRightR xs := by kernel_rfl
  rw [eqn]
  unfold vcRightR
  have h : xs.length < 9223372036854775808 := h
  refine ⟨⟨0, ⟨Nat.zero_le _, rfl⟩, ⟨rfl, rfl, rfl, rfl, trivial⟩, rfl⟩, fun g hg => ⟨fun hlt => ?_, fun hge => ?_⟩⟩
  · have hlt := of_decide_eq_true hlt
    have hlt' : g < xs.length := by omega
    refine ⟨⟨by omega, hlt⟩, fun v hv => ?_⟩
    have hv : v = badR xs g := hv
    subst hv
    exact ⟨fun hb => rightR_bad hlt' hb, fun hb => ⟨g + 1, ⟨hlt', by rw [okR, hg.2, hb]; rfl⟩, show xs.length - (g + 1) < xs.length - g by omega, ⟨rfl, rfl, rfl, wrap_next hlt h, trivial⟩, rfl⟩⟩
  · have hge := of_decide_eq_false hge
    have hg1 := hg.1
    have hx : g = xs.length := by omega
    have h2 := hg.2
    rw [hx] at h2
    unfold rightR
    rw [h2]
    rfl
theorem okRightR : FnOk Try.prog u 23 spRightR := by
  refine fn_ok Try.prog u tab1 mo laws1 Try.func23 ?_
  intro xs c y h hc
  unfold spRightR at h
  split at h
  · cases h
    exact ⟨by kernel_rfl, _, _, bodyRightR _ hc⟩
  · cases h
theorem laws11 : Laws Try.prog u tab11 := by
  refine ⟨law, clean, fun p hp => ?_⟩
  rcases List.mem_cons.1 hp with rfl | hp
  · exact okRightR
  exact laws10.tab p hp
theorem bodyLRight (raw : List Cse) (c0 c1 c2 c3 c4 c5 c6 c7 c8 : Int) (xs : List Act) (n : Int) (x y z s : Int) (h : lenOk raw ∧ actsOk xs ∧ 0 ≤ n ∧ n < 256) : BodyOk Try.prog u tab11 [103011] [] Try.f6 [.csl 30 raw, .agg (cho c0 c1 c2 c3 c4 c5 c6 c7 c8), .csl 46 xs, .int .u8 n, .agg [.int .u32 x, .int .i64 y, .int .i64 z, .int .i64 s]] (.bool true) := by
  constructor
  have eqn : bodyW Try.prog u tab11 [103011] (drawW Try.prog u tab11) (loopsBy u []) Try.f6 [.csl 30 raw, .agg (cho c0 c1 c2 c3 c4 c5 c6 c7 c8), .csl 46 xs, .int .u8 n, .agg [.int .u32 x, .int .i64 y, .int .i64 z, .int .i64 s]] (.bool true) = vcLRight raw c0 c1 c2 c3 c4 c5 c6 c7 c8 xs n x y z s := by kernel_rfl
  rw [eqn]
  unfold vcLRight
  obtain ⟨hraw, ⟨hl, hn⟩, hb⟩ := h
  have hraw : raw.length < 9223372036854775808 := hraw
  generalize fc 40 c7 = op at *
  generalize fz 50 c8 = q at *
  obtain ⟨hg, hn1, hn2⟩ := someL_good (op := op) (q := q) hn
  have hlen := hg.len
  have hR := hg.right (by omega)
  generalize (someL op q xs).1 = cs at *
  have hd : (List.drop 0 (List.take (mn (raw.length : Int) 100).toNat raw)).length < 9223372036854775808 := by
    rw [List.length_drop, List.length_take]
    omega
  refine ⟨fun h => absurd h (by decide), fun _ => ⟨hl, ?_⟩⟩
  intro v hv
  have hv : v = cs := hv
  subst hv
  have hw : IntKind.i64.wrap n = n := wrap_i64_id (by omega)
  refine ⟨⟨Int.le_refl _, by unfold mn; split <;> omega, by unfold mn; split <;> omega⟩, show v.length < 9223372036854775808 by omega, fun h => absurd (h.symm.trans (by rw [hR])) (by decide), fun _ => ⟨by omega, fun hpos => ?_, fun hpos => ?_⟩⟩
  · have hpos := of_decide_eq_true hpos
    have hm : 0 ≤ (IntKind.i64.wrap n).tmod (v.length : Int) ∧ (IntKind.i64.wrap n).tmod (v.length : Int) < (v.length : Int) := by
      rw [hw, Int.tmod_eq_emod_of_nonneg hb.1]
      exact ⟨Int.emod_nonneg _ (by omega), Int.emod_lt_of_pos _ hpos⟩
    have hs : ∀ (k : Nat) (c : Cse), (v.set k c).length < 9223372036854775808 := fun k c => by rw [List.length_set]; omega
    refine ⟨by omega, hm, hs _ _, hs _ _, fun _ => hd, fun _ => hd, ?_⟩
    rw [right_eq, right_eq]
    simp
  · refine ⟨show v.length < 9223372036854775808 by omega, show v.length < 9223372036854775808 by omega, fun _ => hd, fun _ => hd, ?_⟩
    rw [right_eq, right_eq]
    simp
theorem okLRight : FnOk Try.prog u 6 spLRight := by
  refine fn_ok Try.prog u tab11 mo laws11 Try.func6 ?_
  intro xs c y h hc
  unfold spLRight at h
  split at h
  · cases h
    exact ⟨by kernel_rfl, _, _, bodyLRight _ _ _ _ _ _ _ _ _ _ _ _ _ _ _ _ hc⟩
  · cases h

end Go.Proofs.Ytlamlmihojodfaa.Cas
