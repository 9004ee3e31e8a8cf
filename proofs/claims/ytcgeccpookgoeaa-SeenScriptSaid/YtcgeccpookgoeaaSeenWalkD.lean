/- Sightings: the law SeenScript, by the bodies' contracts. -/
import Derived.Test.YtcgeccpookgoeaaSeenVcD
import Derived.Test.YtcgeccpookgoeaaSeenMathD
namespace Go.Proofs.Ytcgeccpookgoeaa.Seen
open Go Go.Proofs.Ytcgeccpookgoeaa.Sx

theorem bodyLScript (xs : List Act) (odd : List Int) (h : acts3Ok xs odd) : BodyOk Try.prog u tab6 [5000054, 5000082, 5000126, 108009, 109007, 110010, 111054, 114011, 115013, 122014, 122015, 123124, 127013, 128006, 129016, 129017, 130194] [(0, .inv (annScript odd (headS xs 200))), (1000054, .cut 27 (cutOdd odd (headS xs 200))), (1000082, .cut 27 (cutWant odd (headS xs 200))), (1000126, .cut 27 (cutPut odd (headS xs 200)))] Try.f3 [.csl 28 xs, .csl 37 odd] (.bool true) := by
  constructor
  have eqn : bodyW Try.prog u tab6 [5000054, 5000082, 5000126, 108009, 109007, 110010, 111054, 114011, 115013, 122014, 122015, 123124, 127013, 128006, 129016, 129017, 130194] (drawW Try.prog u tab6) (loopsBy u [(0, .inv (annScript odd (headS xs 200))), (1000054, .cut 27 (cutOdd odd (headS xs 200))), (1000082, .cut 27 (cutWant odd (headS xs 200))), (1000126, .cut 27 (cutPut odd (headS xs 200)))]) Try.f3 [.csl 28 xs, .csl 37 odd] (.bool true) = vcLScript xs odd := by kernel_rfl
  rw [eqn]
  unfold vcLScript
  obtain ⟨⟨⟨hl, hn⟩, ha⟩, ho1, ho2⟩ := h
  have hl : xs.length < 9223372036854775808 := hl
  have hX : nOk (headS xs 200) := nOk_head hn 200
  have hh := headS_le xs 200 (by decide)
  refine ⟨fun h => absurd h (by decide), fun _ => ⟨⟨Int.le_refl _, by unfold mn; split <;> omega, by unfold mn; split <;> omega⟩, ⟨0, Nat.zero_le _, ⟨rfl, rfl, rfl, rfl, rfl, trivial, rfl⟩, rfl⟩, fun g hg => ⟨fun hlt => ?_, fun _ => ?_⟩⟩⟩
  · have hlt : (g : Int) < ((headS xs 200).length : Int) := of_decide_eq_true hlt
    have hlt' : g < (headS xs 200).length := by omega
    have hlX : (headS xs 200).length < 9223372036854775808 := by omega
    have hac := getA_ok hX g
    have hnow := now_at odd hX g (by omega) (by omega)
    refine ⟨⟨by omega, hlt⟩, ?_⟩
    rintro _ rfl _ rfl _ rfl _ rfl
    refine ⟨by decide, ?_⟩
    intro v4 h4 v5 h5
    have h4 : v4 = nowStep (at3 odd (headS xs 200) g).now (getA (headS xs 200) g) := h4
    have h5 : v5 = xA (getA (headS xs 200) g) := h5
    subst h4 h5
    refine ⟨fun h => ⟨by omega, of_decide_eq_true h⟩, ?_⟩
    intro vo hvo
    have hvo : vo = isOdd odd g := hvo
    have ht : 0 ≤ (sA odd g (getA (headS xs 200) g) (nowStep (at3 odd (headS xs 200) g).now (getA (headS xs 200) g))).time := by
      unfold sA
      split
      · show 0 ≤ mx 0 _
        unfold mx; split <;> omega
      · show 0 ≤ nowStep _ _
        unfold nowStep
        rw [Int.tmod_eq_emod_of_nonneg hac.2.2, wrap_i64_id (n := (getA (headS xs 200) g).later % 8) (by omega), wrap_i64_id (by omega)]
        omega
    refine ⟨⟨fun ho => ?_, fun ho => ?_⟩, fun _ _ => ?_⟩
    · have ho := hvo.symm.trans ho
      have hgo : (g : Int) < (odd.length : Int) := by
        unfold isOdd at ho
        rw [Bool.and_eq_true] at ho
        exact of_decide_eq_true ho.1
      have hsA : sA odd g (getA (headS xs 200) g) (nowStep (at3 odd (headS xs 200) g).now (getA (headS xs 200) g)) = ⟨IntKind.i64.wrap (IntKind.i8.wrap ((oddAt odd g).tmod 9 + 4)), station (getA (headS xs 200) g).who, mx 0 (IntKind.i64.wrap (nowStep (at3 odd (headS xs 200) g).now (getA (headS xs 200) g) + IntKind.i64.wrap (oddAt odd g)))⟩ := by
        unfold sA
        rw [if_pos ho]
      rw [hsA]
      exact ⟨⟨by omega, hgo⟩, by decide, ⟨by omega, hgo⟩, PUnit.unit, trivial, ⟨rfl, rfl, rfl, rfl, rfl, rfl, rfl, trivial, trivial⟩, ⟨rfl, rfl, rfl, rfl, rfl, rfl, rfl, rfl⟩, rfl⟩
    · have ho := hvo.symm.trans ho
      have hsA : sA odd g (getA (headS xs 200) g) (nowStep (at3 odd (headS xs 200) g).now (getA (headS xs 200) g)) = sightA (getA (headS xs 200) g) (nowStep (at3 odd (headS xs 200) g).now (getA (headS xs 200) g)) := by
        unfold sA
        rw [if_neg (by rw [ho]; simp)]
      rw [hsA]
      exact ⟨PUnit.unit, trivial, ⟨rfl, rfl, rfl, rfl, rfl, rfl, rfl, trivial, trivial⟩, ⟨rfl, rfl, rfl, rfl, rfl, rfl, rfl, rfl⟩, rfl⟩
    · have S := sim_at odd (headS xs 200) g
      have hs := Eq.refl (sA odd g (getA (headS xs 200) g) (nowStep (at3 odd (headS xs 200) g).now (getA (headS xs 200) g)))
      revert hs ht
      generalize hsg : sA odd g (getA (headS xs 200) g) (nowStep (at3 odd (headS xs 200) g).now (getA (headS xs 200) g)) = s
      intro ht _
      rintro _ rfl _ rfl _ rfl _ rfl _ rfl _ rfl _ rfl _ rfl _ rfl
      refine ⟨⟨fun hb => ?_, fun hb => ⟨fun hp => idx3 S hp, fun hq => ?_, fun hq => ⟨fun _ => trivial, fun _ => trivial, fun v hv => ?_⟩⟩⟩, fun _ _ => ?_⟩
      · exact ⟨PUnit.unit, trivial, ⟨rfl, rfl, rfl, rfl, trivial, rfl, rfl, rfl, rfl, trivial, want1 hb⟩, ⟨rfl, rfl, rfl, rfl, rfl, rfl, rfl, rfl⟩, rfl⟩
      · exact ⟨PUnit.unit, trivial, ⟨rfl, rfl, rfl, rfl, trivial, rfl, rfl, rfl, rfl, trivial, want2 S ht hb hq⟩, ⟨rfl, rfl, rfl, rfl, rfl, rfl, rfl, rfl⟩, rfl⟩
      · exact ⟨PUnit.unit, trivial, ⟨rfl, rfl, rfl, rfl, trivial, rfl, rfl, rfl, rfl, trivial, want3 S ht hb hq hv⟩, ⟨rfl, rfl, rfl, rfl, rfl, rfl, rfl, rfl⟩, rfl⟩
      · refine ⟨S.good.size, ?_⟩
        intro v15 h15 v16 h16 v17 h17
        have h15 : v15 = putE (at3 odd (headS xs 200) g).ks (xA (getA (headS xs 200) g)) s := h15
        have h16 : v16 = putL (at3 odd (headS xs 200) g).ks (xA (getA (headS xs 200) g)) s := h16
        have hf : v17 = false := by
          rw [h17, h15, h16]
          by_cases h0 : putE (at3 odd (headS xs 200) g).ks (xA (getA (headS xs 200) g)) s = 0
          · simp [h0]
          · rw [putL_no h0]; simp
        refine ⟨fun h => absurd (h.symm.trans hf) (by decide), fun _ => ⟨⟨fun hz => ?_, fun hz => ?_⟩, fun _ _ => ?_⟩⟩
        · have hz : putE (at3 odd (headS xs 200) g).ks (xA (getA (headS xs 200) g)) s = 0 := h15.symm.trans (eq_of_beq hz)
          obtain ⟨⟨p1, p2⟩, p3⟩ := put3 rfl rfl hsg.symm hz
          refine ⟨p1, p2, ?_⟩
          intro L hL
          obtain ⟨p4, p5⟩ := p3 L hL
          refine ⟨p4, ?_⟩
          intro M' hM'
          obtain ⟨p6, p7⟩ := p5 M' hM'
          exact ⟨PUnit.unit, trivial, ⟨rfl, rfl, rfl, rfl, rfl, rfl, h16.trans p6, trivial⟩, p7⟩
        · have hz : putE (at3 odd (headS xs 200) g).ks (xA (getA (headS xs 200) g)) s ≠ 0 := by
            rw [← h15]
            intro h0
            rw [h0] at hz
            exact absurd hz (by decide)
          obtain ⟨p1, p2⟩ := noPut3 rfl rfl hsg.symm hz
          exact ⟨PUnit.unit, trivial, ⟨rfl, rfl, rfl, rfl, rfl, rfl, p1, trivial⟩, p2⟩
        · exact chk3 hlt' hlX rfl
  · have S := sim_at odd (headS xs 200) g
    rw [S.len]
    simp
theorem okLScript : FnOk Try.prog u 3 spLScript := by
  refine fn_ok Try.prog u tab6 mo laws6 Try.func3 ?_
  intro xs c y h hc
  unfold spLScript at h
  split at h
  · cases h
    exact ⟨by kernel_rfl, _, _, bodyLScript _ _ hc⟩
  · cases h
end Go.Proofs.Ytcgeccpookgoeaa.Seen
