/- The disk: more laws, by the contracts. -/
import Derived.Test.YtmfpgddnapmgfaaDiskVcB
import Derived.Test.YtmfpgddnapmgfaaDiskWalkB
namespace Go.Proofs.Ytmfpgddnapmgfaa.Dsk
open Go Go.Proofs.Ytmfpgddnapmgfaa.Sx

theorem bodyLStops (n w : Int) (h : (-128 ≤ n ∧ n < 128) ∧ 0 ≤ w ∧ w < 256) : BodyOk Try.prog u tab3 [103005, 104005, 108005, 108007, 111008, 111005, 112005] [(0, .inv (annStops n (w.tmod 70)))] Try.f7 [.int .i8 n, .int .u8 w] (.bool true) := by
  constructor
  have eqn : bodyW Try.prog u tab3 [103005, 104005, 108005, 108007, 111008, 111005, 112005] (drawW Try.prog u tab3) (loopsBy u [(0, .inv (annStops n (w.tmod 70)))]) Try.f7 [.int .i8 n, .int .u8 w] (.bool true) = vcLStops n w := by kernel_rfl
  rw [eqn]
  unfold vcLStops
  obtain ⟨hn, hw⟩ := h
  have hwt : w.tmod 70 = w % 70 := Int.tmod_eq_emod_of_nonneg hw.1
  have hwi : IntKind.i64.wrap (w % 70) = w % 70 := wrap_i64_id (by omega)
  have hni : IntKind.i64.wrap n = n := wrap_i64_id (by omega)
  refine nm (spOf 4) ?_
  rw [hwt]
  simp only [Dk.eta, hni, hwi]
  refine nm (dStops n 0) ?_
  have hinv : ∀ {g : Nat}, ((w % 70) - (g : Int)).NonNeg → (g : Int) ≤ w % 70 := fun hg => Int.le_def.2 hg
  refine ⟨⟨0, Int.le_def.1 (by omega), ⟨trivial, trivial, trivial, rfl⟩, ⟨trivial, trivial, rfl, rfl, rfl, rfl⟩, rfl, rfl⟩, fun g hg => ⟨by decide, fun hlt => ?_, fun hge => ?_⟩⟩
  · have hlt := of_decide_eq_true hlt
    have hg70 : g < 70 := by omega
    obtain ⟨h1, h2, h3, h4, h5⟩ := stops_ok n hn g (by omega)
    obtain ⟨s1, s2, s3, s4, s5⟩ := stops_ok n hn (g + 1) (by omega)
    refine ⟨by decide, h1.ok (by omega), fun e he => ?_⟩
    rw [stops_e n hn g hg70] at he
    have hS : (dStops n g).write ((g : Int).tmod 4) (sectorL 1) = dStops n (g + 1) := rfl
    rw [hS]
    refine nm (dStops n (g + 1)) ?_
    try simp only [Dk.eta]
    rw [s4]
    have hc : (!(e == 0) == (decide (n < 0) || decide ((g : Int) < n)) || e != 0 && (e != 9 || !(decide (n ≥ 0) && decide (((g + 1 : Nat) : Int) > n)))) = false := by
      by_cases hq : n < 0 ∨ (g : Int) < n
      · rw [if_pos hq] at he
        subst he
        rcases hq with hq | hq <;> simp [hq]
      · rw [if_neg hq] at he
        subst he
        have e1 : ¬ n < 0 := fun h => hq (.inl h)
        have e2 : ¬ (g : Int) < n := fun h => hq (.inr h)
        rw [decide_eq_false e1, decide_eq_false e2, decide_eq_true (show n ≥ 0 by omega), decide_eq_true (show ((g + 1 : Nat) : Int) > n by omega)]
        rfl
    refine ⟨fun hb => absurd hb (by rw [hc]; decide), fun _ => ⟨g + 1, Int.le_def.1 (by omega), ?_, ⟨trivial, trivial, trivial, wrap_next (n := 70) (by omega) (by omega)⟩, ⟨trivial, trivial, rfl, rfl, s4.symm, rfl⟩, rfl, rfl⟩⟩
    show (w % 70).toNat - (g + 1) < (w % 70).toNat - g
    omega
  · have hge := of_decide_eq_false hge
    have hgw : (g : Int) = w % 70 := by have := hinv hg; omega
    obtain ⟨h1, h2, h3, h4, h5⟩ := stops_ok n hn g (by omega)
    refine nm (dStops n g) (fun dn hdn => ⟨h1.ok (by omega), nm ((dStops n g).restart 0 (-1) 0) ?_⟩)
    have hR := Calm.restart (dStops n g) 0 (-1) 0
    have hB := h1.restart 0 (-1) 0
    rw [h4] at hdn
    generalize (dStops n g).restart 0 (-1) 0 = dr at *
    try simp only [Dk.eta]
    have hc : (dn == (decide (n ≥ 0) && decide (w % 70 > n)) && !dr.down) = true := by
      rw [hdn, hgw, hR.down]
      simp
    refine ⟨fun _ => by decide, fun _ => ⟨hB.ok (by decide), by rw [hR.flushE]; rfl⟩, fun hf => absurd hf (by rw [hc]; decide)⟩
theorem okLStops : FnOk Try.prog u 7 spLStops := by
  refine fn_ok Try.prog u tab3 mo laws3 Try.func7 ?_
  intro xs c y h hc
  unfold spLStops at h
  split at h
  · cases h
    exact ⟨by kernel_rfl, _, _, bodyLStops _ _ hc⟩
  · cases h
theorem bodyLFails (n c : Int) (h : 0 ≤ n ∧ n < 256) : BodyOk Try.prog u tab3 [103005, 104005, 109005, 109008, 26051005, 26056005] [(0, .inv (annFails (n.tmod 9) c))] Try.f8 [.int .u8 n, .int .u8 c] (.bool true) := by
  constructor
  have eqn : bodyW Try.prog u tab3 [103005, 104005, 109005, 109008, 26051005, 26056005] (drawW Try.prog u tab3) (loopsBy u [(0, .inv (annFails (n.tmod 9) c))]) Try.f8 [.int .u8 n, .int .u8 c] (.bool true) = vcLFails n c := by kernel_rfl
  rw [eqn]
  unfold vcLFails
  have hnt : n.tmod 9 = n % 9 := Int.tmod_eq_emod_of_nonneg h.1
  have hni : IntKind.i64.wrap (n % 9) = n % 9 := wrap_i64_id (by omega)
  rw [hnt]
  have hn : 0 ≤ n % 9 ∧ n % 9 < 9 := by omega
  refine nm (spOf 2) ⟨by decide, ?_⟩
  simp only [Dk.eta, hni]
  refine nm (dFails (n % 9) c 0) ?_
  generalize n % 9 = k at *
  refine ⟨⟨0, Nat.zero_le _, ⟨trivial, trivial, trivial, by rw [if_neg (by omega)], rfl⟩, ⟨trivial, trivial, rfl, rfl, rfl, rfl⟩, rfl, rfl⟩, fun g hg => ⟨fun hlt => ?_, fun hge => ?_⟩⟩
  · have hlt := of_decide_eq_true hlt
    have hg12 : g < 12 := by omega
    obtain ⟨h1, h2, h3, h4, h5, h6⟩ := fails_ok k c hn g (by omega)
    obtain ⟨s1, s2, s3, s4, s5, s6⟩ := fails_ok k c hn (g + 1) (by omega)
    refine ⟨by decide, h1.ok (by omega), fun e he => ?_⟩
    rw [fails_e k c hn g hg12] at he
    have hS : (dFails k c g).write ((g : Int).tmod 2) (sectorL (IntKind.u8.wrap (c + IntKind.u8.wrap (g : Int)))) = dFails k c (g + 1) := rfl
    rw [hS]
    refine nm (dFails k c (g + 1)) ?_
    try simp only [Dk.eta]
    have hw : IntKind.i64.wrap ((g : Int) + 1) = ((g + 1 : Nat) : Int) := wrap_next (n := 12) (by omega) (by omega)
    have hmu : 12 - (g + 1) < 12 - g := by omega
    by_cases hq : (g : Int) = k
    · rw [if_pos hq] at he
      subst he
      have hwl : (((dFails k c (g + 1)).wait.length : Nat) : Int) = g := by rw [s6, if_pos (by omega)]; omega
      refine ⟨fun _ => ⟨by decide, fun hb => ?_, fun _ => ⟨fun hf => absurd hf (by decide), fun _ => ⟨g + 1, show g + 1 ≤ 12 by omega, hmu, ⟨trivial, trivial, trivial, ?_, hw⟩, ⟨trivial, trivial, rfl, rfl, rfl, rfl⟩, rfl, rfl⟩⟩⟩, fun hf => absurd hf (by decide)⟩
      · rw [hwl, ← hq] at hb
        simp at hb
      · rw [if_neg (by omega), if_pos (by omega)]; decide
    · rw [if_neg hq] at he
      subst he
      refine ⟨fun hf => absurd hf (by decide), fun _ => ⟨fun hf => absurd hf (by decide), fun _ => ⟨g + 1, show g + 1 ≤ 12 by omega, hmu, ⟨trivial, trivial, trivial, ?_, hw⟩, ⟨trivial, trivial, rfl, rfl, rfl, rfl⟩, rfl, rfl⟩⟩⟩
      by_cases hp : (g : Int) > k
      · rw [if_pos hp, if_pos (by omega)]
      · rw [if_neg hp, if_neg (by omega)]
  · have hge := of_decide_eq_false hge
    obtain rfl : g = 12 := by have hg : g ≤ 12 := hg; omega
    obtain ⟨h1, h2, h3, h4, h5, h6⟩ := fails_ok k c hn 12 (by omega)
    rw [if_pos (by omega)] at h6 ⊢
    refine nm (dFails k c 12) (nm (dFails k c 12) ?_)
    try simp only [Dk.eta]
    rw [h6, h4]
    refine ⟨fun _ => ⟨h1.ok (by omega), ?_⟩, fun hf => absurd hf (by decide)⟩
    have hE : callE (dFails k c 12) = 0 := by
      unfold callE
      rw [h4, h3, h5]
      have : ¬ (mx (-1) (k - ((12 : Nat) : Int)) == 0) = true := by
        intro h
        have h := eq_of_beq h
        unfold mx at h
        split at h <;> omega
      rw [if_neg (by decide), if_neg this]
    unfold flushE Dk.flush
    rw [if_neg (by simp [h4]), if_neg (by simp [h4]), if_neg (by rw [hE]; decide), hE]
    rfl
theorem okLFails : FnOk Try.prog u 8 spLFails := by
  refine fn_ok Try.prog u tab3 mo laws3 Try.func8 ?_
  intro xs c y h hc
  unfold spLFails at h
  split at h
  · cases h
    exact ⟨by kernel_rfl, _, _, bodyLFails _ _ hc⟩
  · cases h
theorem bodyLAgain (a : Int) (cs : List Int) (m : Int) (h : (0 ≤ a ∧ a < 256) ∧ 0 ≤ m ∧ m < 18446744073709551616) : BodyOk Try.prog u tab3 [103007, 104008, 106026, 109007, 111012, 111013] [(0, .inv (annAgain (a.tmod 16) m (cs.take 64)))] Try.f3 [.int .u8 a, .csl 5 cs, .int .u64 m] (.bool true) := by
  constructor
  have eqn : bodyW Try.prog u tab3 [103007, 104008, 106026, 109007, 111012, 111013] (drawW Try.prog u tab3) (loopsBy u [(0, .inv (annAgain (a.tmod 16) m (cs.take 64)))]) Try.f3 [.int .u8 a, .csl 5 cs, .int .u64 m] (.bool true) = vcLAgain a cs m := by kernel_rfl
  rw [eqn]
  unfold vcLAgain
  obtain ⟨ha, hm⟩ := h
  have hat : a.tmod 16 = a % 16 := Int.tmod_eq_emod_of_nonneg ha.1
  have hai : IntKind.i64.wrap (a % 16) = a % 16 := wrap_i64_id (by omega)
  have hk16 : 0 ≤ a % 16 ∧ a % 16 < 16 := by omega
  have hmn : 0 ≤ mn (cs.length : Int) 64 ∧ mn (cs.length : Int) 64 ≤ cs.length := by unfold mn; split <;> omega
  have hcs : List.drop 0 (List.take (mn (cs.length : Int) 64).toNat cs) = List.take 64 cs := by
    rw [List.drop_zero]
    unfold mn
    split
    · rfl
    · rw [Int.toNat_natCast, List.take_length, List.take_of_length_le (by omega)]
  have hx64 : (List.take 64 cs).length ≤ 64 := by rw [List.length_take]; omega
  rw [hat, hai, hcs]
  refine nm (spOf 16) ⟨by decide, fun k hk => ⟨⟨by decide, hmn⟩, fun l hl => ?_⟩⟩
  subst hk hl
  generalize a % 16 = k at *
  generalize List.take 64 cs = xs at *
  refine ⟨⟨0, Nat.zero_le _, ⟨rfl, rfl, rfl, rfl, trivial, rfl, rfl⟩, ⟨trivial, trivial, rfl, rfl, rfl, rfl⟩, rfl, rfl, rfl⟩, fun g hg => ⟨fun hlt => ?_, fun hge => ?_⟩⟩
  · have hlt := of_decide_eq_true hlt
    have hgi : (xs.getD (g : Int).toNat (u.dflt 5)) = getI xs g := rfl
    rw [hgi]
    obtain ⟨h1, h2, h3, h4⟩ := again_ok k xs hk16 g
    obtain ⟨s1, s2, s3, s4⟩ := again_ok k xs hk16 (g + 1)
    have hE := h1.writeE (again_in k xs hk16 g)
    refine ⟨⟨by omega, hlt⟩, h4.ok (by omega), nm (dAgain k xs (g + 1)) ⟨no_err hE, fun _ => ⟨s4.ok (by omega), rfl, fun e he l hl => ?_⟩⟩⟩
    have hl : l = (sectorL (getI xs g)).l := by rw [hl]; exact congrArg Sec.l (again_read k xs hk16 g)
    have he : e = 0 := by rw [he]; exact s1.readE (again_in k xs hk16 (g + 1))
    subst hl he
    rw [put_self, eqSec_self]
    have hmu : (annAgain k m xs).μ (g + 1) < (annAgain k m xs).μ g := by show xs.length - (g + 1) < xs.length - g; omega
    have hw : IntKind.i64.wrap ((g : Int) + 1) = ((g + 1 : Nat) : Int) := wrap_next hlt (by omega)
    refine ⟨fun _ => Nat.le_of_eq (Sec.h _).symm, fun hf => absurd hf (by decide), fun _ => ⟨by omega, by decide, fun hb => ⟨Sec.h _, g + 1, show g + 1 ≤ xs.length by omega, hmu, ⟨rfl, rfl, rfl, rfl, trivial, rfl, hw⟩, ⟨trivial, trivial, rfl, rfl, rfl, rfl⟩, rfl, rfl, ?_⟩, fun hb => ⟨g + 1, show g + 1 ≤ xs.length by omega, hmu, ⟨rfl, rfl, rfl, rfl, trivial, rfl, hw⟩, ⟨trivial, trivial, rfl, rfl, rfl, rfl⟩, rfl, rfl, ?_⟩⟩⟩
    · show (sectorL (getI xs g)).l = (if bitD m g = true then sectorL (getI xs g) else wantA m xs g).l
      rw [if_pos (show bitD m g = true from hb)]
    · show (wantA m xs g).l = (if bitD m g = true then sectorL (getI xs g) else wantA m xs g).l
      rw [if_neg (show ¬ bitD m g = true by rw [show bitD m g = false from hb]; decide)]
  · have hge := of_decide_eq_false hge
    obtain rfl : g = xs.length := by have hg : g ≤ xs.length := hg; omega
    obtain ⟨h1, h2, h3, h4⟩ := again_ok k xs hk16 xs.length
    have hC := Calm.restart (dAgain k xs xs.length) m (-1) 0
    have hin : 0 ≤ k ∧ k < ((dAgain k xs xs.length).restart m (-1) 0).kept.length := by
      show 0 ≤ k ∧ k < ((keptR _ _ _ _ _).length : Int)
      rw [keptR_len]
      exact again_in k xs hk16 xs.length
    have hR : readS ((dAgain k xs xs.length).restart m (-1) 0) k = wantA m xs xs.length := by
      rw [hC.readS hin]
      show getS (keptR (dAgain k xs xs.length) m (-1) 0 (dAgain k xs xs.length).wait.length) k.toNat = _
      have hwl : (dAgain k xs xs.length).wait.length = xs.length := by rw [h3]; simp
      rw [hwl]
      exact again_kept k m xs hk16 hm xs.length hx64 xs.length (Nat.le_refl _)
    rw [hR, hC.readE hin, put_get, put_self, eqSec_self]
    exact ⟨h4.ok (by omega), (h4.restart m (-1) 0).ok (by decide), rfl, fun _ => Nat.le_of_eq (Sec.h _).symm, fun _ => Nat.le_of_eq (Sec.h _).symm, rfl⟩
theorem okLAgain : FnOk Try.prog u 3 spLAgain := by
  refine fn_ok Try.prog u tab3 mo laws3 Try.func3 ?_
  intro xs c y h hc
  unfold spLAgain at h
  split at h
  · cases h
    exact ⟨by kernel_rfl, _, _, bodyLAgain _ _ _ hc⟩
  · cases h

end Go.Proofs.Ytmfpgddnapmgfaa.Dsk
