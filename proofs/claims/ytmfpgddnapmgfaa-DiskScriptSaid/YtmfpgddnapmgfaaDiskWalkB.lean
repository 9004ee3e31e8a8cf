/- The disk: the laws, by the contracts. -/
import Derived.Test.YtmfpgddnapmgfaaDiskVcB
import Derived.Test.YtmfpgddnapmgfaaDiskWalk
import Derived.Test.YtmfpgddnapmgfaaDiskMathB
namespace Go.Proofs.Ytmfpgddnapmgfaa.Dsk
open Go Go.Proofs.Ytmfpgddnapmgfaa.Sx

theorem bodyAwake : BodyOk Try.prog u tab2 [101001, 14013001, 104001, 105001, 106001, 106004, 106005, 107006, 107007] [] Try.f10 [] (.lit true) := by
  constructor
  have eqn : bodyW Try.prog u tab2 [101001, 14013001, 104001, 105001, 106001, 106004, 106005, 107006, 107007] (drawW Try.prog u tab2) (loopsBy u []) Try.f10 [] (.lit true) = vcAwake  := by kernel_rfl
  rw [eqn]
  unfold vcAwake
  have hB0 := DkB.of 9
  have hB1 := hB0.write 3 (Sec.of (7 :: List.replicate 63 0))
  have hB2 := hB1.write 5 (Sec.of (8 :: List.replicate 63 0))
  have hB3 := hB2.restart 2 (-1) 0
  refine nm (spOf 9) ⟨hB0.ok (by decide), nm ((spOf 9).write 3 (Sec.of (7 :: List.replicate 63 0))) ⟨hB1.ok (by decide), nm (((spOf 9).write 3 (Sec.of (7 :: List.replicate 63 0))).write 5 (Sec.of (8 :: List.replicate 63 0))) ⟨hB2.ok (by decide), nm ((((spOf 9).write 3 (Sec.of (7 :: List.replicate 63 0))).write 5 (Sec.of (8 :: List.replicate 63 0))).restart 2 (-1) 0) ⟨hB3.ok (by decide), rfl, fun _ h1 _ h2 => ?_⟩⟩⟩⟩
  refine nm ((((spOf 9).write 3 (Sec.of (7 :: List.replicate 63 0))).write 5 (Sec.of (8 :: List.replicate 63 0))).restart 2 (-1) 0) ⟨hB3.ok (by decide), rfl, fun _ h3 _ h4 => ?_⟩
  subst h1 h2 h3 h4
  exact ⟨fun _ => ⟨by decide, by decide, sec_pos _⟩, fun _ => ⟨by decide, by decide, sec_pos _⟩, by kernel_rfl⟩
theorem okAwake : FnOk Try.prog u 10 spAwake := by
  refine fn_ok Try.prog u tab2 mo laws2 Try.func10 ?_
  intro xs c y h hc
  unfold spAwake at h
  split at h
  · cases h
    exact ⟨by kernel_rfl, _, _, bodyAwake⟩
  · cases h

theorem laws3 : Laws Try.prog u tab3 := by
  refine ⟨law, clean, fun p hp => ?_⟩
  rcases List.mem_cons.1 hp with rfl | hp
  · exact okAwake
  exact laws2.tab p hp
theorem bodyLSize (s a : Int) (h : True) : BodyOk Try.prog u tab3 [103005, 104006, 105005, 105007, 105008, 18054005, 18059005] [] Try.f4 [.int .i64 s, .int .i64 a] (.bool true) := by
  constructor
  have eqn : bodyW Try.prog u tab3 [103005, 104006, 105005, 105007, 105008, 18054005, 18059005] (drawW Try.prog u tab3) (loopsBy u []) Try.f4 [.int .i64 s, .int .i64 a] (.bool true) = vcLSize s a := by kernel_rfl
  rw [eqn]
  unfold vcLSize
  refine nm (spOf s) ?_
  have hB0 := DkB.of s
  have hC0 := Calm.of s
  have hs : ((spOf s).kept.length : Int) = mx 0 (mn s 512) := by
    have : 0 ≤ mx 0 (mn s 512) := by unfold mx; split <;> omega
    simp [spOf]
    omega
  have hw0 : (spOf s).wait = [] := rfl
  have hc0 : (spOf s).calls = 0 := rfl
  have hz : ∀ j, getS (spOf s).kept j = zeroS := by
    intro j
    show (List.replicate _ zeroS).getD j zeroS = zeroS
    rw [List.getD_eq_getElem?_getD, List.getElem?_replicate]
    split <;> rfl
  generalize spOf s = d0 at *
  simp only [Dk.eta]
  intro n hn
  rw [← hs] at hn
  subst hn
  have hRE : readE d0 a = if (0 ≤ a ∧ a < (d0.kept.length : Int)) then 0 else 3 := by
    unfold readE
    rw [if_neg (by simp [hC0.down])]
    by_cases hin : 0 ≤ a ∧ a < (d0.kept.length : Int)
    · rw [if_pos (inD_iff.2 hin), if_pos hin]
    · rw [if_neg (fun h => hin (inD_iff.1 h)), if_neg hin]
  have hRS : readS d0 a = zeroS := by
    unfold readS
    rw [if_neg (by simp [hC0.down])]
    split
    · rw [hw0]; exact hz _
    · rfl
  have hbad : ∀ (k : Int) (x : Sec), ¬ (0 ≤ k ∧ k < (d0.kept.length : Int)) → writeE d0 k = 3 ∧ d0.write k x = d0 := by
    intro k x hk
    have hin : ¬ inD d0 k = true := fun h => hk (inD_iff.1 h)
    constructor
    · unfold writeE; rw [if_neg (by simp [hC0.down]), if_neg hin]
    · unfold Dk.write; rw [if_neg (by simp [hC0.down]), if_neg hin]
  refine ⟨hB0.ok (by decide), trivial, fun e he l hl => nm d0 ?_⟩
  subst he
  have hl : l = zeroS.l := by rw [hl, hRS]; rfl
  subst hl
  simp only [Dk.eta]
  rw [put_self, eqSec_self]
  have hwn := hbad (d0.kept.length : Int) zeroS (by omega)
  refine ⟨fun _ => by decide, fun hb => ?_, fun _ => ⟨by decide, hB0.ok (by decide), ?_⟩⟩
  · exfalso
    rw [hRE] at hb
    by_cases hin : 0 ≤ a ∧ a < (d0.kept.length : Int)
    · rw [if_pos hin, decide_eq_true hin.1, decide_eq_true hin.2] at hb
      simp at hb
    · rw [if_neg hin] at hb
      have : (decide (a ≥ 0) && decide (a < (d0.kept.length : Int))) = false := by
        by_cases h0 : a ≥ 0
        · rw [decide_eq_false (show ¬ a < (d0.kept.length : Int) from fun h => hin ⟨h0, h⟩)]; simp
        · simp [h0]
      rw [this] at hb
      simp at hb
  rw [hwn.2, hwn.1]
  refine nm d0 ⟨fun _ => by decide, fun _ => ⟨hB0.ok (by decide), ?_⟩, fun hf => absurd hf (by decide)⟩
  simp only [Dk.eta]
  have hw1 := hbad (-1) zeroS (by omega)
  rw [hw1.2, hw1.1]
  refine nm d0 ?_
  show ((3 : Int) == 3 && ((d0.wait.length : Nat) : Int) == 0 && d0.calls == 0) = true
  rw [hw0, hc0]
  rfl
theorem okLSize : FnOk Try.prog u 4 spLSize := by
  refine fn_ok Try.prog u tab3 mo laws3 Try.func4 ?_
  intro xs c y h hc
  unfold spLSize at h
  split at h
  · cases h
    exact ⟨by kernel_rfl, _, _, bodyLSize _ _ hc⟩
  · cases h
theorem bodyLTorn (c a b m : Int) (h : True) : BodyOk Try.prog u tab3 [103009, 104009, 106009, 107010, 107009, 108012, 14021009, 14025009] [] Try.f5 [.int .u8 c, .int .u8 a, .int .i64 b, .int .u64 m] (.bool true) := by
  constructor
  have eqn : bodyW Try.prog u tab3 [103009, 104009, 106009, 107010, 107009, 108012, 14021009, 14025009] (drawW Try.prog u tab3) (loopsBy u []) Try.f5 [.int .u8 c, .int .u8 a, .int .i64 b, .int .u64 m] (.bool true) = vcLTorn c a b m := by kernel_rfl
  rw [eqn]
  unfold vcLTorn
  refine nm (spOf 1) ?_
  have hB0 := DkB.of 1
  have hC0 := Calm.of 1
  have hk0 : (spOf 1).kept.length = 1 := by simp [spOf, mx, mn]
  have hw0 : (spOf 1).wait = [] := rfl
  generalize spOf 1 = d0 at *
  simp only [Dk.eta]
  refine ⟨hB0.ok (by decide), nm (d0.write 0 (sectorL c)) ?_⟩
  have hin0 : (0 : Int) ≤ 0 ∧ (0 : Int) < d0.kept.length := by rw [hk0]; decide
  have hB1 := hB0.write 0 (sectorL c)
  have hC1 := hC0.write_calm (x := sectorL c) hin0
  have hK1 := write_kept d0 0 (sectorL c)
  have hW1 := hC0.write_wait (x := sectorL c) hin0
  rw [hw0, List.nil_append] at hW1
  have hE0 := hC0.writeE hin0
  generalize d0.write 0 (sectorL c) = d1 at *
  simp only [Dk.eta]
  refine ⟨no_err hE0, fun _ => ⟨hB1.ok (by decide), nm d1.flush ?_⟩⟩
  have hB2 := hB1.flush
  have hC2 := hC1.flush_calm
  have hF := hC1.flush
  have hE1 := hC1.flushE
  have hK2 : d1.flush.kept = d1.kept.set 0 (sectorL c) := by
    rw [hF, hW1]
    show keptAt d1 1 = _
    unfold keptAt
    rw [hW1]
    rfl
  have hW2 : d1.flush.wait = [] := by rw [hF]
  generalize d1.flush = d2 at *
  simp only [Dk.eta]
  have hL2 : d2.kept.length = 1 := by rw [hK2, List.length_set, hK1, hk0]
  have hG2 : getS d2.kept 0 = sectorL c := by rw [hK2, getS_set (by rw [hK1, hk0]; decide), if_pos rfl]
  refine ⟨no_err hE1, fun _ => ⟨hB2.ok (by decide), nm (d2.write 0 (sectorL a)) ?_⟩⟩
  have hin2 : (0 : Int) ≤ 0 ∧ (0 : Int) < d2.kept.length := by rw [hL2]; decide
  have hB3 := hB2.write 0 (sectorL a)
  have hC3 := hC2.write_calm (x := sectorL a) hin2
  have hK3 := write_kept d2 0 (sectorL a)
  have hW3 := hC2.write_wait (x := sectorL a) hin2
  have hE2 := hC2.writeE hin2
  rw [hW2, List.nil_append] at hW3
  generalize d2.write 0 (sectorL a) = d3 at *
  simp only [Dk.eta]
  refine ⟨no_err hE2, fun _ => ⟨hB3.ok (by decide), nm (d3.restart m 0 b) ?_⟩⟩
  have hB4 := hB3.restart m 0 b
  have hC4 := Calm.restart d3 m 0 b
  have hW4 : (d3.restart m 0 b).wait = [] := rfl
  have hL4 : (d3.restart m 0 b).kept.length = 1 := by
    show (keptR d3 _ _ _ _).length = 1
    rw [keptR_len, hK3, hL2]
  have hG4 : getS (d3.restart m 0 b).kept 0 = tearS (sectorL c) (sectorL a) b := by
    show getS (keptR d3 m 0 b d3.wait.length) 0 = _
    rw [hW3]
    show getS (keptR d3 m 0 b 1) 0 = _
    have h0 : keptR d3 m 0 b 0 = d2.kept := hK3
    have hw : getW d3.wait 0 = ⟨0, sectorL a⟩ := by rw [hW3]; rfl
    rw [keptR_next, h0, hw, if_pos (by decide)]
    show getS (d2.kept.set 0 (tearS (getS d2.kept 0) (sectorL a) b)) 0 = _
    rw [getS_set (by rw [hL2]; decide), if_pos rfl, hG2]
  generalize d3.restart m 0 b = d4 at *
  simp only [Dk.eta]
  have hin4 : (0 : Int) ≤ 0 ∧ (0 : Int) < d4.kept.length := by rw [hL4]; decide
  have hR : readS d4 0 = tearS (sectorL c) (sectorL a) b := by
    rw [hC4.readS hin4, hW4]
    exact hG4
  have hn := mx_in b
  refine ⟨hB4.ok (by decide), trivial, nm d4 (fun l hl n hnn => ?_)⟩
  rw [hR] at hl
  have hl : l = tearL (sectorL c).l (sectorL a).l b := hl.trans (Sec.of_l (tear_len _ _ _))
  subst hl hnn
  have hlen := tear_len (sectorL c) (sectorL a) b
  have e1 : List.take (mx 0 (mn b 64)).toNat (tearL (sectorL c).l (sectorL a).l b) = List.take (mx 0 (mn b 64)).toNat (sectorL a).l := by
    unfold tearL
    rw [List.take_append_of_le_length (by rw [List.length_take, (sectorL a).h]; omega), List.take_take, Nat.min_self]
  have e2 : List.drop (mx 0 (mn b 64)).toNat (tearL (sectorL c).l (sectorL a).l b) = List.drop (mx 0 (mn b 64)).toNat (sectorL c).l := by
    unfold tearL
    rw [List.drop_append_of_le_length (by rw [List.length_take, (sectorL a).h]; omega), List.drop_eq_nil_of_le (by rw [List.length_take]; omega), List.nil_append]
  have ea : (secP.get (sectorL a) : List Int) = (sectorL a).l := rfl
  have ec : (secP.get (sectorL c) : List Int) = (sectorL c).l := rfl
  refine ⟨trivial, trivial, ⟨by decide, hn.1, hn.2, hlen⟩, ⟨by decide, hn.1, hn.2, (sectorL a).h⟩, fun _ => ⟨hn.1, hn.2, by decide, hlen⟩, fun _ => ⟨hn.1, hn.2, by decide, (sectorL c).h⟩, ?_⟩
  have key : ∀ (x y z : List (A 5)) (n : Nat), List.take n x = List.take n y → List.drop n x = List.drop n z → ((bytesOf (u.nums 5 (List.take (n - 0) (List.drop 0 x)))).toList == (bytesOf (u.nums 5 (List.take (n - 0) (List.drop 0 y)))).toList && (bytesOf (u.nums 5 (List.take (64 - n) (List.drop (0 + n) x)))).toList == (bytesOf (u.nums 5 (List.take (64 - n) (List.drop (0 + n) z)))).toList) = true := by
    intro x y z n h1 h2
    rw [Nat.sub_zero, List.drop_zero, List.drop_zero, h1, Nat.zero_add, h2]
    simp
  exact key _ _ _ _ e1 e2
theorem okLTorn : FnOk Try.prog u 5 spLTorn := by
  refine fn_ok Try.prog u tab3 mo laws3 Try.func5 ?_
  intro xs c y h hc
  unfold spLTorn at h
  split at h
  · cases h
    exact ⟨by kernel_rfl, _, _, bodyLTorn _ _ _ _ hc⟩
  · cases h
theorem bodyLKept (a c g m t : Int) (h : (0 ≤ a ∧ a < 256) ∧ 0 ≤ g ∧ g < 256) : BodyOk Try.prog u tab3 [103011, 104012, 104013, 105011, 107011, 108011, 108014, 108015, 15034011, 15038011] [] Try.f6 [.int .u8 a, .int .u8 c, .int .u8 g, .int .u64 m, .int .i8 t] (.bool true) := by
  constructor
  have eqn : bodyW Try.prog u tab3 [103011, 104012, 104013, 105011, 107011, 108011, 108014, 108015, 15034011, 15038011] (drawW Try.prog u tab3) (loopsBy u []) Try.f6 [.int .u8 a, .int .u8 c, .int .u8 g, .int .u64 m, .int .i8 t] (.bool true) = vcLKept a c g m t := by kernel_rfl
  rw [eqn]
  unfold vcLKept
  obtain ⟨ha, hg⟩ := h
  refine nm (spOf 64) ?_
  have hB0 := DkB.of 64
  have hC0 := Calm.of 64
  have hk0 : (spOf 64).kept.length = 64 := by simp [spOf, mx, mn]
  have hw0 : (spOf 64).wait = [] := rfl
  generalize spOf 64 = d0 at *
  simp only [Dk.eta]
  refine ⟨by decide, by decide, by decide, fun i hi k hk => ⟨hB0.ok (by decide), nm (d0.write k (sectorL c)) ?_⟩⟩
  have ea : k = a % 64 := by rw [hk, Int.tmod_eq_emod_of_nonneg ha.1, wrap_i64_id (by omega)]
  have ei : i = (a + 1 + g % 63) % 64 := by
    rw [hi, Int.tmod_eq_emod_of_nonneg hg.1, wrap_i64_id (n := a) (by omega), wrap_i64_id (n := a + 1) (by omega), wrap_i64_id (n := g % 63) (by omega), wrap_i64_id (n := a + 1 + g % 63) (by omega), Int.tmod_eq_emod_of_nonneg (by omega)]
  have hik : i ≠ k := by omega
  have hkk : 0 ≤ k ∧ k < 64 := by omega
  have hii : 0 ≤ i ∧ i < 64 := by omega
  clear hi hk ea ei
  have hin0 : 0 ≤ k ∧ k < d0.kept.length := by rw [hk0]; exact hkk
  have hB1 := hB0.write k (sectorL c)
  have hC1 := hC0.write_calm (x := sectorL c) hin0
  have hK1 := write_kept d0 k (sectorL c)
  have hW1 := hC0.write_wait (x := sectorL c) hin0
  rw [hw0, List.nil_append] at hW1
  have hE0 := hC0.writeE hin0
  generalize d0.write k (sectorL c) = d1 at *
  simp only [Dk.eta]
  refine ⟨no_err hE0, fun _ => ⟨hB1.ok (by decide), nm d1.flush ?_⟩⟩
  have hB2 := hB1.flush
  have hC2 := hC1.flush_calm
  have hF := hC1.flush
  have hE1 := hC1.flushE
  have hK2 : d1.flush.kept = d1.kept.set k.toNat (sectorL c) := by
    rw [hF, hW1]
    show keptAt d1 1 = _
    unfold keptAt
    rw [hW1]
    rfl
  have hW2 : d1.flush.wait = [] := by rw [hF]
  generalize d1.flush = d2 at *
  simp only [Dk.eta]
  have hL2 : d2.kept.length = 64 := by rw [hK2, List.length_set, hK1, hk0]
  have hG2 : getS d2.kept k.toNat = sectorL c := by rw [hK2, getS_set (by rw [hK1, hk0]; omega), if_pos rfl]
  refine ⟨no_err hE1, fun _ => ⟨hB2.ok (by decide), nm (d2.write i (sectorL g)) ?_⟩⟩
  have hin2 : 0 ≤ i ∧ i < d2.kept.length := by rw [hL2]; exact hii
  have hB3 := hB2.write i (sectorL g)
  have hC3 := hC2.write_calm (x := sectorL g) hin2
  have hK3 := write_kept d2 i (sectorL g)
  have hW3 := hC2.write_wait (x := sectorL g) hin2
  have hE2 := hC2.writeE hin2
  rw [hW2, List.nil_append] at hW3
  generalize d2.write i (sectorL g) = d3 at *
  simp only [Dk.eta]
  refine ⟨no_err hE2, fun _ => ⟨hB3.ok (by decide), nm (d3.restart m (IntKind.i64.wrap t) 9) ?_⟩⟩
  have hB4 := hB3.restart m (IntKind.i64.wrap t) 9
  have hC4 := Calm.restart d3 m (IntKind.i64.wrap t) 9
  have hW4 : (d3.restart m (IntKind.i64.wrap t) 9).wait = [] := rfl
  have hL4 : (d3.restart m (IntKind.i64.wrap t) 9).kept.length = 64 := by
    show (keptR d3 _ _ _ _).length = 64
    rw [keptR_len, hK3, hL2]
  have hG4 : getS (d3.restart m (IntKind.i64.wrap t) 9).kept k.toNat = sectorL c := by
    show getS (keptR d3 m (IntKind.i64.wrap t) 9 d3.wait.length) k.toNat = _
    rw [hW3]
    show getS (keptR d3 m (IntKind.i64.wrap t) 9 1) k.toNat = _
    have h0 : keptR d3 m (IntKind.i64.wrap t) 9 0 = d2.kept := hK3
    have hw : getW d3.wait 0 = ⟨i, sectorL g⟩ := by rw [hW3]; rfl
    rw [keptR_next, h0, hw]
    have hne : i.toNat ≠ k.toNat := by omega
    split
    · rw [getS_set (by rw [hL2]; show i.toNat < 64; omega), if_neg hne, hG2]
    · split
      · rw [getS_set (by rw [hL2]; show i.toNat < 64; omega), if_neg hne, hG2]
      · exact hG2
  generalize d3.restart m (IntKind.i64.wrap t) 9 = d4 at *
  simp only [Dk.eta]
  have hin4 : 0 ≤ k ∧ k < d4.kept.length := by rw [hL4]; exact hkk
  refine ⟨hB4.ok (by decide), trivial, fun _ h1 _ h2 => nm d4 ?_⟩
  rw [h1, h2, hC4.readE hin4]
  have hR : readS d4 k = sectorL c := by
    rw [hC4.readS hin4, hW4]
    exact hG4
  rw [hR, put_get, eqSec_self]
  refine ⟨fun _ => Nat.le_of_eq (Sec.h _).symm, ?_⟩
  show (((d4.wait.length : Nat) : Int) == 0) = true
  rw [hW4]
  rfl
theorem okLKept : FnOk Try.prog u 6 spLKept := by
  refine fn_ok Try.prog u tab3 mo laws3 Try.func6 ?_
  intro xs c y h hc
  unfold spLKept at h
  split at h
  · cases h
    exact ⟨by kernel_rfl, _, _, bodyLKept _ _ _ _ _ hc⟩
  · cases h

end Go.Proofs.Ytmfpgddnapmgfaa.Dsk
