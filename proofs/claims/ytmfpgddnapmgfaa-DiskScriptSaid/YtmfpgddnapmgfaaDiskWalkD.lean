/- The disk: the law DiskScript, by the contracts. -/
import Derived.Test.YtmfpgddnapmgfaaDiskVcC
import Derived.Test.YtmfpgddnapmgfaaDiskWalkB
import Derived.Test.YtmfpgddnapmgfaaDiskMathC
namespace Go.Proofs.Ytmfpgddnapmgfaa.Dsk
open Go Go.Proofs.Ytmfpgddnapmgfaa.Sx

theorem bodyLCall (cc f s : Int) (dn : Bool) : BodyOkH Try.prog u tab3 [] [] Try.f23 [.optr 0 0, .optr 1 0, .optr 2 0, .optr 3 0] [.var [.int .i64 cc], .var [.int .i64 f], .var [.int .i64 s], .var [.bool dn]] (.int .i64 (lE f s)) [.var [.int .i64 (IntKind.i64.wrap (cc + 1))], .var [.int .i64 (lF f)], .var [.int .i64 (lF s)], .var [.bool (dn || s == 0)]] := by
  constructor
  have eqn : bodyH Try.prog u tab3 [] (drawW Try.prog u tab3) (loopsBy u []) Try.f23 [.optr 0 0, .optr 1 0, .optr 2 0, .optr 3 0] [.var [.int .i64 cc], .var [.int .i64 f], .var [.int .i64 s], .var [.bool dn]] (.int .i64 (lE f s)) [.var [.int .i64 (IntKind.i64.wrap (cc + 1))], .var [.int .i64 (lF f)], .var [.int .i64 (lF s)], .var [.bool (dn || s == 0)]] = vcLCall cc f s dn := by kernel_rfl
  rw [eqn]
  unfold vcLCall
  refine ⟨fun _ => trivial, fun _ => trivial, fun v hv => ⟨fun h1 => ⟨fun h2 => ⟨fun h3 => ?_, fun h3 => ?_⟩, fun h2 => ⟨fun h3 => ?_, fun h3 => ?_⟩⟩, fun h1 => ⟨fun h2 => ⟨fun h3 => ?_, fun h3 => ?_⟩, fun h2 => ⟨fun h3 => ?_, fun h3 => ?_⟩⟩⟩⟩ <;>
  · unfold lE lF
    simp only [h1, hv, decide_eq_true_eq, decide_eq_false_iff_not] at *
    simp [h1, h2, h3]
theorem okLCall : FnOkH Try.prog u 23 hLCall := by
  refine fn_okH Try.prog u tab3 mo laws3 Try.func23 ?_
  intro xs os c y os2 h hc
  unfold hLCall at h
  split at h
  · cases h
    exact ⟨_, _, bodyLCall _ _ _ _⟩
  · cases h
theorem laws4 : Laws Try.prog u tab4 := by
  refine ⟨law, clean, fun p hp => ?_⟩
  rcases List.mem_cons.1 hp with rfl | hp
  · exact okLCall
  exact laws3.tab p hp
theorem bodyLScr (s : Int) (xs : List Act) (h : actsOk xs ∧ 0 ≤ s ∧ s < 256) : BodyOk Try.prog u tab4 [5000086, 5000190, 111015] [(0, .inv (annScr (sizeN s) (headA xs))), (1000086, .cut 47 (cutAct (sizeN s) (headA xs))), (3, .see 47 (annRe (sizeN s) (headA xs))), (5, .see2 47 114 (annRe2 (sizeN s) (headA xs))), (7, .see 47 (annFl (sizeN s) (headA xs))), (1000190, .cut 47 (cutRead (sizeN s) (headA xs))), (9, .see 47 (annRd (sizeN s) (headA xs)))] Try.f9 [.int .u8 s, .csl 50 xs] (.bool true) := by
  constructor
  have eqn : bodyW Try.prog u tab4 [5000086, 5000190, 111015] (drawW Try.prog u tab4) (loopsBy u [(0, .inv (annScr (sizeN s) (headA xs))), (1000086, .cut 47 (cutAct (sizeN s) (headA xs))), (3, .see 47 (annRe (sizeN s) (headA xs))), (5, .see2 47 114 (annRe2 (sizeN s) (headA xs))), (7, .see 47 (annFl (sizeN s) (headA xs))), (1000190, .cut 47 (cutRead (sizeN s) (headA xs))), (9, .see 47 (annRd (sizeN s) (headA xs)))]) Try.f9 [.int .u8 s, .csl 50 xs] (.bool true) = vcLScr s xs := by kernel_rfl
  rw [eqn]
  unfold vcLScr
  obtain ⟨⟨hl, hn⟩, hs⟩ := h
  have hl : xs.length < 9223372036854775808 := hl
  have hN := sizeN_in hs
  have hNe : IntKind.i64.wrap (s.tmod 40) = sizeN s := rfl
  have hX := headA_le xs
  have hG := good_at hN (headA xs)
  refine ⟨by decide, ⟨hN.1, Int.le_refl _, by rw [hNe]; omega, by rw [hNe]; omega⟩, ⟨Int.le_refl _, by unfold mn; split <;> omega, by unfold mn; split <;> omega⟩, ⟨0, Nat.zero_le _, ⟨rfl, rfl, rfl, rfl, trivial, trivial, trivial, trivial, trivial, trivial, trivial, rfl, trivial, trivial, trivial, trivial⟩, ⟨trivial, trivial, rfl, rfl, rfl, rfl⟩, rfl, rfl, ?_, rfl, rfl, rfl, rfl, rfl⟩, fun g hg => ⟨fun hlt => ?_, fun _ => rfl⟩⟩
  · show List.replicate (sizeN s).toNat zeroS = List.replicate (mx 0 (mn (sizeN s) 512)).toNat zeroS
    have e : sizeN s = mx 0 (mn (sizeN s) 512) := by
      unfold mx mn
      split <;> split <;> omega
    exact congrArg (fun z : Int => List.replicate z.toNat zeroS) e
  · have hlt : (g : Int) < ((headA xs).length : Int) := of_decide_eq_true hlt
    have hlt' : g < (headA xs).length := by omega
    have hGd := hG g
    have hGe := hG (g + 1)
    have hac := hn _ (headA_mem (getA_mem hlt'))
    have hst : dAt (sizeN s) (headA xs) (g + 1) = stepD (getA (headA xs) g) (dAt (sizeN s) (headA xs) g) := rfl
    refine ⟨⟨by omega, hlt⟩, ?_⟩
    intro v0 h0 v1 h1 v2 h2 v3 h3 v4 h4 v5 h5
    have h0 : v0 = (getA (headA xs) g).op := h0
    have h1 : v1 = (getA (headA xs) g).at_ := h1
    have h2 : v2 = (getA (headA xs) g).byte := h2
    have h3 : v3 = (getA (headA xs) g).mask := h3
    have h4 : v4 = (getA (headA xs) g).torn := h4
    have h5 : v5 = (getA (headA xs) g).bytes := h5
    subst h0 h1 h2 h3 h4 h5
    have hat : (IntKind.i64.wrap (getA (headA xs) g).at_).tmod 50 = atA (getA (headA xs) g) := rfl
    have muRe : ∀ k : Nat, (annRe (sizeN s) (headA xs) g).μ k = (dAt (sizeN s) (headA xs) g).wait.length - k := fun _ => rfl
    have muRe2 : ∀ k i : Nat, (annRe2 (sizeN s) (headA xs) g k).μ i = 64 - i := fun _ _ => rfl
    have muFl : ∀ k : Nat, (annFl (sizeN s) (headA xs) g).μ k = (dAt (sizeN s) (headA xs) g).wait.length - k := fun _ => rfl
    have muRd : ∀ k : Nat, (annRd (sizeN s) (headA xs) g).μ k = (dAt (sizeN s) (headA xs) (g + 1)).wait.length - k := fun _ => rfl
    rw [hat, hNe]
    refine ⟨by decide, by decide, ?_, fun _ _ => ⟨hGe.b.ok (by omega), rfl, ?_, fun _ _ => ?_⟩⟩
    · clear hG muRd
      generalize dAt (sizeN s) (headA xs) (g + 1) = d1 at *
      generalize dAt (sizeN s) (headA xs) g = d at *
      generalize getA (headA xs) g = a at *
      subst hst
      have hwl : d.wait.length < 9223372036854775808 := by have := hGd.b.2.1; omega
      have hdk : DkOk d := hGd.b.ok (by omega)
      have hin := in_eq hGd (atA a)
      refine ⟨fun c0 => ?_, fun c0 => ⟨fun c1 => ?_, fun c1 => ⟨fun c2 => ?_, fun c2 => ⟨fun c3 => ?_, fun c3 => ?_⟩⟩⟩⟩
      · have e1 : stepD a d = { d with left := mx (-1) (atA a) } := by unfold stepD; rw [if_pos c0]
        have e2 : stepE a d = 0 := by unfold stepE; rw [if_pos c0]
        rw [e1, e2]
        exact ⟨PUnit.unit, trivial, ⟨rfl, rfl, rfl, rfl, rfl, rfl, rfl, rfl, trivial, trivial, trivial, trivial, trivial, trivial, trivial, rfl, trivial, trivial, trivial, trivial⟩, ⟨trivial, trivial, rfl, rfl, rfl, rfl⟩, rfl, rfl, rfl, rfl, rfl, rfl, rfl, rfl⟩
      · have e1 : stepD a d = { d with fail := mx (-1) (atA a) } := by unfold stepD; rw [if_neg (by rw [c0]; decide), if_pos c1]
        have e2 : stepE a d = 0 := by unfold stepE; rw [if_neg (by rw [c0]; decide), if_pos c1]
        rw [e1, e2]
        exact ⟨PUnit.unit, trivial, ⟨rfl, rfl, rfl, rfl, rfl, rfl, rfl, rfl, trivial, trivial, trivial, trivial, trivial, trivial, trivial, rfl, trivial, trivial, trivial, trivial⟩, ⟨trivial, trivial, rfl, rfl, rfl, rfl⟩, rfl, rfl, rfl, rfl, rfl, rfl, rfl, rfl⟩
      · have e1 : stepD a d = reD d a := by unfold stepD; rw [if_neg (by rw [c0]; decide), if_neg (by rw [c1]; decide), if_pos c2]; rfl
        have e2 : stepE a d = 0 := by unfold stepE; rw [if_neg (by rw [c0]; decide), if_neg (by rw [c1]; decide), if_pos c2]
        rw [e1, e2]
        refine ⟨hdk, ⟨0, Nat.zero_le _, ⟨rfl, trivial, trivial, trivial, trivial, ⟨rfl, trivial, trivial, trivial, trivial⟩, trivial, rfl, rfl, rfl, rfl, rfl, rfl, rfl, trivial, rfl, trivial, trivial, rfl⟩, rfl, rfl, rfl, rfl, ⟨rfl, rfl, rfl, rfl, rfl, rfl⟩, rfl, ⟨trivial, trivial, rfl, rfl, rfl, rfl⟩, rfl, rfl, rfl⟩, fun k hk => ⟨fun hlk => ?_, fun hlk => ?_⟩⟩
        · have hlk : (k : Int) < (d.wait.length : Int) := of_decide_eq_true hlk
          have hk3 := hdk.2.2 k (by omega)
          refine ⟨⟨by omega, hlk⟩, ⟨0, Nat.zero_le _, ⟨rfl, trivial, trivial, trivial, trivial, ⟨rfl, trivial, trivial, trivial, trivial⟩, trivial, rfl, rfl, rfl, rfl, rfl, rfl, rfl, rfl, rfl, trivial, rfl, rfl, trivial, trivial, rfl⟩, rfl, rfl, rfl, rfl, ⟨rfl, rfl, rfl, rfl, rfl, rfl⟩, rfl, rfl, ⟨trivial, trivial, rfl, rfl, rfl, rfl⟩, rfl, rfl, reK2_zero d a k⟩, fun i hi => ⟨fun hli => ?_, fun hli => ?_⟩⟩
          · have hli : (i : Int) < 64 := of_decide_eq_true hli
            have hmu : (annRe2 (sizeN s) (headA xs) g k).μ (i + 1 : Nat) < (annRe2 (sizeN s) (headA xs) g k).μ i := by rw [muRe2, muRe2]; omega
            have hw : IntKind.i64.wrap ((i : Int) + 1) = ((i + 1 : Nat) : Int) := wrap_next (n := 64) hli (by decide)
            refine ⟨fun _ _ => by decide, fun _ _ => Int.tmod_nonneg _ (by omega), fun _ _ => by decide, fun hsel => ⟨⟨by omega, by omega⟩, ⟨hk3.1, ?_⟩, ⟨by omega, by omega⟩, i + 1, show i + 1 ≤ 64 by omega, hmu, ⟨rfl, trivial, trivial, trivial, trivial, ⟨rfl, trivial, trivial, trivial, trivial⟩, trivial, rfl, rfl, rfl, rfl, rfl, rfl, rfl, rfl, rfl, trivial, rfl, rfl, trivial, trivial, hw⟩, rfl, rfl, rfl, rfl, ⟨rfl, rfl, rfl, rfl, rfl, rfl⟩, rfl, rfl, ⟨trivial, trivial, rfl, rfl, rfl, rfl⟩, rfl, rfl, ?_⟩, fun hsel => ⟨i + 1, show i + 1 ≤ 64 by omega, hmu, ⟨rfl, trivial, trivial, trivial, trivial, ⟨rfl, trivial, trivial, trivial, trivial⟩, trivial, rfl, rfl, rfl, rfl, rfl, rfl, rfl, rfl, rfl, trivial, rfl, rfl, trivial, trivial, hw⟩, rfl, rfl, rfl, rfl, ⟨rfl, rfl, rfl, rfl, rfl, rfl⟩, rfl, rfl, ⟨trivial, trivial, rfl, rfl, rfl, rfl⟩, rfl, rfl, reK2_no hsel⟩⟩
            · rw [reK2_len]
              exact hk3.2
            · exact reK2_yes (by omega) (by omega) hsel
          · have hge : ¬ (i : Int) < 64 := of_decide_eq_false hli
            obtain rfl : i = 64 := by have hi : i ≤ 64 := hi; omega
            exact ⟨k + 1, show k + 1 ≤ d.wait.length by omega, by rw [muRe, muRe]; omega, ⟨rfl, trivial, trivial, trivial, trivial, ⟨rfl, trivial, trivial, trivial, trivial⟩, trivial, rfl, rfl, rfl, rfl, rfl, rfl, rfl, trivial, rfl, trivial, trivial, wrap_next hlk hwl⟩, rfl, rfl, rfl, rfl, ⟨rfl, rfl, rfl, rfl, rfl, rfl⟩, rfl, ⟨trivial, trivial, rfl, rfl, rfl, rfl⟩, rfl, rfl, reK2_last d a k hac.2.2.1⟩
        · have hge : ¬ (k : Int) < (d.wait.length : Int) := of_decide_eq_false hlk
          obtain rfl : k = d.wait.length := by have hk : k ≤ d.wait.length := hk; omega
          exact ⟨PUnit.unit, trivial, ⟨rfl, rfl, rfl, rfl, rfl, rfl, rfl, rfl, trivial, trivial, trivial, trivial, trivial, trivial, trivial, rfl, trivial, trivial, trivial, trivial⟩, ⟨trivial, trivial, rfl, rfl, rfl, rfl⟩, rfl, rfl, rfl, rfl, rfl, rfl, rfl, rfl⟩
      · have e1 : stepD a d = d.flush := by unfold stepD; rw [if_neg (by rw [c0]; decide), if_neg (by rw [c1]; decide), if_neg (by rw [c2]; decide), if_pos c3]
        have e2 : stepE a d = flushE d := by unfold stepE; rw [if_neg (by rw [c0]; decide), if_neg (by rw [c1]; decide), if_neg (by rw [c2]; decide), if_pos c3]
        rw [e1, e2]
        refine ⟨hdk, fun hd => ?_, fun hd => ?_⟩
        · have hF : d.flush = d := by unfold Dk.flush; rw [if_pos hd]
          have hE : flushE d = 9 := by unfold flushE; rw [if_pos hd]
          rw [hF, hE]
          exact ⟨PUnit.unit, trivial, ⟨rfl, rfl, rfl, rfl, rfl, rfl, rfl, rfl, trivial, trivial, trivial, trivial, trivial, trivial, trivial, rfl, trivial, trivial, trivial, trivial⟩, ⟨trivial, trivial, rfl, rfl, rfl, rfl⟩, rfl, rfl, rfl, rfl, rfl, rfl, rfl, rfl⟩
        · have hE : flushE d = callE d := by unfold flushE; rw [if_neg (by rw [hd]; decide)]
          obtain ⟨q1, q2, q3⟩ := call_eq hGd hd
          rw [q1, q2, q3, hE]
          refine ⟨fun hz => ?_, fun hz => ?_⟩
          · have hF : d.flush = { d.call with kept := keptAt d d.wait.length, wait := [] } := by unfold Dk.flush; rw [if_neg (by rw [hd]; decide), if_neg (by rw [eq_of_beq hz]; decide)]
            rw [hF]
            refine ⟨⟨0, Nat.zero_le _, ⟨rfl, trivial, trivial, trivial, trivial, ⟨rfl, trivial, trivial, trivial, trivial⟩, rfl, rfl, rfl, rfl, rfl, rfl, rfl, trivial, rfl, trivial, trivial, rfl⟩, rfl, rfl, rfl, rfl, rfl, ⟨trivial, trivial, rfl, rfl, rfl, rfl⟩, rfl, rfl, rfl⟩, fun k hk => ⟨fun hlk => ?_, fun hlk => ?_⟩⟩
            · have hlk : (k : Int) < (d.wait.length : Int) := of_decide_eq_true hlk
              have hk3 := hdk.2.2 k (by omega)
              exact ⟨⟨by omega, hlk⟩, ⟨hk3.1, by rw [keptAt_len]; exact hk3.2⟩, k + 1, show k + 1 ≤ d.wait.length by omega, by rw [muFl, muFl]; omega, ⟨rfl, trivial, trivial, trivial, trivial, ⟨rfl, trivial, trivial, trivial, trivial⟩, rfl, rfl, rfl, rfl, rfl, rfl, rfl, trivial, rfl, trivial, trivial, wrap_next hlk hwl⟩, rfl, rfl, rfl, rfl, rfl, ⟨trivial, trivial, rfl, rfl, rfl, rfl⟩, rfl, rfl, rfl⟩
            · have hge : ¬ (k : Int) < (d.wait.length : Int) := of_decide_eq_false hlk
              obtain rfl : k = d.wait.length := by have hk : k ≤ d.wait.length := hk; omega
              exact ⟨PUnit.unit, trivial, ⟨rfl, rfl, rfl, rfl, rfl, rfl, rfl, rfl, trivial, trivial, trivial, trivial, trivial, trivial, trivial, rfl, trivial, trivial, trivial, trivial⟩, ⟨trivial, trivial, rfl, rfl, rfl, rfl⟩, rfl, rfl, rfl, rfl, rfl, rfl, rfl, rfl⟩
          · have hF : d.flush = d.call := by unfold Dk.flush; rw [if_neg (by rw [hd]; decide), if_pos (by unfold bne; rw [hz]; rfl)]
            rw [hF]
            exact ⟨PUnit.unit, trivial, ⟨rfl, rfl, rfl, rfl, rfl, rfl, rfl, rfl, trivial, trivial, trivial, trivial, trivial, trivial, trivial, rfl, trivial, trivial, trivial, trivial⟩, ⟨trivial, trivial, rfl, rfl, rfl, rfl⟩, rfl, rfl, rfl, rfl, rfl, rfl, rfl, rfl⟩
      · have e1 : stepD a d = d.write (atA a) (sectorL a.byte) := by unfold stepD; rw [if_neg (by rw [c0]; decide), if_neg (by rw [c1]; decide), if_neg (by rw [c2]; decide), if_neg (by rw [c3]; decide)]
        have e2 : stepE a d = writeE d (atA a) := by unfold stepE; rw [if_neg (by rw [c0]; decide), if_neg (by rw [c1]; decide), if_neg (by rw [c2]; decide), if_neg (by rw [c3]; decide)]
        rw [e1, e2, hin]
        refine ⟨hdk, fun hd => ?_, fun hd => ⟨fun hi => ?_, fun hi => ?_⟩⟩
        · have hW : d.write (atA a) (sectorL a.byte) = d := by unfold Dk.write; rw [if_pos hd]
          have hE : writeE d (atA a) = 9 := by unfold writeE; rw [if_pos hd]
          rw [hW, hE]
          exact ⟨PUnit.unit, trivial, ⟨rfl, rfl, rfl, rfl, rfl, rfl, rfl, rfl, trivial, trivial, trivial, trivial, trivial, trivial, trivial, rfl, trivial, trivial, trivial, trivial⟩, ⟨trivial, trivial, rfl, rfl, rfl, rfl⟩, rfl, rfl, rfl, rfl, rfl, rfl, rfl, rfl⟩
        · have hi : inD d (atA a) = false := by simpa using hi
          have hW : d.write (atA a) (sectorL a.byte) = d := by unfold Dk.write; rw [if_neg (by rw [hd]; decide), if_neg (by rw [hi]; decide)]
          have hE : writeE d (atA a) = 3 := by unfold writeE; rw [if_neg (by rw [hd]; decide), if_neg (by rw [hi]; decide)]
          rw [hW, hE]
          exact ⟨PUnit.unit, trivial, ⟨rfl, rfl, rfl, rfl, rfl, rfl, rfl, rfl, trivial, trivial, trivial, trivial, trivial, trivial, trivial, rfl, trivial, trivial, trivial, trivial⟩, ⟨trivial, trivial, rfl, rfl, rfl, rfl⟩, rfl, rfl, rfl, rfl, rfl, rfl, rfl, rfl⟩
        · have hi : inD d (atA a) = true := by simpa using hi
          have hE : writeE d (atA a) = callE d := by unfold writeE; rw [if_neg (by rw [hd]; decide), if_pos hi]
          obtain ⟨q1, q2, q3⟩ := call_eq hGd hd
          rw [q1, q2, q3, hE]
          refine ⟨fun hz => ⟨hdk.2.1, ?_⟩, fun hz => ?_⟩
          · have hW : d.write (atA a) (sectorL a.byte) = { d.call with wait := d.wait ++ [⟨atA a, sectorL a.byte⟩] } := by unfold Dk.write; rw [if_neg (by rw [hd]; decide), if_pos hi, if_pos hz]
            rw [hW]
            exact ⟨PUnit.unit, trivial, ⟨rfl, rfl, rfl, rfl, rfl, rfl, rfl, rfl, trivial, trivial, trivial, trivial, trivial, trivial, trivial, rfl, trivial, trivial, trivial, trivial⟩, ⟨trivial, trivial, rfl, rfl, rfl, rfl⟩, rfl, rfl, rfl, rfl, rfl, rfl, rfl, rfl⟩
          · have hW : d.write (atA a) (sectorL a.byte) = d.call := by unfold Dk.write; rw [if_neg (by rw [hd]; decide), if_pos hi, if_neg (by rw [hz]; decide)]
            rw [hW]
            exact ⟨PUnit.unit, trivial, ⟨rfl, rfl, rfl, rfl, rfl, rfl, rfl, rfl, trivial, trivial, trivial, trivial, trivial, trivial, trivial, rfl, trivial, trivial, trivial, trivial⟩, ⟨trivial, trivial, rfl, rfl, rfl, rfl⟩, rfl, rfl, rfl, rfl, rfl, rfl, rfl, rfl⟩
    · clear hG muRe muRe2 muFl hst
      generalize dAt (sizeN s) (headA xs) (g + 1) = d1 at *
      generalize dAt (sizeN s) (headA xs) g = d at *
      generalize getA (headA xs) g = a at *
      have hwl : d1.wait.length < 9223372036854775808 := by have := hGe.b.2.1; omega
      rw [in_eq hGe (atA a)]
      refine ⟨fun hd => ?_, fun hd => ⟨fun hi => ?_, fun hi => ?_⟩⟩
      · have hE : readE d1 (atA a) = 9 := by unfold readE; rw [if_pos hd]
        have hS : readS d1 (atA a) = zeroS := by unfold readS; rw [if_pos hd]
        rw [hE, hS]
        exact ⟨PUnit.unit, trivial, ⟨rfl, trivial, trivial, trivial, trivial, trivial, trivial, ⟨rfl, trivial, trivial, trivial, trivial⟩, rfl, rfl, rfl, rfl, rfl, rfl, rfl, trivial, rfl, rfl⟩, rfl, rfl, rfl, rfl, rfl, rfl, rfl, rfl, ⟨trivial, trivial, rfl, rfl, rfl, rfl⟩, rfl, rfl⟩
      · have hi : inD d1 (atA a) = false := by simpa using hi
        have hE : readE d1 (atA a) = 3 := by unfold readE; rw [if_neg (by rw [hd]; decide), if_neg (by rw [hi]; decide)]
        have hS : readS d1 (atA a) = zeroS := by unfold readS; rw [if_neg (by rw [hd]; decide), if_neg (by rw [hi]; decide)]
        rw [hE, hS]
        exact ⟨PUnit.unit, trivial, ⟨rfl, trivial, trivial, trivial, trivial, trivial, trivial, ⟨rfl, trivial, trivial, trivial, trivial⟩, rfl, rfl, rfl, rfl, rfl, rfl, rfl, trivial, rfl, rfl⟩, rfl, rfl, rfl, rfl, rfl, rfl, rfl, rfl, ⟨trivial, trivial, rfl, rfl, rfl, rfl⟩, rfl, rfl⟩
      · have hi : inD d1 (atA a) = true := by simpa using hi
        have hE : readE d1 (atA a) = 0 := by unfold readE; rw [if_neg (by rw [hd]; decide), if_pos hi]
        have hS : readS d1 (atA a) = readAt d1 (atA a) d1.wait.length := by unfold readS; rw [if_neg (by rw [hd]; decide), if_pos hi]
        refine ⟨inD_iff.1 hi, rfl, ⟨0, Nat.zero_le _, ⟨rfl, trivial, trivial, trivial, trivial, trivial, trivial, ⟨rfl, trivial, trivial, trivial, trivial⟩, rfl, rfl, rfl, rfl, rfl, rfl, rfl, rfl, rfl, trivial, rfl, trivial, rfl, rfl⟩, rfl, rfl, rfl, rfl, rfl, rfl, rfl, rfl, ⟨trivial, trivial, rfl, rfl, rfl, rfl⟩, rfl, rfl⟩, fun k hk => ⟨fun hlk => ?_, fun hlk => ?_⟩⟩
        · have hlk : (k : Int) < (d1.wait.length : Int) := of_decide_eq_true hlk
          have hmu : (annRd (sizeN s) (headA xs) g).μ (k + 1 : Nat) < (annRd (sizeN s) (headA xs) g).μ k := by rw [muRd, muRd]; omega
          have hw := wrap_next hlk hwl
          refine ⟨⟨by omega, hlk⟩, fun he => ⟨Sec.h _, k + 1, show k + 1 ≤ d1.wait.length by omega, hmu, ⟨rfl, trivial, trivial, trivial, trivial, trivial, trivial, ⟨rfl, trivial, trivial, trivial, trivial⟩, rfl, rfl, rfl, rfl, rfl, rfl, rfl, rfl, rfl, trivial, rfl, trivial, rfl, hw⟩, rfl, rfl, rfl, rfl, rfl, rfl, rfl, ?_, ⟨trivial, trivial, rfl, rfl, rfl, rfl⟩, rfl, rfl⟩, fun he => ⟨k + 1, show k + 1 ≤ d1.wait.length by omega, hmu, ⟨rfl, trivial, trivial, trivial, trivial, trivial, trivial, ⟨rfl, trivial, trivial, trivial, trivial⟩, rfl, rfl, rfl, rfl, rfl, rfl, rfl, rfl, rfl, trivial, rfl, trivial, rfl, hw⟩, rfl, rfl, rfl, rfl, rfl, rfl, rfl, ?_, ⟨trivial, trivial, rfl, rfl, rfl, rfl⟩, rfl, rfl⟩⟩
          · have he : ((getW d1.wait k).at_ == atA a) = true := he
            rw [readAt_next, if_pos he]
            rfl
          · have he : ((getW d1.wait k).at_ == atA a) = false := he
            rw [readAt_next, if_neg (by rw [he]; decide)]
        · have hge : ¬ (k : Int) < (d1.wait.length : Int) := of_decide_eq_false hlk
          obtain rfl : k = d1.wait.length := by have hk : k ≤ d1.wait.length := hk; omega
          exact ⟨PUnit.unit, trivial, ⟨rfl, trivial, trivial, trivial, trivial, trivial, trivial, ⟨rfl, trivial, trivial, trivial, trivial⟩, rfl, rfl, rfl, rfl, rfl, rfl, rfl, trivial, rfl, hE.symm⟩, rfl, rfl, rfl, rfl, rfl, rfl, rfl, congrArg Sec.l hS.symm, ⟨trivial, trivial, rfl, rfl, rfl, rfl⟩, rfl, rfl⟩
    · refine ⟨fun _ => Nat.le_of_eq (Sec.h _).symm, fun _ => Nat.le_of_eq (Sec.h _).symm, fun hb => ?_, fun _ => ⟨g + 1, hlt', show (headA xs).length - (g + 1) < (headA xs).length - g by omega, ⟨rfl, rfl, rfl, wrap_next hlt (by omega), trivial, trivial, trivial, trivial, trivial, trivial, trivial, rfl, trivial, trivial, trivial, trivial⟩, ⟨trivial, trivial, rfl, rfl, rfl, rfl⟩, rfl, rfl, rfl, rfl, rfl, rfl, rfl, rfl⟩⟩
      simp only [put_get, put_self, eqSec_self, hGe.len, bne_self_eq_false, beq_self_eq_true, Bool.not_true, Bool.or_self] at hb
      exact hb
theorem okLScr : FnOk Try.prog u 9 spLScr := by
  refine fn_ok Try.prog u tab4 mo laws4 Try.func9 ?_
  intro xs c y h hc
  unfold spLScr at h
  split at h
  · cases h
    exact ⟨by kernel_rfl, _, _, bodyLScr _ _ hc⟩
  · cases h

end Go.Proofs.Ytmfpgddnapmgfaa.Dsk
