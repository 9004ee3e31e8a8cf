/- Tries: the contracts of the functions. -/
import Derived.Test.YtndacggailoogaaTrieVc
import Derived.Test.YtndacggailoogaaTrieLem
namespace Go.Proofs.Ytndacggailoogaa.Tri
open Go Go.Proofs.Ytndacggailoogaa.Sx

theorem dec_sound (e : E A) (T : Nat) (l : List (SV A)) (vs : List Value) (x : A T) (h : dec T l = some x) (hr : RepL Try.prog u e l vs) : RepL Try.prog u e (enc T x) vs := by
  unfold dec at h
  split at h <;> first | (cases h; exact hr) | cases h
theorem dec_len {T : Nat} {l : List (SV A)} {x : A T} (h : dec T l = some x) : l.length = Try.prog.cellsOf T := by
  unfold dec at h
  split at h <;> first | (cases h; kernel_rfl) | cases h
theorem law : Law Try.prog u := by
  refine ⟨fun e T l vs x h hr => dec_sound e T l vs x h hr, fun T l x h => dec_len h, ?_, ?_, ?_, ?_, fun T off t f h => (by cases h), fun T off S p h => (by cases h), fun t S h => (by cases h), fun t ps x h => (by cases h), fun T x h => (by cases h)⟩
  · intro T f x y h
    cases h
  · intro T x
    show (enc T x).all _ = true
    unfold enc
    split <;> rfl
  · intro T xs h
    cases h
  · intro T xs h
    cases h
theorem clean : ∀ (T : Nat) (x : A T), noOwn.go (u.enc T x) = true := by
  intro T x
  show noOwn.go (enc T x) = true
  unfold enc
  split <;> rfl
theorem mo : Try.prog.follows .mixedOrders = true := by kernel_rfl
theorem laws0 : Laws Try.prog u tab0 := { toLaw := law, clean := clean, tab := fun p hp => by cases hp }
theorem bodyMask (bits : Int) (h : 0 ≤ bits ∧ bits ≤ 32) : BodyOk Try.prog u tab0 [] [] Try.f31 [.int .i64 bits] (.int .u32 (maskA bits)) := by
  constructor
  have eqn : bodyW Try.prog u tab0 [] (drawW Try.prog u tab0) (loopsBy u []) Try.f31 [.int .i64 bits] (.int .u32 (maskA bits)) = vcMask bits := by kernel_rfl
  rw [eqn]
  exact ⟨show 0 ≤ IntKind.i64.wrap (32 - bits) by rw [wrap_i64_id (by omega)]; omega, rfl⟩
theorem okMask : FnOk Try.prog u 31 spMask := by
  refine fn_ok Try.prog u tab0 mo laws0 Try.func31 ?_
  intro xs c y h hc
  unfold spMask at h
  split at h
  · cases h
    exact ⟨by kernel_rfl, _, _, bodyMask _ hc⟩
  · cases h
theorem bodyBit (a k : Int) (h : 0 ≤ k ∧ k ≤ 31) : BodyOk Try.prog u tab0 [] [] Try.f27 [.int .u32 a, .int .i64 k] (.int .i64 (bitI a k)) := by
  constructor
  have eqn : bodyW Try.prog u tab0 [] (drawW Try.prog u tab0) (loopsBy u []) Try.f27 [.int .u32 a, .int .i64 k] (.int .i64 (bitI a k)) = vcBit a k := by kernel_rfl
  rw [eqn]
  exact ⟨by rw [wrap_i64_id (by omega)]; omega, rfl⟩
theorem okBit : FnOk Try.prog u 27 spBit := by
  refine fn_ok Try.prog u tab0 mo laws0 Try.func27 ?_
  intro xs c y h hc
  unfold spBit at h
  split at h
  · cases h
    exact ⟨by kernel_rfl, _, _, bodyBit _ _ hc⟩
  · cases h
theorem bodyLen (n : Int) (ns : List Nd) : BodyOkH Try.prog u tab0 [] [] Try.f16 [.np 0 (.nd (some 0)) 0] [.ar n ns] (.int .i64 n) [.ar n ns] := by
  constructor
  have eqn : bodyH Try.prog u tab0 [] (drawW Try.prog u tab0) (loopsBy u []) Try.f16 [.np 0 (.nd (some 0)) 0] [.ar n ns] (.int .i64 n) [.ar n ns] = vcLen n ns := by kernel_rfl
  rw [eqn]
  exact ⟨rfl, rfl, ⟨rfl, rfl⟩, Nat.le_refl _, trivial⟩
theorem okLen : FnOkH Try.prog u 16 (lookH spLen) := by
  refine fn_okH Try.prog u tab0 mo laws0 Try.func16 ?_
  intro xs os c y os2 h hc
  unfold lookH at h
  split at h
  case h_2 => cases h
  rename_i c' y' h'
  cases h
  unfold spLen at h'
  split at h'
  · cases h'
    exact ⟨_, _, bodyLen _ _⟩
  · cases h'
theorem bodyBlock (a n : Int) (h : 0 ≤ n) : BodyOk Try.prog u tab0 [] [] Try.f9 [.int .u32 a, .int .u8 n] (.agg [.int .u32 (baseL a (bitsL n)), .int .i64 (bitsL n)]) := by
  constructor
  have eqn : bodyW Try.prog u tab0 [] (drawW Try.prog u tab0) (loopsBy u []) Try.f9 [.int .u32 a, .int .u8 n] (.agg [.int .u32 (baseL a (bitsL n)), .int .i64 (bitsL n)]) = vcBlock a n := by kernel_rfl
  rw [eqn]
  have hb := bitsL_rng h
  exact ⟨by decide, by show 0 ≤ IntKind.i64.wrap (32 - bitsL n); rw [wrap_i64_id (by omega)]; omega, by show 0 ≤ IntKind.i64.wrap (32 - bitsL n); rw [wrap_i64_id (by omega)]; omega, rfl, rfl⟩
theorem okBlock : FnOk Try.prog u 9 spBlock := by
  refine fn_ok Try.prog u tab0 mo laws0 Try.func9 ?_
  intro xs c y h hc
  unfold spBlock at h
  split at h
  · cases h
    exact ⟨by kernel_rfl, _, _, bodyBlock _ _ hc⟩
  · cases h
theorem bodyAhead (x1 x2 y1 y2 : Int) : BodyOk Try.prog u tab0 [] [] Try.f24 [.agg [.int .u32 x1, .int .i64 x2], .agg [.int .u32 y1, .int .i64 y2]] (.bool (aheadA x1 x2 y1 y2)) := by
  constructor
  have eqn : bodyW Try.prog u tab0 [] (drawW Try.prog u tab0) (loopsBy u []) Try.f24 [.agg [.int .u32 x1, .int .i64 x2], .agg [.int .u32 y1, .int .i64 y2]] (.bool (aheadA x1 x2 y1 y2)) = vcAhead x1 x2 y1 y2 := by kernel_rfl
  rw [eqn]
  rfl
theorem okAhead : FnOk Try.prog u 24 spAhead := by
  refine fn_ok Try.prog u tab0 mo laws0 Try.func24 ?_
  intro xs c y h hc
  unfold spAhead at h
  split at h
  · cases h
    exact ⟨by kernel_rfl, _, _, bodyAhead _ _ _ _⟩
  · cases h
theorem bodyEmpty (n : Int) (ns : List Nd) (j : Nat) : BodyOkH Try.prog u tab0 [] [] Try.f26 [.np 0 (.nd (some j)) 0] [.ar n ns] (.bool (emptyN (getN ns j))) [.ar n ns] := by
  constructor
  have eqn : bodyH Try.prog u tab0 [] (drawW Try.prog u tab0) (loopsBy u []) Try.f26 [.np 0 (.nd (some j)) 0] [.ar n ns] (.bool (emptyN (getN ns j))) [.ar n ns] = vcEmpty n ns j := by kernel_rfl
  rw [eqn]
  exact ⟨rfl, fun _ => rfl, fun _ => by decide, fun _ => by decide, fun _ => rfl, fun _ => by decide, fun _ => by decide, rfl, ⟨rfl, rfl⟩, Nat.le_refl _, trivial⟩
theorem okEmpty : FnOkH Try.prog u 26 (lookH spEmpty) := by
  refine fn_okH Try.prog u tab0 mo laws0 Try.func26 ?_
  intro xs os c y os2 h hc
  unfold lookH at h
  split at h
  case h_2 => cases h
  rename_i c' y' h'
  cases h
  unfold spEmpty at h'
  split at h'
  · cases h'
    exact ⟨_, _, bodyEmpty _ _ _⟩
  · cases h'
theorem laws1 : Laws Try.prog u tab1 := by
  refine ⟨law, clean, fun p hp => ?_⟩
  rcases List.mem_cons.1 hp with rfl | hp
  · exact okMask
  rcases List.mem_cons.1 hp with rfl | hp
  · exact okBit
  rcases List.mem_cons.1 hp with rfl | hp
  · exact okLen
  rcases List.mem_cons.1 hp with rfl | hp
  · exact okBlock
  rcases List.mem_cons.1 hp with rfl | hp
  · exact okAhead
  rcases List.mem_cons.1 hp with rfl | hp
  · exact okEmpty
  exact laws0.tab p hp
theorem bodyRight (base bits : Int) : BodyOk Try.prog u tab1 [] [] Try.f23 [.agg [.int .u32 base, .int .i64 bits]] (.bool (rightA base bits)) := by
  constructor
  have eqn : bodyW Try.prog u tab1 [] (drawW Try.prog u tab1) (loopsBy u []) Try.f23 [.agg [.int .u32 base, .int .i64 bits]] (.bool (rightA base bits)) = vcRight base bits := by kernel_rfl
  rw [eqn]
  refine ⟨fun hb => ?_, rfl⟩
  simp only [Bool.and_eq_true, decide_eq_true_eq] at hb
  omega
theorem okRight : FnOk Try.prog u 23 spRight := by
  refine fn_ok Try.prog u tab1 mo laws1 Try.func23 ?_
  intro xs c y h hc
  unfold spRight at h
  split at h
  · cases h
    exact ⟨by kernel_rfl, _, _, bodyRight _ _⟩
  · cases h
theorem bodyMake (a bits : Int) : BodyOk Try.prog u tab1 [] [] Try.f30 [.int .u32 a, .int .i64 bits] (.tup [.agg [.int .u32 (if makeB bits = true then makeA a bits else 0), .int .i64 (if makeB bits = true then bits else 0)], .bool (makeB bits)]) := by
  constructor
  have eqn : bodyW Try.prog u tab1 [] (drawW Try.prog u tab1) (loopsBy u []) Try.f30 [.int .u32 a, .int .i64 bits] (.tup [.agg [.int .u32 (if makeB bits = true then makeA a bits else 0), .int .i64 (if makeB bits = true then bits else 0)], .bool (makeB bits)]) = vcMake a bits := by kernel_rfl
  rw [eqn]
  refine ⟨fun hb => ?_, fun hb => ?_⟩
  · have hh : makeB bits = false := by unfold makeB; rw [hb]; rfl
    rw [hh]
    exact ⟨⟨rfl, rfl⟩, rfl⟩
  · have hh : makeB bits = true := by unfold makeB; rw [hb]; rfl
    rw [hh]
    simp only [Bool.or_eq_false_iff, decide_eq_false_iff_not] at hb
    exact ⟨⟨by omega, by omega⟩, ⟨rfl, rfl⟩, rfl⟩
theorem okMake : FnOk Try.prog u 30 spMake := by
  refine fn_ok Try.prog u tab1 mo laws1 Try.func30 ?_
  intro xs c y h hc
  unfold spMake at h
  split at h
  · cases h
    exact ⟨by kernel_rfl, _, _, bodyMake _ _⟩
  · cases h
theorem bodyActB (o a b : Int) (r : Bool) (n m : Int) (h : 0 ≤ b) : BodyOk Try.prog u tab1 [] [] Try.f14 [.agg [.int .u8 o, .int .u32 a, .int .u8 b, .bool r, .int .u32 n, .int .i64 m]] (.agg (actB ⟨o, a, b, r, ⟨n, m⟩⟩).cells) := by
  constructor
  have eqn : bodyW Try.prog u tab1 [] (drawW Try.prog u tab1) (loopsBy u []) Try.f14 [.agg [.int .u8 o, .int .u32 a, .int .u8 b, .bool r, .int .u32 n, .int .i64 m]] (.agg (actB ⟨o, a, b, r, ⟨n, m⟩⟩).cells) = vcActB o a b r n m := by kernel_rfl
  rw [eqn]
  refine ⟨fun hr => ?_, fun hr => ?_⟩
  · subst hr; exact ⟨rfl, rfl⟩
  · subst hr; exact ⟨by decide, h, rfl, rfl⟩
theorem okActB : FnOk Try.prog u 14 spActB := by
  refine fn_ok Try.prog u tab1 mo laws1 Try.func14 ?_
  intro xs c y h hc
  unfold spActB at h
  split at h
  · cases h
    exact ⟨by kernel_rfl, _, _, bodyActB _ _ _ _ _ _ hc⟩
  · cases h
theorem bodyWalk (n : Int) (ns : List Nd) (base bits : Int) (h : bits ≤ 32) : BodyOkH Try.prog u tab1 [] [(0, .inv (annWalk n ns base bits))] Try.f25 [.np 0 (.nd (some 0)) 0, .agg [.int .u32 base, .int .i64 bits]] [.ar n ns] (.np 1 .row 0) [.ar n ns, .prow 0 (walkN ns 0 (pathB base bits))] := by
  constructor
  have eqn : bodyH Try.prog u tab1 [] (drawW Try.prog u tab1) (loopsBy u [(0, .inv (annWalk n ns base bits))]) Try.f25 [.np 0 (.nd (some 0)) 0, .agg [.int .u32 base, .int .i64 bits]] [.ar n ns] (.np 1 .row 0) [.ar n ns, .prow 0 (walkN ns 0 (pathB base bits))] = vcWalk n ns base bits := by kernel_rfl
  rw [eqn]
  unfold vcWalk
  refine ⟨rfl, rfl, ⟨(0, some 0, [0]), (⟨by show ((0 : Nat) : Int) ≤ _; omega, fun j hj => (by cases hj; exact ⟨[], rfl, rfl⟩), fun hn => (by cases hn)⟩ : walkI ns base bits 0 (some 0) [0]), ⟨trivial, rfl, trivial, rfl⟩, ⟨rfl, rfl⟩, ⟨rfl, rfl⟩, rfl⟩, fun g hg => ?_⟩
  obtain ⟨k, x, w⟩ := g
  have hg : walkI ns base bits k x w := hg
  refine ⟨fun hc => ?_, fun hc => ⟨trivial, ⟨⟨rfl, rfl⟩, walk_end hg hc⟩, Nat.le_refl _, trivial⟩⟩
  simp only [Bool.and_eq_true, decide_eq_true_eq] at hc
  obtain ⟨hk, hx⟩ := hc
  cases x with
  | none => cases hx
  | some j =>
    obtain ⟨h1, hq, _⟩ := hg
    obtain ⟨js, h2, h3⟩ := hq j rfl
    obtain ⟨s1, s2, s3⟩ := walk_step hk h2 h3
    have hb := bit_rng base k
    have hk : (k : Int) < bits := hk
    have hw : IntKind.i64.wrap ((k : Int) + 1) = ((k + 1 : Nat) : Int) := by rw [wrap_i64_id (by omega)]; omega
    have hmu : bits.toNat - (k + 1) < bits.toNat - k := by omega
    have h1' : (0 : Int) ≤ (k : Int) ∧ (k : Int) ≤ 31 := ⟨by omega, by omega⟩
    have hsz : (w.length + 1) * 8 ≤ 140737488355328 := by omega
    exact ⟨h1', rfl, hb, bit_nat _ _, fun hs => ⟨hs, hsz, (k + 1, _, _), s2 hs, hmu, ⟨trivial, rfl, trivial, hw⟩, ⟨rfl, rfl⟩, ⟨rfl, rfl⟩, rfl⟩, fun hs => ⟨(k + 1, _, _), s3 hs, hmu, ⟨trivial, rfl, trivial, hw⟩, ⟨rfl, rfl⟩, ⟨rfl, rfl⟩, rfl⟩⟩
theorem okWalk : FnOkH Try.prog u 25 spWalk := by
  refine fn_okH Try.prog u tab1 mo laws1 Try.func25 ?_
  intro xs os c y os2 h hc
  unfold spWalk at h
  split at h
  · cases h
    exact ⟨_, _, bodyWalk _ _ _ _ hc⟩
  · cases h
theorem laws2 : Laws Try.prog u tab2 := by
  refine ⟨law, clean, fun p hp => ?_⟩
  rcases List.mem_cons.1 hp with rfl | hp
  · exact okRight
  rcases List.mem_cons.1 hp with rfl | hp
  · exact okMake
  rcases List.mem_cons.1 hp with rfl | hp
  · exact okActB
  rcases List.mem_cons.1 hp with rfl | hp
  · exact okWalk
  exact laws1.tab p hp
theorem bodyHasA (base bits a : Int) : BodyOk Try.prog u tab2 [] [] Try.f21 [.agg [.int .u32 base, .int .i64 bits], .int .u32 a] (.bool (hasA base bits a)) := by
  constructor
  have eqn : bodyW Try.prog u tab2 [] (drawW Try.prog u tab2) (loopsBy u []) Try.f21 [.agg [.int .u32 base, .int .i64 bits], .int .u32 a] (.bool (hasA base bits a)) = vcHasA base bits a := by kernel_rfl
  rw [eqn]
  exact ⟨fun hb => right_rng hb, rfl⟩
theorem okHasA : FnOk Try.prog u 21 spHasA := by
  refine fn_ok Try.prog u tab2 mo laws2 Try.func21 ?_
  intro xs c y h hc
  unfold spHasA at h
  split at h
  · cases h
    exact ⟨by kernel_rfl, _, _, bodyHasA _ _ _⟩
  · cases h
theorem bodySize (base bits : Int) : BodyOk Try.prog u tab2 [] [] Try.f19 [.agg [.int .u32 base, .int .i64 bits]] (.int .i64 (sizeA base bits)) := by
  constructor
  have eqn : bodyW Try.prog u tab2 [] (drawW Try.prog u tab2) (loopsBy u []) Try.f19 [.agg [.int .u32 base, .int .i64 bits]] (.int .i64 (sizeA base bits)) = vcSize base bits := by kernel_rfl
  rw [eqn]
  unfold vcSize sizeA
  refine ⟨fun hb => by rw [if_pos hb], fun hb => ⟨?_, by rw [if_neg (by rw [hb]; simp)]⟩⟩
  have hr := right_rng' hb
  rw [wrap_i64_id (by omega)]
  omega
theorem okSize : FnOk Try.prog u 19 spSize := by
  refine fn_ok Try.prog u tab2 mo laws2 Try.func19 ?_
  intro xs c y h hc
  unfold spSize at h
  split at h
  · cases h
    exact ⟨by kernel_rfl, _, _, bodySize _ _⟩
  · cases h
theorem bodyHalves (base bits : Int) : BodyOk Try.prog u tab2 [] [] Try.f17 [.agg [.int .u32 base, .int .i64 bits]] (.tup [.agg [.int .u32 (if halfB base bits = true then base else 0), .int .i64 (if halfB base bits = true then halfN bits else 0)], .agg [.int .u32 (if halfB base bits = true then highA base bits else 0), .int .i64 (if halfB base bits = true then halfN bits else 0)], .bool (halfB base bits)]) := by
  constructor
  have eqn : bodyW Try.prog u tab2 [] (drawW Try.prog u tab2) (loopsBy u []) Try.f17 [.agg [.int .u32 base, .int .i64 bits]] (.tup [.agg [.int .u32 (if halfB base bits = true then base else 0), .int .i64 (if halfB base bits = true then halfN bits else 0)], .agg [.int .u32 (if halfB base bits = true then highA base bits else 0), .int .i64 (if halfB base bits = true then halfN bits else 0)], .bool (halfB base bits)]) = vcHalves base bits := by kernel_rfl
  rw [eqn]
  unfold vcHalves
  refine ⟨fun hb => ?_, fun hb => ?_⟩
  · have hh : halfB base bits = false := by unfold halfB; rw [hb]; rfl
    rw [hh]
    exact ⟨⟨rfl, rfl⟩, ⟨rfl, rfl⟩, rfl⟩
  · have hh : halfB base bits = true := by unfold halfB; rw [hb]; rfl
    rw [hh]
    simp only [Bool.or_eq_false_iff, beq_eq_false_iff_ne] at hb
    have hr := right_rng' hb.1
    refine ⟨?_, ⟨rfl, rfl⟩, ⟨rfl, rfl⟩, rfl⟩
    rw [wrap_i64_id (n := bits + 1) (by omega), wrap_i64_id (by omega)]
    omega
theorem okHalves : FnOk Try.prog u 17 spHalves := by
  refine fn_ok Try.prog u tab2 mo laws2 Try.func17 ?_
  intro xs c y h hc
  unfold spHalves at h
  split at h
  · cases h
    exact ⟨by kernel_rfl, _, _, bodyHalves _ _⟩
  · cases h
theorem bodyPut (n : Int) (ns : List Nd) (base bits : Int) (h : WfN ns) : BodyOkH Try.prog u tab2 [] [(0, .inv (annPut n ns base bits))] Try.f11 [.np 0 (.nd (some 0)) 0, .agg [.int .u32 base, .int .i64 bits]] [.ar n ns] (.int .i64 (putE ns base bits)) [.ar (putM n ns base bits).1 (putM n ns base bits).2] := by
  constructor
  have eqn : bodyH Try.prog u tab2 [] (drawW Try.prog u tab2) (loopsBy u [(0, .inv (annPut n ns base bits))]) Try.f11 [.np 0 (.nd (some 0)) 0, .agg [.int .u32 base, .int .i64 bits]] [.ar n ns] (.int .i64 (putE ns base bits)) [.ar (putM n ns base bits).1 (putM n ns base bits).2] = vcPut n ns base bits := by kernel_rfl
  rw [eqn]
  unfold vcPut
  refine ⟨fun hb => ?_, fun hb => ⟨rfl, ⟨(0, ns, 0), ⟨(right_rng' hb).1, rfl, Nat.le_refl _, h.1, h⟩, ⟨rfl, trivial, rfl, rfl, rfl⟩, ⟨rfl, rfl⟩, rfl, rfl⟩, fun g hg => ?_⟩⟩
  · unfold putE putM
    rw [if_pos hb, if_pos hb]
    exact ⟨rfl, ⟨rfl, rfl⟩, Nat.le_refl _, trivial⟩
  · obtain ⟨k, ns', j⟩ := g
    have hg : putI ns base bits k ns' j := hg
    have hr := right_rng' hb
    have hbt := bit_rng base k
    refine ⟨fun hlt => ?_, fun hge => ?_⟩
    · have hlt : (k : Int) < bits := of_decide_eq_true hlt
      obtain ⟨s1, s2⟩ := put_step hlt hg
      have hw : IntKind.i64.wrap ((k : Int) + 1) = ((k + 1 : Nat) : Int) := by rw [wrap_i64_id (by omega)]; omega
      have hmu : bits.toNat - (k + 1) < bits.toNat - k := by omega
      have h1' : (0 : Int) ≤ (k : Int) ∧ (k : Int) ≤ 31 := ⟨by omega, by omega⟩
      refine ⟨h1', rfl, hbt, rfl, bit_nat _ _, fun hn => ?_, fun hn => ?_⟩
      · obtain ⟨s3, s4⟩ := s2 hn
        exact ⟨hg.2.2.2.2.1, rfl, bit_nat _ _, rfl, bit_nat _ _, (k + 1, addN ns' j (bitI base k).toNat, ns'.length), s3, hmu, ⟨rfl, trivial, rfl, s4, hw⟩, ⟨rfl, rfl⟩, rfl, rfl⟩
      · obtain ⟨i, hi⟩ : ∃ i, kidN (ns'.getD j nd0) (bitI base k).toNat = some i := by
          have hn : (kidN (ns'.getD j nd0) (bitI base k).toNat).isNone = false := hn
          cases hq : kidN (ns'.getD j nd0) (bitI base k).toNat with
          | none => rw [hq] at hn; cases hn
          | some i => exact ⟨i, rfl⟩
        exact ⟨rfl, bit_nat _ _, (k + 1, ns', i), s1 i hi, hmu, ⟨rfl, trivial, rfl, hi, hw⟩, ⟨rfl, rfl⟩, rfl, rfl⟩
    · have hge : ¬ (k : Int) < bits := of_decide_eq_false hge
      obtain ⟨g1, g2, g3, g4, g5⟩ := hg
      rw [show bits.toNat - k = 0 by omega, pathA, mkN] at g2
      obtain ⟨p1, p2⟩ := put_end (n := n) hb g2
      have hl := put_len n ns base bits
      refine ⟨rfl, fun hi => ?_, fun hi => ?_⟩
      · obtain ⟨e1, e2⟩ := p1 hi
        rw [e2] at hl ⊢
        exact ⟨e1.symm, ⟨rfl, rfl⟩, hl, trivial⟩
      · obtain ⟨e1, e2⟩ := p2 hi
        rw [e2] at hl ⊢
        exact ⟨rfl, rfl, rfl, e1.symm, ⟨rfl, set_getN _ 0⟩, hl, trivial⟩
theorem okPut : FnOkH Try.prog u 11 spPut := by
  refine fn_okH Try.prog u tab2 mo laws2 Try.func11 ?_
  intro xs os c y os2 h hc
  unfold spPut at h
  split at h
  · cases h
    exact ⟨_, _, bodyPut _ _ _ _ hc⟩
  · cases h
theorem bodyHas (n : Int) (ns : List Nd) (base bits : Int) : BodyOkH Try.prog u tab2 [] [] Try.f13 [.np 0 (.nd (some 0)) 0, .agg [.int .u32 base, .int .i64 bits]] [.ar n ns] (.bool (hasM ns base bits)) [.ar n ns] := by
  constructor
  have eqn : bodyH Try.prog u tab2 [] (drawW Try.prog u tab2) (loopsBy u []) Try.f13 [.np 0 (.nd (some 0)) 0, .agg [.int .u32 base, .int .i64 bits]] [.ar n ns] (.bool (hasM ns base bits)) [.ar n ns] = vcHas n ns base bits := by kernel_rfl
  rw [eqn]
  unfold vcHas
  refine ⟨fun hb => ⟨?_, ⟨rfl, rfl⟩, Nat.le_refl _, trivial⟩, fun hb => ⟨(right_rng' hb).2, fun hl => len_bits hb hl, fun _ => rfl, ?_, ⟨rfl, rfl⟩, Nat.le_refl _, trivial⟩⟩
  · unfold hasM; rw [show rightA base bits = false by simpa using hb]; rfl
  · unfold hasM; rw [show rightA base bits = true by simpa using hb]; rfl
theorem okHas : FnOkH Try.prog u 13 (lookH spHas) := by
  refine fn_okH Try.prog u tab2 mo laws2 Try.func13 ?_
  intro xs os c y os2 h hc
  unfold lookH at h
  split at h
  case h_2 => cases h
  rename_i c' y' h'
  cases h
  unfold spHas at h'
  split at h'
  · cases h'
    exact ⟨_, _, bodyHas _ _ _ _⟩
  · cases h'
theorem bodyLongest (n : Int) (ns : List Nd) (a : Int) : BodyOkH Try.prog u tab2 [] [(0, .inv (annLon n ns a))] Try.f20 [.np 0 (.nd (some 0)) 0, .int .u32 a] [.ar n ns] (.tup [.agg (lonM ns a).cells, .bool (lonB ns a && makeB (lonK ns a))]) [.ar n ns] := by
  constructor
  have eqn : bodyH Try.prog u tab2 [] (drawW Try.prog u tab2) (loopsBy u [(0, .inv (annLon n ns a))]) Try.f20 [.np 0 (.nd (some 0)) 0, .int .u32 a] [.ar n ns] (.tup [.agg (lonM ns a).cells, .bool (lonB ns a && makeB (lonK ns a))]) [.ar n ns] = vcLongest n ns a := by kernel_rfl
  rw [eqn]
  unfold vcLongest
  have hl := walk_len ns (pathB a 32) 0
  rw [pathB_len] at hl
  refine ⟨Int.le_refl _, ⟨0, Nat.zero_le _, ⟨rfl, trivial, trivial, rfl, rfl, rfl, rfl⟩, ⟨rfl, rfl⟩, ⟨rfl, rfl⟩, rfl⟩, fun g hg => ⟨fun hlt => ?_, fun hge => ?_⟩⟩
  · have hlt : (g : Int) < ((walkN ns 0 (pathB a 32)).length : Int) := of_decide_eq_true hlt
    have hlt' : g + 1 ≤ (walkN ns 0 (pathB a 32)).length := by omega
    have hl' : (walkN ns 0 (pathB a 32)).length ≤ 33 := hl
    have hw : IntKind.i64.wrap ((g : Int) + 1) = ((g + 1 : Nat) : Int) := by rw [wrap_i64_id (by omega)]; omega
    have hmu : (walkN ns 0 (pathB a 32)).length - (g + 1) < (walkN ns 0 (pathB a 32)).length - g := by omega
    refine ⟨⟨by omega, hlt⟩, rfl, fun _ => trivial, fun _ => trivial, fun v hv v1 hv1 => ⟨g + 1, hlt', hmu, ⟨rfl, trivial, trivial, rfl, ?_, ?_, hw⟩, ⟨rfl, rfl⟩, ⟨rfl, rfl⟩, rfl⟩⟩
    · rw [lon_step]
      have hv : v = if (getN ns ((walkN ns 0 (pathB a 32)).getD g 0)).is = true then (g : Int) else (lonN ns (walkN ns 0 (pathB a 32)) g).1 := hv
      rw [hv]
      split <;> rfl
    · rw [lon_step]
      have hv1 : v1 = if (getN ns ((walkN ns 0 (pathB a 32)).getD g 0)).is = true then true else (lonN ns (walkN ns 0 (pathB a 32)) g).2 := hv1
      rw [hv1]
      split <;> rfl
  · have hge : ¬ (g : Int) < ((walkN ns 0 (pathB a 32)).length : Int) := of_decide_eq_false hge
    have hg : g ≤ (walkN ns 0 (pathB a 32)).length := hg
    have he : g = (walkN ns 0 (pathB a 32)).length := by omega
    subst he
    have e1 : (lonN ns (walkN ns 0 (pathB a 32)) (walkN ns 0 (pathB a 32)).length).2 = lonB ns a := rfl
    have e2 : (lonN ns (walkN ns 0 (pathB a 32)) (walkN ns 0 (pathB a 32)).length).1 = lonK ns a := rfl
    rw [e1, e2]
    refine ⟨fun hb => ?_, fun hb => ?_⟩
    · have hb' : lonB ns a = false := by simpa using hb
      unfold lonM
      rw [hb']
      exact ⟨⟨⟨rfl, rfl⟩, rfl⟩, ⟨rfl, rfl⟩, Nat.le_refl _, trivial⟩
    · have hb' : lonB ns a = true := by simpa using hb
      unfold lonM
      rw [hb']
      cases makeB (lonK ns a) <;> exact ⟨⟨⟨rfl, rfl⟩, rfl⟩, ⟨rfl, rfl⟩, Nat.le_refl _, trivial⟩
theorem okLongest : FnOkH Try.prog u 20 (lookH spLongest) := by
  refine fn_okH Try.prog u tab2 mo laws2 Try.func20 ?_
  intro xs os c y os2 h hc
  unfold lookH at h
  split at h
  case h_2 => cases h
  rename_i c' y' h'
  cases h
  unfold spLongest at h'
  split at h'
  · cases h'
    exact ⟨_, _, bodyLongest _ _ _⟩
  · cases h'
theorem bodyOverlaps (n : Int) (ns : List Nd) (base bits : Int) : BodyOkH Try.prog u tab2 [] [(0, .inv (annOver ns (walkN ns 0 (pathB base bits))))] Try.f10 [.np 0 (.nd (some 0)) 0, .agg [.int .u32 base, .int .i64 bits]] [.ar n ns] (.bool (overM ns base bits)) [.ar n ns] := by
  constructor
  have eqn : bodyH Try.prog u tab2 [] (drawW Try.prog u tab2) (loopsBy u [(0, .inv (annOver ns (walkN ns 0 (pathB base bits))))]) Try.f10 [.np 0 (.nd (some 0)) 0, .agg [.int .u32 base, .int .i64 bits]] [.ar n ns] (.bool (overM ns base bits)) [.ar n ns] = vcOverlaps n ns base bits := by kernel_rfl
  rw [eqn]
  unfold vcOverlaps
  have hl := walk_len ns (pathB base bits) 0
  rw [pathB_len] at hl
  refine ⟨fun hb => ⟨?_, ⟨rfl, rfl⟩, Nat.le_refl _, trivial⟩, fun hb => ⟨(right_rng' hb).2, ⟨0, ⟨Nat.zero_le _, fun i hi => absurd hi (Nat.not_lt_zero _)⟩, ⟨trivial, trivial, trivial, rfl, rfl⟩, ⟨rfl, rfl⟩, ⟨rfl, rfl⟩, rfl⟩, fun g hg => ⟨fun hlt => ?_, fun hge => ?_⟩⟩⟩
  · unfold overM; rw [show rightA base bits = false by simpa using hb]; rfl
  · have hr := right_rng' hb
    have hlt : (g : Int) < ((walkN ns 0 (pathB base bits)).length : Int) := of_decide_eq_true hlt
    have hlt' : g < (walkN ns 0 (pathB base bits)).length := by omega
    have hw : IntKind.i64.wrap ((g : Int) + 1) = ((g + 1 : Nat) : Int) := by rw [wrap_i64_id (by omega)]; omega
    have hmu : (walkN ns 0 (pathB base bits)).length - (g + 1) < (walkN ns 0 (pathB base bits)).length - g := by omega
    refine ⟨⟨by omega, hlt⟩, rfl, fun hi => ⟨?_, ⟨rfl, rfl⟩, Nat.le_refl _, trivial⟩, fun hi => ⟨g + 1, ⟨hlt', fun i hi2 => ?_⟩, hmu, ⟨trivial, trivial, trivial, rfl, hw⟩, ⟨rfl, rfl⟩, ⟨rfl, rfl⟩, rfl⟩⟩
    · exact (over_yes (by simpa using hb) hlt' hi).symm
    · rcases Nat.lt_or_ge i g with h1 | h1
      · exact hg.2 i h1
      · have : i = g := by omega
        subst this
        exact hi
  · have hge : ¬ (g : Int) < ((walkN ns 0 (pathB base bits)).length : Int) := of_decide_eq_false hge
    refine ⟨fun hl => len_bits hb hl, (over_no (by simpa using hb) (fun i hi => hg.2 i (by omega))).symm, ⟨rfl, rfl⟩, Nat.le_refl _, trivial⟩
theorem okOverlaps : FnOkH Try.prog u 10 (lookH spOverlaps) := by
  refine fn_okH Try.prog u tab2 mo laws2 Try.func10 ?_
  intro xs os c y os2 h hc
  unfold lookH at h
  split at h
  case h_2 => cases h
  rename_i c' y' h'
  cases h
  unfold spOverlaps at h'
  split at h'
  · cases h'
    exact ⟨_, _, bodyOverlaps _ _ _ _⟩
  · cases h'
theorem laws3 : Laws Try.prog u tab3 := by
  refine ⟨law, clean, fun p hp => ?_⟩
  rcases List.mem_cons.1 hp with rfl | hp
  · exact okHasA
  rcases List.mem_cons.1 hp with rfl | hp
  · exact okSize
  rcases List.mem_cons.1 hp with rfl | hp
  · exact okHalves
  rcases List.mem_cons.1 hp with rfl | hp
  · exact okPut
  rcases List.mem_cons.1 hp with rfl | hp
  · exact okHas
  rcases List.mem_cons.1 hp with rfl | hp
  · exact okLongest
  rcases List.mem_cons.1 hp with rfl | hp
  · exact okOverlaps
  exact laws2.tab p hp
theorem bodyAt (base bits k : Int) : BodyOk Try.prog u tab3 [] [] Try.f18 [.agg [.int .u32 base, .int .i64 bits], .int .i64 k] (.tup [.int .u32 (if atB base bits k = true then atA base k else 0), .bool (atB base bits k)]) := by
  constructor
  have eqn : bodyW Try.prog u tab3 [] (drawW Try.prog u tab3) (loopsBy u []) Try.f18 [.agg [.int .u32 base, .int .i64 bits], .int .i64 k] (.tup [.int .u32 (if atB base bits k = true then atA base k else 0), .bool (atB base bits k)]) = vcAt base bits k := by kernel_rfl
  rw [eqn]
  unfold vcAt
  refine ⟨fun hb => ?_, fun hb => ?_⟩
  · have hh : atB base bits k = false := by unfold atB; rw [hb]; rfl
    rw [hh]
    exact ⟨rfl, rfl⟩
  · have hh : atB base bits k = true := by unfold atB; rw [hb]; rfl
    rw [hh]
    exact ⟨rfl, rfl⟩
theorem okAt : FnOk Try.prog u 18 spAt := by
  refine fn_ok Try.prog u tab3 mo laws3 Try.func18 ?_
  intro xs c y h hc
  unfold spAt at h
  split at h
  · cases h
    exact ⟨by kernel_rfl, _, _, bodyAt _ _ _⟩
  · cases h
theorem bodyWithin (x1 x2 y1 y2 : Int) : BodyOk Try.prog u tab3 [] [] Try.f28 [.agg [.int .u32 x1, .int .i64 x2], .agg [.int .u32 y1, .int .i64 y2]] (.bool (withinA x1 x2 y1 y2)) := by
  constructor
  have eqn : bodyW Try.prog u tab3 [] (drawW Try.prog u tab3) (loopsBy u []) Try.f28 [.agg [.int .u32 x1, .int .i64 x2], .agg [.int .u32 y1, .int .i64 y2]] (.bool (withinA x1 x2 y1 y2)) = vcWithin x1 x2 y1 y2 := by kernel_rfl
  rw [eqn]
  rfl
theorem okWithin : FnOk Try.prog u 28 spWithin := by
  refine fn_ok Try.prog u tab3 mo laws3 Try.func28 ?_
  intro xs c y h hc
  unfold spWithin at h
  split at h
  · cases h
    exact ⟨by kernel_rfl, _, _, bodyWithin _ _ _ _⟩
  · cases h
theorem bodyTake (n : Int) (ns : List Nd) (base bits : Int) : BodyOkH Try.prog u tab3 [] [(0, .inv (annTake n (ns.set ((walkN ns 0 (pathB base bits)).getD bits.toNat 0) (setIs (getN ns ((walkN ns 0 (pathB base bits)).getD bits.toNat 0)) false)) (walkN ns 0 (pathB base bits)) (pathB base bits) bits))] Try.f22 [.np 0 (.nd (some 0)) 0, .agg [.int .u32 base, .int .i64 bits]] [.ar n ns] (.int .i64 (takeE ns base bits)) [.ar (takeM n ns base bits).1 (takeM n ns base bits).2] := by
  constructor
  have eqn : bodyH Try.prog u tab3 [] (drawW Try.prog u tab3) (loopsBy u [(0, .inv (annTake n (ns.set ((walkN ns 0 (pathB base bits)).getD bits.toNat 0) (setIs (getN ns ((walkN ns 0 (pathB base bits)).getD bits.toNat 0)) false)) (walkN ns 0 (pathB base bits)) (pathB base bits) bits))]) Try.f22 [.np 0 (.nd (some 0)) 0, .agg [.int .u32 base, .int .i64 bits]] [.ar n ns] (.int .i64 (takeE ns base bits)) [.ar (takeM n ns base bits).1 (takeM n ns base bits).2] = vcTake n ns base bits := by kernel_rfl
  rw [eqn]
  unfold vcTake
  refine ⟨fun hb => ?_, fun hb => ?_⟩
  · unfold takeE takeM
    rw [if_pos hb, if_pos hb]
    exact ⟨rfl, ⟨rfl, rfl⟩, Nat.le_refl _, trivial⟩
  · obtain ⟨hr, hl⟩ := has_len (show hasM ns base bits = true by simpa using hb)
    obtain ⟨t1, t2⟩ := take_end (n := n) hb
    have hbn : bits = ((bits.toNat : Nat) : Int) := by omega
    refine ⟨hr.2, ⟨hr.1, by omega⟩, rfl, ⟨(bits.toNat, _), ⟨by simp only; omega, rfl, rfl⟩, ⟨rfl, trivial, trivial, hbn⟩, ⟨rfl, rfl⟩, rfl, rfl, rfl⟩, fun g hg => ?_⟩
    obtain ⟨k, ns'⟩ := g
    obtain ⟨g1, g2, g3⟩ := hg
    have g1 : (k : Int) ≤ bits := g1
    refine ⟨fun h0 => ⟨by omega, by omega⟩, fun hc => ?_, fun hc => ?_⟩
    · simp only [Bool.and_eq_true, decide_eq_true_eq] at hc
      obtain ⟨h0, he⟩ := hc
      have h0 : (k : Int) > 0 := h0
      cases k with
      | zero => exact absurd h0 (by simp)
      | succ k =>
        have hw : IntKind.i64.wrap (((k + 1 : Nat) : Int) - 1) = (k : Int) := by rw [wrap_i64_id (by omega)]; omega
        have he : emptyN (getN ns' ((walkN ns 0 (pathB base bits)).getD (k + 1) 0)) = true := he
        have hpk : (pathB base bits).getD k 0 = (bitI base (k : Int)).toNat := by
          have := path_get base bits.toNat 0 k (by omega)
          rw [Nat.zero_add] at this
          exact this
        have g2 : cutN (walkN ns 0 (pathB base bits)) (pathB base bits) bits.toNat _ = cutN (walkN ns 0 (pathB base bits)) (pathB base bits) (k + 1) ns' := g2
        rw [cutN, if_pos he, hpk] at g2
        have hw' : IntKind.i64.wrap ((((k + 1, ns') : Nat × List Nd).fst : Int) - 1) = (k : Int) := hw
        rw [hw']
        exact ⟨⟨by omega, by omega⟩, ⟨by omega, by omega⟩, rfl, bit_rng _ _, bit_nat _ _, (k, _), ⟨by simp only; omega, g2, by rw [← g3]; simp⟩, Nat.lt_succ_self k, ⟨rfl, trivial, trivial, rfl⟩, ⟨rfl, rfl⟩, rfl, rfl, rfl⟩
    · have hend : cutN (walkN ns 0 (pathB base bits)) (pathB base bits) k ns' = ns' := by
        cases k with
        | zero => rfl
        | succ k =>
          have he : emptyN (getN ns' ((walkN ns 0 (pathB base bits)).getD (k + 1) 0)) = false := by
            have h0 : decide (((k + 1 : Nat) : Int) > 0) = true := decide_eq_true (by omega)
            have hc : (decide (((k + 1 : Nat) : Int) > 0) && emptyN (getN ns' ((walkN ns 0 (pathB base bits)).getD (k + 1) 0))) = false := hc
            rw [h0] at hc
            simpa using hc
          rw [cutN, if_neg (by rw [he]; simp)]
      have g2 : cutN (walkN ns 0 (pathB base bits)) (pathB base bits) bits.toNat _ = cutN (walkN ns 0 (pathB base bits)) (pathB base bits) k ns' := g2
      rw [hend] at g2
      rw [t2, t1]
      refine ⟨rfl, rfl, rfl, ⟨rfl, ?_⟩, ?_, trivial⟩
      · exact (set_getN ns' 0).trans g2.symm
      · rw [cutN_len]; simp
theorem okTake : FnOkH Try.prog u 22 spTake := by
  refine fn_okH Try.prog u tab3 mo laws3 Try.func22 ?_
  intro xs os c y os2 h hc
  unfold spTake at h
  split at h
  · cases h
    exact ⟨_, _, bodyTake _ _ _ _⟩
  · cases h
theorem laws4 : Laws Try.prog u tab4 := by
  refine ⟨law, clean, fun p hp => ?_⟩
  rcases List.mem_cons.1 hp with rfl | hp
  · exact okAt
  rcases List.mem_cons.1 hp with rfl | hp
  · exact okWithin
  rcases List.mem_cons.1 hp with rfl | hp
  · exact okTake
  exact laws3.tab p hp
theorem bodyLap (x1 x2 y1 y2 : Int) : BodyOk Try.prog u tab4 [] [] Try.f12 [.agg [.int .u32 x1, .int .i64 x2], .agg [.int .u32 y1, .int .i64 y2]] (.bool (lapA x1 x2 y1 y2)) := by
  constructor
  have eqn : bodyW Try.prog u tab4 [] (drawW Try.prog u tab4) (loopsBy u []) Try.f12 [.agg [.int .u32 x1, .int .i64 x2], .agg [.int .u32 y1, .int .i64 y2]] (.bool (lapA x1 x2 y1 y2)) = vcLap x1 x2 y1 y2 := by kernel_rfl
  rw [eqn]
  rfl
theorem okLap : FnOk Try.prog u 12 spLap := by
  refine fn_ok Try.prog u tab4 mo laws4 Try.func12 ?_
  intro xs c y h hc
  unfold spLap at h
  split at h
  · cases h
    exact ⟨by kernel_rfl, _, _, bodyLap _ _ _ _⟩
  · cases h
theorem laws5 : Laws Try.prog u tab5 := by
  refine ⟨law, clean, fun p hp => ?_⟩
  rcases List.mem_cons.1 hp with rfl | hp
  · exact okLap
  exact laws4.tab p hp

end Go.Proofs.Ytndacggailoogaa.Tri
