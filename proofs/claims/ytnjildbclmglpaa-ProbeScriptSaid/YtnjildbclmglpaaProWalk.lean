/- Questions that wait: the contracts of the small functions. -/
import Derived.Test.YtnjildbclmglpaaProVc
namespace Go.Proofs.Ytnjildbclmglpaa.Pro
open Go Go.Proofs.Ytnjildbclmglpaa.Sx

theorem dec_sound (e : E A) (T : Nat) (l : List (SV A)) (vs : List Value) (x : A T) (h : dec T l = some x) (hr : RepL Try.prog u e l vs) : RepL Try.prog u e (enc T x) vs := by
  unfold dec at h
  split at h <;> first | (cases h; exact hr) | cases h
theorem dec_len {T : Nat} {l : List (SV A)} {x : A T} (h : dec T l = some x) : l.length = Try.prog.cellsOf T := by
  unfold dec at h
  split at h <;> first | (cases h; kernel_rfl) | cases h
theorem law : Law Try.prog u := by
  refine ⟨fun e T l vs x h hr => dec_sound e T l vs x h hr, fun T l x h => dec_len h, ?_, ?_, ?_, ?_⟩
  · intro T f x y h
    cases h
  · intro T x
    show (enc T x).all _ = true
    unfold enc
    split <;> rfl
  · intro T xs h
    cases h
  · intro T xs h
    cases h
theorem clean : ∀ (T : Nat) (x : A T), noOwn.go (u.enc T x) = true := by
  intro T x
  show noOwn.go (enc T x) = true
  unfold enc
  split <;> rfl
theorem mo : Try.prog.follows .mixedOrders = true := by kernel_rfl
theorem laws0 : Laws Try.prog u tab0 := { toLaw := law, clean := clean, tab := fun p hp => by cases hp }
theorem bodyClamp (n : Int) : BodyOk Try.prog u tab0 [] [] Try.f22 [.int .i64 n] (.int .i64 (clampT n)) := by
  constructor
  have eqn : bodyW Try.prog u tab0 [] (drawW Try.prog u tab0) (loopsBy u []) Try.f22 [.int .i64 n] (.int .i64 (clampT n)) = vcClamp n := by kernel_rfl
  rw [eqn]
  rfl
theorem okClamp : FnOk Try.prog u 22 spClamp := by
  refine fn_ok Try.prog u tab0 mo laws0 Try.func22 ?_
  intro xs c y h hc
  unfold spClamp at h
  split at h
  · cases h
    exact ⟨by kernel_rfl, _, _, bodyClamp _⟩
  · cases h
theorem bodyNear (n : Int) : BodyOk Try.prog u tab0 [] [] Try.f17 [.int .u8 n] (.int .u32 (nearA n)) := by
  constructor
  have eqn : bodyW Try.prog u tab0 [] (drawW Try.prog u tab0) (loopsBy u []) Try.f17 [.int .u8 n] (.int .u32 (nearA n)) = vcNear n := by kernel_rfl
  rw [eqn]
  exact ⟨by decide, rfl⟩
theorem okNear : FnOk Try.prog u 17 spNear := by
  refine fn_ok Try.prog u tab0 mo laws0 Try.func17 ?_
  intro xs c y h hc
  unfold spNear at h
  split at h
  · cases h
    exact ⟨by kernel_rfl, _, _, bodyNear _⟩
  · cases h
theorem bodyChoice (c0 c1 c2 c3 c4 c5 c6 c7 c8 : Int) : BodyOk Try.prog u tab0 [] [] Try.f11 [.agg (cho c0 c1 c2 c3 c4 c5 c6 c7 c8)] (.agg (cfg (fc 30 c0) (IntKind.i64.wrap (fc 30 c0 + fz 60 c1)) (fc 6 c2) (fc 20 c3) (fc 9 c4) (fc 6 c5) (fz 4 c6) (fc 40 c7) (fz 50 c8))) := by
  constructor
  have eqn : bodyW Try.prog u tab0 [] (drawW Try.prog u tab0) (loopsBy u []) Try.f11 [.agg (cho c0 c1 c2 c3 c4 c5 c6 c7 c8)] (.agg (cfg (fc 30 c0) (IntKind.i64.wrap (fc 30 c0 + fz 60 c1)) (fc 6 c2) (fc 20 c3) (fc 9 c4) (fc 6 c5) (fz 4 c6) (fc 40 c7) (fz 50 c8))) = vcChoice c0 c1 c2 c3 c4 c5 c6 c7 c8 := by kernel_rfl
  rw [eqn]
  exact ⟨by decide, by decide, by decide, by decide, by decide, by decide, by decide, by decide, by decide, rfl, rfl, rfl, rfl, rfl, rfl, rfl, rfl, rfl⟩
theorem okChoice : FnOk Try.prog u 11 spChoice := by
  refine fn_ok Try.prog u tab0 mo laws0 Try.func11 ?_
  intro xs c y h hc
  unfold spChoice at h
  split at h
  · cases h
    exact ⟨by kernel_rfl, _, _, bodyChoice _ _ _ _ _ _ _ _ _⟩
  · cases h
theorem bodyPacket (a b c d e : Int) : BodyOk Try.prog u tab0 [] [] Try.f16 [.agg [.int .u32 a, .int .i64 b, .int .i64 c, .int .i64 d, .int .i64 e]] (.agg [.bool false, .int .u32 0, .int .u32 a, .int .u8 0, .int .u8 0, .int .u8 0, .int .u8 0, .int .u8 0, .int .u8 0, .int .i64 b, .int .i64 c]) := by
  constructor
  have eqn : bodyW Try.prog u tab0 [] (drawW Try.prog u tab0) (loopsBy u []) Try.f16 [.agg [.int .u32 a, .int .i64 b, .int .i64 c, .int .i64 d, .int .i64 e]] (.agg [.bool false, .int .u32 0, .int .u32 a, .int .u8 0, .int .u8 0, .int .u8 0, .int .u8 0, .int .u8 0, .int .u8 0, .int .i64 b, .int .i64 c]) = vcPacket a b c d e := by kernel_rfl
  rw [eqn]
  exact ⟨rfl, rfl, rfl, rfl, rfl, rfl, rfl, rfl, rfl, rfl, rfl⟩
theorem okPacket : FnOk Try.prog u 16 spPacket := by
  refine fn_ok Try.prog u tab0 mo laws0 Try.func16 ?_
  intro xs c y h hc
  unfold spPacket at h
  split at h
  · cases h
    exact ⟨by kernel_rfl, _, _, bodyPacket _ _ _ _ _⟩
  · cases h
theorem bodyRight1 (a b c d e : Int) (x1 x2 x3 x4 x5 : Int) : BodyOk Try.prog u tab0 [] [] Try.f24 [.agg [.int .u32 a, .int .i64 b, .int .i64 c, .int .i64 d, .int .i64 e], .cptr [.int .u32 x1, .int .i64 x2, .int .i64 x3, .int .i64 x4, .int .i64 x5] 0] (.bool (sameA ⟨x1, x2, x3, x4, x5⟩ ⟨a, b, c, d, e⟩)) := by
  constructor
  have eqn : bodyW Try.prog u tab0 [] (drawW Try.prog u tab0) (loopsBy u []) Try.f24 [.agg [.int .u32 a, .int .i64 b, .int .i64 c, .int .i64 d, .int .i64 e], .cptr [.int .u32 x1, .int .i64 x2, .int .i64 x3, .int .i64 x4, .int .i64 x5] 0] (.bool (sameA ⟨x1, x2, x3, x4, x5⟩ ⟨a, b, c, d, e⟩)) = vcRight1 a b c d e x1 x2 x3 x4 x5 := by kernel_rfl
  rw [eqn]
  rfl
theorem okRight1 : FnOk Try.prog u 24 spSameA := by
  refine fn_ok Try.prog u tab0 mo laws0 Try.func24 ?_
  intro xs c y h hc
  unfold spSameA at h
  split at h
  · cases h
    exact ⟨by kernel_rfl, _, _, bodyRight1 _ _ _ _ _ _ _ _ _ _⟩
  · cases h
theorem bodyPut1 (a b c d e : Int) (x1 x2 x3 x4 x5 : Int) : BodyOk Try.prog u tab0 [] [] Try.f30 [.agg [.int .u32 a, .int .i64 b, .int .i64 c, .int .i64 d, .int .i64 e], .cptr [.int .u32 x1, .int .i64 x2, .int .i64 x3, .int .i64 x4, .int .i64 x5] 0] (.bool (sameA ⟨x1, x2, x3, x4, x5⟩ ⟨a, b, c, d, e⟩)) := by
  constructor
  have eqn : bodyW Try.prog u tab0 [] (drawW Try.prog u tab0) (loopsBy u []) Try.f30 [.agg [.int .u32 a, .int .i64 b, .int .i64 c, .int .i64 d, .int .i64 e], .cptr [.int .u32 x1, .int .i64 x2, .int .i64 x3, .int .i64 x4, .int .i64 x5] 0] (.bool (sameA ⟨x1, x2, x3, x4, x5⟩ ⟨a, b, c, d, e⟩)) = vcPut1 a b c d e x1 x2 x3 x4 x5 := by kernel_rfl
  rw [eqn]
  rfl
theorem okPut1 : FnOk Try.prog u 30 spSameA := by
  refine fn_ok Try.prog u tab0 mo laws0 Try.func30 ?_
  intro xs c y h hc
  unfold spSameA at h
  split at h
  · cases h
    exact ⟨by kernel_rfl, _, _, bodyPut1 _ _ _ _ _ _ _ _ _ _⟩
  · cases h
theorem bodyMatch1 (a b c d e : Int) (an : Bool) (f t m0 m1 m2 m3 m4 m5 i s : Int) : BodyOk Try.prog u tab0 [] [] Try.f27 [.agg [.int .u32 a, .int .i64 b, .int .i64 c, .int .i64 d, .int .i64 e], .cptr [.bool an, .int .u32 f, .int .u32 t, .int .u8 m0, .int .u8 m1, .int .u8 m2, .int .u8 m3, .int .u8 m4, .int .u8 m5, .int .i64 i, .int .i64 s] 0] (.bool (ansTo an f i s ⟨a, b, c, d, e⟩)) := by
  constructor
  have eqn : bodyW Try.prog u tab0 [] (drawW Try.prog u tab0) (loopsBy u []) Try.f27 [.agg [.int .u32 a, .int .i64 b, .int .i64 c, .int .i64 d, .int .i64 e], .cptr [.bool an, .int .u32 f, .int .u32 t, .int .u8 m0, .int .u8 m1, .int .u8 m2, .int .u8 m3, .int .u8 m4, .int .u8 m5, .int .i64 i, .int .i64 s] 0] (.bool (ansTo an f i s ⟨a, b, c, d, e⟩)) = vcMatch1 a b c d e an f t m0 m1 m2 m3 m4 m5 i s := by kernel_rfl
  rw [eqn]
  rfl
theorem okMatch1 : FnOk Try.prog u 27 spAns := by
  refine fn_ok Try.prog u tab0 mo laws0 Try.func27 ?_
  intro xs c y h hc
  unfold spAns at h
  split at h
  · cases h
    exact ⟨by kernel_rfl, _, _, bodyMatch1 _ _ _ _ _ _ _ _ _ _ _ _ _ _ _ _⟩
  · cases h
theorem laws1 : Laws Try.prog u tab1 := by
  refine ⟨law, clean, fun p hp => ?_⟩
  rcases List.mem_cons.1 hp with rfl | hp
  · exact okClamp
  rcases List.mem_cons.1 hp with rfl | hp
  · exact okNear
  rcases List.mem_cons.1 hp with rfl | hp
  · exact okChoice
  exact laws0.tab p hp
theorem bodySince (a b : Int) : BodyOk Try.prog u tab1 [] [] Try.f25 [.int .i64 a, .int .i64 b] (.int .i64 (since a b)) := by
  constructor
  have eqn : bodyW Try.prog u tab1 [] (drawW Try.prog u tab1) (loopsBy u []) Try.f25 [.int .i64 a, .int .i64 b] (.int .i64 (since a b)) = vcSince a b := by kernel_rfl
  rw [eqn]
  rfl
theorem okSince : FnOk Try.prog u 25 spSince := by
  refine fn_ok Try.prog u tab1 mo laws1 Try.func25 ?_
  intro xs c y h hc
  unfold spSince at h
  split at h
  · cases h
    exact ⟨by kernel_rfl, _, _, bodySince _ _⟩
  · cases h
theorem bodyOf (a s now : Int) : BodyOk Try.prog u tab1 [] [] Try.f15 [.int .u32 a, .int .i64 s, .int .i64 now] (.agg (ofP a s now).cells) := by
  constructor
  have eqn : bodyW Try.prog u tab1 [] (drawW Try.prog u tab1) (loopsBy u []) Try.f15 [.int .u32 a, .int .i64 s, .int .i64 now] (.agg (ofP a s now).cells) = vcOf a s now := by kernel_rfl
  rw [eqn]
  exact ⟨rfl, rfl, rfl, rfl, rfl⟩
theorem okOf : FnOk Try.prog u 15 spOf := by
  refine fn_ok Try.prog u tab1 mo laws1 Try.func15 ?_
  intro xs c y h hc
  unfold spOf at h
  split at h
  · cases h
    exact ⟨by kernel_rfl, _, _, bodyOf _ _ _⟩
  · cases h
theorem laws2 : Laws Try.prog u tab2 := by
  refine ⟨law, clean, fun p hp => ?_⟩
  rcases List.mem_cons.1 hp with rfl | hp
  · exact okSince
  rcases List.mem_cons.1 hp with rfl | hp
  · exact okOf
  rcases List.mem_cons.1 hp with rfl | hp
  · exact okPacket
  rcases List.mem_cons.1 hp with rfl | hp
  · exact okRight1
  rcases List.mem_cons.1 hp with rfl | hp
  · exact okPut1
  rcases List.mem_cons.1 hp with rfl | hp
  · exact okMatch1
  exact laws1.tab p hp
end Go.Proofs.Ytnjildbclmglpaa.Pro
