/- What an address stands as: the contracts of the small functions. -/
import Derived.Test.YtpokkmgnapoomaaStatVc
namespace Go.Proofs.Ytpokkmgnapoomaa.Stat
open Go Go.Proofs.Ytpokkmgnapoomaa.Sx

theorem dec_sound (e : E A) (T : Nat) (l : List (SV A)) (vs : List Value) (x : A T) (h : dec T l = some x) (hr : RepL Try.prog u e l vs) : RepL Try.prog u e (enc T x) vs := by
  unfold dec at h
  split at h <;> first | (cases h; exact hr) | cases h
theorem dec_len {T : Nat} {l : List (SV A)} {x : A T} (h : dec T l = some x) : l.length = Try.prog.cellsOf T := by
  unfold dec at h
  split at h <;> first | (cases h; kernel_rfl) | cases h
theorem law : Law Try.prog u := by
  refine ⟨fun e T l vs x h hr => dec_sound e T l vs x h hr, fun T l x h => dec_len h, ?_, ?_, ?_, ?_⟩
  · intro T f x y h
    cases h
  · intro T x
    show (enc T x).all _ = true
    unfold enc
    split <;> rfl
  · intro T xs h
    cases h
  · intro T xs h
    cases h
theorem clean : ∀ (T : Nat) (x : A T), noOwn.go (u.enc T x) = true := by
  intro T x
  show noOwn.go (enc T x) = true
  unfold enc
  split <;> rfl
theorem mo : Try.prog.follows .mixedOrders = true := by kernel_rfl
theorem laws0 : Laws Try.prog u tab0 := { toLaw := law, clean := clean, tab := fun p hp => by cases hp }
theorem bodyClamp (n : Int) : BodyOk Try.prog u tab0 [] [] Try.f24 [.int .i64 n] (.int .i64 (clampT n)) := by
  constructor
  have e : bodyW Try.prog u tab0 [] (drawW Try.prog u tab0) (loopsBy u []) Try.f24 [.int .i64 n] (.int .i64 (clampT n)) = vcClamp n := by kernel_rfl
  rw [e]
  rfl
theorem okClamp : FnOk Try.prog u 24 spClamp := by
  refine fn_ok Try.prog u tab0 mo laws0 Try.func24 ?_
  intro xs c y h hc
  unfold spClamp at h
  split at h
  · cases h
    exact ⟨by kernel_rfl, _, _, bodyClamp _⟩
  · cases h
theorem bodyWithinL (a b n : Int) : BodyOk Try.prog u tab0 [] [] Try.f21 [.int .i64 a, .int .i64 b, .int .i64 n] (.bool (withinL a b n)) := by
  constructor
  have e : bodyW Try.prog u tab0 [] (drawW Try.prog u tab0) (loopsBy u []) Try.f21 [.int .i64 a, .int .i64 b, .int .i64 n] (.bool (withinL a b n)) = vcWithinL a b n := by kernel_rfl
  rw [e]
  rfl
theorem okWithinL : FnOk Try.prog u 21 spWithinL := by
  refine fn_ok Try.prog u tab0 mo laws0 Try.func21 ?_
  intro xs c y h hc
  unfold spWithinL at h
  split at h
  · cases h
    exact ⟨by kernel_rfl, _, _, bodyWithinL _ _ _⟩
  · cases h
theorem bodyNone (a b c d e f : Int) : BodyOk Try.prog u tab0 [] [] Try.f22 [.agg [.int .u8 a, .int .u8 b, .int .u8 c, .int .u8 d, .int .u8 e, .int .u8 f]] (.bool (noneM ⟨a, b, c, d, e, f⟩)) := by
  constructor
  have e : bodyW Try.prog u tab0 [] (drawW Try.prog u tab0) (loopsBy u []) Try.f22 [.agg [.int .u8 a, .int .u8 b, .int .u8 c, .int .u8 d, .int .u8 e, .int .u8 f]] (.bool (noneM ⟨a, b, c, d, e, f⟩)) = vcNone a b c d e f := by kernel_rfl
  rw [e]
  rfl
theorem okNone : FnOk Try.prog u 22 spNone := by
  refine fn_ok Try.prog u tab0 mo laws0 Try.func22 ?_
  intro xs c y h hc
  unfold spNone at h
  split at h
  · cases h
    exact ⟨by kernel_rfl, _, _, bodyNone _ _ _ _ _ _⟩
  · cases h
theorem bodyStation (n : Int) : BodyOk Try.prog u tab0 [] [] Try.f12 [.int .u8 n] (.agg (station n).cells) := by
  constructor
  have e : bodyW Try.prog u tab0 [] (drawW Try.prog u tab0) (loopsBy u []) Try.f12 [.int .u8 n] (.agg (station n).cells) = vcStation n := by kernel_rfl
  rw [e]
  unfold vcStation station
  refine ⟨fun h => ?_, fun h => ?_⟩
  · rw [h]; exact ⟨rfl, rfl, rfl, rfl, rfl, rfl⟩
  · rw [h]; exact ⟨by decide, rfl, rfl, rfl, rfl, rfl, rfl⟩
theorem okStation : FnOk Try.prog u 12 spStation := by
  refine fn_ok Try.prog u tab0 mo laws0 Try.func12 ?_
  intro xs c y h hc
  unfold spStation at h
  split at h
  · cases h
    exact ⟨by kernel_rfl, _, _, bodyStation _⟩
  · cases h
theorem bodyChoice (c0 c1 c2 c3 c4 c5 c6 c7 c8 : Int) : BodyOk Try.prog u tab0 [] [] Try.f10 [.agg (cho c0 c1 c2 c3 c4 c5 c6 c7 c8)] (.agg (cfg (fc 30 c0) (IntKind.i64.wrap (fc 30 c0 + fz 60 c1)) (fc 6 c2) (fc 20 c3) (fc 9 c4) (fc 6 c5) (fz 4 c6) (fc 40 c7) (fz 50 c8))) := by
  constructor
  have e : bodyW Try.prog u tab0 [] (drawW Try.prog u tab0) (loopsBy u []) Try.f10 [.agg (cho c0 c1 c2 c3 c4 c5 c6 c7 c8)] (.agg (cfg (fc 30 c0) (IntKind.i64.wrap (fc 30 c0 + fz 60 c1)) (fc 6 c2) (fc 20 c3) (fc 9 c4) (fc 6 c5) (fz 4 c6) (fc 40 c7) (fz 50 c8))) = vcChoice c0 c1 c2 c3 c4 c5 c6 c7 c8 := by kernel_rfl
  rw [e]
  exact ⟨by decide, by decide, by decide, by decide, by decide, by decide, by decide, by decide, by decide, rfl, rfl, rfl, rfl, rfl, rfl, rfl, rfl, rfl⟩
theorem okChoice : FnOk Try.prog u 10 spChoice := by
  refine fn_ok Try.prog u tab0 mo laws0 Try.func10 ?_
  intro xs c y h hc
  unfold spChoice at h
  split at h
  · cases h
    exact ⟨by kernel_rfl, _, _, bodyChoice _ _ _ _ _ _ _ _ _⟩
  · cases h
def tab1 : List (Nat × Con A) := (24, .pure spClamp) :: (21, .pure spWithinL) :: (22, .pure spNone) :: (12, .pure spStation) :: (10, .pure spChoice) :: tab0
theorem laws1 : Laws Try.prog u tab1 := by
  refine ⟨law, clean, fun p hp => ?_⟩
  rcases List.mem_cons.1 hp with rfl | hp
  · exact okClamp
  rcases List.mem_cons.1 hp with rfl | hp
  · exact okWithinL
  rcases List.mem_cons.1 hp with rfl | hp
  · exact okNone
  rcases List.mem_cons.1 hp with rfl | hp
  · exact okStation
  rcases List.mem_cons.1 hp with rfl | hp
  · exact okChoice
  exact laws0.tab p hp
end Go.Proofs.Ytpokkmgnapoomaa.Stat
