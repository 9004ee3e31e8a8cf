/- Questions that wait: what the laws' own pieces give. -/
import Derived.Test.YtnjildbclmglpaaProWalkC
namespace Go.Proofs.Ytnjildbclmglpaa.Pro
open Go Go.Proofs.Ytnjildbclmglpaa.Sx

/-- The same contract, a row that is nil at first. -/
def nilFirst (T : Nat) (sp : Sx.Spec A) : Sx.Spec A
  | .nils :: r => sp (.csl T [] :: r)
  | l => sp l
theorem nilFirst_ok {T f : Nat} {sp : Sx.Spec A} (h : FnOk Try.prog u f sp) : FnOk Try.prog u f (nilFirst T sp) := by
  intro xs c y hs hc w O vs hO hx
  unfold nilFirst at hs
  split at hs
  · cases hx with
    | nils hr => exact h _ _ _ hs hc w O _ hO (.csl T [] none 0 0 (fun _ => []) rfl (Nat.le_refl _) (.inl rfl) (fun i hi => by simp at hi) (fun i x hi => by simp at hi) hr)
  · exact h _ _ _ hs hc w O vs hO hx
def tab5 : List (Nat × Con A) := (21, .pure (nilFirst 29 spPut)) :: (14, .pure spLate) :: (12, .pure spRight) :: (13, .pure spRightL) :: tab4
theorem laws5 : Laws Try.prog u tab5 := by
  refine ⟨law, clean, fun p hp => ?_⟩
  rcases List.mem_cons.1 hp with rfl | hp
  · exact nilFirst_ok okPut
  rcases List.mem_cons.1 hp with rfl | hp
  · exact okLate
  rcases List.mem_cons.1 hp with rfl | hp
  · exact okRight
  rcases List.mem_cons.1 hp with rfl | hp
  · exact okRightL
  exact laws4.tab p hp
def spAwake : Sx.Spec A
  | [] => some (none, .bool true)
  | _ => none
/-! ### deeds -/
def getA (xs : List Act) (k : Nat) : Act := xs.getD k zeroA
def headS (xs : List Act) (n : Int) : List Act := (xs.take (mn (xs.length : Int) n).toNat).drop 0
def nowStep (now : Int) (a : Act) : Int := IntKind.i64.wrap (now + IntKind.i64.wrap (a.n.tmod 5))
def isTick (a : Act) : Bool := a.op.tmod 4 == 0
def askP (now : Int) (a : Act) : Prb := ofP (nearA a.addr) (IntKind.i64.wrap a.num) now
def someStep (c5 c6 : Int) (r : List Prb × Int) (a : Act) : List Prb × Int :=
  if isTick a = true then ((lateL c5 c6 (nowStep r.2 a) (IntKind.i64.wrap (1 + IntKind.i64.wrap (a.n.tmod 4))) r.1).1, nowStep r.2 a)
  else if (putErr r.1 (askP r.2 a) == 0) = true then (putL r.1 (askP r.2 a), r.2) else r
def someAt (c5 c6 : Int) (xs : List Act) : Nat → List Prb × Int
  | 0 => ([], 0)
  | k + 1 => someStep c5 c6 (someAt c5 c6 xs k) (getA xs k)
def someL (c5 c6 : Int) (xs : List Act) : List Prb × Int := someAt c5 c6 (headS xs 60) (headS xs 60).length
def annSome (c5 c6 : Int) (xs : List Act) : Ann A := { G := Nat, inv := fun k => k ≤ xs.length, keep := [2, 16, 17], keepO := [2], slots := fun k => [(18, .int .i64 k), (6, .csl 29 (someAt c5 c6 xs k).1), (7, .int .i64 (someAt c5 c6 xs k).2)], μ := fun k => xs.length - k }
def actsOk (xs : List Act) : Prop := xs.length < 9223372036854775808
def spSome : Sx.Spec A
  | [.agg [.int .i64 _, .int .i64 _, .int .i64 _, .int .i64 _, .int .i64 _, .int .i64 c5, .int .i64 c6, .int .i64 _, .int .i64 _], .csl 51 xs] => some (some (actsOk xs), .tup [.csl 29 (someL c5 c6 xs).1, .int .i64 (someL c5 c6 xs).2])
  | _ => none
end Go.Proofs.Ytnjildbclmglpaa.Pro
