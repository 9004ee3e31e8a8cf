/- What an address stands as: what the package and the law's own way give. -/
import Derived.Test.YtpokkmgnapoomaaStatWalkB
namespace Go.Proofs.Ytpokkmgnapoomaa.Stat
open Go Go.Proofs.Ytpokkmgnapoomaa.Sx

def lastT (xs : List Sight) : Int := (xs.getD ((xs.length : Int) - 1).toNat (⟨0, zeroMac, 0⟩ : Sight)).time
def oldS (c1 now : Int) (xs : List Sight) : Bool := decide ((xs.length : Int) > 0) && !within now (lastT xs) c1
def ofN (c0 c2 now : Int) (xs : List Sight) : Int :=
  if apartGo zeroMac (freshL c0 c2 now xs) = true then 5 else if decide (((freshL c0 c2 now xs).length : Int) > 0) = true then 4 else 0
def ofH (c0 c1 c2 now : Int) (h : Mac) (xs : List Sight) : Int :=
  if apartGo zeroMac (freshL c0 c2 now xs) = true then 5 else if foreign h (freshL c0 c2 now xs) = true then 4 else if decide (((freshL c0 c2 now xs).length : Int) ≥ c2) = true then 2 else if oldS c1 now xs = true then 3 else 1
def ofOk (c2 : Int) (xs : List Sight) : Prop := xs.length * 24 ≤ 140737488355328 ∧ c2 < 4611686018427387904
def spOf : Sx.Spec A
  | [.agg [.int .i64 c0, .int .i64 c1, .int .i64 c2, .int .i64 _, .int .i64 _, .int .i64 _, .int .i64 _, .int .i64 _, .int .i64 _], .nilp, .csl 48 xs, .int .i64 now] => some (some (ofOk c2 xs), .int .i64 (ofN c0 c2 now xs))
  | [.agg [.int .i64 c0, .int .i64 c1, .int .i64 c2, .int .i64 _, .int .i64 _, .int .i64 _, .int .i64 _, .int .i64 _, .int .i64 _], .cptr [.int .u32 _, .str _, .int .u8 a, .int .u8 b, .int .u8 c, .int .u8 d, .int .u8 e, .int .u8 f] 0, .csl 48 xs, .int .i64 now] => some (some (ofOk c2 xs), .int .i64 (ofH c0 c1 c2 now ⟨a, b, c, d, e, f⟩ xs))
  | _ => none
/-! ### the law's own way -/
def goodL (c0 c2 now : Int) (xs : List Sight) (k : Nat) : Bool := decide (IntKind.i64.wrap ((xs.length : Int) - k) ≤ IntKind.i64.wrap (mx 0 c2 + 1)) && withinL now (xs.getD k (⟨0, zeroMac, 0⟩ : Sight)).time c0
def cntL (c0 c2 now : Int) (xs : List Sight) : Nat → Int
  | 0 => 0
  | k + 1 => if goodL c0 c2 now xs k = true then IntKind.i64.wrap (cntL c0 c2 now xs k + 1) else cntL c0 c2 now xs k
def macL (xs : List Sight) (k : Nat) : Mac := (xs.getD k (⟨0, zeroMac, 0⟩ : Sight)).mac
def macsL (c0 c2 now : Int) (xs : List Sight) : Nat → List Mac
  | 0 => []
  | k + 1 => if goodL c0 c2 now xs k = true then (if (!noneM (macL xs k)) = true then macsL c0 c2 now xs k ++ [macL xs k] else macsL c0 c2 now xs k) else macsL c0 c2 now xs k
def apartL (ms : List Mac) (k : Nat) : Bool := (ms.take k).any fun m => !(m.same (ms.getD 0 zeroMac))
def otherL (h : Mac) (ms : List Mac) (k : Nat) : Bool := (ms.take k).any fun m => !noneM h && !(m.same h)
def annL1 (c0 c2 now : Int) (xs : List Sight) : Ann A := { G := Nat, inv := fun k => k ≤ xs.length, keep := [1, 2, 3, 4, 17, 18], keepO := [4], slots := fun k => [(19, .int .i64 k), (9, .orow 0), (10, .int .i64 (cntL c0 c2 now xs k))], owns := fun k => [(0, .row 35 (macsL c0 c2 now xs k))], μ := fun k => xs.length - k }
def annL2N (ms : List Mac) : Ann A := { G := Nat, inv := fun k => k ≤ ms.length, keep := [1, 2, 3, 4, 10, 53, 54, 9], keepO := [4, 53], slots := fun k => [(55, .int .i64 k), (13, .bool (apartL ms k)), (14, .bool false)], μ := fun k => ms.length - k }
def annL2H (h : Mac) (ms : List Mac) : Ann A := { G := Nat, inv := fun k => k ≤ ms.length, keep := [1, 2, 3, 4, 10, 53, 54, 9], keepO := [4, 53], slots := fun k => [(55, .int .i64 k), (13, .bool (apartL ms k)), (14, .bool (otherL h ms k))], μ := fun k => ms.length - k }
def ofLN (c0 c2 now : Int) (xs : List Sight) : Int :=
  if apartL (macsL c0 c2 now xs xs.length) (macsL c0 c2 now xs xs.length).length = true then 5 else if decide (cntL c0 c2 now xs xs.length > 0) = true then 4 else 0
def ofLH (c0 c1 c2 now : Int) (h : Mac) (xs : List Sight) : Int :=
  if apartL (macsL c0 c2 now xs xs.length) (macsL c0 c2 now xs xs.length).length = true then 5 else if otherL h (macsL c0 c2 now xs xs.length) (macsL c0 c2 now xs xs.length).length = true then 4 else if decide (cntL c0 c2 now xs xs.length ≥ c2) = true then 2 else if (decide ((xs.length : Int) > 0) && !withinL now (lastT xs) c1) = true then 3 else 1
def spOfL : Sx.Spec A
  | [.agg [.int .i64 c0, .int .i64 c1, .int .i64 c2, .int .i64 _, .int .i64 _, .int .i64 _, .int .i64 _, .int .i64 _, .int .i64 _], .nilp, .csl 48 xs, .int .i64 now] => some (some (ofOk c2 xs), .int .i64 (ofLN c0 c2 now xs))
  | [.agg [.int .i64 c0, .int .i64 c1, .int .i64 c2, .int .i64 _, .int .i64 _, .int .i64 _, .int .i64 _, .int .i64 _, .int .i64 _], .cptr [.int .u32 _, .str _, .int .u8 a, .int .u8 b, .int .u8 c, .int .u8 d, .int .u8 e, .int .u8 f] 0, .csl 48 xs, .int .i64 now] => some (some (ofOk c2 xs), .int .i64 (ofLH c0 c1 c2 now ⟨a, b, c, d, e, f⟩ xs))
  | _ => none
def tab4 : List (Nat × Con A) := (17, .pure spFresh) :: (18, .pure spApart) :: (19, .pure spForeign) :: tab3
theorem laws4 : Laws Try.prog u tab4 := by
  refine ⟨law, clean, fun p hp => ?_⟩
  rcases List.mem_cons.1 hp with rfl | hp
  · exact okFresh
  rcases List.mem_cons.1 hp with rfl | hp
  · exact okApart
  rcases List.mem_cons.1 hp with rfl | hp
  · exact okForeign
  exact laws3.tab p hp
end Go.Proofs.Ytpokkmgnapoomaa.Stat
