/- Questions that wait: what the package's functions give. -/
import Derived.Test.YtnjildbclmglpaaProWalkB
namespace Go.Proofs.Ytnjildbclmglpaa.Pro
open Go Go.Proofs.Ytnjildbclmglpaa.Sx

def tab4 : List (Nat × Con A) := (23, .pure spContains) :: (29, .heap hClone) :: tab3
def getP (xs : List Prb) (k : Nat) : Prb := xs.getD k zeroP
/-! ### Put -/
def putErr (xs : List Prb) (p : Prb) : Int := if xs.any (sameA p) = true then 6 else if decide ((xs.length : Int) ≥ 16) = true then 4 else 0
def putL (xs : List Prb) (p : Prb) : List Prb := if xs.any (sameA p) = true then [] else if decide ((xs.length : Int) ≥ 16) = true then [] else xs ++ [p]
def spPut : Sx.Spec A
  | [.csl 29 xs, .agg [.int .u32 a, .int .i64 b, .int .i64 c, .int .i64 d, .int .i64 e]] => some (some (lenOk xs), .tup [.csl 29 (putL xs ⟨a, b, c, d, e⟩), .int .i64 (putErr xs ⟨a, b, c, d, e⟩)])
  | _ => none
/-! ### Late -/
def againP (now : Int) (p : Prb) : Prb := ⟨p.addr, p.id, p.num, clampT now, IntKind.i64.wrap (p.tries + 1)⟩
def lateStep (c5 c6 now room : Int) (r : List Prb × List Prb) (p : Prb) : List Prb × List Prb :=
  if decide (since now p.sent < c5) = true then (r.1 ++ [p], r.2)
  else if decide (p.tries ≥ c6) = true then r
  else if decide ((r.2.length : Int) < room) = true then (r.1 ++ [againP now p], r.2 ++ [againP now p]) else (r.1 ++ [p], r.2)
def lateAt (c5 c6 now room : Int) (xs : List Prb) : Nat → List Prb × List Prb
  | 0 => ([], [])
  | k + 1 => lateStep c5 c6 now room (lateAt c5 c6 now room xs k) (getP xs k)
def lateL (c5 c6 now room : Int) (xs : List Prb) : List Prb × List Prb := lateAt c5 c6 now room xs xs.length
def annLate (c5 c6 now room : Int) (xs : List Prb) : Ann A := { G := Nat, inv := fun k => k ≤ xs.length, keep := [2, 3, 4, 14, 15], keepO := [4], slots := fun k => [(16, .int .i64 k), (10, .orow 0), (11, .orow 1)], owns := fun k => [(0, .row 29 (lateAt c5 c6 now room xs k).1), (1, .row 29 (lateAt c5 c6 now room xs k).2)], μ := fun k => xs.length - k }
def spLate : Sx.Spec A
  | [.agg [.int .i64 _, .int .i64 _, .int .i64 _, .int .i64 _, .int .i64 _, .int .i64 c5, .int .i64 c6, .int .i64 _, .int .i64 _], .csl 29 xs, .int .i64 now, .int .i64 room] => some (some (sizeOk xs), .tup [.csl 29 (lateL c5 c6 now room xs).1, .csl 29 (lateL c5 c6 now room xs).2])
  | _ => none
/-! ### Right -/
def badP (p : Prb) : Bool := ((((p.id != idOf p.addr || decide (p.num < 0)) || decide (p.num > 65535)) || p.sent != clampT p.sent) || decide (p.tries < 0)) || decide (p.tries > 8)
def dupP (xs : List Prb) (k : Nat) : Bool := (xs.take k).any (sameA (getP xs k))
def okTo (xs : List Prb) : Nat → Bool
  | 0 => true
  | k + 1 => okTo xs k && (!badP (getP xs k) && !dupP xs k)
def rightB (xs : List Prb) : Bool := okTo xs xs.length && decide ((xs.length : Int) ≤ 16)
def spRight : Sx.Spec A
  | [.csl 29 xs] => some (some (lenOk xs), .bool (rightB xs))
  | _ => none
def annRight (xs : List Prb) : Ann A := { G := Nat, inv := fun k => k ≤ xs.length ∧ okTo xs k = true, keep := [0, 5, 6], slots := fun k => [(7, .int .i64 k)], μ := fun k => xs.length - k }
/-! ### the law's own way -/
def badL (p : Prb) : Bool := (((((p.id != IntKind.i64.wrap (p.addr.tmod 65536) || decide (p.num < 0)) || decide (p.num > 65535)) || decide (p.sent < 0)) || decide (p.sent > 1099511627776)) || decide (p.tries < 0)) || decide (p.tries > 8)
def okToL (xs : List Prb) : Nat → Bool
  | 0 => true
  | k + 1 => okToL xs k && (!badL (getP xs k) && !dupP xs k)
def rightL (xs : List Prb) : Bool := okToL xs xs.length && decide ((xs.length : Int) ≤ 16)
def spRightL : Sx.Spec A
  | [.csl 29 xs] => some (some (lenOk xs), .bool (rightL xs))
  | _ => none
def annRightL (xs : List Prb) : Ann A := { G := Nat, inv := fun k => k ≤ xs.length ∧ okToL xs k = true, keep := [0, 7, 8], slots := fun k => [(9, .int .i64 k)], μ := fun k => xs.length - k }
def annRightL2 (xs : List Prb) (k : Nat) : Ann A := { G := Nat, inv := fun g => g ≤ k ∧ (xs.take g).any (sameA (getP xs k)) = false, keep := [0, 7, 8, 9, 4, 53, 54], keepO := [4], slots := fun g => [(55, .int .i64 g)], μ := fun g => k - g }
end Go.Proofs.Ytnjildbclmglpaa.Pro
