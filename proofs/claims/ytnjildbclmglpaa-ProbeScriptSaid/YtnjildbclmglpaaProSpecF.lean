/- Questions that wait: what taking one out, and the law's own way of asking again, give. -/
import Derived.Test.YtnjildbclmglpaaProWalkE
namespace Go.Proofs.Ytnjildbclmglpaa.Pro
open Go Go.Proofs.Ytnjildbclmglpaa.Sx

/-- A row without one. -/
def cutAt (xs : List Prb) (i : Nat) : List Prb := xs.take i ++ xs.drop (i + 1)
def hDelete : HSpec A
  | [.orow 0, .int .i64 i, .int .i64 j], [.row 29 xs] => some (some (j = i + 1 ∧ 0 ≤ i ∧ i < xs.length ∧ xs.length ≤ 1000000), .osl 0 0 (xs.length - 1), [.row 29 (cutAt xs i.toNat ++ [zeroP])])
  | _, _ => none
def tab7 : List (Nat × Con A) := (28, .heap hDelete) :: tab6
/-! ### answers -/
def matE (xs : List Prb) (an : Bool) (f i s : Int) : Int := if xs.any (ansTo an f i s) = true then 0 else 7
def matL (xs : List Prb) (an : Bool) (f i s : Int) : List Prb := if xs.any (ansTo an f i s) = true then cutAt xs (xs.findIdx (ansTo an f i s)) else []
def spMatch : Sx.Spec A
  | [.csl 29 xs, .agg [.bool an, .int .u32 f, .int .u32 _, .int .u8 _, .int .u8 _, .int .u8 _, .int .u8 _, .int .u8 _, .int .u8 _, .int .i64 i, .int .i64 s]] => some (some (xs.length ≤ 1000000), .tup [.csl 29 (matL xs an f i s), .int .i64 (matE xs an f i s)])
  | _ => none
/-! ### the law's own way -/
def oldL (c5 now : Int) (p : Prb) : Bool := decide (IntKind.i64.wrap (now - p.sent) ≥ c5)
def againL (now : Int) (p : Prb) : Prb := ⟨p.addr, p.id, p.num, now, IntKind.i64.wrap (p.tries + 1)⟩
def lateStepL (c5 c6 now room : Int) (r : List Prb × List Prb) (p : Prb) : List Prb × List Prb :=
  if (oldL c5 now p && decide (p.tries ≥ c6)) = true then r
  else if (oldL c5 now p && decide ((r.2.length : Int) < room)) = true then (r.1 ++ [againL now p], r.2 ++ [againL now p]) else (r.1 ++ [p], r.2)
def lateAtL (c5 c6 now room : Int) (xs : List Prb) : Nat → List Prb × List Prb
  | 0 => ([], [])
  | k + 1 => lateStepL c5 c6 now room (lateAtL c5 c6 now room xs k) (getP xs k)
def lateLL (c5 c6 now room : Int) (xs : List Prb) : List Prb × List Prb := lateAtL c5 c6 now room xs xs.length
def annLateL (c5 c6 now room : Int) (xs : List Prb) : Ann A := { G := Nat, inv := fun k => k ≤ xs.length, keep := [2, 3, 4, 15, 16], keepO := [4], slots := fun k => [(17, .int .i64 k), (10, .orow 0), (11, .orow 1)], owns := fun k => [(0, .row 29 (lateAtL c5 c6 now room xs k).1), (1, .row 29 (lateAtL c5 c6 now room xs k).2)], μ := fun k => xs.length - k }
def spLateL : Sx.Spec A
  | [.agg [.int .i64 _, .int .i64 _, .int .i64 _, .int .i64 _, .int .i64 _, .int .i64 c5, .int .i64 c6, .int .i64 _, .int .i64 _], .csl 29 xs, .int .i64 now, .int .i64 room] => some (some (sizeOk xs), .tup [.csl 29 (lateLL c5 c6 now room xs).1, .csl 29 (lateLL c5 c6 now room xs).2])
  | _ => none
def sameTo (a b : List Prb) : Nat → Bool
  | 0 => true
  | k + 1 => sameTo a b k && same5 (getP a k) (getP b k)
def sameL (a b : List Prb) : Bool := (a.length : Int) == b.length && sameTo a b a.length
def spSame : Sx.Spec A
  | [.csl 29 a, .csl 29 b] => some (some (lenOk a ∧ lenOk b), .bool (sameL a b))
  | _ => none
def annSame (a b : List Prb) : Ann A := { G := Nat, inv := fun k => k ≤ a.length ∧ a.length = b.length ∧ sameTo a b k = true, keep := [0, 1, 11, 12], slots := fun k => [(13, .int .i64 k)], μ := fun k => a.length - k }
def tab8 : List (Nat × Con A) := (20, .pure spMatch) :: (18, .pure spLateL) :: (19, .pure spSame) :: tab7
/-! ### ProbeAnswer -/
def answerOk (a s z o : Int) : Prop := u32R a ∧ 0 ≤ z ∧ (0 ≤ s ∧ s < 65536) ∧ (0 ≤ o ∧ o < 65536)
def spLAnswer : Sx.Spec A
  | [.int .u32 a, .int .u16 s, .int .u8 z, .int .u16 o, .bool an] => some (some (answerOk a s z o), .bool true)
  | _ => none
end Go.Proofs.Ytnjildbclmglpaa.Pro
