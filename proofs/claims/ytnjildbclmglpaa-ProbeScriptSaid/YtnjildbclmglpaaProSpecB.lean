/- Questions that wait: what finding one, and copying them, gives. -/
import Derived.Test.YtnjildbclmglpaaProWalk
namespace Go.Proofs.Ytnjildbclmglpaa.Pro
open Go Go.Proofs.Ytnjildbclmglpaa.Sx

def lenOk (xs : List Prb) : Prop := xs.length < 9223372036854775808
def sizeOk (xs : List Prb) : Prop := xs.length * 40 ≤ 140737488355328
/-- The first place at which something holds, or -1. -/
def firstI (q : Prb → Bool) (xs : List Prb) : Int := if xs.any q = true then (xs.findIdx q : Int) else -1
def spIndex : Sx.Spec A
  | [.csl 29 xs, .fn 24 [.cptr [.int .u32 f, .int .i64 g, .int .i64 h, .int .i64 i, .int .i64 j] 0]] => some (some (lenOk xs), .int .i64 (firstI (sameA ⟨f, g, h, i, j⟩) xs))
  | [.csl 29 xs, .fn 30 [.cptr [.int .u32 f, .int .i64 g, .int .i64 h, .int .i64 i, .int .i64 j] 0]] => some (some (lenOk xs), .int .i64 (firstI (sameA ⟨f, g, h, i, j⟩) xs))
  | [.csl 29 xs, .fn 27 [.cptr [.bool an, .int .u32 f, .int .u32 _, .int .u8 _, .int .u8 _, .int .u8 _, .int .u8 _, .int .u8 _, .int .u8 _, .int .i64 i, .int .i64 s] 0]] => some (some (lenOk xs), .int .i64 (firstI (ansTo an f i s) xs))
  | _ => none
def annIndex (q : Prb → Bool) (xs : List Prb) : Ann A := { G := Nat, inv := fun k => k ≤ xs.length ∧ (xs.take k).any q = false, keep := [0, 1, 6, 7], keepO := [], slots := fun k => [(8, .int .i64 k)], μ := fun k => xs.length - k }
def spContains : Sx.Spec A
  | [.csl 29 xs, .fn 24 [.cptr [.int .u32 f, .int .i64 g, .int .i64 h, .int .i64 i, .int .i64 j] 0]] => some (some (lenOk xs), .bool (xs.any (sameA ⟨f, g, h, i, j⟩)))
  | [.csl 29 xs, .fn 30 [.cptr [.int .u32 f, .int .i64 g, .int .i64 h, .int .i64 i, .int .i64 j] 0]] => some (some (lenOk xs), .bool (xs.any (sameA ⟨f, g, h, i, j⟩)))
  | _ => none
def tab3 : List (Nat × Con A) := (26, .pure spIndex) :: tab2
def hCloneN : HSpec A
  | [.nsl q 29 xs], [] => some (some ((q = true → xs = []) ∧ sizeOk xs), .orow 0, [.row 29 xs])
  | _, _ => none
def hClone : HSpec A
  | [.csl 29 xs], [] => some (some (sizeOk xs), .orow 0, [.row 29 xs])
  | _, _ => none
end Go.Proofs.Ytnjildbclmglpaa.Pro
