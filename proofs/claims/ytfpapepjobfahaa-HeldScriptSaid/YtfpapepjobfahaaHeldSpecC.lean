/- Holders: the law HeldScript: what a row and a map come to, deed by deed. -/
import Derived.Test.YtfpapepjobfahaaHeldSpecB
namespace Go.Proofs.Ytfpapepjobfahaa.Held
open Go Go.Proofs.Ytfpapepjobfahaa.Sx

def readA (a : Act) : Holder := if (decide ((a.any.size : Int) > 0) && a.who.tmod 4 == 0) = true then ⟨nearA a.addr, a.any, station a.who⟩ else holderA a
abbrev Mp : Type := List (Int × Holder)
def hNext (hs : List Holder) (a : Act) : List Holder := if a.take = true then (if hasH hs (readA a).addr = true then takeL hs (readA a).addr else hs) else (if (putE hs (readA a) == 0) = true then putL hs (readA a) else hs)
def mNext (m : Mp) (a : Act) : Mp := if a.take = true then (if hasM m (readA a).addr = true then delM m (readA a).addr else m) else if mayL (readA a).owner = true then (if hasM m (readA a).addr = true then m else if decide ((m.length : Int) ≥ 48) = true then m else setM m (readA a).addr (readA a)) else m
def hsAt (xs : List Act) : Nat → List Holder
  | 0 => []
  | k + 1 => hNext (hsAt xs k) (getA xs k)
def mpAt (xs : List Act) : Nat → Mp
  | 0 => []
  | k + 1 => mNext (mpAt xs k) (getA xs k)
def annScript (xs : List Act) : Ann A := { G := Nat, inv := fun k => k ≤ xs.length, keep := [22, 23], slots := fun k => [(24, .int .i64 k), (3, .csl 36 (hsAt xs k)), (4, .omap 0)], owns := fun k => [(0, .mp .u32 36 (mpAt xs k))], μ := fun k => xs.length - k }
def actsOk2 (xs : List Act) : Prop := actsOk xs ∧ ∀ a ∈ xs, strOk a.any
def spLScript : Sx.Spec A
  | [.csl 58 xs] => some (some (actsOk2 xs), .bool true)
  | _ => none
end Go.Proofs.Ytfpapepjobfahaa.Held
