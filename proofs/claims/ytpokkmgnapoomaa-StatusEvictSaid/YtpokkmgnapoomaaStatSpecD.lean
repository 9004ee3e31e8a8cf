/- What an address stands as: what the laws' own pieces give. -/
import Derived.Test.YtpokkmgnapoomaaStatWalkC
namespace Go.Proofs.Ytpokkmgnapoomaa.Stat
open Go Go.Proofs.Ytpokkmgnapoomaa.Sx

def seenAt (xs : List Seen) (k : Nat) : Seen := xs.getD k (⟨0, 0⟩ : Seen)
def timeAt (xs : List Seen) : Nat → Int
  | 0 => 0
  | k + 1 => IntKind.i64.wrap (timeAt xs k + IntKind.i64.wrap ((seenAt xs k).later.tmod 8))
def sightsAt (xs : List Seen) : Nat → List Sight
  | 0 => []
  | k + 1 => sightsAt xs k ++ [(⟨2, station (seenAt xs k).who, timeAt xs (k + 1)⟩ : Sight)]
def firstN (xs : List Seen) : Nat := (mn (xs.length : Int) 12).toNat
def headS (xs : List Seen) : List Seen := (xs.take (firstN xs)).drop 0
def sightsL (xs : List Seen) : List Sight := sightsAt (headS xs) (headS xs).length
def spSights : Sx.Spec A
  | [.csl 57 xs] => some (some (xs.length < 9223372036854775808), .csl 48 (sightsL xs))
  | _ => none
def annSights (xs : List Seen) : Ann A := { G := Nat, inv := fun k => k ≤ (headS xs).length, keep := [11, 12], slots := fun k => [(13, .int .i64 k), (3, .orow 0), (4, .int .i64 (timeAt (headS xs) k))], owns := fun k => [(0, .row 48 (sightsAt (headS xs) k))], μ := fun k => (headS xs).length - k }
def words : List ByteArray := [⟨#[102, 114, 101, 101]⟩, ⟨#[112, 108, 97, 110, 110, 101, 100]⟩, ⟨#[97, 99, 116, 105, 118, 101]⟩, ⟨#[115, 116, 97, 108, 101]⟩, ⟨#[114, 111, 103, 117, 101]⟩, ⟨#[99, 111, 110, 102, 108, 105, 99, 116]⟩]
def nameS (s : Int) : ByteArray := if (decide (s < 0) || decide (s ≥ 6)) = true then ⟨#[45]⟩ else words.getD s.toNat ByteArray.empty
def spName : Sx.Spec A
  | [.int .i64 s] => some (none, .str (nameS s))
  | _ => none
def worthS (s : Int) : Int := if (s == 5) = true then 3 else if (s == 4) = true then 2 else if (s == 3) = true then 1 else 0
def spWorth : Sx.Spec A
  | [.int .i64 s] => some (none, .int .i64 (worthS s))
  | _ => none
def tab5 : List (Nat × Con A) := (13, .pure spOf) :: (14, .pure spOfL) :: (11, .pure spSights) :: (15, .pure spName) :: (16, .pure spWorth) :: tab4
def spAwake : Sx.Spec A
  | [] => some (none, .bool true)
  | _ => none
def tab6 : List (Nat × Con A) := (9, .pure spAwake) :: tab5
end Go.Proofs.Ytpokkmgnapoomaa.Stat
