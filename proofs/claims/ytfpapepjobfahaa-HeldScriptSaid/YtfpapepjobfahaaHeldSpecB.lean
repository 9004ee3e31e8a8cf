/- Holders: what the laws give, and their loops. -/
import Derived.Test.YtfpapepjobfahaaHeldSpec
namespace Go.Proofs.Ytfpapepjobfahaa.Held
open Go Go.Proofs.Ytfpapepjobfahaa.Sx

/-! ### HeldMay -/
def letters16 : ByteArray := ⟨#[97, 98, 99, 100, 101, 102, 103, 104, 105, 106, 107, 108, 109, 110, 111, 112]⟩
def spLMay : Sx.Spec A
  | [.str s, .int .u8 n] => some (some (strOk s ∧ 0 ≤ n), .bool true)
  | _ => none
/-! ### HeldTurns -/
def newH (n : Int) : Holder := ⟨nearA n, ⟨#[110, 101, 119]⟩, zeroMac⟩
def annTurns (xs : List Act) : Ann A := { G := Nat, inv := fun k => k ≤ (someL xs).length, keep := [5, 7, 11, 77], slots := fun k => [(78, .int .i64 k)], μ := fun k => (someL xs).length - k }
def spLTurns : Sx.Spec A
  | [.csl 58 xs, .int .u8 _] => some (some (actsOk xs), .bool true)
  | _ => none
/-! ### HeldUsed -/
def spLUsed : Sx.Spec A
  | [.csl 58 xs, .int .u8 a, .int .u8 b] => some (some (actsOk xs ∧ 0 ≤ a ∧ 0 ≤ b), .bool true)
  | _ => none
/-! ### HeldNext -/
def refAt (hs : List Holder) (base : Int) : Nat → Nat × Int × Bool
  | 0 => (0, 0, false)
  | k + 1 => let r := refAt hs base k
    if hasH hs (atA base k) = true then (r.1 + 1, r.2) else if (!r.2.2) = true then (r.1, atA base k, true) else r
def annNextL (hs : List Holder) (base : Int) (N : Nat) : Ann A := { G := Nat, inv := fun k => k ≤ N, keep := [7, 9, 10, 11], keepO := [7, 11], slots := fun k => [(15, .int .i64 k), (12, .int .i64 (refAt hs base k).1), (13, .int .u32 (refAt hs base k).2.1), (14, .bool (refAt hs base k).2.2)], μ := fun k => N - k }
def bitsN (b : Int) : Int := IntKind.i64.wrap (26 + b.tmod 7)
def baseN (a b : Int) : Int := shl .u32 (shr .u32 (nearA a) (IntKind.i64.wrap (32 - b))) (IntKind.i64.wrap (32 - b))
def sizeN (b : Int) : Nat := (shl .i64 1 (IntKind.i64.wrap (32 - b))).toNat
def spLNext : Sx.Spec A
  | [.csl 58 xs, .int .u8 a, .int .u8 b, .agg [.int .u32 base, .int .i64 _]] => some (some (actsOk xs ∧ (0 ≤ a ∧ 0 ≤ b) ∧ 0 ≤ base ∧ base < 4294967296), .bool true)
  | _ => none
/-! ### HeldRight -/
def setA (xs : List Holder) (k : Nat) (n : Int) : List Holder := xs.set k { getH xs k with addr := n }
def turnA (xs : List Holder) (n : Int) : List Holder := if decide ((xs.length : Int) > 0) = true then setA xs ((IntKind.i64.wrap n).tmod xs.length).toNat (nearA n) else xs
def pickL (hs x : List Holder) (k : Nat) : List Holder := [hs, x].getD k []
def okHL (l : List Holder) (k : Nat) : Bool := mayL (getH l k).owner && ((k : Int) == 0 || decide ((getH l (k - 1)).addr < (getH l k).addr))
def okToL (l : List Holder) : Nat → Bool
  | 0 => decide ((l.length : Int) ≤ 48)
  | k + 1 => okToL l k && okHL l k
def annRightL (hs x : List Holder) : Ann A := { G := Nat, inv := fun k => k ≤ 2, keep := [38], slots := fun k => [(37, .csl 30 [hs, x]), (39, .int .i64 k)], μ := fun k => 2 - k }
def annRightL2 (hs x : List Holder) (k : Nat) : Ann A := { G := Nat, inv := fun j => j ≤ (pickL hs x k).length, keep := [9, 37, 38, 39, 46, 47], slots := fun j => [(48, .int .i64 j), (10, .bool (okToL (pickL hs x k) j))], μ := fun j => (pickL hs x k).length - j }
def spLRight : Sx.Spec A
  | [.csl 36 hs, .csl 58 xs, .int .u8 n] => some (some (rowOk hs ∧ actsOk xs ∧ 0 ≤ n ∧ n < 256), .bool true)
  | _ => none
end Go.Proofs.Ytfpapepjobfahaa.Held
