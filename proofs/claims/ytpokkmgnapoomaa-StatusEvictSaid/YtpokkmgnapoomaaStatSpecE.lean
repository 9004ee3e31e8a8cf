/- What an address stands as: what is said of the laws StatusEvict, StatusOld, StatusActive and StatusNames. -/
import Derived.Test.YtpokkmgnapoomaaStatMathB
namespace Go.Proofs.Ytpokkmgnapoomaa.Stat
open Go Go.Proofs.Ytpokkmgnapoomaa.Sx

def annEvict (need : Int) (xs : List Sight) : Ann A := { G := Nat, inv := fun k => k ≤ xs.length ∧ (k = 0 ∨ need + k < xs.length), keep := [4, 11, 13, 14], keepO := [11, 13], slots := fun k => [(12, .csl 48 (xs.drop k))], μ := fun k => xs.length - k }
def likeS (mc nw : Int) : Sight := ⟨1, station mc, IntKind.i64.wrap nw⟩
def annActive (mc nw m : Int) : Ann A := { G := Nat, inv := fun k => (k : Int) ≤ m, keep := [1, 3, 9, 10], keepO := [9, 10], slots := fun k => [(12, .int .i64 k), (11, .orow 0)], owns := fun k => [(0, .row 48 (List.replicate k (likeS mc nw)))], μ := fun k => (m - k).toNat }
def manyOf (c2 n : Int) : Int := IntKind.i64.wrap (fc 6 c2 + IntKind.i64.wrap (n.tmod 4))
def evictOk (c2 : Int) (xs : List Seen) : Prop := xs.length < 9223372036854775808 ∧ 0 ≤ c2
def oldOk (c0 c1 c2 n : Int) (xs : List Seen) : Prop := xs.length < 9223372036854775808 ∧ lateOk xs ∧ 0 ≤ c0 ∧ 0 ≤ c1 ∧ 0 ≤ c2 ∧ 0 ≤ n ∧ n < 65536
def activeOk (c0 c2 n nw : Int) : Prop := 0 ≤ c0 ∧ 0 ≤ c2 ∧ (0 ≤ n ∧ n < 256) ∧ 0 ≤ nw ∧ nw < 65536
def spEvict : Sx.Spec A
  | [.agg [.int .u8 c0, .int .u8 c1, .int .u8 c2, .int .u8 c3, .int .u8 c4, .int .u8 c5, .int .u8 c6, .int .u8 c7, .int .u8 c8], .csl 57 xs, .int .u8 mc, .bool hd, .int .u8 nw] => some (some (evictOk c2 xs), .bool true)
  | _ => none
def spOld : Sx.Spec A
  | [.agg [.int .u8 c0, .int .u8 c1, .int .u8 c2, .int .u8 c3, .int .u8 c4, .int .u8 c5, .int .u8 c6, .int .u8 c7, .int .u8 c8], .csl 57 xs, .bool hd, .int .u16 n] => some (some (oldOk c0 c1 c2 n xs), .bool true)
  | _ => none
def spActive : Sx.Spec A
  | [.agg [.int .u8 c0, .int .u8 c1, .int .u8 c2, .int .u8 c3, .int .u8 c4, .int .u8 c5, .int .u8 c6, .int .u8 c7, .int .u8 c8], .int .u8 n, .int .u8 mc, .int .u16 nw] => some (some (activeOk c0 c2 n nw), .bool true)
  | _ => none
def namesOk (n m : Int) : Prop := (-128 ≤ n ∧ n < 128) ∧ (-128 ≤ m ∧ m < 128)
def spNames : Sx.Spec A
  | [.int .i8 n, .int .i8 m] => some (some (namesOk n m), .bool true)
  | _ => none
end Go.Proofs.Ytpokkmgnapoomaa.Stat
