/- Cases: the law CasesRight: what its own test gives. -/
import Derived.Test.YtlamlmihojodfaaCasSpecB
namespace Go.Proofs.Ytlamlmihojodfaa.Cas
open Go Go.Proofs.Ytlamlmihojodfaa.Sx

def isAt (cs : List Cse) : Nat → List (Int × Bool)
  | 0 => []
  | k + 1 => setM (isAt cs k) (getC cs k).addr (getM (isAt cs k) (getC cs k).addr false || openC (getC cs k))
def badR (cs : List Cse) (k : Nat) : Bool := (((((((decide ((getC cs k).stage < 0) || decide ((getC cs k).stage > 5)) || decide ((getC cs k).raised < 0)) || decide ((getC cs k).raised > 1099511627776)) || decide ((getC cs k).ended < 0)) || decide ((getC cs k).ended > 1099511627776))
  || (openC (getC cs k) && ((getC cs k).ended != 0 || getM (isAt cs k) (getC cs k).addr false))) || (!openC (getC cs k) && decide ((getC cs k).ended < (getC cs k).raised)))
def okR (cs : List Cse) : Nat → Bool
  | 0 => true
  | k + 1 => okR cs k && !badR cs k
def rightR (cs : List Cse) : Bool := okR cs cs.length && decide ((cs.length : Int) ≤ 16)
def spRightR : Sx.Spec A
  | [.csl 30 xs] => some (some (lenOk xs), .bool (rightR xs))
  | _ => none
def annRightR (cs : List Cse) : Ann A := { G := Nat, inv := fun k => k ≤ cs.length ∧ okR cs k = true, keep := [0, 7, 8], slots := fun k => [(9, .int .i64 k), (3, .omap 0)], owns := fun k => [(0, .mp .u32 4 (isAt cs k))], μ := fun k => cs.length - k }
def spLRight : Sx.Spec A
  | [.csl 30 raw, .agg [.int .u8 c0, .int .u8 c1, .int .u8 c2, .int .u8 c3, .int .u8 c4, .int .u8 c5, .int .u8 c6, .int .u8 c7, .int .u8 c8], .csl 46 xs, .int .u8 n, .agg [.int .u32 _, .int .i64 _, .int .i64 _, .int .i64 _]] => some (some (lenOk raw ∧ actsOk xs ∧ 0 ≤ n ∧ n < 256), .bool true)
  | _ => none
def tab11 : List (Nat × Con A) := (23, .pure spRightR) :: tab10
end Go.Proofs.Ytlamlmihojodfaa.Cas
