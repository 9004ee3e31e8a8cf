/- Cases: what the laws give, and their loops. -/
import Derived.Test.YtlamlmihojodfaaCasSpec
namespace Go.Proofs.Ytlamlmihojodfaa.Cas
open Go Go.Proofs.Ytlamlmihojodfaa.Sx

/-! ### CasesFind -/
def wantTo (b : Int) (cs : List Cse) : Nat → Int
  | 0 => -1
  | k + 1 => if ((decide (wantTo b cs k < 0) && (getC cs k).addr == b) && openC (getC cs k)) = true then (k : Int) else wantTo b cs k
def twoA (x n : Int) : List Int := [x, nearA n]
def annFind (x n : Int) : Ann A := { G := Nat, inv := fun k => k ≤ 2, keep := [0, 18], slots := fun k => [(17, .csl 24 (twoA x n)), (19, .int .i64 k)], μ := fun k => 2 - k }
def annFindI (cs : List Cse) (x n : Int) (k : Nat) : Ann A := { G := Nat, inv := fun j => j ≤ cs.length, keep := [0, 8, 17, 18, 19, 23, 24], slots := fun j => [(25, .int .i64 j), (9, .int .i64 (wantTo ((twoA x n).getD k 0) cs j))], μ := fun j => cs.length - j }
def spLFind : Sx.Spec A
  | [.csl 30 cs, .int .u8 _, .int .u32 _] => some (some (lenOk cs), .bool true)
  | _ => none
/-! ### CasesEnds, CasesQuiet, CasesApproved, CasesOver -/
def nOk (xs : List Act) : Prop := ∀ a ∈ xs, 0 ≤ a.op ∧ 0 ≤ a.n
def actsOk (xs : List Act) : Prop := lenOk xs ∧ nOk xs
def lastE (c7 c8 : Int) (xs : List Act) : List Cse := tickL c7 (IntKind.i64.wrap ((someL c7 c8 xs).2 + c7)) (someL c7 c8 xs).1
def annEnds (c7 c8 : Int) (xs : List Act) : Ann A := { G := Nat, inv := fun k => k ≤ (lastE c7 c8 xs).length, keep := [6, 27, 28], slots := fun k => [(29, .int .i64 k)], μ := fun k => (lastE c7 c8 xs).length - k }
def spLEnds : Sx.Spec A
  | [.agg [.int .u8 c0, .int .u8 c1, .int .u8 c2, .int .u8 c3, .int .u8 c4, .int .u8 c5, .int .u8 c6, .int .u8 c7, .int .u8 c8], .csl 46 xs] => some (some (actsOk xs ∧ 0 ≤ c7), .bool true)
  | _ => none
def spLQuiet : Sx.Spec A
  | [.agg [.int .u8 c0, .int .u8 c1, .int .u8 c2, .int .u8 c3, .int .u8 c4, .int .u8 c5, .int .u8 c6, .int .u8 c7, .int .u8 c8], .int .u8 _, .int .u8 t, .int .u8 l] => some (some ((0 ≤ t ∧ t < 256) ∧ 0 ≤ l ∧ l < 256), .bool true)
  | _ => none
def spLApp : Sx.Spec A
  | [.agg [.int .u8 c0, .int .u8 c1, .int .u8 c2, .int .u8 c3, .int .u8 c4, .int .u8 c5, .int .u8 c6, .int .u8 c7, .int .u8 c8], .int .u8 _, .int .u16 t] => some (some (0 ≤ t ∧ t < 65536), .bool true)
  | _ => none
def spLOver : Sx.Spec A
  | [.agg [.int .u8 c0, .int .u8 c1, .int .u8 c2, .int .u8 c3, .int .u8 c4, .int .u8 c5, .int .u8 c6, .int .u8 c7, .int .u8 c8], .csl 46 xs, .int .u8 _] => some (some (actsOk xs), .bool true)
  | _ => none
/-! ### CasesScript -/
def annScr (op q : Int) (xs : List Act) : Ann A := { G := Nat, inv := fun k => k ≤ xs.length, keep := [5, 25, 26], keepO := [5], slots := fun k => [(27, .int .i64 k), (6, .csl 30 (someAt op q xs k).1), (7, .int .i64 (someAt op q xs k).2)], μ := fun k => xs.length - k }
def annScrI (op q : Int) (xs : List Act) (k : Nat) : Ann A := { G := Nat, inv := fun j => j ≤ (someAt op q xs k).1.length, keep := [5, 6, 7, 10, 25, 26, 27, 50, 51], keepO := [5], slots := fun j => [(52, .int .i64 j)], μ := fun j => (someAt op q xs k).1.length - j }
def spLScr : Sx.Spec A
  | [.agg [.int .u8 c0, .int .u8 c1, .int .u8 c2, .int .u8 c3, .int .u8 c4, .int .u8 c5, .int .u8 c6, .int .u8 c7, .int .u8 c8], .csl 46 xs] => some (some (actsOk xs), .bool true)
  | _ => none
end Go.Proofs.Ytlamlmihojodfaa.Cas
