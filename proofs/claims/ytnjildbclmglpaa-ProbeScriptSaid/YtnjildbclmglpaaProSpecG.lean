/- Questions that wait: what the law ProbeScript goes by. -/
import Derived.Test.YtnjildbclmglpaaProWalkF
namespace Go.Proofs.Ytnjildbclmglpaa.Pro
open Go Go.Proofs.Ytnjildbclmglpaa.Sx

/-- The last place of an address, or -1. -/
def lastTo (b : Int) (xs : List Prb) : Nat → Int
  | 0 => -1
  | j + 1 => if ((getP xs j).addr == b) = true then (j : Int) else lastTo b xs j
def lastI (b : Int) (xs : List Prb) : Int := lastTo b xs xs.length
def rawP (now : Int) (a : Act) : Prb := ⟨nearA a.addr, IntKind.i64.wrap ((nearA a.addr).tmod 65536), IntKind.i64.wrap a.num, now, 0⟩
def seqA (ps : List Prb) (a : Act) : Int := if (decide (lastI (nearA a.addr) ps ≥ 0) && decide (a.n.tmod 3 > 0)) = true then (getP ps (lastI (nearA a.addr) ps).toNat).num else IntKind.i64.wrap a.num
def okA (ps : List Prb) (a : Act) : Bool := decide (lastI (nearA a.addr) ps ≥ 0) && decide (a.n.tmod 5 > 0) && seqA ps a == (getP ps (lastI (nearA a.addr) ps).toNat).num
def isAns (a : Act) : Bool := a.op.tmod 4 == 1
def scrStep (c5 c6 : Int) (r : List Prb × Int) (a : Act) : List Prb × Int :=
  if isTick a = true then ((lateL c5 c6 (nowStep r.2 a) (IntKind.i64.wrap (a.n.tmod 7)) r.1).1, nowStep r.2 a)
  else if isAns a = true then ((if okA r.1 a = true then cutAt r.1 (lastI (nearA a.addr) r.1).toNat else r.1), r.2)
  else ((if (putErr r.1 (askP r.2 a) == 0) = true then r.1 ++ [rawP r.2 a] else r.1), r.2)
def scrAt (c5 c6 : Int) (xs : List Act) : Nat → List Prb × Int
  | 0 => ([], 0)
  | k + 1 => scrStep c5 c6 (scrAt c5 c6 xs k) (getA xs k)
def annScr (c5 c6 : Int) (xs : List Act) : Ann A := { G := Nat, inv := fun k => k ≤ xs.length, keep := [5, 34, 35], keepO := [5], slots := fun k => [(36, .int .i64 k), (6, .csl 29 (scrAt c5 c6 xs k).1), (7, .int .i64 (scrAt c5 c6 xs k).2)], μ := fun k => xs.length - k }
def annScrI (c5 c6 : Int) (xs : List Act) (k : Nat) : Ann A := { G := Nat, inv := fun j => j ≤ (scrAt c5 c6 xs k).1.length, keep := [5, 6, 7, 9, 10, 34, 35, 36, 43, 44], keepO := [5, 9], slots := fun j => [(45, .int .i64 j), (11, .int .i64 (lastTo (nearA (getA xs k).addr) (scrAt c5 c6 xs k).1 j))], μ := fun j => (scrAt c5 c6 xs k).1.length - j }
def nOk2 (xs : List Act) : Prop := ∀ a ∈ xs, 0 ≤ a.n ∧ 0 ≤ a.num ∧ a.num < 65536
def scrOk (acts : List Act) (c5 c6 : Int) : Prop := actsOk acts ∧ nOk2 acts ∧ 0 ≤ c5 ∧ 0 ≤ c6
def spLScr : Sx.Spec A
  | [.agg [.int .u8 c0, .int .u8 c1, .int .u8 c2, .int .u8 c3, .int .u8 c4, .int .u8 c5, .int .u8 c6, .int .u8 c7, .int .u8 c8], .csl 51 acts] => some (some (scrOk acts c5 c6), .bool true)
  | _ => none
end Go.Proofs.Ytnjildbclmglpaa.Pro
