/- Questions that wait: what is said of the laws ProbeOf, ProbeRight, ProbeEnds, ProbeTwice. -/
import Derived.Test.YtnjildbclmglpaaProMath
namespace Go.Proofs.Ytnjildbclmglpaa.Pro
open Go Go.Proofs.Ytnjildbclmglpaa.Sx

def tab6 : List (Nat × Con A) := (9, .pure spAwake) :: (10, .pure spSome) :: tab5
theorem laws6 : Laws Try.prog u tab6 := by
  refine ⟨law, clean, fun p hp => ?_⟩
  rcases List.mem_cons.1 hp with rfl | hp
  · exact okAwake
  rcases List.mem_cons.1 hp with rfl | hp
  · exact okSome
  exact laws5.tab p hp
def u32R (n : Int) : Prop := 0 ≤ n ∧ n < 4294967296
def spLOf : Sx.Spec A
  | [.int .u32 a, .int .i64 s, .int .i64 now] => some (some (u32R a), .bool true)
  | _ => none
def rightOk (raw : List Prb) (acts : List Act) (c6 z : Int) (p : Prb) : Prop := (lenOk raw ∧ rngL raw) ∧ (actsOk acts ∧ nOk acts ∧ 0 ≤ c6) ∧ (0 ≤ z ∧ z < 256) ∧ (0 ≤ p.addr ∧ p.addr < 4294967296)
def spLRight : Sx.Spec A
  | [.csl 29 raw, .agg [.int .u8 c0, .int .u8 c1, .int .u8 c2, .int .u8 c3, .int .u8 c4, .int .u8 c5, .int .u8 c6, .int .u8 c7, .int .u8 c8], .csl 51 acts, .int .u8 z, .agg [.int .u32 a, .int .i64 b, .int .i64 c, .int .i64 d, .int .i64 e]] => some (some (rightOk raw acts c6 z ⟨a, b, c, d, e⟩), .bool true)
  | _ => none
def endsOk (acts : List Act) (c5 c6 : Int) : Prop := actsOk acts ∧ nOk acts ∧ 0 ≤ c5 ∧ 0 ≤ c6
def spLEnds : Sx.Spec A
  | [.agg [.int .u8 c0, .int .u8 c1, .int .u8 c2, .int .u8 c3, .int .u8 c4, .int .u8 c5, .int .u8 c6, .int .u8 c7, .int .u8 c8], .csl 51 acts] => some (some (endsOk acts c5 c6), .bool true)
  | _ => none
def manyE (c5 c6 : Int) : Int := IntKind.i64.wrap (IntKind.i64.wrap (c6 + 1) * c5)
def annEnds (c5 c6 : Int) (acts : List Act) : Ann A := { G := Nat, inv := fun k => (k : Int) ≤ manyE c5 c6, keep := [5], keepO := [5], slots := fun k => [(8, .int .i64 k), (7, .int .i64 ((someL c5 c6 acts).2 + k)), (6, .csl 29 (endsAt c5 c6 (someL c5 c6 acts).2 (someL c5 c6 acts).1 k))], μ := fun k => (manyE c5 c6 - k).toNat }
/-- What comes of asking again. -/
def twL (c5 c6 r : Int) (acts : List Act) : List Prb × List Prb := lateL c5 c6 (IntKind.i64.wrap ((someL c5 c6 acts).2 + c5)) (IntKind.i64.wrap r) (someL c5 c6 acts).1
def twiceOk (acts : List Act) (c5 c6 r : Int) : Prop := endsOk acts c5 c6 ∧ 0 ≤ r ∧ r < 256
def spLTwice : Sx.Spec A
  | [.agg [.int .u8 c0, .int .u8 c1, .int .u8 c2, .int .u8 c3, .int .u8 c4, .int .u8 c5, .int .u8 c6, .int .u8 c7, .int .u8 c8], .csl 51 acts, .int .u8 r] => some (some (twiceOk acts c5 c6 r), .bool true)
  | _ => none
def annTwice (n : Nat) : Ann A := { G := Nat, inv := fun k => k ≤ n, keep := [7, 8, 9, 10, 54, 55], keepO := [7], slots := fun k => [(56, .int .i64 k)], μ := fun k => n - k }
def annTwiceI (l : List Prb) (p : Prb) : Ann A := { G := Nat, inv := fun j => j ≤ l.length, keep := [7, 8, 9, 10, 13, 15, 54, 55, 56, 60, 61], keepO := [7, 13], slots := fun j => [(62, .int .i64 j), (14, .bool ((l.take j).any (same5 p)))], μ := fun j => l.length - j }
def annTwiceW (ps : List Prb) (p : Prb) : Ann A := { G := Nat, inv := fun j => j ≤ ps.length, keep := [7, 8, 9, 10, 13, 14, 54, 55, 56, 73, 74], keepO := [7, 13], slots := fun j => [(75, .int .i64 j), (15, .bool ((ps.take j).any (wasP p)))], μ := fun j => ps.length - j }
end Go.Proofs.Ytnjildbclmglpaa.Pro
