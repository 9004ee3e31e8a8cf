/- Sightings: what is said of the laws. -/
import Derived.Test.YtcgeccpookgoeaaSeenWalkB
namespace Go.Proofs.Ytcgeccpookgoeaa.Seen
open Go Go.Proofs.Ytcgeccpookgoeaa.Sx

def wantA (odd : Bool) (a : Int) : Bool := (a.tmod 2 == 1) == odd
def wantK (odd : Bool) (x : Known) : Bool := wantA odd x.addr
def spWant : Sx.Spec A
  | [.int .u32 a, .cptr [.bool odd] 0] => some (none, .bool (wantA odd a))
  | _ => none
def hForget : HSpec A
  | [.csl 53 ks, .fn 21 [.optr 0 0]], [.var [.bool odd]] => some (some (ks.length * 32 ≤ 140737488355328), .orow 1, [.var [.bool odd], .row 53 (ks.filter (wantK odd))])
  | _, _ => none
def annForget (odd : Bool) (ks : List Known) : Ann A := { G := Nat, inv := fun k => k ≤ ks.length, keep := [1, 8, 9], slots := fun k => [(10, .int .i64 k), (5, .orow 0)], owns := fun k => [(0, .row 53 ((ks.take k).filter (wantK odd))), (64, .var [.bool odd])], μ := fun k => ks.length - k }
def tab7 : List (Nat × Con A) := (21, .pure spWant) :: tab6
def tab8 : List (Nat × Con A) := (20, .heap hForget) :: tab7
/-! ### the laws -/
def spLKeep : Sx.Spec A
  | [.csl 35 ss, .agg [.int .i64 s, .int .u8 a, .int .u8 b, .int .u8 c, .int .u8 d, .int .u8 e, .int .u8 f, .int .i64 t]] => some (some (lenOk ss), .bool true)
  | _ => none
def apartOk (acts : List Act) (a : Act) : Prop := actsOk acts ∧ actOk a
def spLApart : Sx.Spec A
  | [.csl 28 acts, .agg [.int .u8 a, .int .u8 b, .int .u8 c, .int .u8 d]] => some (some (apartOk acts ⟨a, b, c, d⟩), .bool true)
  | _ => none
def annApart (ks : List Known) : Ann A := { G := Nat, inv := fun k => k ≤ ks.length, keep := [3, 5, 6, 7, 8, 34, 35], keepO := [3], slots := fun k => [(36, .int .i64 k)], μ := fun k => ks.length - k }
def newOk (acts : List Act) (n : Int) : Prop := actsOk acts ∧ 0 ≤ n
def spLNew : Sx.Spec A
  | [.csl 28 acts, .int .u8 n] => some (some (newOk acts n), .bool true)
  | _ => none
def annNew (b : Int) (xs : List Act) : Ann A := { G := Nat, inv := fun k => k ≤ xs.length, keep := [5, 6, 7, 8, 30, 31], slots := fun k => [(32, .int .i64 k), (9, .int .i64 (cameN b xs k))], μ := fun k => xs.length - k }
def spLForget : Sx.Spec A
  | [.csl 28 acts, .bool odd] => some (some (actsOk acts), .bool true)
  | _ => none
def annForgetL (odd : Bool) (ks : List Known) : Ann A := { G := Nat, inv := fun k => k ≤ ks.length, keep := [3, 5, 21, 22], keepO := [3], slots := fun k => [(23, .int .i64 k), (8, .int .i64 ((ks.take k).filter (wantK odd)).length), (7, .csl 53 (ks.filter (wantK odd)))], μ := fun k => ks.length - k }
end Go.Proofs.Ytcgeccpookgoeaa.Seen
