/- Sightings: what is said of the law SeenRight. -/
import Derived.Test.YtcgeccpookgoeaaSeenSpecB
namespace Go.Proofs.Ytcgeccpookgoeaa.Seen
open Go Go.Proofs.Ytcgeccpookgoeaa.Sx

def rightOk (raw : List Known) (acts : List Act) (n : Int) : Prop := rowOk raw ∧ actsOk acts ∧ 0 ≤ n ∧ n < 256
def spLRight : Sx.Spec A
  | [.csl 53 raw, .csl 28 acts, .int .u8 n, .agg [.int .i64 _, .int .u8 _, .int .u8 _, .int .u8 _, .int .u8 _, .int .u8 _, .int .u8 _, .int .i64 _]] => some (some (rightOk raw acts n), .bool true)
  | _ => none
end Go.Proofs.Ytcgeccpookgoeaa.Seen
