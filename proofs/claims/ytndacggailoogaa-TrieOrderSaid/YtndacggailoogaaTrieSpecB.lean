/- Tries: the contracts of the laws' functions. -/
import Derived.Test.YtndacggailoogaaTrieSpec
namespace Go.Proofs.Ytndacggailoogaa.Tri
open Go Go.Proofs.Ytndacggailoogaa.Sx

def spAwake : Sx.Spec A
  | [] => some (none, .bool true)
  | _ => none
def tab7 : List (Nat × Con A) := (8, .pure spAwake) :: tab6
def spLTwo : Sx.Spec A
  | [.int .u32 a, .int .u8 b, .int .u32 c, .int .u8 m] => some (some ((0 ≤ a ∧ a < 4294967296) ∧ 0 ≤ b ∧ (0 ≤ c ∧ c < 4294967296) ∧ 0 ≤ m), .bool true)
  | _ => none
def spLHalves : Sx.Spec A
  | [.int .u32 a, .int .u8 b, .int .u16 k] => some (some ((0 ≤ a ∧ a < 4294967296) ∧ 0 ≤ b ∧ 0 ≤ k ∧ k < 65536), .bool true)
  | _ => none
end Go.Proofs.Ytndacggailoogaa.Tri
