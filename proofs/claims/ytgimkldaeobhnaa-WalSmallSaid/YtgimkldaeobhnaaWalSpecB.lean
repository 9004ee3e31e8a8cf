/- The log: what the law's small functions come to, and the tables for it. -/
import Derived.Test.YtgimkldaeobhnaaWalMathE
namespace Go.Proofs.Ytgimkldaeobhnaa.Dsk
open Go Go.Proofs.Ytgimkldaeobhnaa.Sx

def spSmallW : Sx.Spec A
  | [.int .i64 _, .csl 5 b] => some (some (lenOk (α := Int) b ∧ bytesOk b), .bool true)
  | _ => none
end Go.Proofs.Ytgimkldaeobhnaa.Dsk
