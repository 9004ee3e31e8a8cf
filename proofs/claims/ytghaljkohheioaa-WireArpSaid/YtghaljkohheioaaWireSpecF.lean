/- Packets of the wire: what reading the other kind of packet gives. -/
import Derived.Test.YtghaljkohheioaaWireWalkE
namespace Go.Proofs.Ytghaljkohheioaa.Wire
open Go Go.Proofs.Ytghaljkohheioaa.Sx Go.Proofs.Ytghaljkohheioaa.Sum

def headArp : ByteArray := ⟨#[0, 1, 8, 0, 6, 4, 0]⟩
/-- What is wrong with its form; with its station. -/
def badA (xs : List Int) : Bool := (xs.length : Int) != 28 || !((bytesOf (part xs 0 7)).toList == headArp.toList) || decide (xs.getD 7 0 < 1) || decide (xs.getD 7 0 > 2)
def mA (xs : List Int) (i : Nat) : Int := (part xs 8 14).getD i 0
def macA (xs : List Int) : Bool := xs.getD 7 0 == 2 && (noneM (mA xs 0) (mA xs 1) (mA xs 2) (mA xs 3) (mA xs 4) (mA xs 5) || groupM (mA xs 0))
def errA (xs : List Int) : Int := if badA xs = true then 1 else if macA xs = true then 1 else 0
def aB (xs : List Int) : Bool := if errA xs = 0 then xs.getD 7 0 == 2 else false
def aN (xs : List Int) (n : Int) : Int := if errA xs = 0 then n else 0
def outA (xs : List Int) : SV A := .tup [pkt (aB xs) (aN xs (IntKind.u32.wrap (numOf (part xs 14 18)))) (aN xs (IntKind.u32.wrap (numOf (part xs 24 28)))) (aN xs (mA xs 0)) (aN xs (mA xs 1)) (aN xs (mA xs 2)) (aN xs (mA xs 3)) (aN xs (mA xs 4)) (aN xs (mA xs 5)) 0 0, .int .i64 (errA xs)]
def spReadA : Sx.Spec A
  | [.csl 5 xs] => some (some (lenOk xs), outA xs)
  | _ => none
end Go.Proofs.Ytghaljkohheioaa.Wire
