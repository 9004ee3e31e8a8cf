/- Packets of the wire: what reading gives; what the laws' own ways give. -/
import Derived.Test.YtghaljkohheioaaWireWalkB
namespace Go.Proofs.Ytghaljkohheioaa.Wire
open Go Go.Proofs.Ytghaljkohheioaa.Sx Go.Proofs.Ytghaljkohheioaa.Sum

def part (xs : List Int) (lo hi : Nat) : List Int := (xs.take hi).drop lo
def numOf (xs : List Int) : Int := numAt xs xs.length
/-- What is wrong with an echo's form. -/
def badE (xs : List Int) : Bool := (xs.length : Int) != 32 || xs.getD 0 0 != 69 || numOf (part xs 2 4) != 32 || xs.getD 9 0 != 1 || (xs.getD 20 0 != 0 && xs.getD 20 0 != 8) || xs.getD 21 0 != 0
def sumE (xs : List Int) : Bool := !(word (part xs 0 20) == 0) || !(word (part xs 20 xs.length) == 0)
def errE (xs : List Int) : Int := if badE xs = true then 1 else if sumE xs = true then 2 else 0
def rA (xs : List Int) : Bool := if errE xs = 0 then xs.getD 20 0 == 0 else false
def rN (xs : List Int) (n : Int) : Int := if errE xs = 0 then n else 0
def spReadE : Sx.Spec A
  | [.csl 5 xs] => some (some (lenOk xs), .tup [pkt (rA xs) (rN xs (IntKind.u32.wrap (numOf (part xs 12 16)))) (rN xs (IntKind.u32.wrap (numOf (part xs 16 20)))) 0 0 0 0 0 0 (rN xs (numOf (part xs 24 26))) (rN xs (numOf (part xs 26 28))), .int .i64 (errE xs)])
  | _ => none
def inR (k : Int) (n : Int) : Prop := 0 ≤ n ∧ n < k
def spEchoS : Sx.Spec A
  | [.agg [.bool a, .int .u32 f, .int .u32 t, .int .u8 _, .int .u8 _, .int .u8 _, .int .u8 _, .int .u8 _, .int .u8 _, .int .i64 i, .int .i64 q]] => some (some (inR 4294967296 f ∧ inR 4294967296 t), .str (bytesOf (echoB a f t i q)))
  | _ => none
def noneM (m0 m1 m2 m3 m4 m5 : Int) : Bool := m0 == 0 && (m1 == 0 && (m2 == 0 && (m3 == 0 && (m4 == 0 && m5 == 0))))
def spNone : Sx.Spec A
  | [.agg [.int .u8 m0, .int .u8 m1, .int .u8 m2, .int .u8 m3, .int .u8 m4, .int .u8 m5]] => some (none, .bool (noneM m0 m1 m2 m3 m4 m5))
  | _ => none
def groupM (m0 : Int) : Bool := bitsI .and .u8 m0 1 == 1
def spGroup : Sx.Spec A
  | [.agg [.int .u8 m0, .int .u8 _, .int .u8 _, .int .u8 _, .int .u8 _, .int .u8 _]] => some (none, .bool (groupM m0))
  | _ => none
def tab2 : List (Nat × Con A) := (16, .pure spSealed) :: (10, .heap hEcho) :: tab1
theorem laws2 : Laws Try.prog u tab2 := { toLaw := law, clean := clean, tab := fun p hp => by
                                            rcases List.mem_cons.1 hp with rfl | hp
                                            · exact okSealed
                                            rcases List.mem_cons.1 hp with rfl | hp
                                            · exact okEcho
                                            exact laws1.tab p hp }
end Go.Proofs.Ytghaljkohheioaa.Wire
