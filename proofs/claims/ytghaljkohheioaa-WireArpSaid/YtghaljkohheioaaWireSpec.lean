/- Packets of the wire (package wire) and their laws: what each function gives. -/
import Derived.Test.YtghaljkohheioaaSumMathC
import Derived.Test.YtghaljkohheioaaProg
import Derived.KernelRfl
namespace Go.Proofs.Ytghaljkohheioaa.Wire
open Go Go.Proofs.Ytghaljkohheioaa.Sx Go.Proofs.Ytghaljkohheioaa.Sum

def A : Nat → Type
  | 5 => Int
  | 29 => List Int
  | _ => Unit
def enc : ∀ T, A T → List (SV A)
  | 5, (x : Int) => [.int .u8 x]
  | 29, (x : List Int) => [.csl 5 x]
  | _, _ => []
def dec : ∀ T, List (SV A) → Option (A T)
  | 5, [.int .u8 a] => some (a : Int)
  | 29, [.csl 5 xs] => some (xs : List Int)
  | 29, [.nils] => some ([] : List Int)
  | 29, [.zsl] => some ([] : List Int)
  | _, _ => none
def dflt : ∀ T, A T
  | 5 => (0 : Int)
  | 29 => ([] : List Int)
  | _ => by unfold A; split <;> first | exact (0 : Int) | exact ([] : List Int) | exact ()
def isByte : Nat → Bool
  | 5 => true
  | _ => false
def nums : ∀ T, List (A T) → List Int
  | 5, xs => xs
  | _, _ => []
def ofNums : ∀ T, List Int → List (A T)
  | 5, xs => xs
  | _, _ => []
def eqv : ∀ T, Option (A T → A T → Bool)
  | 5 => some fun (a b : Int) => a == b
  | _ => none
def u : U A := { enc := enc, dec := dec, dflt := dflt, isByte := isByte, nums := nums, ofNums := ofNums, eqv := eqv }

/-! ### sums -/
def annW (xs : List Int) : Ann A := { G := Nat, inv := fun k => k ≤ xs.length, keep := [6, 7], slots := fun k => [(8, .int .i64 k), (3, .int .u32 (wAt xs k))], μ := fun k => xs.length - k }
def spWords : Sx.Spec A
  | [.csl 5 xs] => some (some (lenOk xs), .int .u16 (notW (IntKind.u16.wrap (wAt xs xs.length))))
  | _ => none
def spSealed : Sx.Spec A
  | [.csl 5 xs] => some (some (lenOk xs), .bool (notW (IntKind.u16.wrap (wAt xs xs.length)) == 0))
  | _ => none

/-! ### numbers in packets -/
def layB (n : Int) (len k : Nat) : Int := IntKind.u8.wrap (shr .i64 n (IntKind.i64.wrap (8 * IntKind.i64.wrap (IntKind.i64.wrap ((len : Int) - 1) - k))))
def layK (xs : List Int) (lo len : Nat) (n : Int) : Nat → List Int
  | 0 => xs
  | k + 1 => (layK xs lo len n k).set (lo + k) (layB n len k)
def hLay : HSpec A
  | [.osl 0 lo len, .int .i64 n], [.row 5 xs] => some (some (len ≤ 1000), .tup [], [.row 5 (layK xs lo len n len)])
  | _, _ => none
def annLay (xs : List Int) (lo len : Nat) (n : Int) : Ann A := { G := Nat, inv := fun k => k ≤ len, keep := [1, 6], slots := fun k => [(0, .osl 64 lo len), (7, .int .i64 k)], owns := fun k => [(64, .row 5 (layK xs lo len n k))], μ := fun k => len - k }
def numAt (xs : List Int) : Nat → Int
  | 0 => 0
  | k + 1 => bitsI .or .i64 (shl .i64 (numAt xs k) 8) (IntKind.i64.wrap (xs.getD k 0))
def spNumber : Sx.Spec A
  | [.csl 5 xs] => some (some (lenOk xs), .int .i64 (numAt xs xs.length))
  | _ => none
def annNum (xs : List Int) : Ann A := { G := Nat, inv := fun k => k ≤ xs.length, keep := [6, 7], slots := fun k => [(8, .int .i64 k), (3, .int .i64 (numAt xs k))], μ := fun k => xs.length - k }
def spIp : Sx.Spec A
  | [.int .u32 a] => some (none, .str (bytesOf [IntKind.u8.wrap (shr .u32 a 24), IntKind.u8.wrap (shr .u32 a 16), IntKind.u8.wrap (shr .u32 a 8), IntKind.u8.wrap a]))
  | _ => none
def spTwo : Sx.Spec A
  | [.int .i64 n] => some (none, .str (bytesOf [IntKind.u8.wrap (shr .i64 n 8), IntKind.u8.wrap n]))
  | _ => none
def tab0 : List (Nat × Con A) := []
end Go.Proofs.Ytghaljkohheioaa.Wire
