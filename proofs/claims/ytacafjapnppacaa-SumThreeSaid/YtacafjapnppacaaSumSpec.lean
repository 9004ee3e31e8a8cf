/- Sums of bytes (package sum) and their laws: what each function gives. -/
import Derived.Test.YtacafjapnppacaaSxQ
import Derived.Test.YtacafjapnppacaaProg
import Derived.KernelRfl
namespace Go.Proofs.Ytacafjapnppacaa.Sum
open Go Go.Proofs.Ytacafjapnppacaa.Sx

def A : Nat → Type
  | 5 => Int
  | _ => Unit
def enc : ∀ T, A T → List (SV A)
  | 5, (x : Int) => [.int .u8 x]
  | _, _ => []
def dec : ∀ T, List (SV A) → Option (A T)
  | 5, [.int .u8 a] => some (a : Int)
  | _, _ => none
def dflt : ∀ T, A T
  | 5 => (0 : Int)
  | _ => by unfold A; split <;> first | exact (0 : Int) | exact ()
def isByte : Nat → Bool
  | 5 => true
  | _ => false
def nums : ∀ T, List (A T) → List Int
  | 5, xs => xs
  | _, _ => []
def ofNums : ∀ T, List Int → List (A T)
  | 5, xs => xs
  | _, _ => []
def eqv : ∀ T, Option (A T → A T → Bool)
  | 5 => some fun (a b : Int) => a == b
  | _ => none
def u : U A := { enc := enc, dec := dec, dflt := dflt, isByte := isByte, nums := nums, ofNums := ofNums, eqv := eqv }

/-- One bit of the sum of 32 bits; one byte of it. -/
def rnd (n : Int) : Int := if (bitsI .and .u32 n 1 == 1) = true then bitsI .xor .u32 (shr .u32 n 1) 2197175160 else shr .u32 n 1
def stepA (n c : Int) : Int := rnd (rnd (rnd (rnd (rnd (rnd (rnd (rnd (bitsI .xor .u32 n (IntKind.u32.wrap c)))))))))
def foldA (xs : List Int) : Int := xs.foldl stepA 4294967295
def notU (n : Int) : Int := bitsI .xor .u32 4294967295 n
def lenOk (xs : List Int) : Prop := xs.length < 9223372036854775808
def sp10 : Sx.Spec A
  | [.csl 5 xs] => some (some (lenOk xs), .int .u32 (notU (foldA xs)))
  | _ => none
/-- The same by the document's way. -/
def rndB (t : Int) : Int := if (t.tmod 2 == 1) = true then bitsI .xor .u32 (IntKind.u32.wrap (t.tdiv 2)) 2197175160 else IntKind.u32.wrap (t.tdiv 2)
def stepB (n c : Int) : Int := bitsI .xor .u32 (rndB (rndB (rndB (rndB (rndB (rndB (rndB (rndB (bitsI .and .u32 (bitsI .xor .u32 n (IntKind.u32.wrap c)) 255))))))))) (shr .u32 n 8)
def foldB (xs : List Int) : Int := xs.foldl stepB 4294967295
def sp11 : Sx.Spec A
  | [.csl 5 xs] => some (some (lenOk xs), .int .u32 (bitsI .xor .u32 (foldB xs) 4294967295))
  | _ => none
def ann10 (xs : List Int) : Ann A := { G := Nat, inv := fun k => k ≤ xs.length, keep := [7, 8], slots := fun k => [(9, .int .i64 k), (3, .int .u32 (foldA (xs.take k)))], μ := fun k => xs.length - k }
def ann11 (xs : List Int) : Ann A := { G := Nat, inv := fun k => k ≤ xs.length, keep := [8, 9], slots := fun k => [(10, .int .i64 k), (3, .int .u32 (foldB (xs.take k)))], μ := fun k => xs.length - k }
/-- The sum of words, byte by byte. -/
def stepW (n k c : Int) : Int :=
  IntKind.u32.wrap (bitsI .and .u32 (IntKind.u32.wrap (n + shl .u32 (IntKind.u32.wrap c) (IntKind.i64.wrap (8 * IntKind.i64.wrap (1 - k.tmod 2))))) 65535 + shr .u32 (IntKind.u32.wrap (n + shl .u32 (IntKind.u32.wrap c) (IntKind.i64.wrap (8 * IntKind.i64.wrap (1 - k.tmod 2))))) 16)
def wAt (xs : List Int) : Nat → Int
  | 0 => 0
  | k + 1 => stepW (wAt xs k) k (xs.getD k 0)
def notW (n : Int) : Int := bitsI .xor .u16 65535 n
def sp12 : Sx.Spec A
  | [.csl 5 xs] => some (some (lenOk xs), .int .u16 (notW (IntKind.u16.wrap (wAt xs xs.length))))
  | _ => none
def stepV (n k c : Int) : Int := IntKind.i64.wrap (n + if (k.tmod 2 == 0) = true then IntKind.i64.wrap (256 * IntKind.i64.wrap c) else IntKind.i64.wrap c)
def downV (n : Int) : Int := if decide (n > 65535) = true then IntKind.i64.wrap (n - 65535) else n
def vAt (xs : List Int) : Nat → Int
  | 0 => 0
  | k + 1 => downV (stepV (vAt xs k) k (xs.getD k 0))
def sp13 : Sx.Spec A
  | [.csl 5 xs] => some (some (lenOk xs), .int .u16 (IntKind.u16.wrap (IntKind.i64.wrap (65535 - vAt xs xs.length))))
  | _ => none
def ann12 (xs : List Int) : Ann A := { G := Nat, inv := fun k => k ≤ xs.length, keep := [6, 7], slots := fun k => [(8, .int .i64 k), (3, .int .u32 (wAt xs k))], μ := fun k => xs.length - k }
def ann13 (xs : List Int) : Ann A := { G := Nat, inv := fun k => k ≤ xs.length, keep := [0, 6], slots := fun k => [(7, .int .i64 k), (3, .int .i64 (vAt xs k))], μ := fun k => xs.length - k }
def sp14 : Sx.Spec A
  | [.csl 5 xs] => some (some (lenOk xs), .bool (notW (IntKind.u16.wrap (wAt xs xs.length)) == 0))
  | _ => none
def sp9 : Sx.Spec A
  | [] => some (none, .bool true)
  | _ => none
def tab1 : List (Nat × Con A) := [(10, .pure sp10), (11, .pure sp11), (12, .pure sp12), (13, .pure sp13)]
def tab2 : List (Nat × Con A) := (9, .pure sp9) :: (14, .pure sp14) :: tab1
def tab0 : List (Nat × Con A) := []
/-- The bytes of a number, the lowest first. -/
def byteOf (a : Int) (k : Nat) : Int := IntKind.u8.wrap (shr .u64 a (8 * (k : Int)))
def bsOf (a : Int) (k : Nat) : List Int := (List.range k).map (byteOf a)
def ann5 (a b c : Int) : Ann A := { G := Nat, inv := fun k => k ≤ 8, keep := [0, 1, 2], slots := fun k => [(11, .int .i64 (8 * (k : Int))), (7, .orow 0), (8, .orow 1), (9, .orow 2), (10, .orow 3)], owns := fun k => [(0, .row 5 (bsOf a k)), (1, .row 5 (bsOf b k)), (2, .row 5 (bsOf c k)), (3, .row 5 (bsOf (bitsI .xor .u64 (bitsI .xor .u64 a b) c) k))], μ := fun k => 8 - k }
end Go.Proofs.Ytacafjapnppacaa.Sum
