/- Sums of bytes (package sum): what they come to, in numbers. -/
import Derived.Test.YtghaljkohheioaaSxQ
namespace Go.Proofs.Ytghaljkohheioaa.Sum
open Go Go.Proofs.Ytghaljkohheioaa.Sx

/-- One bit of the sum of 32 bits; one byte of it. -/
def rnd (n : Int) : Int := if (bitsI .and .u32 n 1 == 1) = true then bitsI .xor .u32 (shr .u32 n 1) 2197175160 else shr .u32 n 1
def stepA (n c : Int) : Int := rnd (rnd (rnd (rnd (rnd (rnd (rnd (rnd (bitsI .xor .u32 n (IntKind.u32.wrap c)))))))))
def foldA (xs : List Int) : Int := xs.foldl stepA 4294967295
def notU (n : Int) : Int := bitsI .xor .u32 4294967295 n
def lenOk (xs : List Int) : Prop := xs.length < 9223372036854775808
/-- The same by the document's way. -/
def rndB (t : Int) : Int := if (t.tmod 2 == 1) = true then bitsI .xor .u32 (IntKind.u32.wrap (t.tdiv 2)) 2197175160 else IntKind.u32.wrap (t.tdiv 2)
def stepB (n c : Int) : Int := bitsI .xor .u32 (rndB (rndB (rndB (rndB (rndB (rndB (rndB (rndB (bitsI .and .u32 (bitsI .xor .u32 n (IntKind.u32.wrap c)) 255))))))))) (shr .u32 n 8)
def foldB (xs : List Int) : Int := xs.foldl stepB 4294967295
/-- The sum of words, byte by byte. -/
def stepW (n k c : Int) : Int :=
  IntKind.u32.wrap (bitsI .and .u32 (IntKind.u32.wrap (n + shl .u32 (IntKind.u32.wrap c) (IntKind.i64.wrap (8 * IntKind.i64.wrap (1 - k.tmod 2))))) 65535 + shr .u32 (IntKind.u32.wrap (n + shl .u32 (IntKind.u32.wrap c) (IntKind.i64.wrap (8 * IntKind.i64.wrap (1 - k.tmod 2))))) 16)
def wAt (xs : List Int) : Nat → Int
  | 0 => 0
  | k + 1 => stepW (wAt xs k) k (xs.getD k 0)
def notW (n : Int) : Int := bitsI .xor .u16 65535 n
def stepV (n k c : Int) : Int := IntKind.i64.wrap (n + if (k.tmod 2 == 0) = true then IntKind.i64.wrap (256 * IntKind.i64.wrap c) else IntKind.i64.wrap c)
def downV (n : Int) : Int := if decide (n > 65535) = true then IntKind.i64.wrap (n - 65535) else n
def vAt (xs : List Int) : Nat → Int
  | 0 => 0
  | k + 1 => downV (stepV (vAt xs k) k (xs.getD k 0))
/-- The bytes of a number, the lowest first. -/
def byteOf (a : Int) (k : Nat) : Int := IntKind.u8.wrap (shr .u64 a (8 * (k : Int)))
def bsOf (a : Int) (k : Nat) : List Int := (List.range k).map (byteOf a)
end Go.Proofs.Ytghaljkohheioaa.Sum
