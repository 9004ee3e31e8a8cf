/- Packets of the wire: what the other kind of packet's functions give. -/
import Derived.Test.YtghaljkohheioaaWireLawsE
namespace Go.Proofs.Ytghaljkohheioaa.Wire
open Go Go.Proofs.Ytghaljkohheioaa.Sx Go.Proofs.Ytghaljkohheioaa.Sum

def a0 : List Int := [0, 1, 8, 0, 6, 4, 0, 1, 0, 0, 0, 0, 0, 0, 0, 0, 0, 0, 0, 0, 0, 0, 0, 0, 0, 0, 0, 0]
def a1 (a : Bool) : List Int := if a then a0.set 7 2 else a0
def a2 (a : Bool) (m0 m1 m2 m3 m4 m5 : Int) : List Int := (a1 a).take 8 ++ [m0, m1, m2, m3, m4, m5] ++ (a1 a).drop 14
def arpB (a : Bool) (f t m0 m1 m2 m3 m4 m5 : Int) : List Int := layK (layK (a2 a m0 m1 m2 m3 m4 m5) 14 4 (IntKind.i64.wrap f) 4) 24 4 (IntKind.i64.wrap t) 4
def hArp : HSpec A
  | [.agg [.bool a, .int .u32 f, .int .u32 t, .int .u8 m0, .int .u8 m1, .int .u8 m2, .int .u8 m3, .int .u8 m4, .int .u8 m5, .int .i64 _, .int .i64 _]], [] => some (none, .orow 0, [.row 5 (arpB a f t m0 m1 m2 m3 m4 m5)])
  | _, _ => none
def spArpS : Sx.Spec A
  | [.agg [.bool a, .int .u32 f, .int .u32 t, .int .u8 m0, .int .u8 m1, .int .u8 m2, .int .u8 m3, .int .u8 m4, .int .u8 m5, .int .i64 _, .int .i64 _]] => some (some (inR 4294967296 f ∧ inR 4294967296 t), .str (bytesOf (arpB a f t m0 m1 m2 m3 m4 m5)))
  | _ => none
def tab5 : List (Nat × Con A) := (17, .heap hArp) :: (18, .pure spArpS) :: tab4
end Go.Proofs.Ytghaljkohheioaa.Wire
