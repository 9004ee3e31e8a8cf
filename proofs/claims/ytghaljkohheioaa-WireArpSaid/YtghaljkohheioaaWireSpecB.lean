/- Packets of the wire: what the packets' functions give. -/
import Derived.Test.YtghaljkohheioaaWireWalk
namespace Go.Proofs.Ytghaljkohheioaa.Wire
open Go Go.Proofs.Ytghaljkohheioaa.Sx Go.Proofs.Ytghaljkohheioaa.Sum

/-- A packet's cells. -/
def pkt (a : Bool) (f t m0 m1 m2 m3 m4 m5 i q : Int) : SV A := .agg [.bool a, .int .u32 f, .int .u32 t, .int .u8 m0, .int .u8 m1, .int .u8 m2, .int .u8 m3, .int .u8 m4, .int .u8 m5, .int .i64 i, .int .i64 q]
def word (xs : List Int) : Int := notW (IntKind.u16.wrap (wAt xs xs.length))
def e0 : List Int := [69, 0, 0, 32, 0, 0, 0, 0, 64, 1, 0, 0, 0, 0, 0, 0, 0, 0, 0, 0, 0, 0, 0, 0, 0, 0, 0, 0, 0, 0, 0, 0]
def e1 (f t : Int) : List Int := layK (layK e0 12 4 (IntKind.i64.wrap f) 4) 16 4 (IntKind.i64.wrap t) 4
def e2 (f t : Int) : List Int := layK (e1 f t) 10 2 (IntKind.i64.wrap (word ((e1 f t).take 20))) 2
def e3 (a : Bool) (f t : Int) : List Int := if a then e2 f t else (e2 f t).set 20 8
def e4 (a : Bool) (f t i q : Int) : List Int := layK (layK (e3 a f t) 24 2 i 2) 26 2 q 2
def echoB (a : Bool) (f t i q : Int) : List Int := layK (e4 a f t i q) 22 2 (IntKind.i64.wrap (word ((e4 a f t i q).drop 20))) 2
def hEcho : HSpec A
  | [.agg [.bool a, .int .u32 f, .int .u32 t, .int .u8 _, .int .u8 _, .int .u8 _, .int .u8 _, .int .u8 _, .int .u8 _, .int .i64 i, .int .i64 q]], [] => some (none, .orow 0, [.row 5 (echoB a f t i q)])
  | _, _ => none
def tab1 : List (Nat × Con A) := [(13, .pure spWords), (22, .heap hLay), (23, .pure spNumber), (14, .pure spIp), (15, .pure spTwo)]
theorem laws1 : Laws Try.prog u tab1 := { toLaw := law, clean := clean, tab := fun p hp => by
                                            rcases List.mem_cons.1 hp with rfl | hp
                                            · exact okWords
                                            rcases List.mem_cons.1 hp with rfl | hp
                                            · exact okLay
                                            rcases List.mem_cons.1 hp with rfl | hp
                                            · exact okNum
                                            rcases List.mem_cons.1 hp with rfl | hp
                                            · exact okIp
                                            rcases List.mem_cons.1 hp with rfl | hp
                                            · exact okTwo
                                            cases hp }
end Go.Proofs.Ytghaljkohheioaa.Wire
