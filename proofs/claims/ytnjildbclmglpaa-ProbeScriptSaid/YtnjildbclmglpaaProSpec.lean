/- Questions that wait (package probe) and their laws: what the small functions give. -/
import Derived.Test.YtnjildbclmglpaaSxQ
import Derived.Test.YtnjildbclmglpaaProg
import Derived.KernelRfl
namespace Go.Proofs.Ytnjildbclmglpaa.Pro
open Go Go.Proofs.Ytnjildbclmglpaa.Sx

structure Prb where
  addr : Int
  id : Int
  num : Int
  sent : Int
  tries : Int
structure Act where
  op : Int
  addr : Int
  num : Int
  n : Int
def zeroP : Prb := ⟨0, 0, 0, 0, 0⟩
def zeroA : Act := ⟨0, 0, 0, 0⟩
def Prb.cells {A : Nat → Type} (p : Prb) : List (SV A) := [.int .u32 p.addr, .int .i64 p.id, .int .i64 p.num, .int .i64 p.sent, .int .i64 p.tries]
def A : Nat → Type
  | 29 => Prb
  | 51 => Act
  | _ => Unit
def enc : ∀ T, A T → List (SV A)
  | 29, (x : Prb) => [.int .u32 x.addr, .int .i64 x.id, .int .i64 x.num, .int .i64 x.sent, .int .i64 x.tries]
  | 51, (x : Act) => [.int .u8 x.op, .int .u8 x.addr, .int .u16 x.num, .int .u8 x.n]
  | _, _ => []
def dec : ∀ T, List (SV A) → Option (A T)
  | 29, [.int .u32 a, .int .i64 b, .int .i64 c, .int .i64 d, .int .i64 e] => some (⟨a, b, c, d, e⟩ : Prb)
  | 51, [.int .u8 a, .int .u8 b, .int .u16 c, .int .u8 d] => some (⟨a, b, c, d⟩ : Act)
  | _, _ => none
def dflt : ∀ T, A T
  | 29 => zeroP
  | 51 => zeroA
  | _ => by unfold A; split <;> first | exact zeroP | exact zeroA | exact ()
def u : U A := { enc := enc, dec := dec, dflt := dflt }

/-! ### time -/
def clampT (n : Int) : Int := mx 0 (mn n 1099511627776)
def since (a b : Int) : Int := IntKind.i64.wrap (clampT a - clampT b)
def spClamp : Sx.Spec A
  | [.int .i64 n] => some (none, .int .i64 (clampT n))
  | _ => none
def spSince : Sx.Spec A
  | [.int .i64 a, .int .i64 b] => some (none, .int .i64 (since a b))
  | _ => none
/-! ### choices, addresses -/
def cfg (c0 c1 c2 c3 c4 c5 c6 c7 c8 : Int) : List (SV A) := [.int .i64 c0, .int .i64 c1, .int .i64 c2, .int .i64 c3, .int .i64 c4, .int .i64 c5, .int .i64 c6, .int .i64 c7, .int .i64 c8]
def cho (c0 c1 c2 c3 c4 c5 c6 c7 c8 : Int) : List (SV A) := [.int .u8 c0, .int .u8 c1, .int .u8 c2, .int .u8 c3, .int .u8 c4, .int .u8 c5, .int .u8 c6, .int .u8 c7, .int .u8 c8]
def fz (b n : Int) : Int := IntKind.i64.wrap (n.tmod b)
def fc (b n : Int) : Int := IntKind.i64.wrap (1 + fz b n)
def spChoice : Sx.Spec A
  | [.agg [.int .u8 c0, .int .u8 c1, .int .u8 c2, .int .u8 c3, .int .u8 c4, .int .u8 c5, .int .u8 c6, .int .u8 c7, .int .u8 c8]] =>
    some (none, .agg (cfg (fc 30 c0) (IntKind.i64.wrap (fc 30 c0 + fz 60 c1)) (fc 6 c2) (fc 20 c3) (fc 9 c4) (fc 6 c5) (fz 4 c6) (fc 40 c7) (fz 50 c8)))
  | _ => none
def nearA (n : Int) : Int := IntKind.u32.wrap (167772160 + IntKind.u32.wrap (n.tmod 64))
def spNear : Sx.Spec A
  | [.int .u8 n] => some (none, .int .u32 (nearA n))
  | _ => none
/-! ### one question -/
def idOf (a : Int) : Int := IntKind.i64.wrap (bitsI .and .u32 a 65535)
def ofP (a s now : Int) : Prb := ⟨a, idOf a, bitsI .and .i64 s 65535, clampT now, 0⟩
def spOf : Sx.Spec A
  | [.int .u32 a, .int .i64 s, .int .i64 now] => some (none, .agg (ofP a s now).cells)
  | _ => none
def spPacket : Sx.Spec A
  | [.agg [.int .u32 a, .int .i64 i, .int .i64 s, .int .i64 _, .int .i64 _]] => some (none, .agg [.bool false, .int .u32 0, .int .u32 a, .int .u8 0, .int .u8 0, .int .u8 0, .int .u8 0, .int .u8 0, .int .u8 0, .int .i64 i, .int .i64 s])
  | _ => none
/-- Whether two questions go to one address. -/
def sameA (p : Prb) (x : Prb) : Bool := x.addr == p.addr
def spSameA : Sx.Spec A
  | [.agg [.int .u32 a, .int .i64 b, .int .i64 c, .int .i64 d, .int .i64 e], .cptr [.int .u32 f, .int .i64 g, .int .i64 h, .int .i64 i, .int .i64 j] 0] => some (none, .bool (sameA ⟨f, g, h, i, j⟩ ⟨a, b, c, d, e⟩))
  | _ => none
/-- Whether an answer is to a question. -/
def ansTo (an : Bool) (f i s : Int) (x : Prb) : Bool := ((an && x.addr == f) && x.id == i) && x.num == s
def spAns : Sx.Spec A
  | [.agg [.int .u32 a, .int .i64 b, .int .i64 c, .int .i64 d, .int .i64 e], .cptr [.bool an, .int .u32 f, .int .u32 _, .int .u8 _, .int .u8 _, .int .u8 _, .int .u8 _, .int .u8 _, .int .u8 _, .int .i64 i, .int .i64 s] 0] => some (none, .bool (ansTo an f i s ⟨a, b, c, d, e⟩))
  | _ => none
def tab0 : List (Nat × Con A) := []
def tab1 : List (Nat × Con A) := (22, .pure spClamp) :: (17, .pure spNear) :: (11, .pure spChoice) :: tab0
def tab2 : List (Nat × Con A) := (25, .pure spSince) :: (15, .pure spOf) :: (16, .pure spPacket) :: (24, .pure spSameA) :: (30, .pure spSameA) :: (27, .pure spAns) :: tab1
end Go.Proofs.Ytnjildbclmglpaa.Pro
