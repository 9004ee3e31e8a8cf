/- What an address stands as (package status) and its laws: what each function gives. -/
import Derived.Test.YtpokkmgnapoomaaSxQ
import Derived.Test.YtpokkmgnapoomaaProg
import Derived.KernelRfl
namespace Go.Proofs.Ytpokkmgnapoomaa.Stat
open Go Go.Proofs.Ytpokkmgnapoomaa.Sx

structure Mac where
  m0 : Int
  m1 : Int
  m2 : Int
  m3 : Int
  m4 : Int
  m5 : Int
structure Sight where
  src : Int
  mac : Mac
  time : Int
structure Seen where
  who : Int
  later : Int
def zeroMac : Mac := ⟨0, 0, 0, 0, 0, 0⟩
def Mac.same (a b : Mac) : Bool := a.m0 == b.m0 && (a.m1 == b.m1 && (a.m2 == b.m2 && (a.m3 == b.m3 && (a.m4 == b.m4 && (a.m5 == b.m5 && true)))))
def Mac.cells {A : Nat → Type} (a : Mac) : List (SV A) := [.int .u8 a.m0, .int .u8 a.m1, .int .u8 a.m2, .int .u8 a.m3, .int .u8 a.m4, .int .u8 a.m5]
def A : Nat → Type
  | 3 => Int
  | 9 => ByteArray
  | 35 => Mac
  | 48 => Sight
  | 57 => Seen
  | _ => Unit
def enc : ∀ T, A T → List (SV A)
  | 3, (x : Int) => [.int .i64 x]
  | 9, (x : ByteArray) => [.str x]
  | 35, (x : Mac) => [.int .u8 x.m0, .int .u8 x.m1, .int .u8 x.m2, .int .u8 x.m3, .int .u8 x.m4, .int .u8 x.m5]
  | 48, (x : Sight) => [.int .i64 x.src, .int .u8 x.mac.m0, .int .u8 x.mac.m1, .int .u8 x.mac.m2, .int .u8 x.mac.m3, .int .u8 x.mac.m4, .int .u8 x.mac.m5, .int .i64 x.time]
  | 57, (x : Seen) => [.int .u8 x.who, .int .u8 x.later]
  | _, _ => []
def dec : ∀ T, List (SV A) → Option (A T)
  | 3, [.int .i64 a] => some (a : Int)
  | 9, [.str a] => some (a : ByteArray)
  | 35, [.int .u8 a, .int .u8 b, .int .u8 c, .int .u8 d, .int .u8 e, .int .u8 f] => some (⟨a, b, c, d, e, f⟩ : Mac)
  | 48, [.int .i64 s, .int .u8 a, .int .u8 b, .int .u8 c, .int .u8 d, .int .u8 e, .int .u8 f, .int .i64 t] => some (⟨s, ⟨a, b, c, d, e, f⟩, t⟩ : Sight)
  | 57, [.int .u8 a, .int .u8 b] => some (⟨a, b⟩ : Seen)
  | _, _ => none
def dflt : ∀ T, A T
  | 3 => (0 : Int)
  | 9 => (ByteArray.empty : ByteArray)
  | 35 => zeroMac
  | 48 => (⟨0, zeroMac, 0⟩ : Sight)
  | 57 => (⟨0, 0⟩ : Seen)
  | _ => by unfold A; split <;> first | exact (0 : Int) | exact ByteArray.empty | exact zeroMac | exact (⟨0, zeroMac, 0⟩ : Sight) | exact (⟨0, 0⟩ : Seen) | exact ()
def u : U A := { enc := enc, dec := dec, dflt := dflt }

/-! ### time -/
def clampT (n : Int) : Int := mx 0 (mn n 1099511627776)
def since (a b : Int) : Int := IntKind.i64.wrap (clampT a - clampT b)
def within (a b n : Int) : Bool := decide (since a b ≥ 0) && decide (since a b < n)
def spClamp : Sx.Spec A
  | [.int .i64 n] => some (none, .int .i64 (clampT n))
  | _ => none
def spSince : Sx.Spec A
  | [.int .i64 a, .int .i64 b] => some (none, .int .i64 (since a b))
  | _ => none
def spWithin : Sx.Spec A
  | [.int .i64 a, .int .i64 b, .int .i64 n] => some (none, .bool (within a b n))
  | _ => none
def withinL (a b n : Int) : Bool := decide (clampT b ≤ clampT a) && decide (IntKind.i64.wrap (clampT a - clampT b) < n)
def spWithinL : Sx.Spec A
  | [.int .i64 a, .int .i64 b, .int .i64 n] => some (none, .bool (withinL a b n))
  | _ => none
/-! ### stations -/
def noneM (a : Mac) : Bool := a.same zeroMac
def spNone : Sx.Spec A
  | [.agg [.int .u8 a, .int .u8 b, .int .u8 c, .int .u8 d, .int .u8 e, .int .u8 f]] => some (none, .bool (noneM ⟨a, b, c, d, e, f⟩))
  | _ => none
def station (n : Int) : Mac := if decide (n ≥ 128) = true then zeroMac else ⟨2, 0, 0, 0, 0, IntKind.u8.wrap (1 + n.tmod 3)⟩
def spStation : Sx.Spec A
  | [.int .u8 n] => some (none, .agg (station n).cells)
  | _ => none
def cfg (c0 c1 c2 c3 c4 c5 c6 c7 c8 : Int) : List (SV A) := [.int .i64 c0, .int .i64 c1, .int .i64 c2, .int .i64 c3, .int .i64 c4, .int .i64 c5, .int .i64 c6, .int .i64 c7, .int .i64 c8]
def cho (c0 c1 c2 c3 c4 c5 c6 c7 c8 : Int) : List (SV A) := [.int .u8 c0, .int .u8 c1, .int .u8 c2, .int .u8 c3, .int .u8 c4, .int .u8 c5, .int .u8 c6, .int .u8 c7, .int .u8 c8]
def fz (b n : Int) : Int := IntKind.i64.wrap (n.tmod b)
def fc (b n : Int) : Int := IntKind.i64.wrap (1 + fz b n)
def spChoice : Sx.Spec A
  | [.agg [.int .u8 c0, .int .u8 c1, .int .u8 c2, .int .u8 c3, .int .u8 c4, .int .u8 c5, .int .u8 c6, .int .u8 c7, .int .u8 c8]] =>
    some (none, .agg (cfg (fc 30 c0) (IntKind.i64.wrap (fc 30 c0 + fz 60 c1)) (fc 6 c2) (fc 20 c3) (fc 9 c4) (fc 6 c5) (fz 4 c6) (fc 40 c7) (fz 50 c8)))
  | _ => none
def tab0 : List (Nat × Con A) := []
end Go.Proofs.Ytpokkmgnapoomaa.Stat
