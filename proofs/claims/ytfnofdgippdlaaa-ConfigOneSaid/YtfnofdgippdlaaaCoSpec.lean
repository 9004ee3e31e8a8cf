/- The choices of an operator (package config) and the law ConfigOne: what each function gives. -/
import Derived.Test.YtfnofdgippdlaaaSxQ
import Derived.Test.YtfnofdgippdlaaaProg
import Derived.KernelRfl
namespace Go.Proofs.Ytfnofdgippdlaaa.Co
open Go Go.Proofs.Ytfnofdgippdlaaa.Sx

structure R3 where
  n : Int
  low : Int
  high : Int
def A : Nat → Type
  | 46 => R3
  | _ => Unit
def enc : ∀ T, A T → List (SV A)
  | 46, (x : R3) => [.int .i64 x.n, .int .i64 x.low, .int .i64 x.high]
  | _, _ => []
def dec : ∀ T, List (SV A) → Option (A T)
  | 46, [.int .i64 a, .int .i64 b, .int .i64 c] => some (⟨a, b, c⟩ : R3)
  | _, _ => none
def dflt : ∀ T, A T
  | 46 => (⟨0, 0, 0⟩ : R3)
  | _ => by unfold A; split <;> first | exact ⟨0, 0, 0⟩ | exact ()
def u : U A := { enc := enc, dec := dec, dflt := dflt }

structure Cf where
  c0 : Int
  c1 : Int
  c2 : Int
  c3 : Int
  c4 : Int
  c5 : Int
  c6 : Int
  c7 : Int
  c8 : Int
def cfg (c : Cf) : List (SV A) := [.int .i64 c.c0, .int .i64 c.c1, .int .i64 c.c2, .int .i64 c.c3, .int .i64 c.c4, .int .i64 c.c5, .int .i64 c.c6, .int .i64 c.c7, .int .i64 c.c8]
def cho (c : Cf) : List (SV A) := [.int .u8 c.c0, .int .u8 c.c1, .int .u8 c.c2, .int .u8 c.c3, .int .u8 c.c4, .int .u8 c.c5, .int .u8 c.c6, .int .u8 c.c7, .int .u8 c.c8]
def clamp (n low high : Int) : Int := mx low (mn n high)
def rows (c : Cf) : List R3 := [⟨c.c0, 1, 1000⟩, ⟨c.c1, c.c0, 10000⟩, ⟨c.c2, 1, 6⟩, ⟨c.c3, 1, 1000⟩, ⟨c.c4, 1, 64⟩, ⟨c.c5, 1, 100⟩, ⟨c.c6, 0, 8⟩, ⟨c.c7, 1, 1000⟩, ⟨c.c8, 0, 1000⟩]
def bad (r : R3) : Bool := decide (r.n < r.low) || decide (r.n > r.high)
def right (c : Cf) : Int :=
  if c.c0 < 1 ∨ c.c0 > 1000 then 0 else if c.c1 < c.c0 ∨ c.c1 > 10000 then 1 else if c.c2 < 1 ∨ c.c2 > 6 then 2 else if c.c3 < 1 ∨ c.c3 > 1000 then 3 else if c.c4 < 1 ∨ c.c4 > 64 then 4 else
  if c.c5 < 1 ∨ c.c5 > 100 then 5 else if c.c6 < 0 ∨ c.c6 > 8 then 6 else if c.c7 < 1 ∨ c.c7 > 1000 then 7 else if c.c8 < 0 ∨ c.c8 > 1000 then 8 else -1
def fit (c : Cf) : Cf := ⟨clamp c.c0 1 1000, clamp c.c1 (clamp c.c0 1 1000) 10000, clamp c.c2 1 6, clamp c.c3 1 1000, clamp c.c4 1 64, clamp c.c5 1 100, clamp c.c6 0 8, clamp c.c7 1 1000, clamp c.c8 0 1000⟩
def fz (b n : Int) : Int := IntKind.i64.wrap (n.tmod b)
def fc (b n : Int) : Int := IntKind.i64.wrap (1 + fz b n)
def conf (c : Cf) : Cf := ⟨fc 30 c.c0, IntKind.i64.wrap (fc 30 c.c0 + fz 60 c.c1), fc 6 c.c2, fc 20 c.c3, fc 9 c.c4, fc 6 c.c5, fz 4 c.c6, fc 40 c.c7, fz 50 c.c8⟩
def spClamp : Sx.Spec A
  | [.int .i64 n, .int .i64 low, .int .i64 high] => some (none, .int .i64 (clamp n low high))
  | _ => none
def spFit : Sx.Spec A
  | [.agg [.int .i64 c0, .int .i64 c1, .int .i64 c2, .int .i64 c3, .int .i64 c4, .int .i64 c5, .int .i64 c6, .int .i64 c7, .int .i64 c8]] => some (none, .agg (cfg (fit ⟨c0, c1, c2, c3, c4, c5, c6, c7, c8⟩)))
  | _ => none
def spRight : Sx.Spec A
  | [.agg [.int .i64 c0, .int .i64 c1, .int .i64 c2, .int .i64 c3, .int .i64 c4, .int .i64 c5, .int .i64 c6, .int .i64 c7, .int .i64 c8]] => some (none, .int .i64 (right ⟨c0, c1, c2, c3, c4, c5, c6, c7, c8⟩))
  | _ => none
def spNew : Sx.Spec A
  | [] => some (none, .agg (cfg ⟨20, 60, 2, 10, 4, 3, 1, 30, 40⟩))
  | _ => none
def i3 (a b c : Int) : List (SV A) := [.int .i64 a, .int .i64 b, .int .i64 c]
def rowL (c : Cf) : List (SV A) := i3 c.c0 1 1000 ++ i3 c.c1 c.c0 10000 ++ i3 c.c2 1 6 ++ i3 c.c3 1 1000 ++ i3 c.c4 1 64 ++ i3 c.c5 1 100 ++ i3 c.c6 0 8 ++ i3 c.c7 1 1000 ++ i3 c.c8 0 1000
def spRow : Sx.Spec A
  | [.agg [.int .i64 c0, .int .i64 c1, .int .i64 c2, .int .i64 c3, .int .i64 c4, .int .i64 c5, .int .i64 c6, .int .i64 c7, .int .i64 c8]] => some (none, .agg (rowL ⟨c0, c1, c2, c3, c4, c5, c6, c7, c8⟩))
  | _ => none
def spAwake : Sx.Spec A
  | [] => some (none, .lit true)
  | _ => none
def spConf : Sx.Spec A
  | [.agg [.int .u8 c0, .int .u8 c1, .int .u8 c2, .int .u8 c3, .int .u8 c4, .int .u8 c5, .int .u8 c6, .int .u8 c7, .int .u8 c8]] => some (none, .agg (cfg (conf ⟨c0, c1, c2, c3, c4, c5, c6, c7, c8⟩)))
  | _ => none
def tab0 : List (Nat × Con A) := []
def tab1 : List (Nat × Con A) := (26, .pure spClamp) :: tab0
def tab2 : List (Nat × Con A) := (25, .pure spFit) :: (22, .pure spRight) :: (24, .pure spNew) :: (21, .pure spRow) :: (23, .pure spConf) :: tab1
def tab3 : List (Nat × Con A) := (20, .pure spAwake) :: tab2
def annRight (c : Cf) : Ann A := { G := Nat, inv := fun k => k ≤ 9 ∧ ∀ j, j < k → bad ((rows c).getD j ⟨0, 0, 0⟩) = false, keep := [34, 35], slots := fun k => [(36, .int .i64 k)], keepO := [34], μ := fun k => 9 - k }
def u8c (x : Cf) : Prop := (0 ≤ x.c0 ∧ x.c0 < 256) ∧ (0 ≤ x.c1 ∧ x.c1 < 256) ∧ (0 ≤ x.c2 ∧ x.c2 < 256) ∧ (0 ≤ x.c3 ∧ x.c3 < 256) ∧ (0 ≤ x.c4 ∧ x.c4 < 256) ∧ (0 ≤ x.c5 ∧ x.c5 < 256) ∧ (0 ≤ x.c6 ∧ x.c6 < 256) ∧ (0 ≤ x.c7 ∧ x.c7 < 256) ∧ (0 ≤ x.c8 ∧ x.c8 < 256)
def spLOne : Sx.Spec A
  | [.agg [.int .u8 c0, .int .u8 c1, .int .u8 c2, .int .u8 c3, .int .u8 c4, .int .u8 c5, .int .u8 c6, .int .u8 c7, .int .u8 c8], .int .u8 a, .int .i64 _] => some (some (u8c ⟨c0, c1, c2, c3, c4, c5, c6, c7, c8⟩ ∧ 0 ≤ a ∧ a < 256), .bool true)
  | _ => none
end Go.Proofs.Ytfnofdgippdlaaa.Co
