/- The choices of an operator (package config) and their laws: what each function gives. -/
import Derived.Test.YtfnofdgippdlaaaSxQ
import Derived.Test.YtfnofdgippdlaaaProg
import Derived.KernelRfl
namespace Go.Proofs.Ytfnofdgippdlaaa.Cfg
open Go Go.Proofs.Ytfnofdgippdlaaa.Sx

structure R3 where
  n : Int
  low : Int
  high : Int
def A : Nat → Type
  | 46 => R3
  | _ => Unit
def enc : ∀ T, A T → List (SV A)
  | 46, (x : R3) => [.int .i64 x.n, .int .i64 x.low, .int .i64 x.high]
  | _, _ => []
def dec : ∀ T, List (SV A) → Option (A T)
  | 46, [.int .i64 a, .int .i64 b, .int .i64 c] => some (⟨a, b, c⟩ : R3)
  | _, _ => none
def dflt : ∀ T, A T
  | 46 => (⟨0, 0, 0⟩ : R3)
  | _ => by unfold A; split <;> first | exact ⟨0, 0, 0⟩ | exact ()
def u : U A := { enc := enc, dec := dec, dflt := dflt }

def cfg (c0 c1 c2 c3 c4 c5 c6 c7 c8 : Int) : List (SV A) := [.int .i64 c0, .int .i64 c1, .int .i64 c2, .int .i64 c3, .int .i64 c4, .int .i64 c5, .int .i64 c6, .int .i64 c7, .int .i64 c8]
def cho (c0 c1 c2 c3 c4 c5 c6 c7 c8 : Int) : List (SV A) := [.int .u8 c0, .int .u8 c1, .int .u8 c2, .int .u8 c3, .int .u8 c4, .int .u8 c5, .int .u8 c6, .int .u8 c7, .int .u8 c8]
def clamp (n low high : Int) : Int := mx low (mn n high)
def rows (c0 c1 c2 c3 c4 c5 c6 c7 c8 : Int) : List R3 := [⟨c0, 1, 1000⟩, ⟨c1, c0, 10000⟩, ⟨c2, 1, 6⟩, ⟨c3, 1, 1000⟩, ⟨c4, 1, 64⟩, ⟨c5, 1, 100⟩, ⟨c6, 0, 8⟩, ⟨c7, 1, 1000⟩, ⟨c8, 0, 1000⟩]
def bad (r : R3) : Bool := decide (r.n < r.low) || decide (r.n > r.high)
def right (c0 c1 c2 c3 c4 c5 c6 c7 c8 : Int) : Int :=
  if c0 < 1 ∨ c0 > 1000 then 0 else if c1 < c0 ∨ c1 > 10000 then 1 else if c2 < 1 ∨ c2 > 6 then 2 else if c3 < 1 ∨ c3 > 1000 then 3 else if c4 < 1 ∨ c4 > 64 then 4 else
  if c5 < 1 ∨ c5 > 100 then 5 else if c6 < 0 ∨ c6 > 8 then 6 else if c7 < 1 ∨ c7 > 1000 then 7 else if c8 < 0 ∨ c8 > 1000 then 8 else -1
def sp26 : Sx.Spec A
  | [.int .i64 n, .int .i64 low, .int .i64 high] => some (none, .int .i64 (clamp n low high))
  | _ => none
def sp25 : Sx.Spec A
  | [.agg [.int .i64 c0, .int .i64 c1, .int .i64 c2, .int .i64 c3, .int .i64 c4, .int .i64 c5, .int .i64 c6, .int .i64 c7, .int .i64 c8]] =>
    some (none, .agg (cfg (clamp c0 1 1000) (clamp c1 (clamp c0 1 1000) 10000) (clamp c2 1 6) (clamp c3 1 1000) (clamp c4 1 64) (clamp c5 1 100) (clamp c6 0 8) (clamp c7 1 1000) (clamp c8 0 1000)))
  | _ => none
def sp22 : Sx.Spec A
  | [.agg [.int .i64 c0, .int .i64 c1, .int .i64 c2, .int .i64 c3, .int .i64 c4, .int .i64 c5, .int .i64 c6, .int .i64 c7, .int .i64 c8]] => some (none, .int .i64 (right c0 c1 c2 c3 c4 c5 c6 c7 c8))
  | _ => none
def sp24 : Sx.Spec A
  | [] => some (none, .agg (cfg 20 60 2 10 4 3 1 30 40))
  | _ => none
def i3 (a b c : Int) : List (SV A) := [.int .i64 a, .int .i64 b, .int .i64 c]
def rowL (c0 c1 c2 c3 c4 c5 c6 c7 c8 : Int) : List (SV A) := i3 c0 1 1000 ++ i3 c1 c0 10000 ++ i3 c2 1 6 ++ i3 c3 1 1000 ++ i3 c4 1 64 ++ i3 c5 1 100 ++ i3 c6 0 8 ++ i3 c7 1 1000 ++ i3 c8 0 1000
def sp21 : Sx.Spec A
  | [.agg [.int .i64 c0, .int .i64 c1, .int .i64 c2, .int .i64 c3, .int .i64 c4, .int .i64 c5, .int .i64 c6, .int .i64 c7, .int .i64 c8]] => some (none, .agg (rowL c0 c1 c2 c3 c4 c5 c6 c7 c8))
  | _ => none
def sp20 : Sx.Spec A
  | [] => some (none, .bool true)
  | _ => none
def fz (b n : Int) : Int := IntKind.i64.wrap (n.tmod b)
def fc (b n : Int) : Int := IntKind.i64.wrap (1 + fz b n)
def sp23 : Sx.Spec A
  | [.agg [.int .u8 c0, .int .u8 c1, .int .u8 c2, .int .u8 c3, .int .u8 c4, .int .u8 c5, .int .u8 c6, .int .u8 c7, .int .u8 c8]] =>
    some (none, .agg (cfg (fc 30 c0) (IntKind.i64.wrap (fc 30 c0 + fz 60 c1)) (fc 6 c2) (fc 20 c3) (fc 9 c4) (fc 6 c5) (fz 4 c6) (fc 40 c7) (fz 50 c8)))
  | _ => none
def tab0 : List (Nat × Sx.Spec A) := [(26, sp26)]
def tab1 : List (Nat × Sx.Spec A) := (25, sp25) :: (22, sp22) :: (24, sp24) :: (21, sp21) :: (23, sp23) :: tab0
def tab2 : List (Nat × Sx.Spec A) := (20, sp20) :: tab1
def ann22 (c0 c1 c2 c3 c4 c5 c6 c7 c8 : Int) : Ann A := { G := Nat, inv := fun k => k ≤ 9 ∧ ∀ j, j < k → bad ((rows c0 c1 c2 c3 c4 c5 c6 c7 c8).getD j ⟨0, 0, 0⟩) = false, keep := [34, 35], slots := fun k => [(36, .int .i64 k)], keepO := [34], μ := fun k => 9 - k }
end Go.Proofs.Ytfnofdgippdlaaa.Cfg
