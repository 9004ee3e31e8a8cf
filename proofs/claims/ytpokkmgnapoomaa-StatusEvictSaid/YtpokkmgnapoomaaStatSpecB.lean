/- What an address stands as: what the loops give. -/
import Derived.Test.YtpokkmgnapoomaaStatWalk
namespace Go.Proofs.Ytpokkmgnapoomaa.Stat
open Go Go.Proofs.Ytpokkmgnapoomaa.Sx

def tab2 : List (Nat × Con A) := (23, .pure spSince) :: tab1
def tab3 : List (Nat × Con A) := (20, .pure spWithin) :: tab2
/-- Stations that are not one. -/
def apartGo : Mac → List Sight → Bool
  | _, [] => false
  | f, s :: r => if noneM s.mac = true then apartGo f r else if noneM f = true then apartGo s.mac r else if f.same s.mac = true then apartGo f r else true
def spApart : Sx.Spec A
  | [.csl 48 xs] => some (some (xs.length < 9223372036854775808), .bool (apartGo zeroMac xs))
  | _ => none
def annApart (xs : List Sight) : Ann A := { G := Nat × Mac, inv := fun g => g.1 ≤ xs.length ∧ apartGo g.2 (xs.drop g.1) = apartGo zeroMac xs, keep := [6, 7], slots := fun g => [(8, .int .i64 g.1), (3, .optr 0 0)], owns := fun g => [(0, .var g.2.cells)], μ := fun g => xs.length - g.1 }
def foreignS (h : Mac) (s : Sight) : Bool := !noneM s.mac && !noneM h && !(s.mac.same h)
def foreign (h : Mac) (xs : List Sight) : Bool := xs.any (foreignS h)
def spForeign : Sx.Spec A
  | [.agg [.int .u32 _, .str _, .int .u8 a, .int .u8 b, .int .u8 c, .int .u8 d, .int .u8 e, .int .u8 f], .csl 48 xs] => some (some (xs.length < 9223372036854775808), .bool (foreign ⟨a, b, c, d, e, f⟩ xs))
  | _ => none
def annForeign (h : Mac) (xs : List Sight) : Ann A := { G := Nat, inv := fun g => g ≤ xs.length ∧ foreign h (xs.take g) = false, keep := [2, 7, 8], slots := fun g => [(9, .int .i64 g)], keepO := [2], μ := fun g => xs.length - g }
/-- The sights that are still fresh. -/
def fromK (need : Int) (xs : List Sight) : Int := mx 0 (IntKind.i64.wrap (IntKind.i64.wrap ((xs.length : Int) - mx 0 need) - 1))
def tailS (need : Int) (xs : List Sight) : List Sight := (xs.take xs.length).drop (fromK need xs).toNat
def freshS (fresh now : Int) (s : Sight) : Bool := within now s.time fresh
def freshL (fresh need now : Int) (xs : List Sight) : List Sight := (tailS need xs).filter (freshS fresh now)
def spFresh : Sx.Spec A
  | [.agg [.int .i64 c0, .int .i64 _, .int .i64 c2, .int .i64 _, .int .i64 _, .int .i64 _, .int .i64 _, .int .i64 _, .int .i64 _], .csl 48 xs, .int .i64 now] => some (some (xs.length * 24 ≤ 140737488355328 ∧ c2 < 9223372036854775808), .csl 48 (freshL c0 c2 now xs))
  | _ => none
def annFresh (c0 c2 now : Int) (xs : List Sight) : Ann A := { G := Nat, inv := fun g => g ≤ (tailS c2 xs).length, keep := [2, 3, 19, 20], slots := fun g => [(21, .int .i64 g), (7, .orow 0)], keepO := [3], owns := fun g => [(0, .row 48 (((tailS c2 xs).take g).filter (freshS c0 now)))], μ := fun g => (tailS c2 xs).length - g }
end Go.Proofs.Ytpokkmgnapoomaa.Stat
