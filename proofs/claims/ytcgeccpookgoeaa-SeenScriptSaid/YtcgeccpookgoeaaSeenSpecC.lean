/- Sightings: the law SeenScript: what rows and a map come to, deed by deed. -/
import Derived.Test.YtcgeccpookgoeaaSeenSpecB
namespace Go.Proofs.Ytcgeccpookgoeaa.Seen
open Go Go.Proofs.Ytcgeccpookgoeaa.Sx

abbrev Mp : Type := List (Int × List Sight)
def xA (a : Act) : Int := IntKind.u32.wrap a.addr
def oddAt (odd : List Int) (k : Nat) : Int := odd.getD k 0
def isOdd (odd : List Int) (k : Nat) : Bool := decide ((k : Int) < (odd.length : Int)) && decide (oddAt odd k < 0)
def sA (odd : List Int) (k : Nat) (a : Act) (now : Int) : Sight := if isOdd odd k = true then ⟨IntKind.i64.wrap (IntKind.i8.wrap ((oddAt odd k).tmod 9 + 4)), station a.who, mx 0 (IntKind.i64.wrap (now + IntKind.i64.wrap (oddAt odd k)))⟩ else sightA a now
structure St3 where
  ks : List Known
  m : Mp
  now : Int
def step3 (odd : List Int) (k : Nat) (r : St3) (a : Act) : St3 :=
  ⟨if (putE r.ks (xA a) (sA odd k a (nowStep r.now a)) == 0) = true then putL r.ks (xA a) (sA odd k a (nowStep r.now a)) else r.ks,
   if (putE r.ks (xA a) (sA odd k a (nowStep r.now a)) == 0) = true then setM r.m (xA a) (keepL (getM r.m (xA a) []) (sA odd k a (nowStep r.now a))) else r.m,
   nowStep r.now a⟩
def at3 (odd : List Int) (xs : List Act) : Nat → St3
  | 0 => ⟨[], [], 0⟩
  | k + 1 => step3 odd k (at3 odd xs k) (getA xs k)
def annScript (odd : List Int) (xs : List Act) : Ann A := { G := Nat, inv := fun k => k ≤ xs.length, keep := [1, 25, 26], slots := fun k => [(27, .int .i64 k), (5, .csl 53 (at3 odd xs k).ks), (6, .omap 0), (7, .int .i64 (at3 odd xs k).now)], owns := fun k => [(0, .mp .u32 39 (at3 odd xs k).m)], μ := fun k => xs.length - k }
/-- Behind the fork of an odd deed: the sighting as told. -/
def cutOdd (odd : List Int) (xs : List Act) (g : Nat) : Ann A := { G := Unit, inv := fun _ => True, keep := [1, 5, 7, 10, 25, 26, 27], slots := fun _ => [(6, .omap 1), (11, .optr 0 0)], owns := fun _ => [(0, .var (sA odd g (getA xs g) (nowStep (at3 odd xs g).now (getA xs g))).cells), (1, .mp .u32 39 (at3 odd xs g).m)], μ := fun _ => 0 }
/-- Behind the fork of a sighting that is put: rows and map as the next round knows them. -/
def cutPut (odd : List Int) (xs : List Act) (g : Nat) : Ann A := { G := Unit, inv := fun _ => True, keep := [1, 7, 10, 25, 26, 27], slots := fun _ => [(5, .csl 53 (at3 odd xs (g + 1)).ks), (6, .omap 0)], owns := fun _ => [(0, .mp .u32 39 (at3 odd xs (g + 1)).m)], μ := fun _ => 0 }
/-- Behind the fork of what is wanted. -/
def cutWant (odd : List Int) (xs : List Act) (g : Nat) : Ann A := { G := Unit, inv := fun _ => True, keep := [1, 5, 7, 10, 11, 13, 25, 26, 27], slots := fun _ => [(6, .omap 0), (12, .int .i64 (putE (at3 odd xs g).ks (xA (getA xs g)) (sA odd g (getA xs g) (nowStep (at3 odd xs g).now (getA xs g)))))], keepO := [11], owns := fun _ => [(0, .mp .u32 39 (at3 odd xs g).m)], μ := fun _ => 0 }
def oddOk (odd : List Int) : Prop := lenOk odd ∧ ∀ x ∈ odd, -128 ≤ x ∧ x < 128
def acts3Ok (xs : List Act) (odd : List Int) : Prop := (actsOk xs ∧ ∀ a ∈ xs, a.addr < 256) ∧ oddOk odd
def spLScript : Sx.Spec A
  | [.csl 28 xs, .csl 37 odd] => some (some (acts3Ok xs odd), .bool true)
  | _ => none
end Go.Proofs.Ytcgeccpookgoeaa.Seen
