/- The law DiskScript: what its pieces give. -/
import Derived.Test.YtmfpgddnapmgfaaDiskSpec
namespace Go.Proofs.Ytmfpgddnapmgfaa.Dsk
open Go Go.Proofs.Ytmfpgddnapmgfaa.Sx

/-! ### the law's own call -/
def lE (f s : Int) : Int := if (s == 0) = true then 9 else if (f == 0) = true then 10 else 0
def lF (f : Int) : Int := if f ≥ 0 then IntKind.i64.wrap (f - 1) else f
def hLCall : HSpec A
  | [.optr 0 0, .optr 1 0, .optr 2 0, .optr 3 0], [.var [.int .i64 c], .var [.int .i64 f], .var [.int .i64 s], .var [.bool dn]] =>
    some (none, .int .i64 (lE f s), [.var [.int .i64 (IntKind.i64.wrap (c + 1))], .var [.int .i64 (lF f)], .var [.int .i64 (lF s)], .var [.bool (dn || s == 0)]])
  | _, _ => none
def tab4 : List (Nat × Con A) := (23, .heap hLCall) :: tab3
/-! ### deeds -/
def getA (xs : List Act) (k : Nat) : Act := xs.getD k zeroA
def atA (a : Act) : Int := (IntKind.i64.wrap a.at_).tmod 50
def stepD (a : Act) (d : Dk) : Dk :=
  if (a.op.tmod 12 == 0) = true then { d with left := mx (-1) (atA a) } else if (a.op.tmod 12 == 1) = true then { d with fail := mx (-1) (atA a) }
  else if (a.op.tmod 12 == 2) = true then d.restart a.mask (IntKind.i64.wrap a.torn) (IntKind.i64.wrap a.bytes) else if (a.op.tmod 12 == 3) = true then d.flush
  else d.write (atA a) (sectorL a.byte)
def stepE (a : Act) (d : Dk) : Int :=
  if (a.op.tmod 12 == 0) = true then 0 else if (a.op.tmod 12 == 1) = true then 0 else if (a.op.tmod 12 == 2) = true then 0 else if (a.op.tmod 12 == 3) = true then flushE d else writeE d (atA a)
def dAt (n : Int) (xs : List Act) : Nat → Dk
  | 0 => spOf n
  | g + 1 => stepD (getA xs g) (dAt n xs g)
def Dk.ownsB (b : Nat) (d : Dk) : List (Nat × Own A) := [(b, .var [.orow (b + 1), .orow (b + 2), .int .i64 d.left, .int .i64 d.fail, .bool d.down, .int .i64 d.calls]), (b + 1, .row 28 d.kept), (b + 2, .row 58 d.wait)]
def Dk.ownsL (d : Dk) : List (Nat × Own A) := d.ownsB 0 ++ [(3, .row 28 d.kept), (4, .row 52 d.wait), (5, .var [.int .i64 d.left]), (6, .var [.int .i64 d.fail]), (7, .var [.int .i64 d.calls]), (8, .var [.bool d.down])]
def slotsL : List (Nat × SV A) := [(6, .optr 0 0), (7, .orow 3), (8, .orow 4), (9, .optr 5 0), (10, .optr 6 0), (11, .optr 7 0), (12, .optr 8 0), (13, .fn 23 [.optr 7 0, .optr 6 0, .optr 5 0, .optr 8 0])]
def annScr (n : Int) (xs : List Act) : Ann A := { G := Nat, inv := fun g => g ≤ xs.length, keep := [5, 45, 46], slots := fun g => (47, .int .i64 g) :: slotsL, owns := fun g => (dAt n xs g).ownsL, μ := fun g => xs.length - g }
/-- Behind the deed. -/
def cutAct (n : Int) (xs : List Act) (g : Nat) : Ann A := { G := Unit, inv := fun _ => True, keep := [5, 16, 17, 45, 46, 47], slots := fun _ => (18, .int .i64 (stepE (getA xs g) (dAt n xs g))) :: (19, .int .i64 (stepE (getA xs g) (dAt n xs g))) :: slotsL, owns := fun _ => (dAt n xs (g + 1)).ownsL, μ := fun _ => 0 }
/-- What a sector has of another one's bytes, as far as a number. -/
def selS (m t b : Int) (k i : Nat) : Bool := ((k : Int) == t && decide ((i : Int) < b)) || ((k : Int) != t && ((shr .u64 m (Int.tmod (k : Int) 64)).tmod 2 == 1))
def mixL (m t b : Int) (k : Nat) (x y : Sec) (i : Nat) : List Int := (List.range 64).map fun j => if (decide (j < i) && selS m t b k j) = true then y.l.getD j 0 else x.l.getD j 0
def mixS (m t b : Int) (k : Nat) (x y : Sec) (i : Nat) : Sec := ⟨mixL m t b k x y i, by simp [mixL]⟩
def reD (d : Dk) (a : Act) : Dk := d.restart a.mask (IntKind.i64.wrap a.torn) (IntKind.i64.wrap a.bytes)
def reK (d : Dk) (a : Act) (k : Nat) : List Sec := keptR d a.mask (IntKind.i64.wrap a.torn) (IntKind.i64.wrap a.bytes) k
def reK2 (d : Dk) (a : Act) (k i : Nat) : List Sec := (reK d a k).set (getW d.wait k).at_.toNat (mixS a.mask (IntKind.i64.wrap a.torn) (IntKind.i64.wrap a.bytes) k (getS (reK d a k) (getW d.wait k).at_.toNat) (getW d.wait k).data i)
def annRe (n : Int) (xs : List Act) (g : Nat) : Ann A := { G := Nat, inv := fun k => k ≤ (dAt n xs g).wait.length, keep := [5, 9, 10, 11, 12, 13, 15, 16, 17, 18, 19, 45, 46, 47, 112, 113], keepO := [9, 10, 11, 12, 15, 112], slots := fun k => [(6, .optr 0 0), (7, .orow 3), (114, .int .i64 k)], owns := fun k => (reD (dAt n xs g) (getA xs g)).ownsB 0 ++ [(3, .row 28 (reK (dAt n xs g) (getA xs g) k))], μ := fun k => (dAt n xs g).wait.length - k }
def annRe2 (n : Int) (xs : List Act) (g k : Nat) : Ann A := { G := Nat, inv := fun i => i ≤ 64, keep := [5, 9, 10, 11, 12, 13, 15, 16, 17, 18, 19, 20, 21, 45, 46, 47, 112, 113, 114], keepO := [9, 10, 11, 12, 15, 21, 112], slots := fun i => [(6, .optr 0 0), (7, .orow 3), (119, .int .i64 i)], owns := fun i => (reD (dAt n xs g) (getA xs g)).ownsB 0 ++ [(3, .row 28 (reK2 (dAt n xs g) (getA xs g) k i))], μ := fun i => 64 - i }
def annFl (n : Int) (xs : List Act) (g : Nat) : Ann A := { G := Nat, inv := fun k => k ≤ (dAt n xs g).wait.length, keep := [5, 9, 10, 11, 12, 13, 16, 17, 18, 19, 45, 46, 47, 171, 172], keepO := [9, 10, 11, 12, 171], slots := fun k => [(6, .optr 0 0), (7, .orow 3), (173, .int .i64 k)], owns := fun k => (dAt n xs g).flush.ownsB 0 ++ [(3, .row 28 (keptAt (dAt n xs g) k))], μ := fun k => (dAt n xs g).wait.length - k }
def annRd (n : Int) (xs : List Act) (g : Nat) : Ann A := { G := Nat, inv := fun k => k ≤ (dAt n xs (g + 1)).wait.length, keep := [5, 7, 8, 9, 10, 11, 12, 13, 16, 18, 19, 25, 26, 28, 45, 46, 47, 197, 198], keepO := [7, 8, 9, 10, 11, 12, 25], slots := fun k => [(6, .optr 1 0), (27, .rptr 0 0 0), (199, .int .i64 k)], owns := fun k => (0, .row 5 (readAt (dAt n xs (g + 1)) (atA (getA xs g)) k).l) :: (dAt n xs (g + 1)).ownsB 1, μ := fun k => (dAt n xs (g + 1)).wait.length - k }
def cutRead (n : Int) (xs : List Act) (g : Nat) : Ann A := { G := Unit, inv := fun _ => True, keep := [5, 7, 8, 9, 10, 11, 12, 13, 18, 19, 25, 26, 45, 46, 47], keepO := [7, 8, 9, 10, 11, 12, 25], slots := fun _ => [(6, .optr 1 0), (27, .rptr 0 0 0), (28, .int .i64 (readE (dAt n xs (g + 1)) (atA (getA xs g))))], owns := fun _ => (0, .row 5 (readS (dAt n xs (g + 1)) (atA (getA xs g))).l) :: (dAt n xs (g + 1)).ownsB 1, μ := fun _ => 0 }
def headA (xs : List Act) : List Act := List.drop 0 (List.take (mn (xs.length : Int) 200).toNat xs)
def actsOk (xs : List Act) : Prop := lenOk xs ∧ ∀ x ∈ xs, (0 ≤ x.op ∧ x.op < 256) ∧ (-32768 ≤ x.at_ ∧ x.at_ < 32768) ∧ (0 ≤ x.mask ∧ x.mask < 18446744073709551616) ∧ (-128 ≤ x.torn ∧ x.torn < 128) ∧ (-128 ≤ x.bytes ∧ x.bytes < 128)
def sizeN (s : Int) : Int := IntKind.i64.wrap (s.tmod 40)
def spLScr : Sx.Spec A
  | [.int .u8 s, .csl 50 xs] => some (some (actsOk xs ∧ 0 ≤ s ∧ s < 256), .bool true)
  | _ => none
end Go.Proofs.Ytmfpgddnapmgfaa.Dsk
