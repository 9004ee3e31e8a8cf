/- The disk (package disk) and its laws: what each function gives. -/
import Derived.Test.YtmfpgddnapmgfaaSxQ
import Derived.Test.YtmfpgddnapmgfaaProg
import Derived.KernelRfl
namespace Go.Proofs.Ytmfpgddnapmgfaa.Dsk
open Go Go.Proofs.Ytmfpgddnapmgfaa.Sx

/-- A sector: 64 numbers. -/
structure Sec where
  l : List Int
  h : l.length = 64
theorem Sec.ext' {x y : Sec} (h : x.l = y.l) : x = y := by cases x; cases y; cases h; rfl
def zeroS : Sec := ⟨List.replicate 64 0, by simp⟩
def Sec.of (l : List Int) : Sec := if h : l.length = 64 then ⟨l, h⟩ else zeroS
theorem Sec.of_l {l : List Int} (h : l.length = 64) : (Sec.of l).l = l := by unfold Sec.of; rw [dif_pos h]
theorem Sec.of_self (x : Sec) : Sec.of x.l = x := Sec.ext' (Sec.of_l x.h)

def Sec.cells {A : Nat → Type} (x : Sec) : List (SV A) := [.int .u8 (x.l.getD 0 0), .int .u8 (x.l.getD 1 0), .int .u8 (x.l.getD 2 0), .int .u8 (x.l.getD 3 0), .int .u8 (x.l.getD 4 0), .int .u8 (x.l.getD 5 0), .int .u8 (x.l.getD 6 0), .int .u8 (x.l.getD 7 0), .int .u8 (x.l.getD 8 0), .int .u8 (x.l.getD 9 0), .int .u8 (x.l.getD 10 0), .int .u8 (x.l.getD 11 0), .int .u8 (x.l.getD 12 0), .int .u8 (x.l.getD 13 0), .int .u8 (x.l.getD 14 0), .int .u8 (x.l.getD 15 0), .int .u8 (x.l.getD 16 0), .int .u8 (x.l.getD 17 0), .int .u8 (x.l.getD 18 0), .int .u8 (x.l.getD 19 0), .int .u8 (x.l.getD 20 0), .int .u8 (x.l.getD 21 0), .int .u8 (x.l.getD 22 0), .int .u8 (x.l.getD 23 0), .int .u8 (x.l.getD 24 0), .int .u8 (x.l.getD 25 0), .int .u8 (x.l.getD 26 0), .int .u8 (x.l.getD 27 0), .int .u8 (x.l.getD 28 0), .int .u8 (x.l.getD 29 0), .int .u8 (x.l.getD 30 0), .int .u8 (x.l.getD 31 0), .int .u8 (x.l.getD 32 0), .int .u8 (x.l.getD 33 0), .int .u8 (x.l.getD 34 0), .int .u8 (x.l.getD 35 0), .int .u8 (x.l.getD 36 0), .int .u8 (x.l.getD 37 0), .int .u8 (x.l.getD 38 0), .int .u8 (x.l.getD 39 0), .int .u8 (x.l.getD 40 0), .int .u8 (x.l.getD 41 0), .int .u8 (x.l.getD 42 0), .int .u8 (x.l.getD 43 0), .int .u8 (x.l.getD 44 0), .int .u8 (x.l.getD 45 0), .int .u8 (x.l.getD 46 0), .int .u8 (x.l.getD 47 0), .int .u8 (x.l.getD 48 0), .int .u8 (x.l.getD 49 0), .int .u8 (x.l.getD 50 0), .int .u8 (x.l.getD 51 0), .int .u8 (x.l.getD 52 0), .int .u8 (x.l.getD 53 0), .int .u8 (x.l.getD 54 0), .int .u8 (x.l.getD 55 0), .int .u8 (x.l.getD 56 0), .int .u8 (x.l.getD 57 0), .int .u8 (x.l.getD 58 0), .int .u8 (x.l.getD 59 0), .int .u8 (x.l.getD 60 0), .int .u8 (x.l.getD 61 0), .int .u8 (x.l.getD 62 0), .int .u8 (x.l.getD 63 0)]
theorem Sec.cells_map {A : Nat → Type} (x : Sec) : x.cells (A := A) = x.l.map fun n => .int .u8 n := by
  have h : x.cells (A := A) = (List.range 64).map fun i => .int .u8 (x.l.getD i 0) := rfl
  rw [h]
  apply List.ext_getElem?
  intro i
  by_cases hi : i < 64
  · have hx : i < x.l.length := by rw [x.h]; exact hi
    simp [List.getElem?_map, List.getElem?_range, hi, List.getElem?_eq_getElem hx, List.getD]
  · rw [List.getElem?_eq_none (by simp; omega), List.getElem?_eq_none (by rw [List.length_map, x.h]; omega)]
theorem Sec.cells_len {A : Nat → Type} (x : Sec) : (x.cells (A := A)).length = 64 := rfl
def popI {A : Nat → Type} : List (SV A) → Option (Int × List (SV A))
  | .int .u8 n :: r => some (n, r)
  | _ => none
theorem popI_eq {A : Nat → Type} {l : List (SV A)} {n : Int} {r : List (SV A)} (h : popI l = some (n, r)) : l = .int .u8 n :: r := by
  unfold popI at h
  split at h
  · cases h; rfl
  · cases h
def popsI {A : Nat → Type} : Nat → List (SV A) → Option (List Int)
  | 0, [] => some []
  | 0, _ :: _ => none
  | k + 1, l => match popI l with
    | some (n, r) => (match popsI k r with
      | some ns => some (n :: ns)
      | none => none)
    | none => none
theorem popsI_eq {A : Nat → Type} : ∀ (k : Nat) {l : List (SV A)} {ns : List Int}, popsI k l = some ns → ns.length = k ∧ l = ns.map (fun n => .int .u8 n) := by
  intro k
  induction k with
  | zero =>
    intro l ns h
    cases l with
    | nil => cases h; exact ⟨rfl, rfl⟩
    | cons x l => cases h
  | succ k ih =>
    intro l ns h
    unfold popsI at h
    split at h
    · rename_i n r hp
      split at h
      · rename_i ms hm
        cases h
        obtain ⟨h1, h2⟩ := ih hm
        exact ⟨by rw [List.length_cons, h1], by rw [popI_eq hp, h2]; rfl⟩
      · cases h
    · cases h
def decS {A : Nat → Type} (l : List (SV A)) : Option Sec := match popsI 64 l with
  | some ns => some (.of ns)
  | none => none
theorem decS_eq {A : Nat → Type} {l : List (SV A)} {x : Sec} (h : decS l = some x) : l = x.cells := by
  unfold decS at h
  split at h
  · rename_i ns hn
    cases h
    obtain ⟨h1, h2⟩ := popsI_eq _ hn
    rw [Sec.cells_map, Sec.of_l h1]
    exact h2
  · cases h

/-- A write that waits. -/
structure Wr where
  at_ : Int
  data : Sec
def decW {A : Nat → Type} (n : Int) (l : List (SV A)) : Option Wr := match decS l with
  | some s => some ⟨n, s⟩
  | none => none
theorem decW_eq {A : Nat → Type} {n : Int} {l : List (SV A)} {x : Wr} (h : decW n l = some x) : l = x.data.cells ∧ x.at_ = n := by
  unfold decW at h
  split at h
  · rename_i s hs
    cases h
    exact ⟨decS_eq hs, rfl⟩
  · cases h
structure Act where
  op : Int
  at_ : Int
  byte : Int
  mask : Int
  torn : Int
  bytes : Int
def zeroW : Wr := ⟨0, zeroS⟩
def zeroA : Act := ⟨0, 0, 0, 0, 0, 0⟩
def A : Nat → Type
  | 28 => Sec
  | 58 => Wr
  | 52 => Wr
  | 50 => Act
  | 5 => Int
  | _ => Unit
def enc : ∀ T, A T → List (SV A)
  | 28, (x : Sec) => x.cells
  | 58, (x : Wr) => .int .i64 x.at_ :: x.data.cells
  | 52, (x : Wr) => .int .i64 x.at_ :: x.data.cells
  | 50, (x : Act) => [.int .u8 x.op, .int .i16 x.at_, .int .u8 x.byte, .int .u64 x.mask, .int .i8 x.torn, .int .i8 x.bytes]
  | 5, (x : Int) => [.int .u8 x]
  | _, _ => []
def decW' {A : Nat → Type} : List (SV A) → Option Wr
  | .int .i64 n :: l => decW n l
  | _ => none
def decA {A : Nat → Type} : List (SV A) → Option Act
  | [.int .u8 a, .int .i16 b, .int .u8 c, .int .u64 d, .int .i8 e, .int .i8 f] => some ⟨a, b, c, d, e, f⟩
  | _ => none
def decI {A : Nat → Type} : List (SV A) → Option Int
  | [.int .u8 x] => some x
  | _ => none
def dec (T : Nat) (l : List (SV A)) : Option (A T) :=
  if h : 28 = T then h ▸ (show Option (A 28) from (decS l : Option Sec))
  else if h : 58 = T then h ▸ (show Option (A 58) from (decW' l : Option Wr))
  else if h : 52 = T then h ▸ (show Option (A 52) from (decW' l : Option Wr))
  else if h : 50 = T then h ▸ (show Option (A 50) from (decA l : Option Act))
  else if h : 5 = T then h ▸ (show Option (A 5) from (decI l : Option Int))
  else none
def dflt : ∀ T, A T
  | 28 => zeroS
  | 58 => zeroW
  | 52 => zeroW
  | 50 => zeroA
  | 5 => (0 : Int)
  | _ => by unfold A; split <;> first | exact zeroS | exact zeroW | exact zeroA | exact (0 : Int) | exact ()
def secP : PartU A 28 5 := ⟨64, fun (x : Sec) => (x.l : List Int), fun _ (l : List Int) => (Sec.of l : Sec)⟩
def wrP : PartU A 58 5 := ⟨64, fun (x : Wr) => (x.data.l : List Int), fun (x : Wr) (l : List Int) => (⟨x.at_, Sec.of l⟩ : Wr)⟩
def wrQ : PartU A 52 5 := ⟨64, fun (x : Wr) => (x.data.l : List Int), fun (x : Wr) (l : List Int) => (⟨x.at_, Sec.of l⟩ : Wr)⟩
def part : ∀ T (_ : Nat) S, Option (PartU A T S)
  | 28, 0, 5 => some secP
  | 58, 1, 5 => some wrP
  | 52, 1, 5 => some wrQ
  | _, _, _ => none
def proj : ∀ T (_ : Nat) t, Option (A T → A t)
  | 58, 1, 28 => some (fun (x : Wr) => (x.data : Sec))
  | 52, 1, 28 => some (fun (x : Wr) => (x.data : Sec))
  | _, _, _ => none
def bld : ∀ t, List (Nat × SV A) → Option (A t)
  | 28, [] => some (zeroS : Sec)
  | 28, [(0, .int .u8 n)] => some (Sec.of (n :: List.replicate 63 0) : Sec)
  | 58, [] => some (zeroW : Wr)
  | 58, [(0, .int .i64 n), (1, .el 28 s)] => some (⟨n, s⟩ : Wr)
  | 52, [] => some (zeroW : Wr)
  | 52, [(0, .int .i64 n), (1, .el 28 s)] => some (⟨n, s⟩ : Wr)
  | _, _ => none
def arr : Nat → Option Nat
  | 28 => some 5
  | _ => none
def one : Nat → Bool
  | 58 => true
  | 52 => true
  | _ => false
def opq : Nat → Bool
  | 28 => true
  | 58 => true
  | 52 => true
  | _ => false
def eqSec (a b : Sec) : Bool := (List.range 64).foldr (fun i acc => (a.l.getD i 0 == b.l.getD i 0) && acc) true
def eqv : ∀ T, Option (A T → A T → Bool)
  | 28 => some (fun (a b : Sec) => eqSec a b)
  | _ => none
def isByte : Nat → Bool
  | 5 => true
  | _ => false
def nums : ∀ T, List (A T) → List Int
  | 5, (xs : List Int) => xs
  | _, _ => []
def ofNums : ∀ T, List Int → List (A T)
  | 5, xs => (show List Int from xs)
  | _, _ => []
def u : U A := { enc := enc, dec := dec, dflt := dflt, isByte := isByte, nums := nums, ofNums := ofNums, part := part, proj := proj, bld := bld, arr := arr, one := one, opq := opq, eqv := eqv }
def lenOk {α : Type} (xs : List α) : Prop := xs.length < 9223372036854775808

/-! ### the disk -/
structure Dk where
  kept : List Sec
  wait : List Wr
  left : Int
  fail : Int
  down : Bool
  calls : Int
def Dk.own (d : Dk) : List (Own A) := [.var [.orow 1, .orow 2, .int .i64 d.left, .int .i64 d.fail, .bool d.down, .int .i64 d.calls], .row 28 d.kept, .row 58 d.wait]
def callE (d : Dk) : Int := if (d.down || d.left == 0) = true then 9 else if (d.fail == 0) = true then 10 else 0
def Dk.call (d : Dk) : Dk := { d with calls := IntKind.i64.wrap (d.calls + 1), down := d.down || d.left == 0, left := mx (-1) (IntKind.i64.wrap (d.left - 1)), fail := mx (-1) (IntKind.i64.wrap (d.fail - 1)) }
/-- The same, the row of writes that wait laid anew. -/
def Dk.own3 (d : Dk) : List (Own A) := [.var [.orow 1, .orow 3, .int .i64 d.left, .int .i64 d.fail, .bool d.down, .int .i64 d.calls], .row 28 d.kept, .dead, .row 58 d.wait]
def dkH (f : List (SV A) → Dk → Option (Option Prop × SV A × List (Own A))) : HSpec A
  | .optr 0 0 :: l, [.var [.orow 1, .orow 2, .int .i64 a, .int .i64 b, .bool dn, .int .i64 c], .row 28 ks, .row 58 ws] => f l ⟨ks, ws, a, b, dn, c⟩
  | _, _ => none
def dkL (f : List (SV A) → Dk → Option (Option Prop × SV A)) : LSpec A
  | .optr 0 0 :: l, [.var [.orow 1, .orow 2, .int .i64 a, .int .i64 b, .bool dn, .int .i64 c], .row 28 ks, .row 58 ws] => f l ⟨ks, ws, a, b, dn, c⟩
  | _, _ => none
def spOf (n : Int) : Dk := ⟨List.replicate (mx 0 (mn n 512)).toNat zeroS, [], -1, -1, false, 0⟩
def hOf : HSpec A
  | [.int .i64 n], [] => some (none, .optr 0 0, (spOf n).own)
  | _, _ => none
def inD (d : Dk) (n : Int) : Bool := !(decide (n < 0) || decide (n ≥ (d.kept.length : Int)))
def writeE (d : Dk) (n : Int) : Int := if d.down = true then 9 else if inD d n = true then callE d else 3
def Dk.write (d : Dk) (n : Int) (x : Sec) : Dk := if d.down = true then d else if inD d n = true then (if (callE d != 10) = true then { d.call with wait := d.wait ++ [⟨n, x⟩] } else d.call) else d
def getW (ws : List Wr) (k : Nat) : Wr := ws.getD k zeroW
def getS (ks : List Sec) (k : Nat) : Sec := ks.getD k zeroS
def readAt (d : Dk) (n : Int) : Nat → Sec
  | 0 => getS d.kept n.toNat
  | k + 1 => if ((getW d.wait k).at_ == n) = true then (getW d.wait k).data else readAt d n k
def readS (d : Dk) (n : Int) : Sec := if d.down = true then zeroS else if inD d n = true then readAt d n d.wait.length else zeroS
def readE (d : Dk) (n : Int) : Int := if d.down = true then 9 else if inD d n = true then 0 else 3
def annRead (d : Dk) (n : Int) : Ann A := { G := Nat, inv := fun k => k ≤ d.wait.length, keep := [1, 39], slots := fun k => [(0, .optr 64 0), (38, .orow 66), (6, .rptr 0 0 0), (4, .rptr 1 0 0), (40, .int .i64 k)], owns := fun k => [(64, .var [.orow 65, .orow 66, .int .i64 d.left, .int .i64 d.fail, .bool d.down, .int .i64 d.calls]), (65, .row 28 d.kept), (66, .row 58 d.wait), (0, .row 5 (readAt d n k).l), (1, .row 5 zeroS.l)], μ := fun k => d.wait.length - k }
def keptAt (d : Dk) : Nat → List Sec
  | 0 => d.kept
  | k + 1 => (keptAt d k).set (getW d.wait k).at_.toNat (getW d.wait k).data
def flushE (d : Dk) : Int := if d.down = true then 9 else callE d
def Dk.flush (d : Dk) : Dk := if d.down = true then d else if (callE d != 0) = true then d.call else { d.call with kept := keptAt d d.wait.length, wait := [] }
def annFlush (d : Dk) : Ann A := { G := Nat, inv := fun k => k ≤ d.wait.length, keep := [19], slots := fun k => [(0, .optr 64 0), (18, .orow 66), (20, .int .i64 k)], owns := fun k => [(64, .var [.orow 65, .orow 66, .int .i64 d.call.left, .int .i64 d.call.fail, .bool d.call.down, .int .i64 d.call.calls]), (65, .row 28 (keptAt d k)), (66, .row 58 d.wait)], μ := fun k => d.wait.length - k }
def secRow (c : Int) (k : Nat) : List Int := (List.range 64).map fun i => if i < k then IntKind.u8.wrap (c + (i : Int)) else 0
def sectorL (c : Int) : Sec := ⟨secRow c 64, by simp [secRow]⟩
def annSector (c : Int) : Ann A := { G := Nat, inv := fun k => k ≤ 64, keep := [0], slots := fun k => [(2, .rptr 0 0 0), (3, .rptr 1 0 0), (5, .int .i64 k)], owns := fun k => [(0, .row 5 zeroS.l), (1, .row 5 (secRow c k))], μ := fun k => 64 - k }
/-- A sector of whose bytes the first ones are another's. -/
def tearL (a b : List Int) (n : Int) : List Int := b.take (mx 0 (mn n 64)).toNat ++ a.drop (mx 0 (mn n 64)).toNat
def tearS (a b : Sec) (n : Int) : Sec := Sec.of (tearL a.l b.l n)
def bitM (mask : Int) (k : Nat) : Bool := bitsI .and .u64 (shr .u64 mask (Int.tmod (k : Int) 64)) 1 == 1
def keptR (d : Dk) (mask torn bytes : Int) : Nat → List Sec
  | 0 => d.kept
  | k + 1 => if ((k : Int) == torn) = true then (keptR d mask torn bytes k).set (getW d.wait k).at_.toNat (tearS (getS (keptR d mask torn bytes k) (getW d.wait k).at_.toNat) (getW d.wait k).data bytes)
    else if bitM mask k = true then (keptR d mask torn bytes k).set (getW d.wait k).at_.toNat (getW d.wait k).data else keptR d mask torn bytes k
def Dk.restart (d : Dk) (mask torn bytes : Int) : Dk := { d with kept := keptR d mask torn bytes d.wait.length, wait := [], left := -1, fail := -1, down := false }
def annRestart (d : Dk) (mask torn bytes : Int) : Ann A := { G := Nat, inv := fun k => k ≤ d.wait.length, keep := [1, 2, 3, 14], slots := fun k => [(0, .optr 64 0), (13, .orow 66), (15, .int .i64 k)], owns := fun k => [(64, .var [.orow 65, .orow 66, .int .i64 d.left, .int .i64 d.fail, .bool d.down, .int .i64 d.calls]), (65, .row 28 (keptR d mask torn bytes k)), (66, .row 58 d.wait)], μ := fun k => d.wait.length - k }
/-- What waits goes to sectors that are. -/
def DkOk (d : Dk) : Prop := d.kept.length ≤ 512 ∧ (d.wait.length + 1) * 72 ≤ 140737488355328 ∧ ∀ k, k < d.wait.length → 0 ≤ (getW d.wait k).at_ ∧ (getW d.wait k).at_ < d.kept.length
def hCall : HSpec A := dkH fun l d => match l with
  | [] => some (none, .int .i64 (callE d), d.call.own)
  | _ => none
def spSector : Sx.Spec A
  | [.int .u8 c] => some (none, .el 28 (sectorL c))
  | _ => none
def lSize : LSpec A := dkL fun l d => match l with
  | [] => some (none, .int .i64 d.kept.length)
  | _ => none
def lWait : LSpec A := dkL fun l d => match l with
  | [] => some (none, .int .i64 d.wait.length)
  | _ => none
def lDown : LSpec A := dkL fun l d => match l with
  | [] => some (none, .bool d.down)
  | _ => none
def lCalls : LSpec A := dkL fun l d => match l with
  | [] => some (none, .int .i64 d.calls)
  | _ => none
def hArm : HSpec A := dkH fun l d => match l with
  | [.int .i64 n] => some (none, .tup [], { d with left := mx (-1) n }.own)
  | _ => none
def hFail : HSpec A := dkH fun l d => match l with
  | [.int .i64 n] => some (none, .tup [], { d with fail := mx (-1) n }.own)
  | _ => none
def lRead : LSpec A := dkL fun l d => match l with
  | [.int .i64 n] => some (some (DkOk d), .tup [.el 28 (readS d n), .int .i64 (readE d n)])
  | _ => none
def hWrite : HSpec A := dkH fun l d => match l with
  | [.int .i64 n, .el 28 s] => some (some (DkOk d), .int .i64 (writeE d n), (d.write n s).own3)
  | _ => none
def hFlush : HSpec A := dkH fun l d => match l with
  | [] => some (some (DkOk d), .int .i64 (flushE d), d.flush.own3)
  | _ => none
def hRestart : HSpec A := dkH fun l d => match l with
  | [.int .u64 m, .int .i64 t, .int .i64 b] => some (some (DkOk d), .tup [], (d.restart m t b).own3)
  | _ => none
def tab0 : List (Nat × Con A) := []
def tab1 : List (Nat × Con A) := (24, .heap hCall) :: (13, .pure spSector) :: (11, .heap hOf) :: (16, .look lSize) :: (17, .look lWait) :: (21, .look lDown) :: (18, .look lCalls) :: (20, .heap hArm) :: (22, .heap hFail) :: (14, .look lRead) :: tab0
def tab2 : List (Nat × Con A) := (12, .heap hWrite) :: (19, .heap hFlush) :: (15, .heap hRestart) :: tab1
def spAwake : Sx.Spec A
  | [] => some (none, .lit true)
  | _ => none
def tab3 : List (Nat × Con A) := (10, .pure spAwake) :: tab2
/-! ### the laws' own ways -/
def Dk.ownsN (d : Dk) : List (Nat × Own A) := [(0, .var [.orow 1, .orow 2, .int .i64 d.left, .int .i64 d.fail, .bool d.down, .int .i64 d.calls]), (1, .row 28 d.kept), (2, .row 58 d.wait)]
def getI (l : List Int) (k : Nat) : Int := l.getD k 0
def bitD (mask : Int) (k : Nat) : Bool := (shr .u64 mask (k : Int)).tmod 2 == 1
def dAgain (k : Int) (cs : List Int) : Nat → Dk
  | 0 => spOf 16
  | g + 1 => (dAgain k cs g).write k (sectorL (getI cs g))
def wantA (mask : Int) (cs : List Int) : Nat → Sec
  | 0 => zeroS
  | g + 1 => if bitD mask g = true then sectorL (getI cs g) else wantA mask cs g
def annAgain (k mask : Int) (cs : List Int) : Ann A := { G := Nat, inv := fun g => g ≤ cs.length, keep := [2, 8, 26, 27], slots := fun g => [(7, .optr 0 0), (9, .rptr 3 0 0), (28, .int .i64 g)], owns := fun g => (dAgain k cs g).ownsN ++ [(3, .row 5 (wantA mask cs g).l)], μ := fun g => cs.length - g }
def dStops (n : Int) : Nat → Dk
  | 0 => { spOf 4 with left := mx (-1) n }
  | g + 1 => (dStops n g).write ((g : Int).tmod 4) (sectorL 1)
def annStops (n w : Int) : Ann A := { G := Nat, inv := fun g => (g : Int) ≤ w, keep := [0, 1], slots := fun g => [(5, .optr 0 0), (6, .int .i64 g)], owns := fun g => (dStops n g).ownsN, μ := fun g => w.toNat - g }
def dFails (n c : Int) : Nat → Dk
  | 0 => { spOf 2 with fail := mx (-1) n }
  | g + 1 => (dFails n c g).write ((g : Int).tmod 2) (sectorL (IntKind.u8.wrap (c + IntKind.u8.wrap g)))
def annFails (n c : Int) : Ann A := { G := Nat, inv := fun g => g ≤ 12, keep := [0, 1], slots := fun g => [(5, .optr 0 0), (6, .int .i64 (if (g : Int) > n then 1 else 0)), (7, .int .i64 g)], owns := fun g => (dFails n c g).ownsN, μ := fun g => 12 - g }
def spLKept : Sx.Spec A
  | [.int .u8 a, .int .u8 _, .int .u8 g, .int .u64 _, .int .i8 _] => some (some ((0 ≤ a ∧ a < 256) ∧ 0 ≤ g ∧ g < 256), .bool true)
  | _ => none
def spLAgain : Sx.Spec A
  | [.int .u8 a, .csl 5 _, .int .u64 m] => some (some ((0 ≤ a ∧ a < 256) ∧ 0 ≤ m ∧ m < 18446744073709551616), .bool true)
  | _ => none
def spLSize : Sx.Spec A
  | [.int .i64 _, .int .i64 _] => some (some True, .bool true)
  | _ => none
def spLTorn : Sx.Spec A
  | [.int .u8 _, .int .u8 _, .int .i64 _, .int .u64 _] => some (some True, .bool true)
  | _ => none
def spLStops : Sx.Spec A
  | [.int .i8 n, .int .u8 w] => some (some ((-128 ≤ n ∧ n < 128) ∧ 0 ≤ w ∧ w < 256), .bool true)
  | _ => none
def spLFails : Sx.Spec A
  | [.int .u8 n, .int .u8 _] => some (some (0 ≤ n ∧ n < 256), .bool true)
  | _ => none
end Go.Proofs.Ytmfpgddnapmgfaa.Dsk

