/- The disk and the log (packages disk, sum, wal): what each function gives. -/
import Derived.Test.YtgimkldaeobhnaaSxQ
import Derived.Test.YtgimkldaeobhnaaProg
import Derived.KernelRfl
namespace Go.Proofs.Ytgimkldaeobhnaa.Dsk
open Go Go.Proofs.Ytgimkldaeobhnaa.Sx

/-- A sector: 64 numbers. -/
structure Sec where
  l : List Int
  h : l.length = 64
theorem Sec.ext' {x y : Sec} (h : x.l = y.l) : x = y := by cases x; cases y; cases h; rfl
def zeroS : Sec := ⟨List.replicate 64 0, by simp⟩
def Sec.of (l : List Int) : Sec := if h : l.length = 64 then ⟨l, h⟩ else zeroS
theorem Sec.of_l {l : List Int} (h : l.length = 64) : (Sec.of l).l = l := by unfold Sec.of; rw [dif_pos h]
theorem Sec.of_self (x : Sec) : Sec.of x.l = x := Sec.ext' (Sec.of_l x.h)

def Sec.cells {A : Nat → Type} (x : Sec) : List (SV A) := [.int .u8 (x.l.getD 0 0), .int .u8 (x.l.getD 1 0), .int .u8 (x.l.getD 2 0), .int .u8 (x.l.getD 3 0), .int .u8 (x.l.getD 4 0), .int .u8 (x.l.getD 5 0), .int .u8 (x.l.getD 6 0), .int .u8 (x.l.getD 7 0), .int .u8 (x.l.getD 8 0), .int .u8 (x.l.getD 9 0), .int .u8 (x.l.getD 10 0), .int .u8 (x.l.getD 11 0), .int .u8 (x.l.getD 12 0), .int .u8 (x.l.getD 13 0), .int .u8 (x.l.getD 14 0), .int .u8 (x.l.getD 15 0), .int .u8 (x.l.getD 16 0), .int .u8 (x.l.getD 17 0), .int .u8 (x.l.getD 18 0), .int .u8 (x.l.getD 19 0), .int .u8 (x.l.getD 20 0), .int .u8 (x.l.getD 21 0), .int .u8 (x.l.getD 22 0), .int .u8 (x.l.getD 23 0), .int .u8 (x.l.getD 24 0), .int .u8 (x.l.getD 25 0), .int .u8 (x.l.getD 26 0), .int .u8 (x.l.getD 27 0), .int .u8 (x.l.getD 28 0), .int .u8 (x.l.getD 29 0), .int .u8 (x.l.getD 30 0), .int .u8 (x.l.getD 31 0), .int .u8 (x.l.getD 32 0), .int .u8 (x.l.getD 33 0), .int .u8 (x.l.getD 34 0), .int .u8 (x.l.getD 35 0), .int .u8 (x.l.getD 36 0), .int .u8 (x.l.getD 37 0), .int .u8 (x.l.getD 38 0), .int .u8 (x.l.getD 39 0), .int .u8 (x.l.getD 40 0), .int .u8 (x.l.getD 41 0), .int .u8 (x.l.getD 42 0), .int .u8 (x.l.getD 43 0), .int .u8 (x.l.getD 44 0), .int .u8 (x.l.getD 45 0), .int .u8 (x.l.getD 46 0), .int .u8 (x.l.getD 47 0), .int .u8 (x.l.getD 48 0), .int .u8 (x.l.getD 49 0), .int .u8 (x.l.getD 50 0), .int .u8 (x.l.getD 51 0), .int .u8 (x.l.getD 52 0), .int .u8 (x.l.getD 53 0), .int .u8 (x.l.getD 54 0), .int .u8 (x.l.getD 55 0), .int .u8 (x.l.getD 56 0), .int .u8 (x.l.getD 57 0), .int .u8 (x.l.getD 58 0), .int .u8 (x.l.getD 59 0), .int .u8 (x.l.getD 60 0), .int .u8 (x.l.getD 61 0), .int .u8 (x.l.getD 62 0), .int .u8 (x.l.getD 63 0)]
theorem Sec.cells_map {A : Nat → Type} (x : Sec) : x.cells (A := A) = x.l.map fun n => .int .u8 n := by
  have h : x.cells (A := A) = (List.range 64).map fun i => .int .u8 (x.l.getD i 0) := rfl
  rw [h]
  apply List.ext_getElem?
  intro i
  by_cases hi : i < 64
  · have hx : i < x.l.length := by rw [x.h]; exact hi
    simp [List.getElem?_map, List.getElem?_range, hi, List.getElem?_eq_getElem hx, List.getD]
  · rw [List.getElem?_eq_none (by simp; omega), List.getElem?_eq_none (by rw [List.length_map, x.h]; omega)]
theorem Sec.cells_len {A : Nat → Type} (x : Sec) : (x.cells (A := A)).length = 64 := rfl
def popI {A : Nat → Type} : List (SV A) → Option (Int × List (SV A))
  | .int .u8 n :: r => some (n, r)
  | _ => none
theorem popI_eq {A : Nat → Type} {l : List (SV A)} {n : Int} {r : List (SV A)} (h : popI l = some (n, r)) : l = .int .u8 n :: r := by
  unfold popI at h
  split at h
  · cases h; rfl
  · cases h
def popsI {A : Nat → Type} : Nat → List (SV A) → Option (List Int)
  | 0, [] => some []
  | 0, _ :: _ => none
  | k + 1, l => match popI l with
    | some (n, r) => (match popsI k r with
      | some ns => some (n :: ns)
      | none => none)
    | none => none
theorem popsI_eq {A : Nat → Type} : ∀ (k : Nat) {l : List (SV A)} {ns : List Int}, popsI k l = some ns → ns.length = k ∧ l = ns.map (fun n => .int .u8 n) := by
  intro k
  induction k with
  | zero =>
    intro l ns h
    cases l with
    | nil => cases h; exact ⟨rfl, rfl⟩
    | cons x l => cases h
  | succ k ih =>
    intro l ns h
    unfold popsI at h
    split at h
    · rename_i n r hp
      split at h
      · rename_i ms hm
        cases h
        obtain ⟨h1, h2⟩ := ih hm
        exact ⟨by rw [List.length_cons, h1], by rw [popI_eq hp, h2]; rfl⟩
      · cases h
    · cases h
def decS {A : Nat → Type} (l : List (SV A)) : Option Sec := match popsI 64 l with
  | some ns => some (.of ns)
  | none => none
theorem decS_eq {A : Nat → Type} {l : List (SV A)} {x : Sec} (h : decS l = some x) : l = x.cells := by
  unfold decS at h
  split at h
  · rename_i ns hn
    cases h
    obtain ⟨h1, h2⟩ := popsI_eq _ hn
    rw [Sec.cells_map, Sec.of_l h1]
    exact h2
  · cases h

/-- A write that waits. -/
structure Wr where
  at_ : Int
  data : Sec
def decW {A : Nat → Type} (n : Int) (l : List (SV A)) : Option Wr := match decS l with
  | some s => some ⟨n, s⟩
  | none => none
theorem decW_eq {A : Nat → Type} {n : Int} {l : List (SV A)} {x : Wr} (h : decW n l = some x) : l = x.data.cells ∧ x.at_ = n := by
  unfold decW at h
  split at h
  · rename_i s hs
    cases h
    exact ⟨decS_eq hs, rfl⟩
  · cases h
structure Act where
  op : Int
  bytes : List Int
  long : Int
def zeroW : Wr := ⟨0, zeroS⟩
def zeroA : Act := ⟨0, [], 0⟩
def A : Nat → Type
  | 53 => Sec
  | 68 => Wr
  | 5 => Int
  | 22 => List Int
  | 9 => ByteArray
  | 39 => Act
  | _ => Unit
def enc : ∀ T, A T → List (SV A)
  | 53, (x : Sec) => x.cells
  | 68, (x : Wr) => .int .i64 x.at_ :: x.data.cells
  | 5, (x : Int) => [.int .u8 x]
  | 22, (x : List Int) => [.csl 5 x]
  | 9, (x : ByteArray) => [.str x]
  | 39, (x : Act) => [.int .u8 x.op, .csl 5 x.bytes, .int .u16 x.long]
  | _, _ => []
def decW' {A : Nat → Type} : List (SV A) → Option Wr
  | .int .i64 n :: l => decW n l
  | _ => none
def decI {A : Nat → Type} : List (SV A) → Option Int
  | [.int .u8 x] => some x
  | _ => none
def decB : List (SV A) → Option (List Int)
  | [.csl 5 xs] => some (xs : List Int)
  | [.nils] => some []
  | [.zsl] => some []
  | _ => none
def decT {A : Nat → Type} : List (SV A) → Option ByteArray
  | [.str x] => some x
  | _ => none
def decA : List (SV A) → Option Act
  | [.int .u8 a, .csl 5 xs, .int .u16 b] => some ⟨a, (xs : List Int), b⟩
  | _ => none
def dec (T : Nat) (l : List (SV A)) : Option (A T) :=
  if h : 53 = T then h ▸ (show Option (A 53) from (decS l : Option Sec))
  else if h : 68 = T then h ▸ (show Option (A 68) from (decW' l : Option Wr))
  else if h : 5 = T then h ▸ (show Option (A 5) from (decI l : Option Int))
  else if h : 22 = T then h ▸ (show Option (A 22) from (decB l : Option (List Int)))
  else if h : 9 = T then h ▸ (show Option (A 9) from (decT l : Option ByteArray))
  else if h : 39 = T then h ▸ (show Option (A 39) from (decA l : Option Act))
  else none
def dflt : ∀ T, A T
  | 53 => zeroS
  | 68 => zeroW
  | 5 => (0 : Int)
  | 22 => ([] : List Int)
  | 9 => ByteArray.empty
  | 39 => zeroA
  | _ => by unfold A; split <;> first | exact zeroS | exact zeroW | exact zeroA | exact (0 : Int) | exact ([] : List Int) | exact ByteArray.empty | exact ()
def secP : PartU A 53 5 := ⟨64, fun (x : Sec) => (x.l : List Int), fun _ (l : List Int) => (Sec.of l : Sec)⟩
def wrP : PartU A 68 5 := ⟨64, fun (x : Wr) => (x.data.l : List Int), fun (x : Wr) (l : List Int) => (⟨x.at_, Sec.of l⟩ : Wr)⟩
def part : ∀ T (_ : Nat) S, Option (PartU A T S)
  | 53, 0, 5 => some secP
  | 68, 1, 5 => some wrP
  | _, _, _ => none
def proj : ∀ T (_ : Nat) t, Option (A T → A t)
  | 68, 1, 53 => some (fun (x : Wr) => (x.data : Sec))
  | _, _, _ => none
def bld : ∀ t, List (Nat × SV A) → Option (A t)
  | 53, [] => some (zeroS : Sec)
  | 53, [(0, .int .u8 n)] => some (Sec.of (n :: List.replicate 63 0) : Sec)
  | 68, [] => some (zeroW : Wr)
  | 68, [(0, .int .i64 n), (1, .el 53 s)] => some (⟨n, s⟩ : Wr)
  | _, _ => none
def arr : Nat → Option Nat
  | 53 => some 5
  | _ => none
def one : Nat → Bool
  | 68 => true
  | _ => false
def opq : Nat → Bool
  | 53 => true
  | 68 => true
  | _ => false
def eqSec (a b : Sec) : Bool := (List.range 64).foldr (fun i acc => (a.l.getD i 0 == b.l.getD i 0) && acc) true
def eqv : ∀ T, Option (A T → A T → Bool)
  | 53 => some (fun (a b : Sec) => eqSec a b)
  | _ => none
def isByte : Nat → Bool
  | 5 => true
  | _ => false
def nums : ∀ T, List (A T) → List Int
  | 5, (xs : List Int) => xs
  | _, _ => []
def ofNums : ∀ T, List Int → List (A T)
  | 5, xs => (show List Int from xs)
  | _, _ => []
def u : U A := { enc := enc, dec := dec, dflt := dflt, isByte := isByte, nums := nums, ofNums := ofNums, part := part, proj := proj, bld := bld, arr := arr, one := one, opq := opq, eqv := eqv }
def lenOk {α : Type} (xs : List α) : Prop := xs.length < 9223372036854775808

/-! ### the disk -/
structure Dk where
  kept : List Sec
  wait : List Wr
  left : Int
  fail : Int
  down : Bool
  calls : Int
def Dk.own (d : Dk) : List (Own A) := [.var [.orow 1, .orow 2, .int .i64 d.left, .int .i64 d.fail, .bool d.down, .int .i64 d.calls], .row 53 d.kept, .row 68 d.wait]
def callE (d : Dk) : Int := if (d.down || d.left == 0) = true then 9 else if (d.fail == 0) = true then 10 else 0
def Dk.call (d : Dk) : Dk := { d with calls := IntKind.i64.wrap (d.calls + 1), down := d.down || d.left == 0, left := mx (-1) (IntKind.i64.wrap (d.left - 1)), fail := mx (-1) (IntKind.i64.wrap (d.fail - 1)) }
/-- The same, the row of writes that wait laid anew. -/
def Dk.own3 (d : Dk) : List (Own A) := [.var [.orow 1, .orow 3, .int .i64 d.left, .int .i64 d.fail, .bool d.down, .int .i64 d.calls], .row 53 d.kept, .dead, .row 68 d.wait]
def dkH (f : List (SV A) → Dk → Option (Option Prop × SV A × List (Own A))) : HSpec A
  | .optr 0 0 :: l, [.var [.orow 1, .orow 2, .int .i64 a, .int .i64 b, .bool dn, .int .i64 c], .row 53 ks, .row 68 ws] => f l ⟨ks, ws, a, b, dn, c⟩
  | _, _ => none
def dkL (f : List (SV A) → Dk → Option (Option Prop × SV A)) : LSpec A
  | .optr 0 0 :: l, [.var [.orow 1, .orow 2, .int .i64 a, .int .i64 b, .bool dn, .int .i64 c], .row 53 ks, .row 68 ws] => f l ⟨ks, ws, a, b, dn, c⟩
  | _, _ => none
def spOf (n : Int) : Dk := ⟨List.replicate (mx 0 (mn n 512)).toNat zeroS, [], -1, -1, false, 0⟩
def hOf : HSpec A
  | [.int .i64 n], [] => some (none, .optr 0 0, (spOf n).own)
  | _, _ => none
def inD (d : Dk) (n : Int) : Bool := !(decide (n < 0) || decide (n ≥ (d.kept.length : Int)))
def writeE (d : Dk) (n : Int) : Int := if d.down = true then 9 else if inD d n = true then callE d else 3
def Dk.write (d : Dk) (n : Int) (x : Sec) : Dk := if d.down = true then d else if inD d n = true then (if (callE d != 10) = true then { d.call with wait := d.wait ++ [⟨n, x⟩] } else d.call) else d
def getW (ws : List Wr) (k : Nat) : Wr := ws.getD k zeroW
def getS (ks : List Sec) (k : Nat) : Sec := ks.getD k zeroS
def readAt (d : Dk) (n : Int) : Nat → Sec
  | 0 => getS d.kept n.toNat
  | k + 1 => if ((getW d.wait k).at_ == n) = true then (getW d.wait k).data else readAt d n k
def readS (d : Dk) (n : Int) : Sec := if d.down = true then zeroS else if inD d n = true then readAt d n d.wait.length else zeroS
def readE (d : Dk) (n : Int) : Int := if d.down = true then 9 else if inD d n = true then 0 else 3
def annRead (d : Dk) (n : Int) : Ann A := { G := Nat, inv := fun k => k ≤ d.wait.length, keep := [1, 39], slots := fun k => [(0, .optr 64 0), (38, .orow 66), (6, .rptr 0 0 0), (4, .rptr 1 0 0), (40, .int .i64 k)], owns := fun k => [(64, .var [.orow 65, .orow 66, .int .i64 d.left, .int .i64 d.fail, .bool d.down, .int .i64 d.calls]), (65, .row 53 d.kept), (66, .row 68 d.wait), (0, .row 5 (readAt d n k).l), (1, .row 5 zeroS.l)], μ := fun k => d.wait.length - k }
def keptAt (d : Dk) : Nat → List Sec
  | 0 => d.kept
  | k + 1 => (keptAt d k).set (getW d.wait k).at_.toNat (getW d.wait k).data
def flushE (d : Dk) : Int := if d.down = true then 9 else callE d
def Dk.flush (d : Dk) : Dk := if d.down = true then d else if (callE d != 0) = true then d.call else { d.call with kept := keptAt d d.wait.length, wait := [] }
def annFlush (d : Dk) : Ann A := { G := Nat, inv := fun k => k ≤ d.wait.length, keep := [19], slots := fun k => [(0, .optr 64 0), (18, .orow 66), (20, .int .i64 k)], owns := fun k => [(64, .var [.orow 65, .orow 66, .int .i64 d.call.left, .int .i64 d.call.fail, .bool d.call.down, .int .i64 d.call.calls]), (65, .row 53 (keptAt d k)), (66, .row 68 d.wait)], μ := fun k => d.wait.length - k }
/-- A sector of whose bytes the first ones are another's. -/
def tearL (a b : List Int) (n : Int) : List Int := b.take (mx 0 (mn n 64)).toNat ++ a.drop (mx 0 (mn n 64)).toNat
def tearS (a b : Sec) (n : Int) : Sec := Sec.of (tearL a.l b.l n)
def bitM (mask : Int) (k : Nat) : Bool := bitsI .and .u64 (shr .u64 mask (Int.tmod (k : Int) 64)) 1 == 1
def keptR (d : Dk) (mask torn bytes : Int) : Nat → List Sec
  | 0 => d.kept
  | k + 1 => if ((k : Int) == torn) = true then (keptR d mask torn bytes k).set (getW d.wait k).at_.toNat (tearS (getS (keptR d mask torn bytes k) (getW d.wait k).at_.toNat) (getW d.wait k).data bytes)
    else if bitM mask k = true then (keptR d mask torn bytes k).set (getW d.wait k).at_.toNat (getW d.wait k).data else keptR d mask torn bytes k
def Dk.restart (d : Dk) (mask torn bytes : Int) : Dk := { d with kept := keptR d mask torn bytes d.wait.length, wait := [], left := -1, fail := -1, down := false }
def annRestart (d : Dk) (mask torn bytes : Int) : Ann A := { G := Nat, inv := fun k => k ≤ d.wait.length, keep := [1, 2, 3, 14], slots := fun k => [(0, .optr 64 0), (13, .orow 66), (15, .int .i64 k)], owns := fun k => [(64, .var [.orow 65, .orow 66, .int .i64 d.left, .int .i64 d.fail, .bool d.down, .int .i64 d.calls]), (65, .row 53 (keptR d mask torn bytes k)), (66, .row 68 d.wait)], μ := fun k => d.wait.length - k }
/-- What waits goes to sectors that are. -/
def DkOk (d : Dk) : Prop := d.kept.length ≤ 512 ∧ (d.wait.length + 1) * 72 ≤ 140737488355328 ∧ ∀ k, k < d.wait.length → 0 ≤ (getW d.wait k).at_ ∧ (getW d.wait k).at_ < d.kept.length
def hCall : HSpec A := dkH fun l d => match l with
  | [] => some (none, .int .i64 (callE d), d.call.own)
  | _ => none
def lSize : LSpec A := dkL fun l d => match l with
  | [] => some (none, .int .i64 d.kept.length)
  | _ => none
def lWait : LSpec A := dkL fun l d => match l with
  | [] => some (none, .int .i64 d.wait.length)
  | _ => none
def lDown : LSpec A := dkL fun l d => match l with
  | [] => some (none, .bool d.down)
  | _ => none
def lCalls : LSpec A := dkL fun l d => match l with
  | [] => some (none, .int .i64 d.calls)
  | _ => none
def hArm : HSpec A := dkH fun l d => match l with
  | [.int .i64 n] => some (none, .tup [], { d with left := mx (-1) n }.own)
  | _ => none
def hFail : HSpec A := dkH fun l d => match l with
  | [.int .i64 n] => some (none, .tup [], { d with fail := mx (-1) n }.own)
  | _ => none
def lRead : LSpec A := dkL fun l d => match l with
  | [.int .i64 n] => some (some (DkOk d), .tup [.el 53 (readS d n), .int .i64 (readE d n)])
  | _ => none
def hWrite : HSpec A := dkH fun l d => match l with
  | [.int .i64 n, .el 53 s] => some (some (DkOk d), .int .i64 (writeE d n), (d.write n s).own3)
  | _ => none
def hFlush : HSpec A := dkH fun l d => match l with
  | [] => some (some (DkOk d), .int .i64 (flushE d), d.flush.own3)
  | _ => none
def hRestart : HSpec A := dkH fun l d => match l with
  | [.int .u64 m, .int .i64 t, .int .i64 b] => some (some (DkOk d), .tup [], (d.restart m t b).own3)
  | _ => none
def secL (x : Sec) : List Int := x.l
/-! ### sums and numbers -/
def rnd (n : Int) : Int := if (bitsI .and .u32 n 1 == 1) = true then bitsI .xor .u32 (shr .u32 n 1) 2197175160 else shr .u32 n 1
def rnds (n : Int) : Nat → Int
  | 0 => n
  | k + 1 => rnd (rnds n k)
def crcAt (xs : List Int) : Nat → Int
  | 0 => 4294967295
  | k + 1 => rnds (bitsI .xor .u32 (crcAt xs k) (IntKind.u32.wrap (xs.getD k 0))) 8
def crc (xs : List Int) : Int := bitsI .xor .u32 4294967295 (crcAt xs xs.length)
def spCheck : Sx.Spec A
  | [.csl 5 xs] => some (some (lenOk (α := Int) xs), .int .u32 (crc xs))
  | _ => none
def annCheck (xs : List Int) : Ann A := { G := Nat, inv := fun k => k ≤ xs.length, keep := [7, 8], slots := fun k => [(9, .int .i64 k), (3, .int .u32 (crcAt xs k))], μ := fun k => xs.length - k }
def annCheck2 (xs : List Int) (k : Nat) : Ann A := { G := Nat, inv := fun i => i ≤ 8, keep := [7, 8, 9], slots := fun i => [(17, .int .i64 i), (3, .int .u32 (rnds (bitsI .xor .u32 (crcAt xs k) (IntKind.u32.wrap (xs.getD k 0))) i))], μ := fun i => 8 - i }
def layB (n : Int) (len k : Nat) : Int := IntKind.u8.wrap (shr .i64 n (IntKind.i64.wrap (8 * IntKind.i64.wrap (IntKind.i64.wrap ((len : Int) - 1) - k))))
def layK (xs : List Int) (lo len : Nat) (n : Int) : Nat → List Int
  | 0 => xs
  | k + 1 => (layK xs lo len n k).set (lo + k) (layB n len k)
def hLay : HSpec A
  | [.osl 0 lo len, .int .i64 n], [.row 5 xs] => some (some (len ≤ 1000), .tup [], [.row 5 (layK xs lo len n len)])
  | _, _ => none
def annLay (xs : List Int) (lo len : Nat) (n : Int) : Ann A := { G := Nat, inv := fun k => k ≤ len, keep := [1, 6], slots := fun k => [(0, .osl 64 lo len), (7, .int .i64 k)], owns := fun k => [(64, .row 5 (layK xs lo len n k))], μ := fun k => len - k }
def numAt (xs : List Int) : Nat → Int
  | 0 => 0
  | k + 1 => bitsI .or .i64 (shl .i64 (numAt xs k) 8) (IntKind.i64.wrap (xs.getD k 0))
def numOf (xs : List Int) : Int := numAt xs xs.length
def spNumber : Sx.Spec A
  | [.csl 5 xs] => some (some (lenOk (α := Int) xs), .int .i64 (numOf xs))
  | _ => none
def annNumber (xs : List Int) : Ann A := { G := Nat, inv := fun k => k ≤ xs.length, keep := [6, 7], slots := fun k => [(8, .int .i64 k), (3, .int .i64 (numAt xs k))], μ := fun k => xs.length - k }
def secsOf (n : Int) : Int := IntKind.i64.wrap (1 + IntKind.i64.wrap ((IntKind.i64.wrap (IntKind.i64.wrap (n + 64) - 1)).tdiv 64))
def spSectors : Sx.Spec A
  | [.int .i64 n] => some (none, .int .i64 (secsOf n))
  | _ => none
def headL (kind n : Int) (b : List Int) : List Int := ((layK (layK (layK zeroS.l 0 2 (b.length : Int) 2) 2 4 n 4) 6 4 (IntKind.i64.wrap (crc b)) 4).set 10 (IntKind.u8.wrap kind)).set 11 197
def headS (kind n : Int) (b : List Int) : Sec := Sec.of (headL kind n b)
def spHead : Sx.Spec A
  | [.int .i64 k, .int .i64 n, .csl 5 b] => some (some (lenOk (α := Int) b), .el 53 (headS k n b))
  | _ => none
/-! ### the log -/
structure Lg where
  d : Dk
  region : Int
  turn : Int
  next : Int
  recs : List (List Int)
  broken : Bool
def Lg.own (l : Lg) : List (Own A) := [.var [.optr 1 0, .int .i64 l.region, .int .i64 l.turn, .int .i64 l.next, .orow 2, .bool l.broken], .var [.orow 3, .orow 4, .int .i64 l.d.left, .int .i64 l.d.fail, .bool l.d.down, .int .i64 l.d.calls], .row 22 l.recs, .row 53 l.d.kept, .row 68 l.d.wait]
/-- The same, the row of writes that wait laid anew. -/
def Lg.own5 (l : Lg) : List (Own A) := [.var [.optr 1 0, .int .i64 l.region, .int .i64 l.turn, .int .i64 l.next, .orow 2, .bool l.broken], .var [.orow 3, .orow 5, .int .i64 l.d.left, .int .i64 l.d.fail, .bool l.d.down, .int .i64 l.d.calls], .row 22 l.recs, .row 53 l.d.kept, .dead, .row 68 l.d.wait]
/-- The same, the records laid anew, too. -/
def Lg.own6 (l : Lg) : List (Own A) := [.var [.optr 1 0, .int .i64 l.region, .int .i64 l.turn, .int .i64 l.next, .orow 6, .bool l.broken], .var [.orow 3, .orow 5, .int .i64 l.d.left, .int .i64 l.d.fail, .bool l.d.down, .int .i64 l.d.calls], .dead, .row 53 l.d.kept, .dead, .row 68 l.d.wait, .row 22 l.recs]
def lgH (f : List (SV A) → Lg → Option (Option Prop × SV A × List (Own A))) : HSpec A
  | .optr 0 0 :: xs, [.var [.optr 1 0, .int .i64 r, .int .i64 t, .int .i64 n, .orow 2, .bool br], .var [.orow 3, .orow 4, .int .i64 a, .int .i64 b, .bool dn, .int .i64 c], .row 22 rs, .row 53 ks, .row 68 ws] => f xs ⟨⟨ks, ws, a, b, dn, c⟩, r, t, n, rs, br⟩
  | _, _ => none
def lgL (f : List (SV A) → Lg → Option (Option Prop × SV A)) : LSpec A
  | .optr 0 0 :: xs, [.var [.optr 1 0, .int .i64 r, .int .i64 t, .int .i64 n, .orow 2, .bool br], .var [.orow 3, .orow 4, .int .i64 a, .int .i64 b, .bool dn, .int .i64 c], .row 22 rs, .row 53 ks, .row 68 ws] => f xs ⟨⟨ks, ws, a, b, dn, c⟩, r, t, n, rs, br⟩
  | _, _ => none
def halfOf (d : Dk) : Int := IntKind.i64.wrap ((d.kept.length : Int).tdiv 2)
def lHalf : LSpec A := lgL fun xs l => match xs with
  | [] => some (none, .int .i64 (halfOf l.d))
  | _ => none
def lRoom : LSpec A := lgL fun xs l => match xs with
  | [] => some (none, .int .i64 (IntKind.i64.wrap (halfOf l.d - l.next)))
  | _ => none
def lTurn : LSpec A := lgL fun xs l => match xs with
  | [] => some (none, .int .i64 l.turn)
  | _ => none
def lBroken : LSpec A := lgL fun xs l => match xs with
  | [] => some (none, .bool l.broken)
  | _ => none
def hFailL : HSpec A := lgH fun xs l => match xs with
  | [.int .i64 e] => some (none, .int .i64 e, { l with broken := l.broken || e != 0 }.own)
  | _ => none
/-- Where a sector of a region lies. -/
def posOf (d : Dk) (region at_ : Int) : Int := IntKind.i64.wrap (IntKind.i64.wrap (region * halfOf d) + at_)
/-- Zeros, sector by sector; then a flush: what comes of it, and what is told. -/
def clearGo (d : Dk) (r k : Int) : Nat → Dk × Int
  | 0 => (d.flush, flushE d)
  | m + 1 => if (writeE d (posOf d r k) != 0) = true then (d.write (posOf d r k) zeroS, writeE d (posOf d r k)) else clearGo (d.write (posOf d r k) zeroS) r (k + 1) m
def clearM (d : Dk) (r a : Int) : Dk × Int := clearGo d r a (halfOf d - a).toNat
def clearAt (d : Dk) (r a : Int) : Nat → Dk
  | 0 => d
  | k + 1 => (clearAt d r a k).write (posOf (clearAt d r a k) r (a + k)) zeroS
def Lg.ownsW (l : Lg) (d : Dk) : List (Nat × Own A) := [(64, .var [.optr 65 0, .int .i64 l.region, .int .i64 l.turn, .int .i64 l.next, .orow 66, .bool l.broken]), (65, .var [.orow 67, .orow 0, .int .i64 d.left, .int .i64 d.fail, .bool d.down, .int .i64 d.calls]), (66, .row 22 l.recs), (67, .row 53 d.kept), (0, .row 68 d.wait)]
def DkB (d : Dk) (m : Nat) : Prop := d.kept.length ≤ 512 ∧ d.wait.length ≤ m ∧ ∀ k, k < d.wait.length → 0 ≤ (getW d.wait k).at_ ∧ (getW d.wait k).at_ < d.kept.length
def logOk (l : Lg) (r a : Int) : Prop := DkB l.d 1000000 ∧ (0 ≤ r ∧ r ≤ 1) ∧ 0 ≤ a ∧ a ≤ halfOf l.d
def annClear (l : Lg) (r a : Int) : Ann A := { G := Nat, inv := fun k => a + k ≤ halfOf l.d ∧ clearM l.d r a = clearGo (clearAt l.d r a k) r (a + k) (halfOf l.d - (a + k)).toNat ∧ (clearAt l.d r a k).kept.length = l.d.kept.length ∧ DkB (clearAt l.d r a k) (1000000 + k), keep := [1], slots := fun k => [(0, .optr 64 0), (7, .int .i64 (a + k))], owns := fun k => l.ownsW (clearAt l.d r a k), μ := fun k => (halfOf l.d - (a + k)).toNat }
def hClear : HSpec A := lgH fun xs l => match xs with
  | [.int .i64 r, .int .i64 a] => some (some (logOk l r a), .int .i64 (clearM l.d r a).2, { l with d := (clearM l.d r a).1 }.own5)
  | _ => none
/-- A record's bytes, sector by sector, a flush, its head, a flush. -/
def chunkS (b : List Int) (k : Nat) : Sec := Sec.of ((b.drop (64 * k)).take 64 ++ List.replicate (64 - ((b.drop (64 * k)).take 64).length) 0)
def putEnd (d : Dk) (from_ kind id : Int) (b : List Int) : Dk × Int :=
  if (flushE d != 0) = true then (d.flush, flushE d) else if (writeE d.flush from_ != 0) = true then (d.flush.write from_ (headS kind id b), writeE d.flush from_)
  else ((d.flush.write from_ (headS kind id b)).flush, flushE (d.flush.write from_ (headS kind id b)))
def putGo (d : Dk) (from_ kind id : Int) (b : List Int) (k : Nat) : Nat → Dk × Int
  | 0 => putEnd d from_ kind id b
  | m + 1 => if (writeE d (IntKind.i64.wrap (from_ + (k + 1))) != 0) = true then (d.write (IntKind.i64.wrap (from_ + (k + 1))) (chunkS b k), writeE d (IntKind.i64.wrap (from_ + (k + 1))))
    else putGo (d.write (IntKind.i64.wrap (from_ + (k + 1))) (chunkS b k)) from_ kind id b (k + 1) m
def secsN (n : Nat) : Nat := (n + 63) / 64
def putM (d : Dk) (r a kind id : Int) (b : List Int) : Dk × Int := putGo d (posOf d r a) kind id b 0 (secsN b.length)
def putAt (d : Dk) (from_ : Int) (b : List Int) : Nat → Dk
  | 0 => d
  | k + 1 => (putAt d from_ b k).write (IntKind.i64.wrap (from_ + (k + 1))) (chunkS b k)
def putCan (l : Lg) (r a : Int) (b : List Int) : Prop := logOk l r a ∧ b.length ≤ 20000
def annPut (l : Lg) (r a : Int) (b : List Int) (kind id : Int) : Ann A := { G := Nat, inv := fun k => k ≤ secsN b.length ∧ putM l.d r a kind id b = putGo (putAt l.d (posOf l.d r a) b k) (posOf l.d r a) kind id b k (secsN b.length - k) ∧ DkB (putAt l.d (posOf l.d r a) b k) (1000000 + k), keep := [3, 4, 5, 13], slots := fun k => [(0, .optr 64 0), (14, .int .i64 (k + 1))], owns := fun k => l.ownsW (putAt l.d (posOf l.d r a) b k), μ := fun k => secsN b.length - k }
def hPut : HSpec A := lgH fun xs l => match xs with
  | [.int .i64 r, .int .i64 a, .int .i64 k, .int .i64 i, .csl 5 b] => some (some (putCan l r a b), .int .i64 (putM l.d r a k i b).2, { l with d := (putM l.d r a k i b).1 }.own5)
  | _ => none
/-- The row that begins at a sector of a region. -/
def blkAt (d : Dk) (pos : Int) : Nat → List Int
  | 0 => []
  | k + 1 => blkAt d pos k ++ (readS d (IntKind.i64.wrap (pos + (k + 1)))).l
def oneN (h : Sec) : Int := numOf (List.take 2 (List.drop 0 h.l))
def oneI (h : Sec) : Int := numOf (List.take 4 (List.drop 2 h.l))
def oneB (d : Dk) (pos n : Int) : List Int := (blkAt d pos (secsOf n - 1).toNat).take n.toNat
def oneM (d : Dk) (r a kind : Int) : Int × List Int × Bool :=
  if a ≥ halfOf d then (0, [], false) else
  if (readE d (posOf d r a) != 0 || decide (oneN (readS d (posOf d r a)) > 16384) || decide (IntKind.i64.wrap (a + secsOf (oneN (readS d (posOf d r a)))) > halfOf d)) = true then (0, [], false)
  else (oneI (readS d (posOf d r a)), oneB d (posOf d r a) (oneN (readS d (posOf d r a))), eqSec (readS d (posOf d r a)) (headS kind (oneI (readS d (posOf d r a))) (oneB d (posOf d r a) (oneN (readS d (posOf d r a))))))
def Lg.ownsV (l : Lg) : List (Nat × Own A) := [(64, .var [.optr 65 0, .int .i64 l.region, .int .i64 l.turn, .int .i64 l.next, .orow 66, .bool l.broken]), (65, .var [.orow 67, .orow 68, .int .i64 l.d.left, .int .i64 l.d.fail, .bool l.d.down, .int .i64 l.d.calls]), (66, .row 22 l.recs), (67, .row 53 l.d.kept), (68, .row 68 l.d.wait)]
def annOne (l : Lg) (r a : Int) : Ann A := { G := Nat, inv := fun k => (k : Int) ≤ secsOf (oneN (readS l.d (posOf l.d r a))) - 1, keep := [1, 2, 3, 11, 13, 14], keepO := [11], slots := fun k => [(0, .optr 64 0), (15, .orow 0), (16, .int .i64 (k + 1))], owns := fun k => l.ownsV ++ [(0, .row 5 (blkAt l.d (posOf l.d r a) k))], μ := fun k => (secsOf (oneN (readS l.d (posOf l.d r a))) - 1 - k).toNat }
/-- The bytes that stand on a disk. -/
def secOk (s : Sec) : Prop := ∀ x ∈ s.l, 0 ≤ x ∧ x < 256
def DkY (d : Dk) : Prop := (∀ s ∈ d.kept, secOk s) ∧ ∀ w ∈ d.wait, secOk w.data
def oneOk (l : Lg) (r a : Int) : Prop := DkB l.d 1000000 ∧ DkY l.d ∧ (0 ≤ r ∧ r ≤ 1) ∧ 0 ≤ a ∧ a ≤ 100000
def lOne : LSpec A := lgL fun xs l => match xs with
  | [.int .i64 r, .int .i64 a, .int .i64 k] => some (some (oneOk l r a), .tup [.int .i64 (oneM l.d r a k).1, .csl 5 (oneM l.d r a k).2.1, .bool (oneM l.d r a k).2.2])
  | _ => none
/-! ### finding, appending, beginning, opening -/
/-- The same, the records laid anew. -/
def Lg.own7 (l : Lg) : List (Own A) := [.var [.optr 1 0, .int .i64 l.region, .int .i64 l.turn, .int .i64 l.next, .orow 5, .bool l.broken], .var [.orow 3, .orow 4, .int .i64 l.d.left, .int .i64 l.d.fail, .bool l.d.down, .int .i64 l.d.calls], .dead, .row 53 l.d.kept, .row 68 l.d.wait, .row 22 l.recs]
def findR (d : Dk) : Nat → Int × Int
  | 0 => (0, 0)
  | k + 1 => if ((oneM d k 0 1).2.2 && ((oneM d k 0 1).2.1.length : Int) == 0 && decide ((oneM d k 0 1).1 > (findR d k).2)) = true then ((k : Int), (oneM d k 0 1).1) else findR d k
def fAt (d : Dk) (r : Int) : Nat → List (List Int) × Int
  | 0 => ([], 1)
  | k + 1 => ((fAt d r k).1 ++ [(oneM d r (fAt d r k).2 2).2.1], IntKind.i64.wrap ((fAt d r k).2 + secsOf ((oneM d r (fAt d r k).2 2).2.1.length : Int)))
def okAt (d : Dk) (r : Int) (k : Nat) : Bool := (oneM d r (fAt d r k).2 2).2.2 && (oneM d r (fAt d r k).2 2).1 == ((fAt d r k).1.length : Int)
def findGo (d : Dk) (r : Int) (k : Nat) : Nat → List (List Int) × Int
  | 0 => fAt d r k
  | m + 1 => if okAt d r k = true then findGo d r (k + 1) m else fAt d r k
def findP (d : Dk) : List (List Int) × Int := if (findR d 2).2 > 0 then findGo d (findR d 2).1 0 600 else ([], 1)
def findM (l : Lg) : Lg := { l with region := (findR l.d 2).1, turn := (findR l.d 2).2, next := (findP l.d).2, recs := (findP l.d).1 }
def findOk (l : Lg) : Prop := DkB l.d 1000000 ∧ DkY l.d ∧ l.region = 0 ∧ l.turn = 0 ∧ l.recs = []
def hFind : HSpec A := lgH fun xs l => match xs with
  | [] => some (some (findOk l), .bool (decide (((findP l.d).1.length : Int) > 0)), (findM l).own7)
  | _ => none
def Lg.ownsF (l : Lg) : List (Nat × Own A) := [(64, .var [.optr 65 0, .int .i64 l.region, .int .i64 l.turn, .int .i64 l.next, .orow 0, .bool l.broken]), (65, .var [.orow 67, .orow 68, .int .i64 l.d.left, .int .i64 l.d.fail, .bool l.d.down, .int .i64 l.d.calls]), (67, .row 53 l.d.kept), (68, .row 68 l.d.wait), (0, .row 22 l.recs)]
def annFind (l : Lg) : Ann A := { G := Nat, inv := fun k => k ≤ 2, slots := fun k => [(0, .optr 64 0), (10, .int .i64 k)], owns := fun k => { l with region := (findR l.d k).1, turn := (findR l.d k).2 }.ownsF, μ := fun k => 2 - k }
def annFind2 (l : Lg) : Ann A := { G := Nat, inv := fun k => (k = 0 ∨ (findR l.d 2).2 > 0) ∧ (1 ≤ (fAt l.d (findR l.d 2).1 k).2 ∧ (fAt l.d (findR l.d 2).1 k).2 ≤ 256 ∧ (k : Int) < (fAt l.d (findR l.d 2).1 k).2) ∧ (fAt l.d (findR l.d 2).1 k).1.length = k ∧ findGo l.d (findR l.d 2).1 0 600 = findGo l.d (findR l.d 2).1 k (600 - k), slots := fun k => [(0, .optr 64 0)], owns := fun k => { l with region := (findR l.d 2).1, turn := (findR l.d 2).2, next := (fAt l.d (findR l.d 2).1 k).2, recs := (fAt l.d (findR l.d 2).1 k).1 }.ownsF, μ := fun k => 600 - k }
def failM (l : Lg) (x : Dk × Int) : Lg × Int := ({ l with d := x.1, broken := l.broken || x.2 != 0 }, x.2)
def appendM (l : Lg) (b : List Int) : Lg × Int :=
  if l.broken = true then (l, 11) else if (b.length : Int) > 16384 then (l, 12) else if secsOf (b.length : Int) > IntKind.i64.wrap (halfOf l.d - l.next) then (l, 4) else
  if ((putM l.d l.region l.next 2 (l.recs.length : Int) b).2 != 0) = true then failM l (putM l.d l.region l.next 2 (l.recs.length : Int) b) else
  ({ l with d := (putM l.d l.region l.next 2 (l.recs.length : Int) b).1, next := IntKind.i64.wrap (l.next + secsOf (b.length : Int)), recs := l.recs ++ [b] }, 0)
def appOk (l : Lg) (b : List Int) : Prop := logOk l l.region l.next ∧ l.recs.length ≤ 1000000 ∧ b.length * 1 ≤ 140737488355328
def hAppend : HSpec A := lgH fun xs l => match xs with
  | [.csl 5 b] => some (some (appOk l b), .int .i64 (appendM l b).2, (appendM l b).1.own6)
  | _ => none
def begA (l : Lg) : Dk × Int := clearM l.d (IntKind.i64.wrap (1 - l.region)) 0
def begB (l : Lg) (b : List Int) : Dk × Int := putM (begA l).1 (IntKind.i64.wrap (1 - l.region)) 1 2 0 b
def begC (l : Lg) (b : List Int) : Dk × Int := putM (begB l b).1 (IntKind.i64.wrap (1 - l.region)) 0 1 (IntKind.i64.wrap (l.turn + 1)) []
def beginM (l : Lg) (b : List Int) : Lg × Int :=
  if l.broken = true then (l, 11) else if (b.length : Int) > 16384 then (l, 12) else if IntKind.i64.wrap (1 + secsOf (b.length : Int)) > halfOf l.d then (l, 4) else
  if ((begA l).2 != 0) = true then failM l (begA l) else if ((begB l b).2 != 0) = true then failM l (begB l b) else if ((begC l b).2 != 0) = true then failM l (begC l b) else
  (⟨(begC l b).1, IntKind.i64.wrap (1 - l.region), IntKind.i64.wrap (l.turn + 1), IntKind.i64.wrap (1 + secsOf (b.length : Int)), [b], l.broken⟩, 0)
def begOk (l : Lg) (b : List Int) : Prop := DkB l.d 900000 ∧ (0 ≤ l.region ∧ l.region ≤ 1) ∧ b.length * 1 ≤ 140737488355328
def hBegin : HSpec A := lgH fun xs l => match xs with
  | [.csl 5 b] => some (some (begOk l b), .int .i64 (beginM l b).2, (beginM l b).1.own6)
  | _ => none
def lRecords : LSpec A := lgL fun xs l => match xs with
  | [] => some (some (l.recs.length ≤ 1000000 ∧ ∀ b ∈ l.recs, b.length ≤ 1000000), .csl 22 l.recs)
  | _ => none
def annRecords (l : Lg) : Ann A := { G := Nat, inv := fun k => k ≤ l.recs.length, keep := [9, 10], keepO := [9], slots := fun k => [(3, .orow 0), (11, .int .i64 k)], owns := fun k => [(64, .var [.optr 65 0, .int .i64 l.region, .int .i64 l.turn, .int .i64 l.next, .orow 66, .bool l.broken]), (65, .var [.orow 67, .orow 68, .int .i64 l.d.left, .int .i64 l.d.fail, .bool l.d.down, .int .i64 l.d.calls]), (67, .row 53 l.d.kept), (68, .row 68 l.d.wait), (0, .row 22 (l.recs.take k))], μ := fun k => l.recs.length - k }
/-- Half of a log that was just laid. -/
def hHalf0 : HSpec A
  | [.optr 0 0], [.var [.optr 1 0, .int .i64 r, .int .i64 t, .int .i64 n, .nils, .bool br], .var [.orow 2, .orow 3, .int .i64 a, .int .i64 b, .bool dn, .int .i64 c], .row 53 ks, .row 68 ws] =>
    some (none, .int .i64 (halfOf ⟨ks, ws, a, b, dn, c⟩), [.var [.optr 1 0, .int .i64 r, .int .i64 t, .int .i64 n, .nils, .bool br], .var [.orow 2, .orow 3, .int .i64 a, .int .i64 b, .bool dn, .int .i64 c], .row 53 ks, .row 68 ws])
  | _, _ => none
def own0 (d : Dk) (r t n : Int) (br : Bool) : List (Own A) := [.var [.optr 1 0, .int .i64 r, .int .i64 t, .int .i64 n, .nils, .bool br], .var [.orow 2, .orow 3, .int .i64 d.left, .int .i64 d.fail, .bool d.down, .int .i64 d.calls], .row 53 d.kept, .row 68 d.wait]
def log0 (d : Dk) : Lg := ⟨d, 0, 0, 0, [], false⟩
/-- What opening comes to: the log, what is told. -/
def openM (d : Dk) : Lg × Int :=
  if halfOf d < 4 then (log0 d, 12) else if d.down = true then (log0 d, 9) else
  if ((findP d).1.length : Int) > 0 then ({ findM (log0 d) with d := (clearM d (findR d 2).1 (findP d).2).1 }, (clearM d (findR d 2).1 (findP d).2).2) else beginM (findM (log0 d)) []
def openOk (d : Dk) : Prop := DkB d 800000 ∧ DkY d
def openT (d : Dk) : List (Own A) := [.var [.orow 1, .orow 5, .int .i64 (openM d).1.d.left, .int .i64 (openM d).1.d.fail, .bool (openM d).1.d.down, .int .i64 (openM d).1.d.calls], .row 53 (openM d).1.d.kept, .dead, .var [.optr 0 0, .int .i64 (openM d).1.region, .int .i64 (openM d).1.turn, .int .i64 (openM d).1.next, .orow 4, .bool (openM d).1.broken], .row 22 (openM d).1.recs, .row 68 (openM d).1.d.wait]
def openF (d : Dk) : List (Own A) := [.var [.orow 1, .orow 3, .int .i64 (openM d).1.d.left, .int .i64 (openM d).1.d.fail, .bool (openM d).1.d.down, .int .i64 (openM d).1.d.calls], .row 53 (openM d).1.d.kept, .dead, .row 68 (openM d).1.d.wait]
def hOpen : FSpec A
  | [.optr 0 0], [.var [.orow 1, .orow 2, .int .i64 a, .int .i64 b, .bool dn, .int .i64 c], .row 53 ks, .row 68 ws] =>
    some (some (openOk ⟨ks, ws, a, b, dn, c⟩), (openM ⟨ks, ws, a, b, dn, c⟩).2 == 0, (.tup [.optr 3 0, .int .i64 0], openT ⟨ks, ws, a, b, dn, c⟩), (.tup [.nilp, .int .i64 (openM ⟨ks, ws, a, b, dn, c⟩).2], openF ⟨ks, ws, a, b, dn, c⟩))
  | _, _ => none
/-- Behind the fork of a disk that is too small: the log as a log that holds nothing. -/
def cutOpen (d : Dk) (_ : Nat) : Ann A := { G := Unit, inv := fun _ => ¬ halfOf d < 4, slots := fun _ => [(0, .optr 64 0), (4, .optr 0 0)], owns := fun _ => [(0, .var [.optr 64 0, .int .i64 0, .int .i64 0, .int .i64 0, .orow 1, .bool false]), (1, .row 22 []), (64, .var [.orow 65, .orow 66, .int .i64 d.left, .int .i64 d.fail, .bool d.down, .int .i64 d.calls]), (65, .row 53 d.kept), (66, .row 68 d.wait)], μ := fun _ => 0 }
/-! ### a slice that is nil stands for an empty one -/
def nilTo (T : Nat) (x : SV A) : SV A := match x with
  | .nils => .csl T []
  | x => x
def nilP (T : Nat) (sp : Sx.Spec A) : Sx.Spec A := fun xs => sp (xs.map (nilTo T))
def nilH (T : Nat) (sp : HSpec A) : HSpec A := fun xs os => sp (xs.map (nilTo T)) os
/-! ### tables -/
def tab0 : List (Nat × Con A) := []
def tab1 : List (Nat × Con A) := (42, .heap hCall) :: (9, .heap hOf) :: (36, .look lSize) :: (26, .look lWait) :: (30, .look lDown) :: (28, .look lCalls) :: (12, .heap hArm) :: (27, .heap hFail) :: (24, .look lRead) :: tab0
def tab2 : List (Nat × Con A) := (38, .heap hWrite) :: (39, .heap hFlush) :: (19, .heap hRestart) :: tab1
def tab3 : List (Nat × Con A) := (35, .pure spCheck) :: (43, .heap hLay) :: (41, .pure spNumber) :: (25, .pure spSectors) :: tab2
def tab4 : List (Nat × Con A) := (40, .pure (nilP 5 spHead)) :: (29, .look lHalf) :: (22, .look lTurn) :: (18, .look lBroken) :: (34, .heap hFailL) :: tab3
def tab5 : List (Nat × Con A) := (11, .look lRoom) :: (32, .heap hClear) :: (33, .heap (nilH 5 hPut)) :: (37, .look lOne) :: tab4
def tab6 : List (Nat × Con A) := (31, .heap hFind) :: (13, .heap hAppend) :: (16, .heap (nilH 5 hBegin)) :: (20, .look lRecords) :: tab5
def tabO : List (Nat × Con A) := (29, .heap hHalf0) :: tab6
def tab7 : List (Nat × Con A) := (10, .fork hOpen) :: tab6
def spAwakeW : Sx.Spec A
  | [] => some (none, .lit true)
  | _ => none
def tab8 : List (Nat × Con A) := (8, .pure spAwakeW) :: tab7
def spLSmall : Sx.Spec A
  | [.int .i64 _, .csl 5 b] => some (some (lenOk (α := Int) b), .bool true)
  | _ => none
end Go.Proofs.Ytgimkldaeobhnaa.Dsk
