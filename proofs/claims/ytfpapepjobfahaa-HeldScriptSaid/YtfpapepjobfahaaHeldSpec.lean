/- Holders (package held) and their laws: what each function gives. -/
import Derived.Test.YtfpapepjobfahaaSxQ
import Derived.Test.YtfpapepjobfahaaProg
import Derived.KernelRfl
namespace Go.Proofs.Ytfpapepjobfahaa.Held
open Go Go.Proofs.Ytfpapepjobfahaa.Sx

structure Mac where
  m0 : Int
  m1 : Int
  m2 : Int
  m3 : Int
  m4 : Int
  m5 : Int
structure Holder where
  addr : Int
  owner : ByteArray
  mac : Mac
structure Act where
  take : Bool
  addr : Int
  owner : Int
  who : Int
  any : ByteArray
def zeroMac : Mac := ⟨0, 0, 0, 0, 0, 0⟩
def zeroH : Holder := ⟨0, ⟨#[]⟩, zeroMac⟩
def zeroA : Act := ⟨false, 0, 0, 0, ⟨#[]⟩⟩
def Holder.cells {A : Nat → Type} (x : Holder) : List (SV A) := [.int .u32 x.addr, .str x.owner, .int .u8 x.mac.m0, .int .u8 x.mac.m1, .int .u8 x.mac.m2, .int .u8 x.mac.m3, .int .u8 x.mac.m4, .int .u8 x.mac.m5]
def A : Nat → Type
  | 36 => Holder
  | 58 => Act
  | 30 => List Holder
  | _ => Unit
def enc : ∀ T, A T → List (SV A)
  | 36, (x : Holder) => [.int .u32 x.addr, .str x.owner, .int .u8 x.mac.m0, .int .u8 x.mac.m1, .int .u8 x.mac.m2, .int .u8 x.mac.m3, .int .u8 x.mac.m4, .int .u8 x.mac.m5]
  | 58, (x : Act) => [.bool x.take, .int .u8 x.addr, .int .u8 x.owner, .int .u8 x.who, .str x.any]
  | 30, (x : List Holder) => [.csl 36 x]
  | _, _ => []
def dec : ∀ T, List (SV A) → Option (A T)
  | 36, [.int .u32 n, .str s, .int .u8 a, .int .u8 b, .int .u8 c, .int .u8 d, .int .u8 e, .int .u8 f] => some (⟨n, s, ⟨a, b, c, d, e, f⟩⟩ : Holder)
  | 58, [.bool t, .int .u8 a, .int .u8 b, .int .u8 c, .str s] => some (⟨t, a, b, c, s⟩ : Act)
  | 30, [.csl 36 xs] => some (xs : List Holder)
  | 30, [.nils] => some ([] : List Holder)
  | 30, [.zsl] => some ([] : List Holder)
  | _, _ => none
def dflt : ∀ T, A T
  | 36 => zeroH
  | 58 => zeroA
  | 30 => ([] : List Holder)
  | _ => by unfold A; split <;> first | exact zeroH | exact zeroA | exact ([] : List Holder) | exact ()
def u : U A := { enc := enc, dec := dec, dflt := dflt }
def lenOk {α : Type} (xs : List α) : Prop := xs.length < 9223372036854775808

/-! ### stations, addresses, prefixes -/
def station (n : Int) : Mac := if decide (n ≥ 128) = true then zeroMac else ⟨2, 0, 0, 0, 0, IntKind.u8.wrap (1 + n.tmod 3)⟩
def Mac.cells {A : Nat → Type} (a : Mac) : List (SV A) := [.int .u8 a.m0, .int .u8 a.m1, .int .u8 a.m2, .int .u8 a.m3, .int .u8 a.m4, .int .u8 a.m5]
def spStation : Sx.Spec A
  | [.int .u8 n] => some (none, .agg (station n).cells)
  | _ => none
def nearA (n : Int) : Int := IntKind.u32.wrap (167772160 + IntKind.u32.wrap (n.tmod 64))
def spNear : Sx.Spec A
  | [.int .u8 n] => some (none, .int .u32 (nearA n))
  | _ => none
def maskA (bits : Int) : Int := shl .u32 4294967295 (IntKind.i64.wrap (32 - bits))
def spMask : Sx.Spec A
  | [.int .i64 bits] => some (some (0 ≤ bits ∧ bits ≤ 32), .int .u32 (maskA bits))
  | _ => none
def rightA (base bits : Int) : Bool := (decide (bits ≥ 0) && decide (bits ≤ 32)) && bitsI .andNot .u32 base (maskA bits) == 0
def spRightA : Sx.Spec A
  | [.agg [.int .u32 base, .int .i64 bits]] => some (none, .bool (rightA base bits))
  | _ => none
def hasA (base bits a : Int) : Bool := rightA base bits && bitsI .and .u32 a (maskA bits) == base
def spHas : Sx.Spec A
  | [.agg [.int .u32 base, .int .i64 bits], .int .u32 a] => some (none, .bool (hasA base bits a))
  | _ => none
def sizeA (base bits : Int) : Int := if (!rightA base bits) = true then 0 else shl .i64 1 (IntKind.i64.wrap (32 - bits))
def spSize : Sx.Spec A
  | [.agg [.int .u32 base, .int .i64 bits]] => some (none, .int .i64 (sizeA base bits))
  | _ => none
def atA (base k : Int) : Int := IntKind.u32.wrap (base + IntKind.u32.wrap k)
def atB (base bits k : Int) : Bool := !(decide (k < 0) || decide (k ≥ sizeA base bits))
def spAt : Sx.Spec A
  | [.agg [.int .u32 base, .int .i64 bits], .int .i64 k] => some (none, .tup [.int .u32 (if atB base bits k = true then atA base k else 0), .bool (atB base bits k)])
  | _ => none
def halfB (base bits : Int) : Bool := !(!rightA base bits || bits == 32)
def halfN (bits : Int) : Int := IntKind.i64.wrap (bits + 1)
def highA (base bits : Int) : Int := bitsI .or .u32 base (shl .u32 1 (IntKind.i64.wrap (32 - halfN bits)))
def spHalves : Sx.Spec A
  | [.agg [.int .u32 base, .int .i64 bits]] => some (none, .tup [.agg [.int .u32 (if halfB base bits = true then base else 0), .int .i64 (if halfB base bits = true then halfN bits else 0)], .agg [.int .u32 (if halfB base bits = true then highA base bits else 0), .int .i64 (if halfB base bits = true then halfN bits else 0)], .bool (halfB base bits)])
  | _ => none
/-! ### owners -/
def byteAt (s : ByteArray) (k : Nat) : Int := ((s.data.toList.getD k 0).toNat : Int)
def badC (c : Int) : Bool := (decide (c < 97) || decide (c > 122)) && (decide (c < 48) || decide (c > 57))
def mayTo (s : ByteArray) : Nat → Bool
  | 0 => true
  | k + 1 => mayTo s k && !badC (byteAt s k)
def mayB (s : ByteArray) : Bool := mayTo s s.size && (!(s.toList == (⟨#[]⟩ : ByteArray).toList) && decide ((s.size : Int) ≤ 8))
def strOk (s : ByteArray) : Prop := s.size < 9223372036854775808
def spMay : Sx.Spec A
  | [.str s] => some (some (strOk s), .bool (mayB s))
  | _ => none
def annMay (s : ByteArray) : Ann A := { G := Nat, inv := fun k => k ≤ s.size ∧ mayTo s k = true, keep := [0, 6], slots := fun k => [(7, .int .i64 k)], μ := fun k => s.size - k }
def okC (c : Int) : Bool := (decide (c ≥ 97) && decide (c ≤ 122)) || (decide (c ≥ 48) && decide (c ≤ 57))
def mayToL (s : ByteArray) : Nat → Bool
  | 0 => true
  | k + 1 => mayToL s k && okC (byteAt s k)
def mayL (s : ByteArray) : Bool := mayToL s s.size && (decide ((s.size : Int) > 0) && decide ((s.size : Int) < 9))
def spMayL : Sx.Spec A
  | [.str s] => some (some (strOk s), .bool (mayL s))
  | _ => none
def annMayL (s : ByteArray) : Ann A := { G := Nat, inv := fun k => k ≤ s.size ∧ mayToL s k = true, keep := [0], slots := fun k => [(3, .int .i64 k)], μ := fun k => s.size - k }
/-! ### finding -/
def getH (hs : List Holder) (k : Nat) : Holder := hs.getD k zeroH
def geH (a : Int) (x : Holder) : Bool := decide (x.addr ≥ a)
def sortedH (hs : List Holder) : Prop := ∀ i j, i < j → j < hs.length → (getH hs i).addr < (getH hs j).addr
def findOk (hs : List Holder) : Prop := hs.length ≤ 1000000 ∧ sortedH hs
def idxH (hs : List Holder) (a : Int) : Nat := hs.findIdx (geH a)
def hasH (hs : List Holder) (a : Int) : Bool := decide ((idxH hs a : Int) < hs.length) && (getH hs (idxH hs a)).addr == a
def spFind1 : Sx.Spec A
  | [.int .i64 k, .cptr [.csl 36 hs] 0, .cptr [.int .u32 a] 0] => some (some (0 ≤ k ∧ k < hs.length), .bool (geH a (getH hs k.toNat)))
  | _ => none
def spSearch : Sx.Spec A
  | [.int .i64 n, .fn 30 [.cptr [.csl 36 hs] 0, .cptr [.int .u32 a] 0]] => some (some (n = hs.length ∧ findOk hs), .int .i64 (idxH hs a))
  | _ => none
def annSearch (hs : List Holder) (a : Int) : Ann A := { G := Nat × Nat, inv := fun g => g.1 ≤ g.2 ∧ g.2 ≤ hs.length ∧ (∀ m, m < g.1 → geH a (getH hs m) = false) ∧ (∀ m, g.2 ≤ m → m < hs.length → geH a (getH hs m) = true), keep := [1], slots := fun g => [(5, .int .i64 g.1), (6, .int .i64 g.2)], μ := fun g => g.2 - g.1 }
def spFind : Sx.Spec A
  | [.csl 36 hs, .int .u32 a] => some (some (findOk hs), .tup [.int .i64 (idxH hs a), .bool (hasH hs a)])
  | _ => none
/-! ### Get, Put, Take -/
def getL (hs : List Holder) (a : Int) : Holder := if hasH hs a = true then getH hs (idxH hs a) else zeroH
def spGet : Sx.Spec A
  | [.csl 36 hs, .int .u32 a] => some (some (findOk hs), .tup [.agg (getL hs a).cells, .bool (hasH hs a)])
  | _ => none
def putE (hs : List Holder) (h : Holder) : Int := if (!mayB h.owner) = true then 12 else if hasH hs h.addr = true then 6 else if decide ((hs.length : Int) ≥ 48) = true then 4 else 0
def putNew (hs : List Holder) (h : Holder) : List Holder := hs.take (idxH hs h.addr) ++ [h] ++ hs.drop (idxH hs h.addr)
def putL (hs : List Holder) (h : Holder) : List Holder := if (putE hs h == 0) = true then putNew hs h else []
def spPut : Sx.Spec A
  | [.csl 36 hs, .agg [.int .u32 n, .str s, .int .u8 a, .int .u8 b, .int .u8 c, .int .u8 d, .int .u8 e, .int .u8 f]] => some (some (findOk hs ∧ strOk s), .tup [.csl 36 (putL hs ⟨n, s, ⟨a, b, c, d, e, f⟩⟩), .int .i64 (putE hs ⟨n, s, ⟨a, b, c, d, e, f⟩⟩)])
  | _ => none
def takeE (hs : List Holder) (a : Int) : Int := if (!hasH hs a) = true then 7 else 0
def takeL (hs : List Holder) (a : Int) : List Holder := if hasH hs a = true then hs.take (idxH hs a) ++ hs.drop (idxH hs a + 1) else []
def spTake : Sx.Spec A
  | [.csl 36 hs, .int .u32 a] => some (some (findOk hs), .tup [.csl 36 (takeL hs a), .int .i64 (takeE hs a)])
  | _ => none
/-! ### Used, Next, Right -/
def usedAt (base bits : Int) (hs : List Holder) : Nat → Nat
  | 0 => 0
  | k + 1 => usedAt base bits hs k + (if hasA base bits (getH hs k).addr = true then 1 else 0)
def usedL (base bits : Int) (hs : List Holder) : Int := (usedAt base bits hs hs.length : Int)
def annUsed (base bits : Int) (hs : List Holder) : Ann A := { G := Nat, inv := fun k => k ≤ hs.length, keep := [3, 8, 9], keepO := [3], slots := fun k => [(10, .int .i64 k), (5, .int .i64 (usedAt base bits hs k))], μ := fun k => hs.length - k }
def spUsed : Sx.Spec A
  | [.csl 36 hs, .agg [.int .u32 base, .int .i64 bits]] => some (some (lenOk hs), .int .i64 (usedL base bits hs))
  | _ => none
def nextGo (q : Nat → Bool) : Nat → Nat → Option Nat
  | _, 0 => none
  | s, m + 1 => if q s = true then some s else nextGo q (s + 1) m
def nextK (hs : List Holder) (base bits : Int) : Option Nat := nextGo (fun k => !hasH hs (atA base k)) 0 (sizeA base bits).toNat
def nextV (hs : List Holder) (base bits : Int) : Int := match nextK hs base bits with
  | some k => atA base k
  | none => 0
def nextB (hs : List Holder) (base bits : Int) : Bool := (nextK hs base bits).isSome
def annNext (hs : List Holder) (base bits : Int) : Ann A := { G := Nat, inv := fun k => (k : Int) ≤ sizeA base bits ∧ nextGo (fun k => !hasH hs (atA base k)) k ((sizeA base bits).toNat - k) = nextK hs base bits, keep := [0, 3, 12], keepO := [3], slots := fun k => [(13, .int .i64 k)], μ := fun k => (sizeA base bits - k).toNat }
def spNext : Sx.Spec A
  | [.csl 36 hs, .agg [.int .u32 base, .int .i64 bits]] => some (some (findOk hs), .tup [.int .u32 (nextV hs base bits), .bool (nextB hs base bits)])
  | _ => none
def badH (hs : List Holder) (k : Nat) : Bool := !mayB (getH hs k).owner || (decide ((k : Int) > 0) && decide ((getH hs (k - 1)).addr ≥ (getH hs k).addr))
def okTo (hs : List Holder) : Nat → Bool
  | 0 => true
  | k + 1 => okTo hs k && !badH hs k
def rightB (hs : List Holder) : Bool := okTo hs hs.length && decide ((hs.length : Int) ≤ 48)
def rowOk (hs : List Holder) : Prop := hs.length < 9223372036854775808 ∧ ∀ x ∈ hs, x.owner.size < 9223372036854775808
def spRight : Sx.Spec A
  | [.csl 36 hs] => some (some (rowOk hs), .bool (rightB hs))
  | _ => none
def annRight (hs : List Holder) : Ann A := { G := Nat, inv := fun k => k ≤ hs.length ∧ okTo hs k = true, keep := [0, 5, 6], slots := fun k => [(7, .int .i64 k)], μ := fun k => hs.length - k }
/-- The same contract, a row that is nil at first. -/
def nilFirst (T : Nat) (sp : Sx.Spec A) : Sx.Spec A
  | .nils :: r => sp (.csl T [] :: r)
  | l => sp l
def spAwake : Sx.Spec A
  | [] => some (none, .bool true)
  | _ => none
/-! ### deeds -/
def letters : ByteArray := ⟨#[97, 98, 99, 100, 101, 102, 103, 104]⟩
def ownerA (n : Int) : ByteArray := (⟨#[111]⟩ : ByteArray) ++ letters.extract (n.tmod 8).toNat (IntKind.u8.wrap (n.tmod 8 + 1)).toNat
def holderA (a : Act) : Holder := ⟨nearA a.addr, ownerA a.owner, station a.who⟩
def spHolder : Sx.Spec A
  | [.agg [.bool t, .int .u8 a, .int .u8 b, .int .u8 c, .str s]] => some (some (0 ≤ b), .agg (holderA ⟨t, a, b, c, s⟩).cells)
  | _ => none
def getA (xs : List Act) (k : Nat) : Act := xs.getD k zeroA
def headS (xs : List Act) (n : Int) : List Act := (xs.take (mn (xs.length : Int) n).toNat).drop 0
def someStep (r : List Holder) (a : Act) : List Holder := if (putE r (holderA a) == 0 && !a.take) = true then putL r (holderA a) else r
def someAt (xs : List Act) : Nat → List Holder
  | 0 => []
  | k + 1 => someStep (someAt xs k) (getA xs k)
def someL (xs : List Act) : List Holder := someAt (headS xs 60) (headS xs 60).length
def annSome (xs : List Act) : Ann A := { G := Nat, inv := fun k => k ≤ xs.length, keep := [12, 13], slots := fun k => [(14, .int .i64 k), (3, .csl 36 (someAt xs k))], μ := fun k => xs.length - k }
def actOk (a : Act) : Prop := 0 ≤ a.addr ∧ 0 ≤ a.owner
def nOk (xs : List Act) : Prop := ∀ a ∈ xs, actOk a
def actsOk (xs : List Act) : Prop := lenOk xs ∧ nOk xs
def spSome : Sx.Spec A
  | [.csl 58 xs] => some (some (actsOk xs), .csl 36 (someL xs))
  | _ => none
def tab0 : List (Nat × Con A) := []
def tab1 : List (Nat × Con A) := (13, .pure spNear) :: (28, .pure spStation) :: (30, .pure spFind1) :: (27, .pure spMask) :: (10, .pure spMay) :: (11, .pure spMayL) :: tab0
def tab2 : List (Nat × Con A) := (29, .pure spSearch) :: (16, .pure spRightA) :: (23, .pure spHolder) :: (20, .pure spRight) :: tab1
def tab3 : List (Nat × Con A) := (24, .pure spFind) :: (17, .pure spHas) :: (25, .pure spSize) :: (19, .pure spHalves) :: tab2
def tab4 : List (Nat × Con A) := (14, .pure spGet) :: (21, .pure (nilFirst 36 spPut)) :: (22, .pure spTake) :: (26, .pure spAt) :: (18, .pure spUsed) :: tab3
def tab5 : List (Nat × Con A) := (15, .pure spNext) :: tab4
def tab6 : List (Nat × Con A) := (9, .pure spAwake) :: (12, .pure spSome) :: tab5
end Go.Proofs.Ytfpapepjobfahaa.Held
