/- Tries (package trie) and their laws: what each function gives. -/
import Derived.Test.YtndacggailoogaaSxQ
import Derived.Test.YtndacggailoogaaProg
import Derived.KernelRfl
namespace Go.Proofs.Ytndacggailoogaa.Tri
open Go Go.Proofs.Ytndacggailoogaa.Sx

structure Blk where
  base : Int
  bits : Int
structure Act where
  op : Int
  addr : Int
  bits : Int
  raw : Bool
  any : Blk
def zeroB : Blk := ⟨0, 0⟩
def zeroA : Act := ⟨0, 0, 0, false, zeroB⟩
def Blk.cells {A : Nat → Type} (x : Blk) : List (SV A) := [.int .u32 x.base, .int .i64 x.bits]
def A : Nat → Type
  | 26 => Blk
  | 42 => Act
  | _ => Unit
def enc : ∀ T, A T → List (SV A)
  | 26, (x : Blk) => [.int .u32 x.base, .int .i64 x.bits]
  | 42, (x : Act) => [.int .u8 x.op, .int .u32 x.addr, .int .u8 x.bits, .bool x.raw, .int .u32 x.any.base, .int .i64 x.any.bits]
  | _, _ => []
def dec : ∀ T, List (SV A) → Option (A T)
  | 26, [.int .u32 n, .int .i64 b] => some (⟨n, b⟩ : Blk)
  | 42, [.int .u8 o, .int .u32 a, .int .u8 b, .bool r, .int .u32 n, .int .i64 m] => some (⟨o, a, b, r, ⟨n, m⟩⟩ : Act)
  | _, _ => none
def dflt : ∀ T, A T
  | 26 => zeroB
  | 42 => zeroA
  | _ => by unfold A; split <;> first | exact zeroB | exact zeroA | exact ()
def u : U A := { enc := enc, dec := dec, dflt := dflt }

/-! ### addresses, prefixes -/
def maskA (bits : Int) : Int := shl .u32 4294967295 (IntKind.i64.wrap (32 - bits))
def spMask : Sx.Spec A
  | [.int .i64 bits] => some (some (0 ≤ bits ∧ bits ≤ 32), .int .u32 (maskA bits))
  | _ => none
def rightA (base bits : Int) : Bool := (decide (bits ≥ 0) && decide (bits ≤ 32)) && bitsI .andNot .u32 base (maskA bits) == 0
def spRight : Sx.Spec A
  | [.agg [.int .u32 base, .int .i64 bits]] => some (none, .bool (rightA base bits))
  | _ => none
def hasA (base bits a : Int) : Bool := rightA base bits && bitsI .and .u32 a (maskA bits) == base
def spHasA : Sx.Spec A
  | [.agg [.int .u32 base, .int .i64 bits], .int .u32 a] => some (none, .bool (hasA base bits a))
  | _ => none
def sizeA (base bits : Int) : Int := if (!rightA base bits) = true then 0 else shl .i64 1 (IntKind.i64.wrap (32 - bits))
def spSize : Sx.Spec A
  | [.agg [.int .u32 base, .int .i64 bits]] => some (none, .int .i64 (sizeA base bits))
  | _ => none
def atA (base k : Int) : Int := IntKind.u32.wrap (base + IntKind.u32.wrap k)
def atB (base bits k : Int) : Bool := !(decide (k < 0) || decide (k ≥ sizeA base bits))
def spAt : Sx.Spec A
  | [.agg [.int .u32 base, .int .i64 bits], .int .i64 k] => some (none, .tup [.int .u32 (if atB base bits k = true then atA base k else 0), .bool (atB base bits k)])
  | _ => none
def halfB (base bits : Int) : Bool := !(!rightA base bits || bits == 32)
def halfN (bits : Int) : Int := IntKind.i64.wrap (bits + 1)
def highA (base bits : Int) : Int := bitsI .or .u32 base (shl .u32 1 (IntKind.i64.wrap (32 - halfN bits)))
def spHalves : Sx.Spec A
  | [.agg [.int .u32 base, .int .i64 bits]] => some (none, .tup [.agg [.int .u32 (if halfB base bits = true then base else 0), .int .i64 (if halfB base bits = true then halfN bits else 0)], .agg [.int .u32 (if halfB base bits = true then highA base bits else 0), .int .i64 (if halfB base bits = true then halfN bits else 0)], .bool (halfB base bits)])
  | _ => none
def withinA (x1 x2 y1 y2 : Int) : Bool := ((rightA x1 x2 && rightA y1 y2) && decide (x2 ≥ y2)) && hasA y1 y2 x1
def spWithin : Sx.Spec A
  | [.agg [.int .u32 x1, .int .i64 x2], .agg [.int .u32 y1, .int .i64 y2]] => some (none, .bool (withinA x1 x2 y1 y2))
  | _ => none
def lapA (x1 x2 y1 y2 : Int) : Bool := withinA x1 x2 y1 y2 || withinA y1 y2 x1 x2
def spLap : Sx.Spec A
  | [.agg [.int .u32 x1, .int .i64 x2], .agg [.int .u32 y1, .int .i64 y2]] => some (none, .bool (lapA x1 x2 y1 y2))
  | _ => none
def makeB (bits : Int) : Bool := !(decide (bits < 0) || decide (bits > 32))
def makeA (a bits : Int) : Int := bitsI .and .u32 a (maskA bits)
def spMake : Sx.Spec A
  | [.int .u32 a, .int .i64 bits] => some (none, .tup [.agg [.int .u32 (if makeB bits = true then makeA a bits else 0), .int .i64 (if makeB bits = true then bits else 0)], .bool (makeB bits)])
  | _ => none
def bitsL (n : Int) : Int := IntKind.i64.wrap (20 + IntKind.i64.wrap (n.tmod 13))
def baseL (a bits : Int) : Int := shl .u32 (shr .u32 a (IntKind.i64.wrap (32 - bits))) (IntKind.i64.wrap (32 - bits))
def spBlock : Sx.Spec A
  | [.int .u32 a, .int .u8 n] => some (some (0 ≤ n), .agg [.int .u32 (baseL a (bitsL n)), .int .i64 (bitsL n)])
  | _ => none
def aheadA (x1 x2 y1 y2 : Int) : Bool := decide (x1 < y1) || (x1 == y1 && decide (x2 < y2))
def spAhead : Sx.Spec A
  | [.agg [.int .u32 x1, .int .i64 x2], .agg [.int .u32 y1, .int .i64 y2]] => some (none, .bool (aheadA x1 x2 y1 y2))
  | _ => none
def actB (x : Act) : Blk := if x.raw = true then x.any else ⟨baseL (IntKind.u32.wrap (167772160 + x.addr.tmod 2048)) (bitsL x.bits), bitsL x.bits⟩
def spActB : Sx.Spec A
  | [.agg [.int .u8 o, .int .u32 a, .int .u8 b, .bool r, .int .u32 n, .int .i64 m]] => some (some (0 ≤ b), .agg (actB ⟨o, a, b, r, ⟨n, m⟩⟩).cells)
  | _ => none
def bitI (a k : Int) : Int := IntKind.i64.wrap (bitsI .and .u32 (shr .u32 a (IntKind.i64.wrap (31 - k))) 1)
def spBit : Sx.Spec A
  | [.int .u32 a, .int .i64 k] => some (some (0 ≤ k ∧ k ≤ 31), .int .i64 (bitI a k))
  | _ => none

/-! ### tries -/
def getN (ns : List Nd) (j : Nat) : Nd := ns.getD j nd0
/-- The way that bits of an address point out, from one of them on. -/
def pathA (base : Int) : Nat → Nat → List Nat
  | _, 0 => []
  | k, n + 1 => (bitI base k).toNat :: pathA base (k + 1) n
def pathB (base bits : Int) : List Nat := pathA base 0 bits.toNat
/-- The nodes on a way. -/
def walkN (ns : List Nd) (j : Nat) : List Nat → List Nat
  | [] => [j]
  | b :: p => match kidN (getN ns j) b with
    | some i => j :: walkN ns i p
    | none => [j]
/-- A way is made; where it ends. -/
def mkN (ns : List Nd) (j : Nat) : List Nat → List Nd × Nat
  | [] => (ns, j)
  | b :: p => match kidN (getN ns j) b with
    | some i => mkN ns i p
    | none => mkN ((ns ++ [nd0]).set j (setK (getN (ns ++ [nd0]) j) b (some ns.length))) ns.length p
def putE (ns : List Nd) (base bits : Int) : Int := if (!rightA base bits) = true then 12 else match mkN ns 0 (pathB base bits) with
  | (ns', j) => if (getN ns' j).is = true then 6 else 0
def putM (n : Int) (ns : List Nd) (base bits : Int) : Int × List Nd := if (!rightA base bits) = true then (n, ns) else match mkN ns 0 (pathB base bits) with
  | (ns', j) => if (getN ns' j).is = true then (n, ns') else (IntKind.i64.wrap (n + 1), ns'.set j (setIs (getN ns' j) true))
/-- Kids are there. -/
def WfN (ns : List Nd) : Prop := 1 ≤ ns.length ∧ ∀ j b i, kidN (getN ns j) b = some i → i < ns.length
def spPut : HSpec A := fun xs os => match xs, os with
  | [.np 0 (.nd (some 0)) 0, .agg [.int .u32 base, .int .i64 bits]], [.ar n ns] => some (some (WfN ns), .int .i64 (putE ns base bits), [.ar (putM n ns base bits).1 (putM n ns base bits).2])
  | _, _ => none
def spLen : LSpec A := fun xs os => match xs, os with
  | [.np 0 (.nd (some 0)) 0], [.ar n _] => some (none, .int .i64 n)
  | _, _ => none
def spWalk : HSpec A := fun xs os => match xs, os with
  | [.np 0 (.nd (some 0)) 0, .agg [.int .u32 base, .int .i64 bits]], [.ar n ns] => some (some (bits ≤ 32), .np 1 .row 0, [.ar n ns, .prow 0 (walkN ns 0 (pathB base bits))])
  | _, _ => none
def emptyN (x : Nd) : Bool := (!x.is && x.k0.isNone) && x.k1.isNone
def spEmpty : LSpec A := fun xs os => match xs, os with
  | [.np 0 (.nd (some j)) 0], [.ar _ ns] => some (none, .bool (emptyN (getN ns j)))
  | _, _ => none
def hasM (ns : List Nd) (base bits : Int) : Bool := rightA base bits && (((walkN ns 0 (pathB base bits)).length : Int) == IntKind.i64.wrap (bits + 1) && (getN ns ((walkN ns 0 (pathB base bits)).getD bits.toNat 0)).is)
def spHas : LSpec A := fun xs os => match xs, os with
  | [.np 0 (.nd (some 0)) 0, .agg [.int .u32 base, .int .i64 bits]], [.ar _ ns] => some (none, .bool (hasM ns base bits))
  | _, _ => none
/-- From the end of a way upwards nodes that are empty are let go of: k of its nodes are left. -/
def cutN (w p : List Nat) : Nat → List Nd → List Nd
  | 0, ns => ns
  | k + 1, ns => if emptyN (getN ns (w.getD (k + 1) 0)) = true then cutN w p k (ns.set (w.getD k 0) (setK (getN ns (w.getD k 0)) (p.getD k 0) none)) else ns
def takeE (ns : List Nd) (base bits : Int) : Int := if (!hasM ns base bits) = true then 7 else 0
def takeM (n : Int) (ns : List Nd) (base bits : Int) : Int × List Nd := if (!hasM ns base bits) = true then (n, ns) else match walkN ns 0 (pathB base bits) with
  | w => (IntKind.i64.wrap (n - 1), cutN w (pathB base bits) bits.toNat (ns.set (w.getD bits.toNat 0) (setIs (getN ns (w.getD bits.toNat 0)) false)))
def spTake : HSpec A := fun xs os => match xs, os with
  | [.np 0 (.nd (some 0)) 0, .agg [.int .u32 base, .int .i64 bits]], [.ar n ns] => some (none, .int .i64 (takeE ns base bits), [.ar (takeM n ns base bits).1 (takeM n ns base bits).2])
  | _, _ => none
/-- The last one of the nodes that is a prefix. -/
def lonN (ns : List Nd) (w : List Nat) : Nat → Int × Bool
  | 0 => (0, false)
  | k + 1 => if (getN ns (w.getD k 0)).is = true then (k, true) else lonN ns w k
def lonB (ns : List Nd) (a : Int) : Bool := match walkN ns 0 (pathB a 32) with
  | w => (lonN ns w w.length).2
def lonK (ns : List Nd) (a : Int) : Int := match walkN ns 0 (pathB a 32) with
  | w => (lonN ns w w.length).1
def lonM (ns : List Nd) (a : Int) : Blk := if lonB ns a = true then (if makeB (lonK ns a) = true then ⟨makeA a (lonK ns a), lonK ns a⟩ else zeroB) else zeroB
def spLongest : LSpec A := fun xs os => match xs, os with
  | [.np 0 (.nd (some 0)) 0, .int .u32 a], [.ar _ ns] => some (none, .tup [.agg (lonM ns a).cells, .bool (lonB ns a && makeB (lonK ns a))])
  | _, _ => none
def anyN (ns : List Nd) (w : List Nat) : Bool := w.any fun j => (getN ns j).is
def overM (ns : List Nd) (base bits : Int) : Bool := rightA base bits && (match walkN ns 0 (pathB base bits) with
  | w => anyN ns w || ((w.length : Int) == IntKind.i64.wrap (bits + 1) && !emptyN (getN ns (w.getD bits.toNat 0))))
def spOverlaps : LSpec A := fun xs os => match xs, os with
  | [.np 0 (.nd (some 0)) 0, .agg [.int .u32 base, .int .i64 bits]], [.ar _ ns] => some (none, .bool (overM ns base bits))
  | _, _ => none
/-! ### all of them -/
def allN (ns : List Nd) : Nat → Nat → Int → Int → List Blk
  | 0, _, _, _ => []
  | d + 1, j, base, bits => (if (getN ns j).is = true then [⟨base, bits⟩] else []) ++ (if (!halfB base bits) = true then [] else
      (match (getN ns j).k0 with
        | some i => allN ns d i base (halfN bits)
        | none => []) ++ (match (getN ns j).k1 with
        | some i => allN ns d i (highA base bits) (halfN bits)
        | none => []))
def appB (xs ys : List Blk) : List Blk := xs ++ ys
def lenB (xs : List Blk) : Nat := xs.length
def spVisit (d : Nat) : HSpec A := fun xs os => match xs, os with
  | [.np 0 (.nd z) 0, .agg [.int .u32 base, .int .i64 bits], .optr 1 0, .optr 2 0], [.ar n ns, .var [.orow 3], .var [.fn 29 [.optr 1 0, .optr 2 0]], .row 26 xs] =>
      some (some (z.isSome = true ∧ (32 - bits).toNat < d ∧ 0 ≤ bits ∧ lenB xs + lenB (allN ns d (z.getD 0) base bits) ≤ 1000000000000), .tup [], [.ar n ns, .var [.orow 4], .var [.fn 29 [.optr 1 0, .optr 2 0]], .dead, .row 26 (appB xs (allN ns d (z.getD 0) base bits))])
  | [.np 0 (.nd z) 0, .agg [.int .u32 base, .int .i64 bits], .optr 1 0, .optr 2 0], [.ar n ns, .var [.nils], .var [.fn 29 [.optr 1 0, .optr 2 0]]] =>
      some (some (z.isSome = true ∧ (32 - bits).toNat < d ∧ 0 ≤ bits ∧ lenB (allN ns d (z.getD 0) base bits) ≤ 1000000000000), .tup [], [.ar n ns, .var [.orow 3], .var [.fn 29 [.optr 1 0, .optr 2 0]], .row 26 (allN ns d (z.getD 0) base bits)])
  | _, _ => none
def allM (ns : List Nd) : List Blk := allN ns 33 0 0 0
def spAll : HSpec A := fun xs os => match xs, os with
  | [.np 0 (.nd (some 0)) 0], [.ar n ns] => some (some (lenB (allM ns) ≤ 1000000000000), .orow 1, [.ar n ns, .row 26 (allM ns)])
  | _, _ => none

/-! ### what is said of loops -/
def walkI (ns : List Nd) (base bits : Int) (k : Nat) (x : Option Nat) (w : List Nat) : Prop := (k : Int) ≤ max bits 0 ∧ (∀ j, x = some j → ∃ js, w = js ++ [j] ∧ walkN ns 0 (pathB base bits) = js ++ walkN ns j (pathA base k (bits.toNat - k))) ∧ (x = none → w = walkN ns 0 (pathB base bits))
def annWalk (n : Int) (ns : List Nd) (base bits : Int) : Ann A := { G := Nat × Option Nat × List Nat, inv := fun g => walkI ns base bits g.1 g.2.1 g.2.2, keep := [3], keepO := [3], slots := fun g => [(5, .np 64 (.nd g.2.1) 0), (6, .np 1 .row 0), (7, .int .i64 g.1)], owns := fun g => [(64, .ar n ns), (1, .prow 64 g.2.2)], μ := fun g => bits.toNat - g.1 }
/-- Put's rounds. -/
def putI (ns : List Nd) (base bits : Int) (k : Nat) (ns' : List Nd) (j : Nat) : Prop := (k : Int) ≤ bits ∧ mkN ns 0 (pathB base bits) = mkN ns' j (pathA base k (bits.toNat - k)) ∧ ns.length ≤ ns'.length ∧ j < ns'.length ∧ WfN ns'
def annPut (n : Int) (ns : List Nd) (base bits : Int) : Ann A := { G := Nat × List Nd × Nat, inv := fun g => putI ns base bits g.1 g.2.1 g.2.2, keep := [0, 3, 15], keepO := [3], slots := fun g => [(5, .np 64 (.nd (some g.2.2)) 0), (16, .int .i64 g.1)], owns := fun g => [(64, .ar n g.2.1)], μ := fun g => bits.toNat - g.1 }
def annLon (n : Int) (ns : List Nd) (a : Int) : Ann A := { G := Nat, inv := fun k => k ≤ (walkN ns 0 (pathB a 32)).length, keep := [1, 4, 13, 14], keepO := [0, 4, 13], slots := fun k => [(6, .int .i64 (lonN ns (walkN ns 0 (pathB a 32)) k).1), (7, .bool (lonN ns (walkN ns 0 (pathB a 32)) k).2), (15, .int .i64 k)], μ := fun k => (walkN ns 0 (pathB a 32)).length - k }
def annOver (ns : List Nd) (w : List Nat) : Ann A := { G := Nat, inv := fun k => k ≤ w.length ∧ ∀ i, i < k → (getN ns (w.getD i 0)).is = false, keep := [3, 5, 14, 15], keepO := [0, 3, 5], slots := fun k => [(16, .int .i64 k)], μ := fun k => w.length - k }
def annTake (n : Int) (ns1 : List Nd) (w p : List Nat) (bits : Int) : Ann A := { G := Nat × List Nd, inv := fun g => (g.1 : Int) ≤ bits ∧ cutN w p bits.toNat ns1 = cutN w p g.1 g.2 ∧ g.2.length = ns1.length, keep := [0, 3, 5], keepO := [3, 5], slots := fun g => [(6, .int .i64 g.1)], owns := fun g => [(64, .ar n g.2)], μ := fun g => g.1 }
def tab0 : List (Nat × Con A) := []
def tab1 : List (Nat × Con A) := (31, .pure spMask) :: (27, .pure spBit) :: (16, .look spLen) :: (9, .pure spBlock) :: (24, .pure spAhead) :: (26, .look spEmpty) :: tab0
def tab2 : List (Nat × Con A) := (23, .pure spRight) :: (30, .pure spMake) :: (14, .pure spActB) :: (25, .heap spWalk) :: tab1
def tab3 : List (Nat × Con A) := (21, .pure spHasA) :: (19, .pure spSize) :: (17, .pure spHalves) :: (11, .heap spPut) :: (13, .look spHas) :: (20, .look spLongest) :: (10, .look spOverlaps) :: tab2
def tab4 : List (Nat × Con A) := (18, .pure spAt) :: (28, .pure spWithin) :: (22, .heap spTake) :: tab3
def tab5 : List (Nat × Con A) := (12, .pure spLap) :: tab4
def tabV (d : Nat) : List (Nat × Con A) := (29, .heap (spVisit d)) :: tab3
def tab6 : List (Nat × Con A) := (15, .heap spAll) :: tab5
end Go.Proofs.Ytndacggailoogaa.Tri
