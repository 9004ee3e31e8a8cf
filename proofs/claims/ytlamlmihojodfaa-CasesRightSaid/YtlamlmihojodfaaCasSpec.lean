/- Cases (package cases) and their laws: what each function gives. -/
import Derived.Test.YtlamlmihojodfaaSxQ
import Derived.Test.YtlamlmihojodfaaProg
import Derived.KernelRfl
namespace Go.Proofs.Ytlamlmihojodfaa.Cas
open Go Go.Proofs.Ytlamlmihojodfaa.Sx

structure Cse where
  addr : Int
  raised : Int
  ended : Int
  stage : Int
structure Act where
  op : Int
  addr : Int
  n : Int
def zeroC : Cse := ⟨0, 0, 0, 0⟩
def zeroA : Act := ⟨0, 0, 0⟩
def Cse.cells {A : Nat → Type} (c : Cse) : List (SV A) := [.int .u32 c.addr, .int .i64 c.raised, .int .i64 c.ended, .int .i64 c.stage]
def A : Nat → Type
  | 30 => Cse
  | 46 => Act
  | 28 => Int
  | 24 => Int
  | 4 => Bool
  | _ => Unit
def enc : ∀ T, A T → List (SV A)
  | 30, (x : Cse) => [.int .u32 x.addr, .int .i64 x.raised, .int .i64 x.ended, .int .i64 x.stage]
  | 46, (x : Act) => [.int .u8 x.op, .int .u8 x.addr, .int .u8 x.n]
  | 28, (x : Int) => [.int .i64 x]
  | 24, (x : Int) => [.int .u32 x]
  | 4, (x : Bool) => [.bool x]
  | _, _ => []
def dec : ∀ T, List (SV A) → Option (A T)
  | 30, [.int .u32 a, .int .i64 b, .int .i64 c, .int .i64 d] => some (⟨a, b, c, d⟩ : Cse)
  | 46, [.int .u8 a, .int .u8 b, .int .u8 c] => some (⟨a, b, c⟩ : Act)
  | 28, [.int .i64 x] => some (x : Int)
  | 24, [.int .u32 x] => some (x : Int)
  | 4, [.bool x] => some (x : Bool)
  | 4, [.lit x] => some (x : Bool)
  | _, _ => none
def dflt : ∀ T, A T
  | 30 => zeroC
  | 46 => zeroA
  | 28 => (0 : Int)
  | 24 => (0 : Int)
  | 4 => false
  | _ => by unfold A; split <;> first | exact zeroC | exact zeroA | exact (0 : Int) | exact false | exact ()
def u : U A := { enc := enc, dec := dec, dflt := dflt }
def lenOk {α : Type} (xs : List α) : Prop := xs.length < 9223372036854775808

/-! ### time, choices, addresses -/
def clampT (n : Int) : Int := mx 0 (mn n 1099511627776)
def since (a b : Int) : Int := IntKind.i64.wrap (clampT a - clampT b)
def within (now t n : Int) : Bool := decide (since now t ≥ 0) && decide (since now t < n)
def spClamp : Sx.Spec A
  | [.int .i64 n] => some (none, .int .i64 (clampT n))
  | _ => none
def spSince : Sx.Spec A
  | [.int .i64 a, .int .i64 b] => some (none, .int .i64 (since a b))
  | _ => none
def spWithin : Sx.Spec A
  | [.int .i64 a, .int .i64 b, .int .i64 n] => some (none, .bool (within a b n))
  | _ => none
def cfg (c0 c1 c2 c3 c4 c5 c6 c7 c8 : Int) : List (SV A) := [.int .i64 c0, .int .i64 c1, .int .i64 c2, .int .i64 c3, .int .i64 c4, .int .i64 c5, .int .i64 c6, .int .i64 c7, .int .i64 c8]
def cho (c0 c1 c2 c3 c4 c5 c6 c7 c8 : Int) : List (SV A) := [.int .u8 c0, .int .u8 c1, .int .u8 c2, .int .u8 c3, .int .u8 c4, .int .u8 c5, .int .u8 c6, .int .u8 c7, .int .u8 c8]
def fz (b n : Int) : Int := IntKind.i64.wrap (n.tmod b)
def fc (b n : Int) : Int := IntKind.i64.wrap (1 + fz b n)
def spChoice : Sx.Spec A
  | [.agg [.int .u8 c0, .int .u8 c1, .int .u8 c2, .int .u8 c3, .int .u8 c4, .int .u8 c5, .int .u8 c6, .int .u8 c7, .int .u8 c8]] =>
    some (none, .agg (cfg (fc 30 c0) (IntKind.i64.wrap (fc 30 c0 + fz 60 c1)) (fc 6 c2) (fc 20 c3) (fc 9 c4) (fc 6 c5) (fz 4 c6) (fc 40 c7) (fz 50 c8)))
  | _ => none
def nearA (n : Int) : Int := IntKind.u32.wrap (167772160 + IntKind.u32.wrap (n.tmod 64))
def spNear : Sx.Spec A
  | [.int .u8 n] => some (none, .int .u32 (nearA n))
  | _ => none
/-! ### one case -/
def openS (n : Int) : Bool := n == 0 || n == 1
def openC (c : Cse) : Bool := openS c.stage
def spOpen : Sx.Spec A
  | [.agg [.int .u32 a, .int .i64 b, .int .i64 c, .int .i64 d]] => some (none, .bool (openC ⟨a, b, c, d⟩))
  | _ => none
def hitF (a : Int) (c : Cse) : Bool := c.addr == a && openC c
def spHitF : Sx.Spec A
  | [.agg [.int .u32 x, .int .i64 y, .int .i64 z, .int .i64 s], .cptr [.int .u32 a] 0] => some (none, .bool (hitF a ⟨x, y, z, s⟩))
  | _ => none
def hitQ (q now a : Int) (c : Cse) : Bool := (c.addr == a && c.stage == 2) && within now c.ended q
def spHitQ : Sx.Spec A
  | [.agg [.int .u32 x, .int .i64 y, .int .i64 z, .int .i64 s], .cptr [.int .u32 a] 0, .cptr [.int .i64 now] 0, .cptr [.int .i64 _, .int .i64 _, .int .i64 _, .int .i64 _, .int .i64 _, .int .i64 _, .int .i64 _, .int .i64 _, .int .i64 q] 0] => some (none, .bool (hitQ q now a ⟨x, y, z, s⟩))
  | _ => none
def quietL (q now : Int) (c : Cse) : Bool := (c.stage == 2 && decide (c.ended ≤ now)) && decide (IntKind.i64.wrap (now - c.ended) < q)
def spQuietL : Sx.Spec A
  | [.agg [.int .i64 _, .int .i64 _, .int .i64 _, .int .i64 _, .int .i64 _, .int .i64 _, .int .i64 _, .int .i64 _, .int .i64 q], .agg [.int .u32 x, .int .i64 y, .int .i64 z, .int .i64 s], .int .i64 now] => some (none, .bool (quietL q now ⟨x, y, z, s⟩))
  | _ => none
/-! ### finding, copying, taking out -/
def getC (cs : List Cse) (k : Nat) : Cse := cs.getD k zeroC
def sizeOk (cs : List Cse) : Prop := cs.length * 32 ≤ 140737488355328
def firstI (q : Cse → Bool) (xs : List Cse) : Int := if xs.any q = true then (xs.findIdx q : Int) else -1
def spIndex : Sx.Spec A
  | [.csl 30 xs, .fn 29 [.cptr [.int .u32 a] 0]] => some (some (lenOk xs), .int .i64 (firstI (hitF a) xs))
  | [.csl 30 xs, .fn 39 [.cptr [.int .u32 a] 0, .cptr [.int .i64 now] 0, .cptr [.int .i64 _, .int .i64 _, .int .i64 _, .int .i64 _, .int .i64 _, .int .i64 _, .int .i64 _, .int .i64 _, .int .i64 q] 0]] => some (some (lenOk xs), .int .i64 (firstI (hitQ q now a) xs))
  | _ => none
def annIndex (q : Cse → Bool) (xs : List Cse) : Ann A := { G := Nat, inv := fun k => k ≤ xs.length ∧ (xs.take k).any q = false, keep := [0, 1, 6, 7], keepO := [], slots := fun k => [(8, .int .i64 k)], μ := fun k => xs.length - k }
def spContains : Sx.Spec A
  | [.csl 30 xs, .fn 39 [.cptr [.int .u32 a] 0, .cptr [.int .i64 now] 0, .cptr [.int .i64 _, .int .i64 _, .int .i64 _, .int .i64 _, .int .i64 _, .int .i64 _, .int .i64 _, .int .i64 _, .int .i64 q] 0]] => some (some (lenOk xs), .bool (xs.any (hitQ q now a)))
  | _ => none
def hCloneN : HSpec A
  | [.nsl q 30 xs], [] => some (some ((q = true → xs = []) ∧ sizeOk xs), .orow 0, [.row 30 xs])
  | _, _ => none
def hClone : HSpec A
  | [.csl 30 xs], [] => some (some (sizeOk xs), .orow 0, [.row 30 xs])
  | _, _ => none
def cutAt (xs : List Cse) (i : Nat) : List Cse := xs.take i ++ xs.drop (i + 1)
def hDelete : HSpec A
  | [.orow 0, .int .i64 i, .int .i64 j], [.row 30 xs] => some (some (j = i + 1 ∧ 0 ≤ i ∧ i < xs.length ∧ xs.length ≤ 1000000), .osl 0 0 (xs.length - 1), [.row 30 (cutAt xs i.toNat ++ [zeroC])])
  | _, _ => none
def spFind : Sx.Spec A
  | [.csl 30 xs, .int .u32 a] => some (some (lenOk xs), .int .i64 (firstI (hitF a) xs))
  | _ => none
def spQuiet : Sx.Spec A
  | [.agg [.int .i64 _, .int .i64 _, .int .i64 _, .int .i64 _, .int .i64 _, .int .i64 _, .int .i64 _, .int .i64 _, .int .i64 q], .csl 30 xs, .int .u32 a, .int .i64 now] => some (some (lenOk xs), .bool (xs.any (hitQ q now a)))
  | _ => none
/-! ### which one is given up -/
def spareAt (q now : Int) (cs : List Cse) : Nat → Int
  | 0 => -1
  | k + 1 => if (openC (getC cs k) || ((getC cs k).stage == 2 && within now (getC cs k).ended q)) = true then spareAt q now cs k
    else if (decide (spareAt q now cs k < 0) || decide ((getC cs k).ended < (getC cs (spareAt q now cs k).toNat).ended)) = true then (k : Int) else spareAt q now cs k
def spareI (q now : Int) (cs : List Cse) : Int := spareAt q now cs cs.length
def annSpare (q now : Int) (cs : List Cse) : Ann A := { G := Nat, inv := fun k => k ≤ cs.length, keep := [1, 2, 3, 10, 11], keepO := [3], slots := fun k => [(12, .int .i64 k), (7, .int .i64 (spareAt q now cs k))], μ := fun k => cs.length - k }
def spSpare : Sx.Spec A
  | [.agg [.int .i64 _, .int .i64 _, .int .i64 _, .int .i64 _, .int .i64 _, .int .i64 _, .int .i64 _, .int .i64 _, .int .i64 q], .csl 30 xs, .int .i64 now] => some (some (lenOk xs), .int .i64 (spareI q now xs))
  | _ => none
/-! ### raising -/
def lenS (cs : List Cse) : Prop := cs.length ≤ 1000000
def raiseE (q : Int) (cs : List Cse) (a now : Int) : Int := if decide (firstI (hitF a) cs ≥ 0) = true then 6 else if cs.any (hitQ q now a) = true then 8
  else if decide ((cs.length : Int) ≥ 16) = true then (if decide (spareI q now cs < 0) = true then 4 else 0) else 0
def raiseN (q : Int) (cs : List Cse) (a now : Int) : List Cse := (if decide ((cs.length : Int) ≥ 16) = true then cutAt cs (spareI q now cs).toNat else cs) ++ [⟨a, clampT now, 0, 0⟩]
def raiseL (q : Int) (cs : List Cse) (a now : Int) : List Cse := if (raiseE q cs a now == 0) = true then raiseN q cs a now else []
def spRaise : Sx.Spec A
  | [.agg [.int .i64 _, .int .i64 _, .int .i64 _, .int .i64 _, .int .i64 _, .int .i64 _, .int .i64 _, .int .i64 _, .int .i64 q], .csl 30 xs, .int .u32 a, .int .i64 now] => some (some (lenS xs), .tup [.csl 30 (raiseL q xs a now), .int .i64 (raiseE q xs a now)])
  | _ => none
/-- The same contract, a row (the second argument) that is nil. -/
def nilNext (T : Nat) (sp : Sx.Spec A) : Sx.Spec A
  | .agg c :: .nils :: r => sp (.agg c :: .csl T [] :: r)
  | l => sp l
/-! ### going on -/
def movedC (c : Cse) (to now : Int) : Cse := if (!openS to) = true then ⟨c.addr, c.raised, clampT now, to⟩ else ⟨c.addr, c.raised, c.ended, to⟩
def nextE (cs : List Cse) (a fr : Int) : Int := if decide (firstI (hitF a) cs < 0) = true then 7 else if ((getC cs (firstI (hitF a) cs).toNat).stage != fr) = true then 8 else 0
def nextN (cs : List Cse) (a to now : Int) : List Cse := cs.set (firstI (hitF a) cs).toNat (movedC (getC cs (firstI (hitF a) cs).toNat) to now)
def nextL (cs : List Cse) (a fr to now : Int) : List Cse := if (nextE cs a fr == 0) = true then nextN cs a to now else []
def spNext : Sx.Spec A
  | [.csl 30 xs, .int .u32 a, .int .i64 fr, .int .i64 to, .int .i64 now] => some (some (lenS xs), .tup [.csl 30 (nextL xs a fr to now), .int .i64 (nextE xs a fr)])
  | _ => none
def spStep (fr to : Int) : Sx.Spec A
  | [.csl 30 xs, .int .u32 a, .int .i64 now] => some (some (lenS xs), .tup [.csl 30 (nextL xs a fr to now), .int .i64 (nextE xs a fr)])
  | _ => none
def cancelE (cs : List Cse) (a : Int) : Int := if decide (firstI (hitF a) cs < 0) = true then 7 else 0
def cancelL (cs : List Cse) (a now : Int) : List Cse := if decide (firstI (hitF a) cs < 0) = true then [] else nextN cs a 4 now
def spCancel : Sx.Spec A
  | [.csl 30 xs, .int .u32 a, .int .i64 now] => some (some (lenS xs), .tup [.csl 30 (cancelL xs a now), .int .i64 (cancelE xs a)])
  | _ => none
/-! ### a tick -/
def tickC (op now : Int) (c : Cse) : Cse := if (c.stage == 0 && decide (since now c.raised ≥ op)) = true then ⟨c.addr, c.raised, clampT now, 3⟩ else c
def tickAt (op now : Int) (cs : List Cse) (k : Nat) : List Cse := (cs.take k).map (tickC op now) ++ cs.drop k
def tickL (op now : Int) (cs : List Cse) : List Cse := tickAt op now cs cs.length
def annTick (op now : Int) (cs : List Cse) : Ann A := { G := Nat, inv := fun k => k ≤ cs.length, keep := [2, 3, 13], keepO := [3], slots := fun k => [(14, .int .i64 k), (7, .orow 0), (12, .orow 0)], owns := fun k => [(0, .row 30 (tickAt op now cs k))], μ := fun k => cs.length - k }
def spTick : Sx.Spec A
  | [.agg [.int .i64 _, .int .i64 _, .int .i64 _, .int .i64 _, .int .i64 _, .int .i64 _, .int .i64 _, .int .i64 op, .int .i64 _], .csl 30 xs, .int .i64 now] => some (some (lenS xs), .csl 30 (tickL op now xs))
  | _ => none
/-! ### right -/
def badK (cs : List Cse) (k : Nat) : Bool := ((((decide ((getC cs k).stage < 0) || decide ((getC cs k).stage > 5)) || (getC cs k).raised != clampT (getC cs k).raised) || (getC cs k).ended != clampT (getC cs k).ended)
  || (openC (getC cs k) && ((getC cs k).ended != 0 || firstI (hitF (getC cs k).addr) cs != (k : Int)))) || (!openC (getC cs k) && decide ((getC cs k).ended < (getC cs k).raised))
def okTo (cs : List Cse) : Nat → Bool
  | 0 => true
  | k + 1 => okTo cs k && !badK cs k
def rightB (cs : List Cse) : Bool := okTo cs cs.length && decide ((cs.length : Int) ≤ 16)
def spRight : Sx.Spec A
  | [.csl 30 xs] => some (some (lenOk xs), .bool (rightB xs))
  | _ => none
def annRight (cs : List Cse) : Ann A := { G := Nat, inv := fun k => k ≤ cs.length ∧ okTo cs k = true, keep := [0, 5, 6], slots := fun k => [(7, .int .i64 k)], μ := fun k => cs.length - k }
/-! ### deeds -/
def doE (q : Int) (cs : List Cse) (a : Act) (now : Int) : Int :=
  if (a.op.tmod 8 == 0) = true then raiseE q cs (nearA a.addr) now else if (a.op.tmod 8 == 1) = true then raiseE q cs (nearA a.addr) now
  else if (a.op.tmod 8 == 2) = true then nextE cs (nearA a.addr) 0 else if (a.op.tmod 8 == 3) = true then nextE cs (nearA a.addr) 0
  else if (a.op.tmod 8 == 4) = true then nextE cs (nearA a.addr) 1 else if (a.op.tmod 8 == 5) = true then cancelE cs (nearA a.addr) else 0
def doL (q : Int) (cs : List Cse) (a : Act) (now : Int) : List Cse :=
  if (a.op.tmod 8 == 0) = true then raiseL q cs (nearA a.addr) now else if (a.op.tmod 8 == 1) = true then raiseL q cs (nearA a.addr) now
  else if (a.op.tmod 8 == 2) = true then nextL cs (nearA a.addr) 0 1 now else if (a.op.tmod 8 == 3) = true then nextL cs (nearA a.addr) 0 2 now
  else if (a.op.tmod 8 == 4) = true then nextL cs (nearA a.addr) 1 5 now else if (a.op.tmod 8 == 5) = true then cancelL cs (nearA a.addr) now else cs
def spDo : Sx.Spec A
  | [.agg [.int .i64 _, .int .i64 _, .int .i64 _, .int .i64 _, .int .i64 _, .int .i64 _, .int .i64 _, .int .i64 _, .int .i64 q], .csl 30 xs, .agg [.int .u8 o, .int .u8 a, .int .u8 n], .int .i64 now] => some (some (lenS xs), .tup [.csl 30 (doL q xs ⟨o, a, n⟩ now), .int .i64 (doE q xs ⟨o, a, n⟩ now)])
  | _ => none
def getA (xs : List Act) (k : Nat) : Act := xs.getD k zeroA
def headS (xs : List Act) (n : Int) : List Act := (xs.take (mn (xs.length : Int) n).toNat).drop 0
def nowStep (now : Int) (a : Act) : Int := IntKind.i64.wrap (now + IntKind.i64.wrap (a.n.tmod 10))
def someStep (op q : Int) (r : List Cse × Int) (a : Act) : List Cse × Int :=
  if decide (a.op.tmod 8 > 5) = true then (tickL op (nowStep r.2 a) (if (doE q r.1 a r.2 == 0) = true then doL q r.1 a r.2 else r.1), nowStep r.2 a)
  else ((if (doE q r.1 a r.2 == 0) = true then doL q r.1 a r.2 else r.1), r.2)
def someAt (op q : Int) (xs : List Act) : Nat → List Cse × Int
  | 0 => ([], 0)
  | k + 1 => someStep op q (someAt op q xs k) (getA xs k)
def someL (op q : Int) (xs : List Act) : List Cse × Int := someAt op q (headS xs 80) (headS xs 80).length
def annSome (op q : Int) (xs : List Act) : Ann A := { G := Nat, inv := fun k => k ≤ xs.length, keep := [2, 16, 17], keepO := [2], slots := fun k => [(18, .int .i64 k), (6, .csl 30 (someAt op q xs k).1), (7, .int .i64 (someAt op q xs k).2)], μ := fun k => xs.length - k }
def spSome : Sx.Spec A
  | [.agg [.int .i64 _, .int .i64 _, .int .i64 _, .int .i64 _, .int .i64 _, .int .i64 _, .int .i64 _, .int .i64 op, .int .i64 q], .csl 46 xs] => some (some (lenOk xs), .tup [.csl 30 (someL op q xs).1, .int .i64 (someL op q xs).2])
  | _ => none
def spAwake : Sx.Spec A
  | [] => some (none, .bool true)
  | _ => none
/-! ### the law's own way -/
def atTo (x : Int) (cs : List Cse) : Nat → Int
  | 0 => -1
  | k + 1 => if (((getC cs k).addr == x && openC (getC cs k)) && decide (atTo x cs k < 0)) = true then (k : Int) else atTo x cs k
def stillTo (q now x : Int) (cs : List Cse) : Nat → Bool
  | 0 => false
  | k + 1 => stillTo q now x cs k || ((getC cs k).addr == x && quietL q now (getC cs k))
def goneTo (q now : Int) (cs : List Cse) : Nat → Int
  | 0 => -1
  | k + 1 => if ((!openC (getC cs k) && !quietL q now (getC cs k)) && (decide (goneTo q now cs k < 0) || decide ((getC cs k).ended < (getC cs (goneTo q now cs k).toNat).ended))) = true then (k : Int) else goneTo q now cs k
def annModel (q now x : Int) (cs : List Cse) : Ann A := { G := Nat, inv := fun k => k ≤ cs.length, keep := [1, 3, 4, 6, 10, 23, 24], keepO := [4, 6], slots := fun k => [(25, .int .i64 k), (11, .int .i64 (atTo x cs k)), (12, .bool (stillTo q now x cs k))], μ := fun k => cs.length - k }
def annModel2 (q now : Int) (cs : List Cse) : Ann A := { G := Nat, inv := fun k => k ≤ cs.length, keep := [3, 4, 10, 71], keepO := [4], slots := fun k => [(72, .int .i64 k), (17, .int .i64 (goneTo q now cs k)), (15, .orow 0), (70, .orow 0)], owns := fun _ => [(0, .row 30 cs)], μ := fun k => cs.length - k }
def atI (x : Int) (cs : List Cse) : Int := atTo x cs cs.length
def goneI (q now : Int) (cs : List Cse) : Int := goneTo q now cs cs.length
def stages : List Int := [0, 0, 1, 2, 5, 4]
def modE (q : Int) (cs : List Cse) (a : Act) (now : Int) : Int :=
  if decide (a.op.tmod 8 < 2) = true then
    if decide (atI (nearA a.addr) cs ≥ 0) = true then 6 else if stillTo q now (nearA a.addr) cs cs.length = true then 8
    else if decide ((cs.length : Int) ≥ 16) = true then (if decide (goneI q now cs < 0) = true then 4 else 0) else 0
  else if decide (atI (nearA a.addr) cs < 0) = true then 7
  else if ((decide (a.op.tmod 8 < 4) && (getC cs (atI (nearA a.addr) cs).toNat).stage != 0) || (a.op.tmod 8 == 4 && (getC cs (atI (nearA a.addr) cs).toNat).stage != 1)) = true then 8 else 0
def setC (c : Cse) (op now : Int) : Cse := if decide (op > 2) = true then ⟨c.addr, c.raised, now, stages.getD op.toNat 0⟩ else ⟨c.addr, c.raised, c.ended, stages.getD op.toNat 0⟩
def modN (q : Int) (cs : List Cse) (a : Act) (now : Int) : List Cse :=
  if decide (a.op.tmod 8 < 2) = true then (if decide ((cs.length : Int) ≥ 16) = true then cutAt cs (goneI q now cs).toNat else cs) ++ [⟨nearA a.addr, now, 0, 0⟩]
  else cs.set (atI (nearA a.addr) cs).toNat (setC (getC cs (atI (nearA a.addr) cs).toNat) (a.op.tmod 8) now)
def modL (q : Int) (cs : List Cse) (a : Act) (now : Int) : List Cse := if (modE q cs a now == 0) = true then modN q cs a now else []
def spModel : Sx.Spec A
  | [.agg [.int .i64 _, .int .i64 _, .int .i64 _, .int .i64 _, .int .i64 _, .int .i64 _, .int .i64 _, .int .i64 _, .int .i64 q], .csl 30 xs, .agg [.int .u8 o, .int .u8 a, .int .u8 n], .int .i64 now] => some (some (lenS xs ∧ 0 ≤ o ∧ o.tmod 8 < 6), .tup [.csl 30 (modL q xs ⟨o, a, n⟩ now), .int .i64 (modE q xs ⟨o, a, n⟩ now)])
  | _ => none
def same4 (p q : Cse) : Bool := p.addr == q.addr && (p.raised == q.raised && (p.ended == q.ended && (p.stage == q.stage && true)))
def sameTo (a b : List Cse) : Nat → Bool
  | 0 => true
  | k + 1 => sameTo a b k && same4 (getC a k) (getC b k)
def sameL (a b : List Cse) : Bool := (a.length : Int) == b.length && sameTo a b a.length
def spSame : Sx.Spec A
  | [.csl 30 a, .csl 30 b] => some (some (lenOk a ∧ lenOk b), .bool (sameL a b))
  | _ => none
def annSame (a b : List Cse) : Ann A := { G := Nat, inv := fun k => k ≤ a.length ∧ a.length = b.length ∧ sameTo a b k = true, keep := [0, 1, 11, 12], slots := fun k => [(13, .int .i64 k)], μ := fun k => a.length - k }
def tab0 : List (Nat × Con A) := []
def tab1 : List (Nat × Con A) := (34, .pure spClamp) :: (11, .pure spNear) :: (14, .pure spChoice) :: (24, .pure spOpen) :: (12, .pure spOpen) :: (37, .pure spQuietL) :: tab0
def tab2 : List (Nat × Con A) := (36, .pure spSince) :: (29, .pure spHitF) :: tab1
def tab3 : List (Nat × Con A) := (40, .pure spWithin) :: tab2
def tab4 : List (Nat × Con A) := (39, .pure spHitQ) :: tab3
def tab5 : List (Nat × Con A) := (28, .pure spIndex) :: tab4
def tab6 : List (Nat × Con A) := (38, .pure spContains) :: (31, .heap hClone) :: (33, .heap hDelete) :: (13, .pure spFind) :: tab5
def tab7 : List (Nat × Con A) := (30, .pure spQuiet) :: (32, .pure spSpare) :: (35, .pure spNext) :: (21, .pure spRight) :: (20, .pure spSame) :: tab6
def tab8 : List (Nat × Con A) := (15, .pure (nilNext 30 spRaise)) :: (26, .pure (spStep 0 1)) :: (16, .pure (spStep 0 2)) :: (25, .pure (spStep 1 5)) :: (27, .pure spCancel) :: (17, .pure spTick) :: tab7
def tab9 : List (Nat × Con A) := (18, .pure spDo) :: (19, .pure spModel) :: (10, .pure spAwake) :: tab8
def tab10 : List (Nat × Con A) := (22, .pure spSome) :: tab9
end Go.Proofs.Ytlamlmihojodfaa.Cas
