/- Sightings (package seen) and their laws: what each function gives. -/
import Derived.Test.YtcgeccpookgoeaaSxQ
import Derived.Test.YtcgeccpookgoeaaProg
import Derived.KernelRfl
namespace Go.Proofs.Ytcgeccpookgoeaa.Seen
open Go Go.Proofs.Ytcgeccpookgoeaa.Sx

structure Mac where
  m0 : Int
  m1 : Int
  m2 : Int
  m3 : Int
  m4 : Int
  m5 : Int
structure Sight where
  src : Int
  mac : Mac
  time : Int
structure Act where
  addr : Int
  src : Int
  who : Int
  later : Int
structure Known where
  addr : Int
  seen : List Sight
def zeroMac : Mac := ⟨0, 0, 0, 0, 0, 0⟩
def zeroS : Sight := ⟨0, zeroMac, 0⟩
def zeroA : Act := ⟨0, 0, 0, 0⟩
def zeroK : Known := ⟨0, []⟩
def Sight.cells {A : Nat → Type} (x : Sight) : List (SV A) := [.int .i64 x.src, .int .u8 x.mac.m0, .int .u8 x.mac.m1, .int .u8 x.mac.m2, .int .u8 x.mac.m3, .int .u8 x.mac.m4, .int .u8 x.mac.m5, .int .i64 x.time]
def Act.cells {A : Nat → Type} (x : Act) : List (SV A) := [.int .u8 x.addr, .int .u8 x.src, .int .u8 x.who, .int .u8 x.later]
def A : Nat → Type
  | 35 => Sight
  | 28 => Act
  | 53 => Known
  | 39 => List Sight
  | 37 => Int
  | _ => Unit
def enc : ∀ T, A T → List (SV A)
  | 35, (x : Sight) => [.int .i64 x.src, .int .u8 x.mac.m0, .int .u8 x.mac.m1, .int .u8 x.mac.m2, .int .u8 x.mac.m3, .int .u8 x.mac.m4, .int .u8 x.mac.m5, .int .i64 x.time]
  | 28, (x : Act) => [.int .u8 x.addr, .int .u8 x.src, .int .u8 x.who, .int .u8 x.later]
  | 53, (x : Known) => [.int .u32 x.addr, .csl 35 x.seen]
  | 39, (x : List Sight) => [.csl 35 x]
  | 37, (x : Int) => [.int .i8 x]
  | _, _ => []
def dec : ∀ T, List (SV A) → Option (A T)
  | 35, [.int .i64 s, .int .u8 a, .int .u8 b, .int .u8 c, .int .u8 d, .int .u8 e, .int .u8 f, .int .i64 t] => some (⟨s, ⟨a, b, c, d, e, f⟩, t⟩ : Sight)
  | 28, [.int .u8 a, .int .u8 b, .int .u8 c, .int .u8 d] => some (⟨a, b, c, d⟩ : Act)
  | 53, [.int .u32 a, .csl 35 s] => some (⟨a, s⟩ : Known)
  | 53, [.int .u32 a, .nils] => some (⟨a, []⟩ : Known)
  | 53, [.int .u32 a, .zsl] => some (⟨a, []⟩ : Known)
  | 39, [.csl 35 s] => some (s : List Sight)
  | 39, [.nils] => some ([] : List Sight)
  | 39, [.zsl] => some ([] : List Sight)
  | 37, [.int .i8 x] => some (x : Int)
  | _, _ => none
def dflt : ∀ T, A T
  | 35 => zeroS
  | 28 => zeroA
  | 53 => zeroK
  | 39 => ([] : List Sight)
  | 37 => (0 : Int)
  | _ => by unfold A; split <;> first | exact zeroS | exact zeroA | exact zeroK | exact ([] : List Sight) | exact (0 : Int) | exact ()
def u : U A := { enc := enc, dec := dec, dflt := dflt }
def lenOk {α : Type} (xs : List α) : Prop := xs.length < 9223372036854775808

/-! ### stations, addresses, acts -/
def station (n : Int) : Mac := if decide (n ≥ 128) = true then zeroMac else ⟨2, 0, 0, 0, 0, IntKind.u8.wrap (1 + n.tmod 3)⟩
def Mac.cells {A : Nat → Type} (a : Mac) : List (SV A) := [.int .u8 a.m0, .int .u8 a.m1, .int .u8 a.m2, .int .u8 a.m3, .int .u8 a.m4, .int .u8 a.m5]
def spStation : Sx.Spec A
  | [.int .u8 n] => some (none, .agg (station n).cells)
  | _ => none
def nearA (n : Int) : Int := IntKind.u32.wrap (167772160 + IntKind.u32.wrap (n.tmod 64))
def spNear : Sx.Spec A
  | [.int .u8 n] => some (none, .int .u32 (nearA n))
  | _ => none
def sightA (a : Act) (at_ : Int) : Sight := ⟨IntKind.i64.wrap (a.src.tmod 4), station a.who, at_⟩
def spSight : Sx.Spec A
  | [.agg [.int .u8 a, .int .u8 b, .int .u8 c, .int .u8 d], .int .i64 n] => some (none, .agg (sightA ⟨a, b, c, d⟩ n).cells)
  | _ => none
/-! ### finding -/
def getK (ks : List Known) (k : Nat) : Known := ks.getD k zeroK
def getS (xs : List Sight) (k : Nat) : Sight := xs.getD k zeroS
def geK (a : Int) (x : Known) : Bool := decide (x.addr ≥ a)
def sortedK (ks : List Known) : Prop := ∀ i j, i < j → j < ks.length → (getK ks i).addr < (getK ks j).addr
def findOk (ks : List Known) : Prop := ks.length < 4611686018427387904 ∧ sortedK ks
def idxK (ks : List Known) (a : Int) : Nat := ks.findIdx (geK a)
def hasK (ks : List Known) (a : Int) : Bool := decide ((idxK ks a : Int) < ks.length) && (getK ks (idxK ks a)).addr == a
def spFind1 : Sx.Spec A
  | [.int .i64 k, .cptr [.csl 53 ks] 0, .cptr [.int .u32 a] 0] => some (some (0 ≤ k ∧ k < ks.length), .bool (geK a (getK ks k.toNat)))
  | _ => none
def spSearch : Sx.Spec A
  | [.int .i64 n, .fn 25 [.cptr [.csl 53 ks] 0, .cptr [.int .u32 a] 0]] => some (some (n = ks.length ∧ findOk ks), .int .i64 (idxK ks a))
  | _ => none
def annSearch (ks : List Known) (a : Int) : Ann A := { G := Nat × Nat, inv := fun g => g.1 ≤ g.2 ∧ g.2 ≤ ks.length ∧ (∀ m, m < g.1 → geK a (getK ks m) = false) ∧ (∀ m, g.2 ≤ m → m < ks.length → geK a (getK ks m) = true), keep := [1], slots := fun g => [(5, .int .i64 g.1), (6, .int .i64 g.2)], μ := fun g => g.2 - g.1 }
def spFind : Sx.Spec A
  | [.csl 53 ks, .int .u32 a] => some (some (findOk ks), .tup [.int .i64 (idxK ks a), .bool (hasK ks a)])
  | _ => none
/-! ### what is known of one -/
def seenK (ks : List Known) (a : Int) : List Sight := if hasK ks a = true then (getK ks (idxK ks a)).seen else []
def lastT (ks : List Known) (a : Int) : Int := if decide ((seenK ks a).length > 0) = true then (getS (seenK ks a) ((seenK ks a).length - 1)).time else 0
def lastB (ks : List Known) (a : Int) : Bool := decide ((seenK ks a).length > 0)
/-- Rows of a size that fits. -/
def sizeOk (ks : List Known) : Prop := ks.length ≤ 1000 ∧ (∀ x ∈ ks, x.seen.length ≤ 1000) ∧ sortedK ks
def seenLen (ks : List Known) : Prop := findOk ks ∧ ∀ x ∈ ks, x.seen.length * 24 ≤ 140737488355328
def spLast : Sx.Spec A
  | [.csl 53 ks, .int .u32 a] => some (some (seenLen ks), .tup [.int .i64 (lastT ks a), .bool (lastB ks a)])
  | _ => none
def spOf : Sx.Spec A
  | [.csl 53 ks, .int .u32 a] => some (some (seenLen ks), .csl 35 (seenK ks a))
  | _ => none
def keepL (ss : List Sight) (s : Sight) : List Sight := (ss ++ [s]).drop (mx 0 (((ss ++ [s]).length : Int) - 8)).toNat
def spKeep : Sx.Spec A
  | [.csl 35 ss, .agg [.int .i64 s, .int .u8 a, .int .u8 b, .int .u8 c, .int .u8 d, .int .u8 e, .int .u8 f, .int .i64 t]] => some (some ((ss.length + 1) * 24 ≤ 140737488355328), .csl 35 (keepL ss ⟨s, ⟨a, b, c, d, e, f⟩, t⟩))
  | _ => none
/-! ### Put -/
def srcBad (s : Sight) : Bool := decide (s.src < 0) || decide (s.src ≥ 4)
def putE (ks : List Known) (a : Int) (s : Sight) : Int := if srcBad s = true then 12 else if decide (s.time < mx 0 (lastT ks a)) = true then 3 else if (!hasK ks a && decide ((ks.length : Int) ≥ 96)) = true then 4 else 0
def putNew (ks : List Known) (a : Int) (s : Sight) : List Known := if hasK ks a = true then ks.set (idxK ks a) ⟨(getK ks (idxK ks a)).addr, keepL (getK ks (idxK ks a)).seen s⟩ else ks.take (idxK ks a) ++ [⟨a, [s]⟩] ++ ks.drop (idxK ks a)
def putL (ks : List Known) (a : Int) (s : Sight) : List Known := if (putE ks a s == 0) = true then putNew ks a s else []
def spPut : Sx.Spec A
  | [.csl 53 ks, .int .u32 k, .agg [.int .i64 s, .int .u8 a, .int .u8 b, .int .u8 c, .int .u8 d, .int .u8 e, .int .u8 f, .int .i64 t]] => some (some (sizeOk ks), .tup [.csl 53 (putL ks k ⟨s, ⟨a, b, c, d, e, f⟩, t⟩), .int .i64 (putE ks k ⟨s, ⟨a, b, c, d, e, f⟩, t⟩)])
  | _ => none
/-! ### Right -/
def badK (ks : List Known) (k : Nat) : Bool := (((decide ((k : Int) > 0) && decide ((getK ks (k - 1)).addr ≥ (getK ks k).addr)) || ((getK ks k).seen.length : Int) == 0)) || decide (((getK ks k).seen.length : Int) > 8)
def badS (xs : List Sight) (j : Nat) : Bool := (((decide ((getS xs j).src < 0) || decide ((getS xs j).src ≥ 4)) || decide ((getS xs j).time < 0))) || (decide ((j : Int) > 0) && decide ((getS xs (j - 1)).time > (getS xs j).time))
def okS (xs : List Sight) : Nat → Bool
  | 0 => true
  | j + 1 => okS xs j && !badS xs j
def okTo (ks : List Known) : Nat → Bool
  | 0 => true
  | k + 1 => okTo ks k && (!badK ks k && okS (getK ks k).seen (getK ks k).seen.length)
def rightB (ks : List Known) : Bool := okTo ks ks.length && decide ((ks.length : Int) ≤ 96)
def rowOk (ks : List Known) : Prop := ks.length < 9223372036854775808 ∧ ∀ x ∈ ks, x.seen.length < 9223372036854775808
def spRight : Sx.Spec A
  | [.csl 53 ks] => some (some (rowOk ks), .bool (rightB ks))
  | _ => none
def annRight (ks : List Known) : Ann A := { G := Nat, inv := fun k => k ≤ ks.length ∧ okTo ks k = true, keep := [0, 7, 8], slots := fun k => [(9, .int .i64 k)], μ := fun k => ks.length - k }
def annRight2 (ks : List Known) (k : Nat) : Ann A := { G := Nat, inv := fun j => j ≤ (getK ks k).seen.length ∧ okS (getK ks k).seen j = true, keep := [0, 7, 8, 9, 4, 40, 41], keepO := [4], slots := fun j => [(42, .int .i64 j)], μ := fun j => (getK ks k).seen.length - j }
/-! ### the law's own way -/
def badSL (xs : List Sight) (last : Int) (j : Nat) : Bool := (decide ((getS xs j).src < 0) || decide ((getS xs j).src > 3)) || decide ((getS xs j).time < last)
def lastL (xs : List Sight) : Nat → Int
  | 0 => 0
  | j + 1 => (getS xs j).time
def badKL (ks : List Known) (k : Nat) : Bool := (((decide ((k : Int) > 0) && decide ((getK ks (k - 1)).addr ≥ (getK ks k).addr)) || decide (((getK ks k).seen.length : Int) < 1))) || decide (((getK ks k).seen.length : Int) > 8)
def okSL (xs : List Sight) : Nat → Bool
  | 0 => true
  | j + 1 => okSL xs j && !badSL xs (lastL xs j) j
def okToL (ks : List Known) : Nat → Bool
  | 0 => true
  | k + 1 => okToL ks k && (!badKL ks k && okSL (getK ks k).seen (getK ks k).seen.length)
def rightL (ks : List Known) : Bool := if decide ((ks.length : Int) > 96) = true then false else okToL ks ks.length
def spRightL : Sx.Spec A
  | [.csl 53 ks] => some (some (rowOk ks), .bool (rightL ks))
  | _ => none
def annRightL (ks : List Known) : Ann A := { G := Nat, inv := fun k => k ≤ ks.length ∧ okToL ks k = true, keep := [0, 11, 12], slots := fun k => [(13, .int .i64 k)], μ := fun k => ks.length - k }
def annRightL2 (ks : List Known) (k : Nat) : Ann A := { G := Nat, inv := fun j => j ≤ (getK ks k).seen.length ∧ okSL (getK ks k).seen j = true, keep := [0, 11, 12, 13, 4, 44, 45], keepO := [4], slots := fun j => [(46, .int .i64 j), (5, .int .i64 (lastL (getK ks k).seen j))], μ := fun j => (getK ks k).seen.length - j }
/-! ### the same -/
def same8 (a b : Sight) : Bool := a.src == b.src && ((a.mac.m0 == b.mac.m0 && (a.mac.m1 == b.mac.m1 && (a.mac.m2 == b.mac.m2 && (a.mac.m3 == b.mac.m3 && (a.mac.m4 == b.mac.m4 && (a.mac.m5 == b.mac.m5 && true)))))) && (a.time == b.time && true))
def sameTo (a b : List Sight) : Nat → Bool
  | 0 => true
  | k + 1 => sameTo a b k && same8 (getS a k) (getS b k)
def sameL (a b : List Sight) : Bool := (a.length : Int) == b.length && sameTo a b a.length
def spSame : Sx.Spec A
  | [.csl 35 a, .csl 35 b] => some (some (lenOk a ∧ lenOk b), .bool (sameL a b))
  | _ => none
def annSame (a b : List Sight) : Ann A := { G := Nat, inv := fun k => k ≤ a.length ∧ a.length = b.length ∧ sameTo a b k = true, keep := [0, 1, 11, 12], slots := fun k => [(13, .int .i64 k)], μ := fun k => a.length - k }
/-- The same contract, a row that is nil at first. -/
def nilFirst (T : Nat) (sp : Sx.Spec A) : Sx.Spec A
  | .nils :: r => sp (.csl T [] :: r)
  | l => sp l
def spAwake : Sx.Spec A
  | [] => some (none, .bool true)
  | _ => none
/-! ### deeds -/
def getA (xs : List Act) (k : Nat) : Act := xs.getD k zeroA
def headS (xs : List Act) (n : Int) : List Act := (xs.take (mn (xs.length : Int) n).toNat).drop 0
def nowStep (now : Int) (a : Act) : Int := IntKind.i64.wrap (now + IntKind.i64.wrap (a.later.tmod 8))
def someStep (r : List Known × Int) (a : Act) : List Known × Int :=
  ((if (putE r.1 (nearA a.addr) (sightA a (nowStep r.2 a)) == 0) = true then putL r.1 (nearA a.addr) (sightA a (nowStep r.2 a)) else r.1), nowStep r.2 a)
def someAt (xs : List Act) : Nat → List Known × Int
  | 0 => ([], 0)
  | k + 1 => someStep (someAt xs k) (getA xs k)
def someL (xs : List Act) : List Known × Int := someAt (headS xs 120) (headS xs 120).length
def annSome (xs : List Act) : Ann A := { G := Nat, inv := fun k => k ≤ xs.length, keep := [14, 15], slots := fun k => [(16, .int .i64 k), (4, .csl 53 (someAt xs k).1), (5, .int .i64 (someAt xs k).2)], μ := fun k => xs.length - k }
def actOk (a : Act) : Prop := 0 ≤ a.addr ∧ 0 ≤ a.src ∧ 0 ≤ a.later
def nOk (xs : List Act) : Prop := ∀ a ∈ xs, actOk a
def actsOk (xs : List Act) : Prop := lenOk xs ∧ nOk xs
def spSome : Sx.Spec A
  | [.csl 28 xs] => some (some (actsOk xs), .tup [.csl 53 (someL xs).1, .int .i64 (someL xs).2])
  | _ => none
def tab0 : List (Nat × Con A) := []
def tab1 : List (Nat × Con A) := (19, .pure spNear) :: (22, .pure spStation) :: (25, .pure spFind1) :: tab0
def tab2 : List (Nat × Con A) := (10, .pure spSight) :: (24, .pure spSearch) :: tab1
def tab3 : List (Nat × Con A) := (23, .pure spFind) :: (16, .pure spKeep) :: tab2
def tab4 : List (Nat × Con A) := (12, .pure spLast) :: (14, .pure spOf) :: (15, .pure spRight) :: (18, .pure spRightL) :: (13, .pure spSame) :: tab3
def tab5 : List (Nat × Con A) := (11, .pure (nilFirst 53 spPut)) :: tab4
def tab6 : List (Nat × Con A) := (9, .pure spAwake) :: (17, .pure spSome) :: tab5
end Go.Proofs.Ytcgeccpookgoeaa.Seen
