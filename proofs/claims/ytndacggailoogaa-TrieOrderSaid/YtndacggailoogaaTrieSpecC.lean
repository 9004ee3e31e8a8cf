/- Tries: what is said of the loops of the laws that put and take many. -/
import Derived.Test.YtndacggailoogaaTrieSpecB
import Derived.Test.YtndacggailoogaaTrieHalf
namespace Go.Proofs.Ytndacggailoogaa.Tri
open Go Go.Proofs.Ytndacggailoogaa.Sx

def actOk (x : Act) : Prop := (0 ≤ x.op ∧ x.op < 256) ∧ (0 ≤ x.addr ∧ x.addr < 4294967296) ∧ 0 ≤ x.bits ∧ 0 ≤ x.any.base ∧ x.any.base < 4294967296
def actsOk (xs : List Act) : Prop := xs.length < 9223372036854775808 ∧ ∀ x ∈ xs, actOk x
def headA (xs : List Act) (m : Int) : List Act := List.drop 0 (List.take (mn (xs.length : Int) m).toNat xs)
/-- A trie, and the prefixes that are in it. -/
structure Tr where
  n : Int
  ns : List Nd
  all : List Blk
structure TrI (k : Nat) (g : Tr) : Prop where
  rel : Rel g.ns g.all
  num : g.n = (g.all.length : Int)
  le : g.all.length ≤ k
/-! TrieOrder -/
structure OrdI (xs : List Act) (k : Nat) (g h : Tr) : Prop where
  x : TrI k g
  y : TrI k h
  xm : ∀ e, e ∈ g.all ↔ V e ∧ ∃ a ∈ xs.take k, actB a = e
  ym : ∀ e, e ∈ h.all ↔ V e ∧ ∃ a ∈ xs.drop (xs.length - k), actB a = e
def annOrd (xs : List Act) : Ann A := { G := Nat × Tr × Tr, inv := fun g => g.1 ≤ (headA xs 60).length ∧ OrdI (headA xs 60) g.1 g.2.1 g.2.2, keep := [0, 3, 4, 21], slots := fun g => [(22, .int .i64 g.1)], owns := fun g => [(64 + 10368, .ar g.2.1.n g.2.1.ns), (64 + 10496, .ar g.2.2.n g.2.2.ns)], μ := fun g => (headA xs 60).length - g.1 }
def annSame : Ann A := { G := Nat, inv := fun k => k ≤ 1000000000000, keep := [6, 7, 61], keepO := [6, 7], slots := fun k => [(62, .int .i64 k)], μ := fun k => 1000000000000 - k }
def spLOrder : Sx.Spec A
  | [.csl 42 xs] => some (some (actsOk xs), .bool true)
  | _ => none
/-! TrieTake -/
def annTk (xs : List Act) : Ann A := { G := Nat × Tr, inv := fun g => g.1 ≤ (headA xs 60).length ∧ TrI g.1 g.2, keep := [3, 18, 19], slots := fun g => [(4, .orow 5), (20, .int .i64 g.1)], owns := fun g => [(64 + 13376, .ar g.2.n g.2.ns), (5, .row 26 g.2.all)], μ := fun g => (headA xs 60).length - g.1 }
structure DownI (k : Nat) (g : Tr) : Prop where
  rel : Rel g.ns (g.all.take (g.all.length - k))
  num : g.n = ((g.all.length - k : Nat) : Int)
  le : k ≤ g.all.length
  nd : g.all.Nodup
  b32 : ∀ e ∈ g.all, B32 e
  small : g.all.length ≤ 60
def annDown : Ann A := { G := Nat × Tr, inv := fun g => DownI g.1 g.2, keep := [3], slots := fun g => [(4, .orow 5), (36, .int .i64 g.2.all.length), (37, .int .i64 g.1)], owns := fun g => [(64 + 13376, .ar g.2.n g.2.ns), (5, .row 26 g.2.all)], μ := fun g => g.2.all.length - g.1 }
/-! TrieScript -/
/-- Where a prefix lies, as far as was looked. -/
def AtI (all : List Blk) (b : Blk) (j : Nat) (a : Int) : Prop := (a = -1 ∧ ∀ i, i < j → all.getD i zeroB ≠ b) ∨ ∃ i : Nat, i < j ∧ a = (i : Int) ∧ all.getD i zeroB = b
/-- The longest one that has an address, as far as was looked. -/
def BestI (all : List Blk) (v : Int) (j : Nat) (b : Blk) (is : Bool) : Prop := (is = false ∧ b = zeroB ∧ ∀ y ∈ all.take j, hasA y.base y.bits v = false) ∨ (is = true ∧ b ∈ all ∧ hasA b.base b.bits v = true ∧ ∀ y ∈ all.take j, hasA y.base y.bits v = true → y.bits ≤ b.bits)
def OverI (all : List Blk) (b : Blk) (j : Nat) (o : Bool) : Prop := o = true ↔ ∃ y ∈ all.take j, lapA y.base y.bits b.base b.bits = true
def addrA (x : Act) : Int := IntKind.u32.wrap (167772160 + x.addr.tmod 4096)
def annScript (xs : List Act) : Ann A := { G := Nat × Tr, inv := fun g => g.1 ≤ (headA xs 120).length ∧ TrI g.1 g.2, keep := [3, 33, 34], slots := fun g => [(4, .orow 5), (35, .int .i64 g.1)], owns := fun g => [(64 + 27392, .ar g.2.n g.2.ns), (5, .row 26 g.2.all)], μ := fun g => (headA xs 120).length - g.1 }
def actC (x : Act) : List (SV A) := [.int .u8 x.op, .int .u32 x.addr, .int .u8 x.bits, .bool x.raw, .int .u32 x.any.base, .int .i64 x.any.bits]
structure ScrI (xs : List Act) (k : Nat) (g : Tr) (x : Act) : Prop where
  lt : k < (headA xs 120).length
  ok : actOk x
def annAt (xs : List Act) (k : Nat) : Ann A := { G := (Tr × Act) × Nat × Int, inv := fun g => (TrI k g.1.1 ∧ ScrI xs k g.1.1 g.1.2) ∧ g.2.1 ≤ g.1.1.all.length ∧ AtI g.1.1.all (actB g.1.2) g.2.1 g.2.2, keep := [3, 33, 34, 35], slots := fun g => [(4, .orow 5), (6, .optr 0 0), (7, .optr 1 0), (8, .int .i64 g.2.2), (41, .orow 5), (42, .int .i64 g.1.1.all.length), (43, .int .i64 g.2.1)], owns := fun g => [(64 + 27392, .ar g.1.1.n g.1.1.ns), (5, .row 26 g.1.1.all), (0, .var (actC g.1.2)), (1, .var (actB g.1.2).cells)], μ := fun g => g.1.1.all.length - g.2.1 }
def cutDo (xs : List Act) (k : Nat) : Ann A := { G := Tr × Act, inv := fun g => TrI (k + 1) g.1 ∧ ScrI xs k g.1 g.2, keep := [3, 33, 34, 35], slots := fun _ => [(4, .orow 5), (6, .optr 0 0), (7, .optr 1 0)], owns := fun g => [(64 + 27392, .ar g.1.n g.1.ns), (5, .row 26 g.1.all), (0, .var (actC g.2)), (1, .var (actB g.2).cells)], μ := fun _ => 0 }
structure Look where
  best : Blk
  is : Bool
  over : Bool
def annLook (xs : List Act) (k : Nat) : Ann A := { G := (Tr × Act) × Nat × Look, inv := fun g => (TrI (k + 1) g.1.1 ∧ ScrI xs k g.1.1 g.1.2) ∧ g.2.1 ≤ g.1.1.all.length ∧ BestI g.1.1.all (addrA g.1.2) g.2.1 g.2.2.best g.2.2.is ∧ OverI g.1.1.all (actB g.1.2) g.2.1 g.2.2.over, keep := [3, 33, 34, 35], slots := fun g => [(4, .orow 5), (7, .optr 1 0), (14, .int .u32 (addrA g.1.2)), (15, .optr 2 0), (16, .bool g.2.2.is), (17, .bool g.2.2.over), (110, .orow 5), (111, .int .i64 g.1.1.all.length), (112, .int .i64 g.2.1)], owns := fun g => [(64 + 27392, .ar g.1.1.n g.1.1.ns), (5, .row 26 g.1.1.all), (1, .var (actB g.1.2).cells), (2, .var g.2.2.best.cells)], μ := fun g => g.1.1.all.length - g.2.1 }
def annAll : Ann A := { G := Nat, inv := fun k => k ≤ 1000000000000, keep := [3, 22, 174, 175], keepO := [3, 22], slots := fun k => [(176, .int .i64 k)], μ := fun k => 1000000000000 - k }
end Go.Proofs.Ytndacggailoogaa.Tri
