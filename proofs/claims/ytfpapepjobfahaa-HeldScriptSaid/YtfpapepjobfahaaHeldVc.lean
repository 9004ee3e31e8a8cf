/- Holders: what the package's bodies come to (printed by wip/Vc.lean; checked by the kernel in the next text). -/
import Derived.Test.YtfpapepjobfahaaHeldSpec
namespace Go.Proofs.Ytfpapepjobfahaa.Held
open Go Go.Proofs.Ytfpapepjobfahaa.Sx

def vcNear : Int → Prop :=
  fun (n : Int) => (64 : Int) ≠ (0 : Int) ∧ IntKind.u32.wrap ((167772160 : Int) + IntKind.u32.wrap (n.tmod (64 : Int))) = nearA n

def vcStation : Int → Prop :=
  fun (n : Int) =>
  (decide (n ≥ (128 : Int)) = true → (0 : Int) = (station n).m0 ∧ (0 : Int) = (station n).m1 ∧ (0 : Int) = (station n).m2 ∧ (0 : Int) = (station n).m3 ∧ (0 : Int) = (station n).m4 ∧ (0 : Int) = (station n).m5) ∧
    (decide (n ≥ (128 : Int)) = false →
      (3 : Int) ≠ (0 : Int) ∧
        (2 : Int) = (station n).m0 ∧ (0 : Int) = (station n).m1 ∧ (0 : Int) = (station n).m2 ∧ (0 : Int) = (station n).m3 ∧ (0 : Int) = (station n).m4 ∧ IntKind.u8.wrap ((1 : Int) + n.tmod (3 : Int)) = (station n).m5)

def vcFind1 : Int → List Holder → Int → Prop :=
  fun (k : Int) (hs : List Holder) (a : Int) => ((0 : Int) ≤ k ∧ k < (↑hs.length : Int)) ∧ decide ((hs.getD k.toNat (u.dflt (36 : Nat))).addr ≥ a) = geH a (getH hs k.toNat)

def vcMask : Int → Prop :=
  fun (bits : Int) => (0 : Int) ≤ IntKind.i64.wrap ((32 : Int) - bits) ∧ shl IntKind.u32 (4294967295 : Int) (IntKind.i64.wrap ((32 : Int) - bits)) = maskA bits

def vcMay : ByteArray → Prop :=
  fun (s : ByteArray) =>
  (∃ (g : Nat), (g ≤ s.size ∧ mayTo s g = true) ∧ s = s ∧ (↑s.size : Int) = (↑s.size : Int) ∧ (0 : Int) = (↑g : Int)) ∧
    ∀ (g : Nat),
      g ≤ s.size ∧ mayTo s g = true →
        (decide ((↑g : Int) < (↑s.size : Int)) = true →
            ((0 : Int) ≤ (↑g : Int) ∧ (↑g : Int) < (↑s.size : Int)) ∧
              ∀ (v : Bool),
                v =
                    ((decide ((↑(s.data.toList.getD (↑g : Int).toNat (0 : UInt8)).toNat : Int) < (97 : Int)) || decide ((↑(s.data.toList.getD (↑g : Int).toNat (0 : UInt8)).toNat : Int) > (122 : Int))) &&
                      (decide ((↑(s.data.toList.getD (↑g : Int).toNat (0 : UInt8)).toNat : Int) < (48 : Int)) || decide ((↑(s.data.toList.getD (↑g : Int).toNat (0 : UInt8)).toNat : Int) > (57 : Int)))) →
                  (v = true → false = mayB s) ∧
                    (v = false →
                      ∃ (g_1 : Nat), (g_1 ≤ s.size ∧ mayTo s g_1 = true) ∧ (annMay s).μ g_1 < (annMay s).μ g ∧ s = s ∧ (↑s.size : Int) = (↑s.size : Int) ∧ IntKind.i64.wrap ((↑g : Int) + (1 : Int)) = (↑g_1 : Int))) ∧
          (decide ((↑g : Int) < (↑s.size : Int)) = false → (!s.toList == { data := #[] : ByteArray }.toList && decide ((↑s.size : Int) ≤ (8 : Int))) = mayB s)

def vcMayL : ByteArray → Prop :=
  fun (s : ByteArray) =>
  (∃ (g : Nat), (g ≤ s.size ∧ mayToL s g = true) ∧ s = s ∧ (0 : Int) = (↑g : Int)) ∧
    ∀ (g : Nat),
      g ≤ s.size ∧ mayToL s g = true →
        (decide ((↑g : Int) < (↑s.size : Int)) = true →
            ((0 : Int) ≤ (↑g : Int) ∧ (↑g : Int) < (↑s.size : Int)) ∧
              (decide ((↑(s.data.toList.getD (↑g : Int).toNat (0 : UInt8)).toNat : Int) ≥ (97 : Int)) = true → (0 : Int) ≤ (↑g : Int) ∧ (↑g : Int) < (↑s.size : Int)) ∧
                ((decide ((↑(s.data.toList.getD (↑g : Int).toNat (0 : UInt8)).toNat : Int) ≥ (97 : Int)) && decide ((↑(s.data.toList.getD (↑g : Int).toNat (0 : UInt8)).toNat : Int) ≤ (122 : Int))) = false →
                    (0 : Int) ≤ (↑g : Int) ∧ (↑g : Int) < (↑s.size : Int)) ∧
                  ((decide ((↑(s.data.toList.getD (↑g : Int).toNat (0 : UInt8)).toNat : Int) ≥ (97 : Int)) && decide ((↑(s.data.toList.getD (↑g : Int).toNat (0 : UInt8)).toNat : Int) ≤ (122 : Int))) = false →
                      decide ((↑(s.data.toList.getD (↑g : Int).toNat (0 : UInt8)).toNat : Int) ≥ (48 : Int)) = true → (0 : Int) ≤ (↑g : Int) ∧ (↑g : Int) < (↑s.size : Int)) ∧
                    ∀ (v : Bool),
                      v =
                          (decide ((↑(s.data.toList.getD (↑g : Int).toNat (0 : UInt8)).toNat : Int) ≥ (97 : Int)) && decide ((↑(s.data.toList.getD (↑g : Int).toNat (0 : UInt8)).toNat : Int) ≤ (122 : Int)) ||
                            decide ((↑(s.data.toList.getD (↑g : Int).toNat (0 : UInt8)).toNat : Int) ≥ (48 : Int)) && decide ((↑(s.data.toList.getD (↑g : Int).toNat (0 : UInt8)).toNat : Int) ≤ (57 : Int))) →
                        ((!v) = true → false = mayL s) ∧
                          ((!v) = false → ∃ (g_1 : Nat), (g_1 ≤ s.size ∧ mayToL s g_1 = true) ∧ (annMayL s).μ g_1 < (annMayL s).μ g ∧ s = s ∧ IntKind.i64.wrap ((↑g : Int) + (1 : Int)) = (↑g_1 : Int))) ∧
          (decide ((↑g : Int) < (↑s.size : Int)) = false → (decide ((↑s.size : Int) > (0 : Int)) && decide ((↑s.size : Int) < (9 : Int))) = mayL s)

def vcSearch : Int → List Holder → Int → Prop :=
  fun (n : Int) (hs : List Holder) (a : Int) =>
  (∃ (g : Nat × Nat),
      (g.fst ≤ g.snd ∧ g.snd ≤ hs.length ∧ (∀ (m : Nat), m < g.fst → geH a (getH hs m) = false) ∧ ∀ (m : Nat), g.snd ≤ m → m < hs.length → geH a (getH hs m) = true) ∧
        ((30 : Nat) = (30 : Nat) ∧ ((0 : Nat) = (0 : Nat) ∧ hs = hs) ∧ (0 : Nat) = (0 : Nat) ∧ a = a) ∧ (0 : Int) = (↑g.fst : Int) ∧ n = (↑g.snd : Int)) ∧
    ∀ (g : Nat × Nat),
      (g.fst ≤ g.snd ∧ g.snd ≤ hs.length ∧ (∀ (m : Nat), m < g.fst → geH a (getH hs m) = false) ∧ ∀ (m : Nat), g.snd ≤ m → m < hs.length → geH a (getH hs m) = true) →
        (decide ((↑g.fst : Int) < (↑g.snd : Int)) = true →
            (0 : Int) ≤ (1 : Int) ∧
              ((0 : Int) ≤ IntKind.i64.wrap (shr IntKind.u64 (IntKind.u64.wrap (IntKind.i64.wrap ((↑g.fst : Int) + (↑g.snd : Int)))) (1 : Int)) ∧
                  IntKind.i64.wrap (shr IntKind.u64 (IntKind.u64.wrap (IntKind.i64.wrap ((↑g.fst : Int) + (↑g.snd : Int)))) (1 : Int)) < (↑hs.length : Int)) ∧
                ((!geH a (getH hs (IntKind.i64.wrap (shr IntKind.u64 (IntKind.u64.wrap (IntKind.i64.wrap ((↑g.fst : Int) + (↑g.snd : Int)))) (1 : Int))).toNat)) = true → True) ∧
                  ((!geH a (getH hs (IntKind.i64.wrap (shr IntKind.u64 (IntKind.u64.wrap (IntKind.i64.wrap ((↑g.fst : Int) + (↑g.snd : Int)))) (1 : Int))).toNat)) = false → True) ∧
                    ∀ (v : Int),
                      (v =
                          if (!geH a (getH hs (IntKind.i64.wrap (shr IntKind.u64 (IntKind.u64.wrap (IntKind.i64.wrap ((↑g.fst : Int) + (↑g.snd : Int)))) (1 : Int))).toNat)) = true then
                            IntKind.i64.wrap (IntKind.i64.wrap (shr IntKind.u64 (IntKind.u64.wrap (IntKind.i64.wrap ((↑g.fst : Int) + (↑g.snd : Int)))) (1 : Int)) + (1 : Int))
                          else (↑g.fst : Int)) →
                        ∀ (v_1 : Int),
                          (v_1 =
                              if (!geH a (getH hs (IntKind.i64.wrap (shr IntKind.u64 (IntKind.u64.wrap (IntKind.i64.wrap ((↑g.fst : Int) + (↑g.snd : Int)))) (1 : Int))).toNat)) = true then (↑g.snd : Int)
                              else IntKind.i64.wrap (shr IntKind.u64 (IntKind.u64.wrap (IntKind.i64.wrap ((↑g.fst : Int) + (↑g.snd : Int)))) (1 : Int))) →
                            ∃ (g_1 : Nat × Nat),
                              (g_1.fst ≤ g_1.snd ∧ g_1.snd ≤ hs.length ∧ (∀ (m : Nat), m < g_1.fst → geH a (getH hs m) = false) ∧ ∀ (m : Nat), g_1.snd ≤ m → m < hs.length → geH a (getH hs m) = true) ∧
                                (annSearch hs a).μ g_1 < (annSearch hs a).μ g ∧
                                  ((30 : Nat) = (30 : Nat) ∧ ((0 : Nat) = (0 : Nat) ∧ hs = hs) ∧ (0 : Nat) = (0 : Nat) ∧ a = a) ∧ v = (↑g_1.fst : Int) ∧ v_1 = (↑g_1.snd : Int)) ∧
          (decide ((↑g.fst : Int) < (↑g.snd : Int)) = false → (↑g.fst : Int) = (↑(idxH hs a) : Int))

def vcRightA : Int → Int → Prop :=
  fun (base bits : Int) =>
  ((decide (bits ≥ (0 : Int)) && decide (bits ≤ (32 : Int))) = true → (0 : Int) ≤ bits ∧ bits ≤ (32 : Int)) ∧
    (decide (bits ≥ (0 : Int)) && decide (bits ≤ (32 : Int)) && bitsI BinOp.andNot IntKind.u32 base (maskA bits) == (0 : Int)) = rightA base bits

def vcHolder : Bool → Int → Int → Int → ByteArray → Prop :=
  fun (t : Bool) (a b c : Int) (s : ByteArray) =>
  (8 : Int) ≠ (0 : Int) ∧
    (8 : Int) ≠ (0 : Int) ∧
      ((0 : Int) ≤ b.tmod (8 : Int) ∧ b.tmod (8 : Int) ≤ IntKind.u8.wrap (b.tmod (8 : Int) + (1 : Int)) ∧ IntKind.u8.wrap (b.tmod (8 : Int) + (1 : Int)) ≤ (8 : Int)) ∧
        (1 : Nat) +
              ({ data := #[(97 : UInt8), (98 : UInt8), (99 : UInt8), (100 : UInt8), (101 : UInt8), (102 : UInt8), (103 : UInt8), (104 : UInt8)] : ByteArray }.extract (b.tmod (8 : Int)).toNat
                  (IntKind.u8.wrap (b.tmod (8 : Int) + (1 : Int))).toNat).size ≤
            (4611686018427387904 : Nat) ∧
          nearA a = (holderA { take := t, addr := a, owner := b, who := c, any := s : Act }).addr ∧
            { data := #[(111 : UInt8)] : ByteArray } ++
                  { data := #[(97 : UInt8), (98 : UInt8), (99 : UInt8), (100 : UInt8), (101 : UInt8), (102 : UInt8), (103 : UInt8), (104 : UInt8)] : ByteArray }.extract (b.tmod (8 : Int)).toNat
                    (IntKind.u8.wrap (b.tmod (8 : Int) + (1 : Int))).toNat =
                (holderA { take := t, addr := a, owner := b, who := c, any := s : Act }).owner ∧
              (station c).m0 = (holderA { take := t, addr := a, owner := b, who := c, any := s : Act }).mac.m0 ∧
                (station c).m1 = (holderA { take := t, addr := a, owner := b, who := c, any := s : Act }).mac.m1 ∧
                  (station c).m2 = (holderA { take := t, addr := a, owner := b, who := c, any := s : Act }).mac.m2 ∧
                    (station c).m3 = (holderA { take := t, addr := a, owner := b, who := c, any := s : Act }).mac.m3 ∧
                      (station c).m4 = (holderA { take := t, addr := a, owner := b, who := c, any := s : Act }).mac.m4 ∧ (station c).m5 = (holderA { take := t, addr := a, owner := b, who := c, any := s : Act }).mac.m5

def vcRight : List Holder → Prop :=
  fun (hs : List Holder) =>
  (∃ (g : Nat), (g ≤ hs.length ∧ okTo hs g = true) ∧ hs = hs ∧ hs = hs ∧ (↑hs.length : Int) = (↑hs.length : Int) ∧ (0 : Int) = (↑g : Int)) ∧
    ∀ (g : Nat),
      g ≤ hs.length ∧ okTo hs g = true →
        (decide ((↑g : Int) < (↑hs.length : Int)) = true →
            ((0 : Int) ≤ (↑g : Int) ∧ (↑g : Int) < (↑hs.length : Int)) ∧
              (hs.getD (↑g : Int).toNat (u.dflt (36 : Nat))).owner.size.succ.le (9223372036854775808 : Nat) ∧
                ((!mayB (hs.getD (↑g : Int).toNat (u.dflt (36 : Nat))).owner) = false →
                    decide ((↑g : Int) > (0 : Int)) = true → (0 : Int) ≤ IntKind.i64.wrap ((↑g : Int) - (1 : Int)) ∧ IntKind.i64.wrap ((↑g : Int) - (1 : Int)) < (↑hs.length : Int)) ∧
                  ∀ (v : Bool),
                    v =
                        (!mayB (hs.getD (↑g : Int).toNat (u.dflt (36 : Nat))).owner ||
                          decide ((↑g : Int) > (0 : Int)) && decide ((hs.getD (IntKind.i64.wrap ((↑g : Int) - (1 : Int))).toNat (u.dflt (36 : Nat))).addr ≥ (hs.getD (↑g : Int).toNat (u.dflt (36 : Nat))).addr)) →
                      (v = true → false = rightB hs) ∧
                        (v = false →
                          ∃ (g_1 : Nat),
                            (g_1 ≤ hs.length ∧ okTo hs g_1 = true) ∧
                              (annRight hs).μ g_1 < (annRight hs).μ g ∧ hs = hs ∧ hs = hs ∧ (↑hs.length : Int) = (↑hs.length : Int) ∧ IntKind.i64.wrap ((↑g : Int) + (1 : Int)) = (↑g_1 : Int))) ∧
          (decide ((↑g : Int) < (↑hs.length : Int)) = false → decide ((↑hs.length : Int) ≤ (48 : Int)) = rightB hs)

def vcFind : List Holder → Int → Prop :=
  fun (hs : List Holder) (a : Int) =>
  ((↑hs.length : Int) = (↑hs.length : Int) ∧ hs.length ≤ (1000000 : Nat) ∧ ∀ (i j : Nat), i < j → j < hs.length → (getH hs i).addr < (getH hs j).addr) ∧
    (decide ((↑(idxH hs a) : Int) < (↑hs.length : Int)) = true → (0 : Int) ≤ (↑(idxH hs a) : Int) ∧ (↑(idxH hs a) : Int) < (↑hs.length : Int)) ∧
      (↑(idxH hs a) : Int) = (↑(idxH hs a) : Int) ∧ (decide ((↑(idxH hs a) : Int) < (↑hs.length : Int)) && (hs.getD (↑(idxH hs a) : Int).toNat (u.dflt (36 : Nat))).addr == a) = hasH hs a

def vcHas : Int → Int → Int → Prop :=
  fun (base bits a : Int) => (rightA base bits = true → (0 : Int) ≤ bits ∧ bits ≤ (32 : Int)) ∧ (rightA base bits && bitsI BinOp.and IntKind.u32 a (maskA bits) == base) = hasA base bits a

def vcSize : Int → Int → Prop :=
  fun (base bits : Int) =>
  ((!rightA base bits) = true → (0 : Int) = sizeA base bits) ∧
    ((!rightA base bits) = false → (0 : Int) ≤ IntKind.i64.wrap ((32 : Int) - bits) ∧ shl IntKind.i64 (1 : Int) (IntKind.i64.wrap ((32 : Int) - bits)) = sizeA base bits)

def vcHalves : Int → Int → Prop :=
  fun (base bits : Int) =>
  ((!rightA base bits || bits == (32 : Int)) = true →
      (((0 : Int) = if halfB base bits = true then base else (0 : Int)) ∧ (0 : Int) = if halfB base bits = true then halfN bits else (0 : Int)) ∧
        (((0 : Int) = if halfB base bits = true then highA base bits else (0 : Int)) ∧ (0 : Int) = if halfB base bits = true then halfN bits else (0 : Int)) ∧ false = halfB base bits) ∧
    ((!rightA base bits || bits == (32 : Int)) = false →
      (0 : Int) ≤ IntKind.i64.wrap ((32 : Int) - IntKind.i64.wrap (bits + (1 : Int))) ∧
        ((base = if halfB base bits = true then base else (0 : Int)) ∧ IntKind.i64.wrap (bits + (1 : Int)) = if halfB base bits = true then halfN bits else (0 : Int)) ∧
          ((bitsI BinOp.or IntKind.u32 base (shl IntKind.u32 (1 : Int) (IntKind.i64.wrap ((32 : Int) - IntKind.i64.wrap (bits + (1 : Int))))) = if halfB base bits = true then highA base bits else (0 : Int)) ∧
              IntKind.i64.wrap (bits + (1 : Int)) = if halfB base bits = true then halfN bits else (0 : Int)) ∧
            true = halfB base bits)

def vcGet : List Holder → Int → Prop :=
  fun (hs : List Holder) (a : Int) =>
  (hs.length ≤ (1000000 : Nat) ∧ ∀ (i j : Nat), i < j → j < hs.length → (getH hs i).addr < (getH hs j).addr) ∧
    (hasH hs a = true →
        ((0 : Int) ≤ (↑(idxH hs a) : Int) ∧ (↑(idxH hs a) : Int) < (↑hs.length : Int)) ∧
          ((hs.getD (↑(idxH hs a) : Int).toNat (u.dflt (36 : Nat))).addr = (getL hs a).addr ∧
              (hs.getD (↑(idxH hs a) : Int).toNat (u.dflt (36 : Nat))).owner = (getL hs a).owner ∧
                (hs.getD (↑(idxH hs a) : Int).toNat (u.dflt (36 : Nat))).mac.m0 = (getL hs a).mac.m0 ∧
                  (hs.getD (↑(idxH hs a) : Int).toNat (u.dflt (36 : Nat))).mac.m1 = (getL hs a).mac.m1 ∧
                    (hs.getD (↑(idxH hs a) : Int).toNat (u.dflt (36 : Nat))).mac.m2 = (getL hs a).mac.m2 ∧
                      (hs.getD (↑(idxH hs a) : Int).toNat (u.dflt (36 : Nat))).mac.m3 = (getL hs a).mac.m3 ∧
                        (hs.getD (↑(idxH hs a) : Int).toNat (u.dflt (36 : Nat))).mac.m4 = (getL hs a).mac.m4 ∧ (hs.getD (↑(idxH hs a) : Int).toNat (u.dflt (36 : Nat))).mac.m5 = (getL hs a).mac.m5) ∧
            true = hasH hs a) ∧
      (hasH hs a = false →
        ((0 : Int) = (getL hs a).addr ∧
            { data := #[] : ByteArray } = (getL hs a).owner ∧
              (0 : Int) = (getL hs a).mac.m0 ∧ (0 : Int) = (getL hs a).mac.m1 ∧ (0 : Int) = (getL hs a).mac.m2 ∧ (0 : Int) = (getL hs a).mac.m3 ∧ (0 : Int) = (getL hs a).mac.m4 ∧ (0 : Int) = (getL hs a).mac.m5) ∧
          false = hasH hs a)

def vcPut : List Holder → Int → ByteArray → Int → Int → Int → Int → Int → Int → Prop :=
  fun (hs : List Holder) (n : Int) (s : ByteArray) (a b c d e f : Int) =>
  (hs.length ≤ (1000000 : Nat) ∧ ∀ (i j : Nat), i < j → j < hs.length → (getH hs i).addr < (getH hs j).addr) ∧
    ∀ (v : Bool),
      v = hasH hs n →
        ∀ (v_1 : Int),
          v_1 = (↑(idxH hs n) : Int) →
            s.size.succ.le (9223372036854775808 : Nat) ∧
              ((!mayB s) = true →
                  putL hs { addr := n, owner := s, mac := { m0 := a, m1 := b, m2 := c, m3 := d, m4 := e, m5 := f : Mac } : Holder } = [] ∧
                    (12 : Int) = putE hs { addr := n, owner := s, mac := { m0 := a, m1 := b, m2 := c, m3 := d, m4 := e, m5 := f : Mac } : Holder }) ∧
                ((!mayB s) = false →
                  (v = true →
                      putL hs { addr := n, owner := s, mac := { m0 := a, m1 := b, m2 := c, m3 := d, m4 := e, m5 := f : Mac } : Holder } = [] ∧
                        (6 : Int) = putE hs { addr := n, owner := s, mac := { m0 := a, m1 := b, m2 := c, m3 := d, m4 := e, m5 := f : Mac } : Holder }) ∧
                    (v = false →
                      (decide ((↑hs.length : Int) ≥ (48 : Int)) = true →
                          putL hs { addr := n, owner := s, mac := { m0 := a, m1 := b, m2 := c, m3 := d, m4 := e, m5 := f : Mac } : Holder } = [] ∧
                            (4 : Int) = putE hs { addr := n, owner := s, mac := { m0 := a, m1 := b, m2 := c, m3 := d, m4 := e, m5 := f : Mac } : Holder }) ∧
                        (decide ((↑hs.length : Int) ≥ (48 : Int)) = false →
                          ((0 : Int) ≤ (0 : Int) ∧ (0 : Int) ≤ v_1 ∧ v_1 ≤ (↑hs.length : Int)) ∧
                            (List.drop (0 : Nat) (List.take v_1.toNat hs)).length * (32 : Nat) ≤ (140737488355328 : Nat) ∧
                              ((List.drop (0 : Nat) (List.take v_1.toNat hs)).length + [{ addr := n, owner := s, mac := { m0 := a, m1 := b, m2 := c, m3 := d, m4 := e, m5 := f : Mac } : Holder }].length) * (32 : Nat) ≤
                                  (140737488355328 : Nat) ∧
                                ∀ (v : List Holder),
                                  v = List.drop (0 : Nat) (List.take v_1.toNat hs) ++ [{ addr := n, owner := s, mac := { m0 := a, m1 := b, m2 := c, m3 := d, m4 := e, m5 := f : Mac } : Holder }] →
                                    ((0 : Int) ≤ v_1 ∧ v_1 ≤ (↑hs.length : Int) ∧ (↑hs.length : Int) ≤ (↑hs.length : Int)) ∧
                                      (v.length + (List.drop v_1.toNat (List.take (↑hs.length : Int).toNat hs)).length) * (32 : Nat) ≤ (140737488355328 : Nat) ∧
                                        v ++ List.drop v_1.toNat (List.take (↑hs.length : Int).toNat hs) =
                                            putL hs { addr := n, owner := s, mac := { m0 := a, m1 := b, m2 := c, m3 := d, m4 := e, m5 := f : Mac } : Holder } ∧
                                          (0 : Int) = putE hs { addr := n, owner := s, mac := { m0 := a, m1 := b, m2 := c, m3 := d, m4 := e, m5 := f : Mac } : Holder })))

def vcTake : List Holder → Int → Prop :=
  fun (hs : List Holder) (a : Int) =>
  (hs.length ≤ (1000000 : Nat) ∧ ∀ (i j : Nat), i < j → j < hs.length → (getH hs i).addr < (getH hs j).addr) ∧
    ∀ (v : Bool),
      v = hasH hs a →
        ∀ (v_1 : Int),
          v_1 = (↑(idxH hs a) : Int) →
            ((!v) = true → takeL hs a = [] ∧ (7 : Int) = takeE hs a) ∧
              ((!v) = false →
                ((0 : Int) ≤ (0 : Int) ∧ (0 : Int) ≤ v_1 ∧ v_1 ≤ (↑hs.length : Int)) ∧
                  (List.drop (0 : Nat) (List.take v_1.toNat hs)).length * (32 : Nat) ≤ (140737488355328 : Nat) ∧
                    ((0 : Int) ≤ IntKind.i64.wrap (v_1 + (1 : Int)) ∧ IntKind.i64.wrap (v_1 + (1 : Int)) ≤ (↑hs.length : Int) ∧ (↑hs.length : Int) ≤ (↑hs.length : Int)) ∧
                      ((List.drop (0 : Nat) (List.take v_1.toNat hs)).length + (List.drop (IntKind.i64.wrap (v_1 + (1 : Int))).toNat (List.take (↑hs.length : Int).toNat hs)).length) * (32 : Nat) ≤
                          (140737488355328 : Nat) ∧
                        List.drop (0 : Nat) (List.take v_1.toNat hs) ++ List.drop (IntKind.i64.wrap (v_1 + (1 : Int))).toNat (List.take (↑hs.length : Int).toNat hs) = takeL hs a ∧ (0 : Int) = takeE hs a)

def vcAt : Int → Int → Int → Prop :=
  fun (base bits k : Int) =>
  ((decide (k < (0 : Int)) || decide (k ≥ sizeA base bits)) = true → ((0 : Int) = if atB base bits k = true then atA base k else (0 : Int)) ∧ false = atB base bits k) ∧
    ((decide (k < (0 : Int)) || decide (k ≥ sizeA base bits)) = false → (IntKind.u32.wrap (base + IntKind.u32.wrap k) = if atB base bits k = true then atA base k else (0 : Int)) ∧ true = atB base bits k)

def vcUsed : List Holder → Int → Int → Prop :=
  fun (hs : List Holder) (base bits : Int) =>
  (∃ (g : Nat), g.le hs.length ∧ (True ∧ hs = hs ∧ (↑hs.length : Int) = (↑hs.length : Int) ∧ (0 : Int) = (↑g : Int) ∧ (0 : Int) = (↑(usedAt base bits hs g) : Int)) ∧ base = base ∧ bits = bits) ∧
    ∀ (g : Nat),
      g.le hs.length →
        (decide ((↑g : Int) < (↑hs.length : Int)) = true →
            ((0 : Int) ≤ (↑g : Int) ∧ (↑g : Int) < (↑hs.length : Int)) ∧
              (hasA base bits (hs.getD (↑g : Int).toNat (u.dflt (36 : Nat))).addr = true → True) ∧
                (hasA base bits (hs.getD (↑g : Int).toNat (u.dflt (36 : Nat))).addr = false → True) ∧
                  ∀ (v : Int),
                    (v = if hasA base bits (hs.getD (↑g : Int).toNat (u.dflt (36 : Nat))).addr = true then IntKind.i64.wrap ((↑(usedAt base bits hs g) : Int) + (1 : Int)) else (↑(usedAt base bits hs g) : Int)) →
                      ∃ (g_1 : Nat),
                        g_1.le hs.length ∧
                          (annUsed base bits hs).μ g_1 < (annUsed base bits hs).μ g ∧
                            (True ∧ hs = hs ∧ (↑hs.length : Int) = (↑hs.length : Int) ∧ IntKind.i64.wrap ((↑g : Int) + (1 : Int)) = (↑g_1 : Int) ∧ v = (↑(usedAt base bits hs g_1) : Int)) ∧ base = base ∧ bits = bits) ∧
          (decide ((↑g : Int) < (↑hs.length : Int)) = false → (↑(usedAt base bits hs g) : Int) = usedL base bits hs)

def vcNext : List Holder → Int → Int → Prop :=
  fun (hs : List Holder) (base bits : Int) =>
  (∃ (g : Nat),
      ((↑g : Int) ≤ sizeA base bits ∧ nextGo (fun (k : Nat) => !hasH hs (atA base (↑k : Int))) g ((sizeA base bits).toNat - g) = nextK hs base bits) ∧
        (hs = hs ∧ True ∧ sizeA base bits = sizeA base bits ∧ (0 : Int) = (↑g : Int)) ∧ base = base ∧ bits = bits) ∧
    ∀ (g : Nat),
      (↑g : Int) ≤ sizeA base bits ∧ nextGo (fun (k : Nat) => !hasH hs (atA base (↑k : Int))) g ((sizeA base bits).toNat - g) = nextK hs base bits →
        (decide ((↑g : Int) < sizeA base bits) = true →
            ∀ (v : Int),
              (v = if atB base bits (↑g : Int) = true then atA base (↑g : Int) else (0 : Int)) →
                (hs.length ≤ (1000000 : Nat) ∧ ∀ (i j : Nat), i < j → j < hs.length → (getH hs i).addr < (getH hs j).addr) ∧
                  ((!hasH hs v) = true → v = nextV hs base bits ∧ true = nextB hs base bits) ∧
                    ((!hasH hs v) = false →
                      ∃ (g_1 : Nat),
                        ((↑g_1 : Int) ≤ sizeA base bits ∧ nextGo (fun (k : Nat) => !hasH hs (atA base (↑k : Int))) g_1 ((sizeA base bits).toNat - g_1) = nextK hs base bits) ∧
                          (annNext hs base bits).μ g_1 < (annNext hs base bits).μ g ∧
                            (hs = hs ∧ True ∧ sizeA base bits = sizeA base bits ∧ IntKind.i64.wrap ((↑g : Int) + (1 : Int)) = (↑g_1 : Int)) ∧ base = base ∧ bits = bits)) ∧
          (decide ((↑g : Int) < sizeA base bits) = false → (0 : Int) = nextV hs base bits ∧ false = nextB hs base bits)

def vcAwake : Prop :=
  (((0 : Nat) ≤ (1000000 : Nat) ∧ ∀ (i j : Nat), i < j → j < (0 : Nat) → (getH [] i).addr < (getH [] j).addr) ∧ Nat.le (4 : Nat) (9223372036854775808 : Nat)) ∧
  ((1 : Nat) ≤ (1000000 : Nat) ∧
      ∀ (i j : Nat),
        i < j →
          j < (1 : Nat) →
            (getH
                  (putL []
                    { addr := (5 : Int), owner := { data := #[(97 : UInt8), (110 : UInt8), (110 : UInt8)] : ByteArray },
                      mac := { m0 := (0 : Int), m1 := (0 : Int), m2 := (0 : Int), m3 := (0 : Int), m4 := (0 : Int), m5 := (0 : Int) : Mac } : Holder })
                  i).addr <
              (getH
                  (putL []
                    { addr := (5 : Int), owner := { data := #[(97 : UInt8), (110 : UInt8), (110 : UInt8)] : ByteArray },
                      mac := { m0 := (0 : Int), m1 := (0 : Int), m2 := (0 : Int), m3 := (0 : Int), m4 := (0 : Int), m5 := (0 : Int) : Mac } : Holder })
                  j).addr) ∧
    (((1 : Nat) ≤ (1000000 : Nat) ∧
          ∀ (i j : Nat),
            i < j →
              j < (1 : Nat) →
                (getH
                      (putL []
                        { addr := (5 : Int), owner := { data := #[(97 : UInt8), (110 : UInt8), (110 : UInt8)] : ByteArray },
                          mac := { m0 := (0 : Int), m1 := (0 : Int), m2 := (0 : Int), m3 := (0 : Int), m4 := (0 : Int), m5 := (0 : Int) : Mac } : Holder })
                      i).addr <
                  (getH
                      (putL []
                        { addr := (5 : Int), owner := { data := #[(97 : UInt8), (110 : UInt8), (110 : UInt8)] : ByteArray },
                          mac := { m0 := (0 : Int), m1 := (0 : Int), m2 := (0 : Int), m3 := (0 : Int), m4 := (0 : Int), m5 := (0 : Int) : Mac } : Holder })
                      j).addr) ∧
        Nat.le (4 : Nat) (9223372036854775808 : Nat)) ∧
      (((0 : Int) == (0 : Int) &&
                  nextB
                    (putL []
                      { addr := (5 : Int), owner := { data := #[(97 : UInt8), (110 : UInt8), (110 : UInt8)] : ByteArray },
                        mac := { m0 := (0 : Int), m1 := (0 : Int), m2 := (0 : Int), m3 := (0 : Int), m4 := (0 : Int), m5 := (0 : Int) : Mac } : Holder })
                    (4 : Int) (30 : Int) &&
                (4 : Int) == (4 : Int) &&
              (6 : Int) == (6 : Int)) =
            true →
          Nat.le (2 : Nat) (9223372036854775808 : Nat)) ∧
        ((0 : Int) == (0 : Int) &&
                  nextB
                    (putL []
                      { addr := (5 : Int), owner := { data := #[(97 : UInt8), (110 : UInt8), (110 : UInt8)] : ByteArray },
                        mac := { m0 := (0 : Int), m1 := (0 : Int), m2 := (0 : Int), m3 := (0 : Int), m4 := (0 : Int), m5 := (0 : Int) : Mac } : Holder })
                    (4 : Int) (30 : Int) &&
                (4 : Int) == (4 : Int) &&
              (6 : Int) == (6 : Int) &&
            (1 : Int) == (1 : Int)) =
          true


end Go.Proofs.Ytfpapepjobfahaa.Held
