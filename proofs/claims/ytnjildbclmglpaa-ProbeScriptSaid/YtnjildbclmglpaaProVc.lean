/- Questions that wait: what the small bodies come to (printed by wip/Vc.lean; checked by the kernel in the next text). -/
import Derived.Test.YtnjildbclmglpaaProSpec
namespace Go.Proofs.Ytnjildbclmglpaa.Pro
open Go Go.Proofs.Ytnjildbclmglpaa.Sx

def vcClamp : Int → Prop :=
  fun (n : Int) => mx (0 : Int) (mn n (1099511627776 : Int)) = clampT n

def vcNear : Int → Prop :=
  fun (n : Int) => (64 : Int) ≠ (0 : Int) ∧ IntKind.u32.wrap ((167772160 : Int) + IntKind.u32.wrap (n.tmod (64 : Int))) = nearA n

def vcChoice : Int → Int → Int → Int → Int → Int → Int → Int → Int → Prop :=
  fun (c0 c1 c2 c3 c4 c5 c6 c7 c8 : Int) =>
  (30 : Int) ≠ (0 : Int) ∧
    (60 : Int) ≠ (0 : Int) ∧
      (6 : Int) ≠ (0 : Int) ∧
        (20 : Int) ≠ (0 : Int) ∧
          (9 : Int) ≠ (0 : Int) ∧
            (6 : Int) ≠ (0 : Int) ∧
              (4 : Int) ≠ (0 : Int) ∧
                (40 : Int) ≠ (0 : Int) ∧
                  (50 : Int) ≠ (0 : Int) ∧
                    IntKind.i64.wrap ((1 : Int) + IntKind.i64.wrap (c0.tmod (30 : Int))) = fc (30 : Int) c0 ∧
                      IntKind.i64.wrap (IntKind.i64.wrap ((1 : Int) + IntKind.i64.wrap (c0.tmod (30 : Int))) + IntKind.i64.wrap (c1.tmod (60 : Int))) = IntKind.i64.wrap (fc (30 : Int) c0 + fz (60 : Int) c1) ∧
                        IntKind.i64.wrap ((1 : Int) + IntKind.i64.wrap (c2.tmod (6 : Int))) = fc (6 : Int) c2 ∧
                          IntKind.i64.wrap ((1 : Int) + IntKind.i64.wrap (c3.tmod (20 : Int))) = fc (20 : Int) c3 ∧
                            IntKind.i64.wrap ((1 : Int) + IntKind.i64.wrap (c4.tmod (9 : Int))) = fc (9 : Int) c4 ∧
                              IntKind.i64.wrap ((1 : Int) + IntKind.i64.wrap (c5.tmod (6 : Int))) = fc (6 : Int) c5 ∧
                                IntKind.i64.wrap (c6.tmod (4 : Int)) = fz (4 : Int) c6 ∧
                                  IntKind.i64.wrap ((1 : Int) + IntKind.i64.wrap (c7.tmod (40 : Int))) = fc (40 : Int) c7 ∧ IntKind.i64.wrap (c8.tmod (50 : Int)) = fz (50 : Int) c8

def vcPacket : Int → Int → Int → Int → Int → Prop :=
  fun (a b c d e : Int) =>
  false = false ∧ (0 : Int) = (0 : Int) ∧ a = a ∧ (0 : Int) = (0 : Int) ∧ (0 : Int) = (0 : Int) ∧ (0 : Int) = (0 : Int) ∧ (0 : Int) = (0 : Int) ∧ (0 : Int) = (0 : Int) ∧ (0 : Int) = (0 : Int) ∧ b = b ∧ c = c

def vcRight1 : Int → Int → Int → Int → Int → Int → Int → Int → Int → Int → Prop :=
  fun (a b c d e f g h i j : Int) => (a == f) = sameA { addr := f, id := g, num := h, sent := i, tries := j : Prb } { addr := a, id := b, num := c, sent := d, tries := e : Prb }

def vcPut1 : Int → Int → Int → Int → Int → Int → Int → Int → Int → Int → Prop :=
  fun (a b c d e f g h i j : Int) => (a == f) = sameA { addr := f, id := g, num := h, sent := i, tries := j : Prb } { addr := a, id := b, num := c, sent := d, tries := e : Prb }

def vcMatch1 : Int → Int → Int → Int → Int → Bool → Int → Int → Int → Int → Int → Int → Int → Int → Int → Int → Prop :=
  fun (a b c d e : Int) (an : Bool) (f t m0 m1 m2 m3 m4 m5 i s : Int) => (an && a == f && b == i && c == s) = ansTo an f i s { addr := a, id := b, num := c, sent := d, tries := e : Prb }

def vcSince : Int → Int → Prop :=
  fun (a b : Int) => IntKind.i64.wrap (clampT a - clampT b) = since a b

def vcOf : Int → Int → Int → Prop :=
  fun (a s now : Int) =>
  a = (ofP a s now).addr ∧
    IntKind.i64.wrap (bitsI BinOp.and IntKind.u32 a (65535 : Int)) = (ofP a s now).id ∧ bitsI BinOp.and IntKind.i64 s (65535 : Int) = (ofP a s now).num ∧ clampT now = (ofP a s now).sent ∧ (0 : Int) = (ofP a s now).tries


end Go.Proofs.Ytnjildbclmglpaa.Pro
