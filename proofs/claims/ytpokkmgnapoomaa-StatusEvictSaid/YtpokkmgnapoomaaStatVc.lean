/- What an address stands as: what the small bodies come to (printed by wip/Vc.lean; checked by the kernel in the next text). -/
import Derived.Test.YtpokkmgnapoomaaStatSpec
namespace Go.Proofs.Ytpokkmgnapoomaa.Stat
open Go Go.Proofs.Ytpokkmgnapoomaa.Sx

def vcClamp : Int → Prop :=
  fun (n : Int) => mx (0 : Int) (mn n (1099511627776 : Int)) = clampT n

def vcWithinL : Int → Int → Int → Prop :=
  fun (a b n : Int) =>
  (decide (mx (0 : Int) (mn b (1099511627776 : Int)) ≤ mx (0 : Int) (mn a (1099511627776 : Int))) &&
      decide (IntKind.i64.wrap (mx (0 : Int) (mn a (1099511627776 : Int)) - mx (0 : Int) (mn b (1099511627776 : Int))) < n)) =
    withinL a b n

def vcNone : Int → Int → Int → Int → Int → Int → Prop :=
  fun (a b c d e f : Int) =>
  (a == (0 : Int) && (b == (0 : Int) && (c == (0 : Int) && (d == (0 : Int) && (e == (0 : Int) && (f == (0 : Int) && true)))))) = noneM { m0 := a, m1 := b, m2 := c, m3 := d, m4 := e, m5 := f : Mac }

def vcStation : Int → Prop :=
  fun (n : Int) =>
  (decide (n ≥ (128 : Int)) = true → (0 : Int) = (station n).m0 ∧ (0 : Int) = (station n).m1 ∧ (0 : Int) = (station n).m2 ∧ (0 : Int) = (station n).m3 ∧ (0 : Int) = (station n).m4 ∧ (0 : Int) = (station n).m5) ∧
    (decide (n ≥ (128 : Int)) = false →
      (3 : Int) ≠ (0 : Int) ∧
        (2 : Int) = (station n).m0 ∧ (0 : Int) = (station n).m1 ∧ (0 : Int) = (station n).m2 ∧ (0 : Int) = (station n).m3 ∧ (0 : Int) = (station n).m4 ∧ IntKind.u8.wrap ((1 : Int) + n.tmod (3 : Int)) = (station n).m5)

def vcChoice : Int → Int → Int → Int → Int → Int → Int → Int → Int → Prop :=
  fun (c0 c1 c2 c3 c4 c5 c6 c7 c8 : Int) =>
  (30 : Int) ≠ (0 : Int) ∧
    (60 : Int) ≠ (0 : Int) ∧
      (6 : Int) ≠ (0 : Int) ∧
        (20 : Int) ≠ (0 : Int) ∧
          (9 : Int) ≠ (0 : Int) ∧
            (6 : Int) ≠ (0 : Int) ∧
              (4 : Int) ≠ (0 : Int) ∧
                (40 : Int) ≠ (0 : Int) ∧
                  (50 : Int) ≠ (0 : Int) ∧
                    IntKind.i64.wrap ((1 : Int) + IntKind.i64.wrap (c0.tmod (30 : Int))) = fc (30 : Int) c0 ∧
                      IntKind.i64.wrap (IntKind.i64.wrap ((1 : Int) + IntKind.i64.wrap (c0.tmod (30 : Int))) + IntKind.i64.wrap (c1.tmod (60 : Int))) = IntKind.i64.wrap (fc (30 : Int) c0 + fz (60 : Int) c1) ∧
                        IntKind.i64.wrap ((1 : Int) + IntKind.i64.wrap (c2.tmod (6 : Int))) = fc (6 : Int) c2 ∧
                          IntKind.i64.wrap ((1 : Int) + IntKind.i64.wrap (c3.tmod (20 : Int))) = fc (20 : Int) c3 ∧
                            IntKind.i64.wrap ((1 : Int) + IntKind.i64.wrap (c4.tmod (9 : Int))) = fc (9 : Int) c4 ∧
                              IntKind.i64.wrap ((1 : Int) + IntKind.i64.wrap (c5.tmod (6 : Int))) = fc (6 : Int) c5 ∧
                                IntKind.i64.wrap (c6.tmod (4 : Int)) = fz (4 : Int) c6 ∧
                                  IntKind.i64.wrap ((1 : Int) + IntKind.i64.wrap (c7.tmod (40 : Int))) = fc (40 : Int) c7 ∧ IntKind.i64.wrap (c8.tmod (50 : Int)) = fz (50 : Int) c8


end Go.Proofs.Ytpokkmgnapoomaa.Stat
