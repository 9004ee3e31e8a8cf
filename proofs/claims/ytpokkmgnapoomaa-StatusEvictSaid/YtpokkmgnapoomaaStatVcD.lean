/- What an address stands as: what the laws come to (printed by wip/Vc.lean; checked by the kernel in the next text). -/
import Derived.Test.YtpokkmgnapoomaaStatSpecD
namespace Go.Proofs.Ytpokkmgnapoomaa.Stat
open Go Go.Proofs.Ytpokkmgnapoomaa.Sx

def vcSights : List Seen → Prop :=
  fun (xs : List Seen) =>
  ((0 : Int) ≤ (0 : Int) ∧ (0 : Int) ≤ mn (↑xs.length : Int) (12 : Int) ∧ mn (↑xs.length : Int) (12 : Int) ≤ (↑xs.length : Int)) ∧
    (∃ (g : Nat),
        g.le (headS xs).length ∧
          (List.drop (0 : Nat) (List.take (mn (↑xs.length : Int) (12 : Int)).toNat xs) = List.drop (0 : Nat) (List.take (mn (↑xs.length : Int) (12 : Int)).toNat xs) ∧
              (↑(List.drop (0 : Nat) (List.take (mn (↑xs.length : Int) (12 : Int)).toNat xs)).length : Int) = (↑(List.drop (0 : Nat) (List.take (mn (↑xs.length : Int) (12 : Int)).toNat xs)).length : Int) ∧
                (0 : Int) = (↑g : Int) ∧ True ∧ (0 : Int) = timeAt (headS xs) g) ∧
            sightsAt (headS xs) g = []) ∧
      ∀ (g : Nat),
        g.le (headS xs).length →
          (decide ((↑g : Int) < (↑(List.drop (0 : Nat) (List.take (mn (↑xs.length : Int) (12 : Int)).toNat xs)).length : Int)) = true →
              ((0 : Int) ≤ (↑g : Int) ∧ (↑g : Int) < (↑(List.drop (0 : Nat) (List.take (mn (↑xs.length : Int) (12 : Int)).toNat xs)).length : Int)) ∧
                (8 : Int) ≠ (0 : Int) ∧
                  ((sightsAt (headS xs) g).length +
                          [{ src := (2 : Int),
                                mac :=
                                  { m0 := (station ((List.drop (0 : Nat) (List.take (mn (↑xs.length : Int) (12 : Int)).toNat xs)).getD (↑g : Int).toNat (u.dflt (57 : Nat))).who).m0,
                                    m1 := (station ((List.drop (0 : Nat) (List.take (mn (↑xs.length : Int) (12 : Int)).toNat xs)).getD (↑g : Int).toNat (u.dflt (57 : Nat))).who).m1,
                                    m2 := (station ((List.drop (0 : Nat) (List.take (mn (↑xs.length : Int) (12 : Int)).toNat xs)).getD (↑g : Int).toNat (u.dflt (57 : Nat))).who).m2,
                                    m3 := (station ((List.drop (0 : Nat) (List.take (mn (↑xs.length : Int) (12 : Int)).toNat xs)).getD (↑g : Int).toNat (u.dflt (57 : Nat))).who).m3,
                                    m4 := (station ((List.drop (0 : Nat) (List.take (mn (↑xs.length : Int) (12 : Int)).toNat xs)).getD (↑g : Int).toNat (u.dflt (57 : Nat))).who).m4,
                                    m5 := (station ((List.drop (0 : Nat) (List.take (mn (↑xs.length : Int) (12 : Int)).toNat xs)).getD (↑g : Int).toNat (u.dflt (57 : Nat))).who).m5 : Mac },
                                time :=
                                  IntKind.i64.wrap
                                    (timeAt (headS xs) g +
                                      IntKind.i64.wrap (((List.drop (0 : Nat) (List.take (mn (↑xs.length : Int) (12 : Int)).toNat xs)).getD (↑g : Int).toNat (u.dflt (57 : Nat))).later.tmod (8 : Int))) :
                                Sight }].length) *
                        (24 : Nat) ≤
                      (140737488355328 : Nat) ∧
                    ∃ (g_1 : Nat),
                      g_1.le (headS xs).length ∧
                        (annSights xs).μ g_1 < (annSights xs).μ g ∧
                          (List.drop (0 : Nat) (List.take (mn (↑xs.length : Int) (12 : Int)).toNat xs) = List.drop (0 : Nat) (List.take (mn (↑xs.length : Int) (12 : Int)).toNat xs) ∧
                              (↑(List.drop (0 : Nat) (List.take (mn (↑xs.length : Int) (12 : Int)).toNat xs)).length : Int) =
                                  (↑(List.drop (0 : Nat) (List.take (mn (↑xs.length : Int) (12 : Int)).toNat xs)).length : Int) ∧
                                IntKind.i64.wrap ((↑g : Int) + (1 : Int)) = (↑g_1 : Int) ∧
                                  True ∧
                                    IntKind.i64.wrap
                                        (timeAt (headS xs) g +
                                          IntKind.i64.wrap (((List.drop (0 : Nat) (List.take (mn (↑xs.length : Int) (12 : Int)).toNat xs)).getD (↑g : Int).toNat (u.dflt (57 : Nat))).later.tmod (8 : Int))) =
                                      timeAt (headS xs) g_1) ∧
                            sightsAt (headS xs) g ++
                                [{ src := (2 : Int),
                                    mac :=
                                      { m0 := (station ((List.drop (0 : Nat) (List.take (mn (↑xs.length : Int) (12 : Int)).toNat xs)).getD (↑g : Int).toNat (u.dflt (57 : Nat))).who).m0,
                                        m1 := (station ((List.drop (0 : Nat) (List.take (mn (↑xs.length : Int) (12 : Int)).toNat xs)).getD (↑g : Int).toNat (u.dflt (57 : Nat))).who).m1,
                                        m2 := (station ((List.drop (0 : Nat) (List.take (mn (↑xs.length : Int) (12 : Int)).toNat xs)).getD (↑g : Int).toNat (u.dflt (57 : Nat))).who).m2,
                                        m3 := (station ((List.drop (0 : Nat) (List.take (mn (↑xs.length : Int) (12 : Int)).toNat xs)).getD (↑g : Int).toNat (u.dflt (57 : Nat))).who).m3,
                                        m4 := (station ((List.drop (0 : Nat) (List.take (mn (↑xs.length : Int) (12 : Int)).toNat xs)).getD (↑g : Int).toNat (u.dflt (57 : Nat))).who).m4,
                                        m5 := (station ((List.drop (0 : Nat) (List.take (mn (↑xs.length : Int) (12 : Int)).toNat xs)).getD (↑g : Int).toNat (u.dflt (57 : Nat))).who).m5 : Mac },
                                    time :=
                                      IntKind.i64.wrap
                                        (timeAt (headS xs) g +
                                          IntKind.i64.wrap (((List.drop (0 : Nat) (List.take (mn (↑xs.length : Int) (12 : Int)).toNat xs)).getD (↑g : Int).toNat (u.dflt (57 : Nat))).later.tmod (8 : Int))) :
                                    Sight }] =
                              sightsAt (headS xs) g_1) ∧
            (decide ((↑g : Int) < (↑(List.drop (0 : Nat) (List.take (mn (↑xs.length : Int) (12 : Int)).toNat xs)).length : Int)) = false → sightsAt (headS xs) g = sightsL xs)

def vcName : Int → Prop :=
  fun (s : Int) =>
  ((decide (s < (0 : Int)) || decide (s ≥ (6 : Int))) = true → { data := #[(45 : UInt8)] : ByteArray } = nameS s) ∧
    ((decide (s < (0 : Int)) || decide (s ≥ (6 : Int))) = false →
      ((0 : Int) ≤ s ∧ s < (6 : Int)) ∧
        [{ data := #[(102 : UInt8), (114 : UInt8), (101 : UInt8), (101 : UInt8)] : ByteArray },
                { data := #[(112 : UInt8), (108 : UInt8), (97 : UInt8), (110 : UInt8), (110 : UInt8), (101 : UInt8), (100 : UInt8)] : ByteArray },
                { data := #[(97 : UInt8), (99 : UInt8), (116 : UInt8), (105 : UInt8), (118 : UInt8), (101 : UInt8)] : ByteArray },
                { data := #[(115 : UInt8), (116 : UInt8), (97 : UInt8), (108 : UInt8), (101 : UInt8)] : ByteArray }, { data := #[(114 : UInt8), (111 : UInt8), (103 : UInt8), (117 : UInt8), (101 : UInt8)] : ByteArray },
                { data := #[(99 : UInt8), (111 : UInt8), (110 : UInt8), (102 : UInt8), (108 : UInt8), (105 : UInt8), (99 : UInt8), (116 : UInt8)] : ByteArray }].getD
            s.toNat (u.dflt (9 : Nat)) =
          nameS s)

def vcWorth : Int → Prop :=
  fun (s : Int) =>
  ((s == (5 : Int)) = true → (3 : Int) = worthS s) ∧
    ((s == (5 : Int)) = false → ((s == (4 : Int)) = true → (2 : Int) = worthS s) ∧ ((s == (4 : Int)) = false → ((s == (3 : Int)) = true → (1 : Int) = worthS s) ∧ ((s == (3 : Int)) = false → (0 : Int) = worthS s)))

def vcAwake : Prop :=
  ((24 : Nat) ≤ (140737488355328 : Nat) ∧ (1 : Int) < (4611686018427387904 : Int)) ∧
  ∀ (v : Int),
    v = (4 : Int) →
      ((24 : Nat) ≤ (140737488355328 : Nat) ∧ (1 : Int) < (4611686018427387904 : Int)) ∧
        ∀ (v_1 : Int),
          v_1 = (3 : Int) →
            (v == (4 : Int) && v_1 == (3 : Int) && (nameS v).toList == { data := #[(114 : UInt8), (111 : UInt8), (103 : UInt8), (117 : UInt8), (101 : UInt8)] : ByteArray }.toList && worthS v_1 == (1 : Int)) = true

def vcStatOf : Int → Int → Int → Int → Int → Int → Int → Int → Int → Bool → Int → List Seen → Int → Prop :=
  fun (c0 c1 c2 c3 c4 c5 c6 c7 c8 : Int) (hd : Bool) (mc : Int) (xs : List Seen) (nw : Int) =>
  ((!true) = true → false = true) ∧
    ((!true) = false →
      xs.length < (9223372036854775808 : Nat) ∧
        (hd = true →
            (4 : Int) ≠ (0 : Int) ∧
              ((0 : Int) ≤ (0 : Int) ∧ (0 : Int) < (↑[IntKind.i64.wrap nw, IntKind.i64.wrap ((IntKind.i64.wrap nw).tdiv (4 : Int))].length : Int)) ∧
                ((sightsL xs).length * (24 : Nat) ≤ (140737488355328 : Nat) ∧ fc (6 : Int) c2 < (4611686018427387904 : Int)) ∧
                  ((sightsL xs).length * (24 : Nat) ≤ (140737488355328 : Nat) ∧ fc (6 : Int) c2 < (4611686018427387904 : Int)) ∧
                    ((ofH (fc (30 : Int) c0) (IntKind.i64.wrap (fc (30 : Int) c0 + fz (60 : Int) c1)) (fc (6 : Int) c2) (IntKind.i64.wrap nw)
                              { m0 := (station mc).m0, m1 := (station mc).m1, m2 := (station mc).m2, m3 := (station mc).m3, m4 := (station mc).m4, m5 := (station mc).m5 : Mac } (sightsL xs) !=
                            ofLH (fc (30 : Int) c0) (IntKind.i64.wrap (fc (30 : Int) c0 + fz (60 : Int) c1)) (fc (6 : Int) c2) (IntKind.i64.wrap nw)
                              { m0 := (station mc).m0, m1 := (station mc).m1, m2 := (station mc).m2, m3 := (station mc).m3, m4 := (station mc).m4, m5 := (station mc).m5 : Mac } (sightsL xs)) =
                          true →
                        false = true) ∧
                      ((ofH (fc (30 : Int) c0) (IntKind.i64.wrap (fc (30 : Int) c0 + fz (60 : Int) c1)) (fc (6 : Int) c2) (IntKind.i64.wrap nw)
                              { m0 := (station mc).m0, m1 := (station mc).m1, m2 := (station mc).m2, m3 := (station mc).m3, m4 := (station mc).m4, m5 := (station mc).m5 : Mac } (sightsL xs) !=
                            ofLH (fc (30 : Int) c0) (IntKind.i64.wrap (fc (30 : Int) c0 + fz (60 : Int) c1)) (fc (6 : Int) c2) (IntKind.i64.wrap nw)
                              { m0 := (station mc).m0, m1 := (station mc).m1, m2 := (station mc).m2, m3 := (station mc).m3, m4 := (station mc).m4, m5 := (station mc).m5 : Mac } (sightsL xs)) =
                          false →
                        ((0 : Int) ≤ (1 : Int) ∧ (1 : Int) < (↑[IntKind.i64.wrap nw, IntKind.i64.wrap ((IntKind.i64.wrap nw).tdiv (4 : Int))].length : Int)) ∧
                          ((sightsL xs).length * (24 : Nat) ≤ (140737488355328 : Nat) ∧ fc (6 : Int) c2 < (4611686018427387904 : Int)) ∧
                            ((sightsL xs).length * (24 : Nat) ≤ (140737488355328 : Nat) ∧ fc (6 : Int) c2 < (4611686018427387904 : Int)) ∧
                              ((ofH (fc (30 : Int) c0) (IntKind.i64.wrap (fc (30 : Int) c0 + fz (60 : Int) c1)) (fc (6 : Int) c2) (IntKind.i64.wrap ((IntKind.i64.wrap nw).tdiv (4 : Int)))
                                        { m0 := (station mc).m0, m1 := (station mc).m1, m2 := (station mc).m2, m3 := (station mc).m3, m4 := (station mc).m4, m5 := (station mc).m5 : Mac } (sightsL xs) !=
                                      ofLH (fc (30 : Int) c0) (IntKind.i64.wrap (fc (30 : Int) c0 + fz (60 : Int) c1)) (fc (6 : Int) c2) (IntKind.i64.wrap ((IntKind.i64.wrap nw).tdiv (4 : Int)))
                                        { m0 := (station mc).m0, m1 := (station mc).m1, m2 := (station mc).m2, m3 := (station mc).m3, m4 := (station mc).m4, m5 := (station mc).m5 : Mac } (sightsL xs)) =
                                    true →
                                  false = true) ∧
                                ((ofH (fc (30 : Int) c0) (IntKind.i64.wrap (fc (30 : Int) c0 + fz (60 : Int) c1)) (fc (6 : Int) c2) (IntKind.i64.wrap ((IntKind.i64.wrap nw).tdiv (4 : Int)))
                                        { m0 := (station mc).m0, m1 := (station mc).m1, m2 := (station mc).m2, m3 := (station mc).m3, m4 := (station mc).m4, m5 := (station mc).m5 : Mac } (sightsL xs) !=
                                      ofLH (fc (30 : Int) c0) (IntKind.i64.wrap (fc (30 : Int) c0 + fz (60 : Int) c1)) (fc (6 : Int) c2) (IntKind.i64.wrap ((IntKind.i64.wrap nw).tdiv (4 : Int)))
                                        { m0 := (station mc).m0, m1 := (station mc).m1, m2 := (station mc).m2, m3 := (station mc).m3, m4 := (station mc).m4, m5 := (station mc).m5 : Mac } (sightsL xs)) =
                                    false →
                                  true = true))) ∧
          (hd = false →
            (4 : Int) ≠ (0 : Int) ∧
              ((0 : Int) ≤ (0 : Int) ∧ (0 : Int) < (↑[IntKind.i64.wrap nw, IntKind.i64.wrap ((IntKind.i64.wrap nw).tdiv (4 : Int))].length : Int)) ∧
                ((sightsL xs).length * (24 : Nat) ≤ (140737488355328 : Nat) ∧ fc (6 : Int) c2 < (4611686018427387904 : Int)) ∧
                  ((sightsL xs).length * (24 : Nat) ≤ (140737488355328 : Nat) ∧ fc (6 : Int) c2 < (4611686018427387904 : Int)) ∧
                    ((ofN (fc (30 : Int) c0) (fc (6 : Int) c2) (IntKind.i64.wrap nw) (sightsL xs) != ofLN (fc (30 : Int) c0) (fc (6 : Int) c2) (IntKind.i64.wrap nw) (sightsL xs)) = true → false = true) ∧
                      ((ofN (fc (30 : Int) c0) (fc (6 : Int) c2) (IntKind.i64.wrap nw) (sightsL xs) != ofLN (fc (30 : Int) c0) (fc (6 : Int) c2) (IntKind.i64.wrap nw) (sightsL xs)) = false →
                        ((0 : Int) ≤ (1 : Int) ∧ (1 : Int) < (↑[IntKind.i64.wrap nw, IntKind.i64.wrap ((IntKind.i64.wrap nw).tdiv (4 : Int))].length : Int)) ∧
                          ((sightsL xs).length * (24 : Nat) ≤ (140737488355328 : Nat) ∧ fc (6 : Int) c2 < (4611686018427387904 : Int)) ∧
                            ((sightsL xs).length * (24 : Nat) ≤ (140737488355328 : Nat) ∧ fc (6 : Int) c2 < (4611686018427387904 : Int)) ∧
                              ((ofN (fc (30 : Int) c0) (fc (6 : Int) c2) (IntKind.i64.wrap ((IntKind.i64.wrap nw).tdiv (4 : Int))) (sightsL xs) !=
                                      ofLN (fc (30 : Int) c0) (fc (6 : Int) c2) (IntKind.i64.wrap ((IntKind.i64.wrap nw).tdiv (4 : Int))) (sightsL xs)) =
                                    true →
                                  false = true) ∧
                                ((ofN (fc (30 : Int) c0) (fc (6 : Int) c2) (IntKind.i64.wrap ((IntKind.i64.wrap nw).tdiv (4 : Int))) (sightsL xs) !=
                                      ofLN (fc (30 : Int) c0) (fc (6 : Int) c2) (IntKind.i64.wrap ((IntKind.i64.wrap nw).tdiv (4 : Int))) (sightsL xs)) =
                                    false →
                                  true = true))))

def vcStatAny : Int →
  Int →
    Int →
      Int →
        Int →
          Int → Int → Int → Int → Int → ByteArray → Int → Int → Int → Int → Int → Int → List Sight → Int → Bool → Prop :=
  fun (c0 c1 c2 c3 c4 c5 c6 c7 c8 z : Int) (o : ByteArray) (a b c d e f : Int) (xs : List Sight) (now : Int) (hd : Bool) =>
  ((!true) = true → false = true) ∧
    ((!true) = false →
      ((!hd) = true →
          ((0 : Int) ≤ (0 : Int) ∧ (0 : Int) ≤ mn (↑xs.length : Int) (60 : Int) ∧ mn (↑xs.length : Int) (60 : Int) ≤ (↑xs.length : Int)) ∧
            ((List.drop (0 : Nat) (List.take (mn (↑xs.length : Int) (60 : Int)).toNat xs)).length * (24 : Nat) ≤ (140737488355328 : Nat) ∧ mn c2 (1099511627776 : Int) < (4611686018427387904 : Int)) ∧
              ((List.drop (0 : Nat) (List.take (mn (↑xs.length : Int) (60 : Int)).toNat xs)).length * (24 : Nat) ≤ (140737488355328 : Nat) ∧ mn c2 (1099511627776 : Int) < (4611686018427387904 : Int)) ∧
                (ofN c0 (mn c2 (1099511627776 : Int)) now (List.drop (0 : Nat) (List.take (mn (↑xs.length : Int) (60 : Int)).toNat xs)) ==
                    ofLN c0 (mn c2 (1099511627776 : Int)) now (List.drop (0 : Nat) (List.take (mn (↑xs.length : Int) (60 : Int)).toNat xs))) =
                  true) ∧
        ((!hd) = false →
          ((0 : Int) ≤ (0 : Int) ∧ (0 : Int) ≤ mn (↑xs.length : Int) (60 : Int) ∧ mn (↑xs.length : Int) (60 : Int) ≤ (↑xs.length : Int)) ∧
            ((List.drop (0 : Nat) (List.take (mn (↑xs.length : Int) (60 : Int)).toNat xs)).length * (24 : Nat) ≤ (140737488355328 : Nat) ∧ mn c2 (1099511627776 : Int) < (4611686018427387904 : Int)) ∧
              ((List.drop (0 : Nat) (List.take (mn (↑xs.length : Int) (60 : Int)).toNat xs)).length * (24 : Nat) ≤ (140737488355328 : Nat) ∧ mn c2 (1099511627776 : Int) < (4611686018427387904 : Int)) ∧
                (ofH c0 c1 (mn c2 (1099511627776 : Int)) now { m0 := a, m1 := b, m2 := c, m3 := d, m4 := e, m5 := f : Mac } (List.drop (0 : Nat) (List.take (mn (↑xs.length : Int) (60 : Int)).toNat xs)) ==
                    ofLH c0 c1 (mn c2 (1099511627776 : Int)) now { m0 := a, m1 := b, m2 := c, m3 := d, m4 := e, m5 := f : Mac } (List.drop (0 : Nat) (List.take (mn (↑xs.length : Int) (60 : Int)).toNat xs))) =
                  true))


end Go.Proofs.Ytpokkmgnapoomaa.Stat
