/- What an address stands as: what the last laws come to (printed by wip/Vc.lean; checked by the kernel in the next text). -/
import Derived.Test.YtpokkmgnapoomaaStatSpecE
namespace Go.Proofs.Ytpokkmgnapoomaa.Stat
open Go Go.Proofs.Ytpokkmgnapoomaa.Sx

def vcNames : Int → Int → Prop :=
  fun (n m : Int) =>
  ((!true) = true → false = true) ∧
    ((!true) = false →
      (6 : Int) ≠ (0 : Int) ∧
        ((0 : Int) ≤ (0 : Int) ∧ (0 : Int) < (↑[IntKind.i64.wrap n, (IntKind.i64.wrap m).tmod (6 : Int)].length : Int)) ∧
          ((decide (IntKind.i64.wrap n ≥ (0 : Int)) && decide (IntKind.i64.wrap n < (6 : Int))) = true →
              ((0 : Int) ≤ IntKind.i64.wrap n ∧ IntKind.i64.wrap n < (6 : Int)) ∧
                ((0 : Int) ≤ IntKind.i64.wrap n ∧ IntKind.i64.wrap n < (6 : Int)) ∧
                  ((!(nameS (IntKind.i64.wrap n)).toList ==
                              ByteArray.toList
                                ([{ data := #[(102 : UInt8), (114 : UInt8), (101 : UInt8), (101 : UInt8)] : ByteArray },
                                      { data := #[(112 : UInt8), (108 : UInt8), (97 : UInt8), (110 : UInt8), (110 : UInt8), (101 : UInt8), (100 : UInt8)] : ByteArray },
                                      { data := #[(97 : UInt8), (99 : UInt8), (116 : UInt8), (105 : UInt8), (118 : UInt8), (101 : UInt8)] : ByteArray },
                                      { data := #[(115 : UInt8), (116 : UInt8), (97 : UInt8), (108 : UInt8), (101 : UInt8)] : ByteArray },
                                      { data := #[(114 : UInt8), (111 : UInt8), (103 : UInt8), (117 : UInt8), (101 : UInt8)] : ByteArray },
                                      { data := #[(99 : UInt8), (111 : UInt8), (110 : UInt8), (102 : UInt8), (108 : UInt8), (105 : UInt8), (99 : UInt8), (116 : UInt8)] : ByteArray }].getD
                                  (IntKind.i64.wrap n).toNat (u.dflt (9 : Nat))) ||
                          worthS (IntKind.i64.wrap n) != [(0 : Int), (0 : Int), (0 : Int), (1 : Int), (2 : Int), (3 : Int)].getD (IntKind.i64.wrap n).toNat (u.dflt (3 : Nat))) =
                        true →
                      false = true) ∧
                    ((!(nameS (IntKind.i64.wrap n)).toList ==
                              ByteArray.toList
                                ([{ data := #[(102 : UInt8), (114 : UInt8), (101 : UInt8), (101 : UInt8)] : ByteArray },
                                      { data := #[(112 : UInt8), (108 : UInt8), (97 : UInt8), (110 : UInt8), (110 : UInt8), (101 : UInt8), (100 : UInt8)] : ByteArray },
                                      { data := #[(97 : UInt8), (99 : UInt8), (116 : UInt8), (105 : UInt8), (118 : UInt8), (101 : UInt8)] : ByteArray },
                                      { data := #[(115 : UInt8), (116 : UInt8), (97 : UInt8), (108 : UInt8), (101 : UInt8)] : ByteArray },
                                      { data := #[(114 : UInt8), (111 : UInt8), (103 : UInt8), (117 : UInt8), (101 : UInt8)] : ByteArray },
                                      { data := #[(99 : UInt8), (111 : UInt8), (110 : UInt8), (102 : UInt8), (108 : UInt8), (105 : UInt8), (99 : UInt8), (116 : UInt8)] : ByteArray }].getD
                                  (IntKind.i64.wrap n).toNat (u.dflt (9 : Nat))) ||
                          worthS (IntKind.i64.wrap n) != [(0 : Int), (0 : Int), (0 : Int), (1 : Int), (2 : Int), (3 : Int)].getD (IntKind.i64.wrap n).toNat (u.dflt (3 : Nat))) =
                        false →
                      ((0 : Int) ≤ (1 : Int) ∧ (1 : Int) < (↑[IntKind.i64.wrap n, (IntKind.i64.wrap m).tmod (6 : Int)].length : Int)) ∧
                        ((decide ((IntKind.i64.wrap m).tmod (6 : Int) ≥ (0 : Int)) && decide ((IntKind.i64.wrap m).tmod (6 : Int) < (6 : Int))) = true →
                            ((0 : Int) ≤ (IntKind.i64.wrap m).tmod (6 : Int) ∧ (IntKind.i64.wrap m).tmod (6 : Int) < (6 : Int)) ∧
                              ((0 : Int) ≤ (IntKind.i64.wrap m).tmod (6 : Int) ∧ (IntKind.i64.wrap m).tmod (6 : Int) < (6 : Int)) ∧
                                ((!(nameS ((IntKind.i64.wrap m).tmod (6 : Int))).toList ==
                                            ByteArray.toList
                                              ([{ data := #[(102 : UInt8), (114 : UInt8), (101 : UInt8), (101 : UInt8)] : ByteArray },
                                                    { data := #[(112 : UInt8), (108 : UInt8), (97 : UInt8), (110 : UInt8), (110 : UInt8), (101 : UInt8), (100 : UInt8)] : ByteArray },
                                                    { data := #[(97 : UInt8), (99 : UInt8), (116 : UInt8), (105 : UInt8), (118 : UInt8), (101 : UInt8)] : ByteArray },
                                                    { data := #[(115 : UInt8), (116 : UInt8), (97 : UInt8), (108 : UInt8), (101 : UInt8)] : ByteArray },
                                                    { data := #[(114 : UInt8), (111 : UInt8), (103 : UInt8), (117 : UInt8), (101 : UInt8)] : ByteArray },
                                                    { data := #[(99 : UInt8), (111 : UInt8), (110 : UInt8), (102 : UInt8), (108 : UInt8), (105 : UInt8), (99 : UInt8), (116 : UInt8)] : ByteArray }].getD
                                                ((IntKind.i64.wrap m).tmod (6 : Int)).toNat (u.dflt (9 : Nat))) ||
                                        worthS ((IntKind.i64.wrap m).tmod (6 : Int)) !=
                                          [(0 : Int), (0 : Int), (0 : Int), (1 : Int), (2 : Int), (3 : Int)].getD ((IntKind.i64.wrap m).tmod (6 : Int)).toNat (u.dflt (3 : Nat))) =
                                      true →
                                    false = true) ∧
                                  ((!(nameS ((IntKind.i64.wrap m).tmod (6 : Int))).toList ==
                                            ByteArray.toList
                                              ([{ data := #[(102 : UInt8), (114 : UInt8), (101 : UInt8), (101 : UInt8)] : ByteArray },
                                                    { data := #[(112 : UInt8), (108 : UInt8), (97 : UInt8), (110 : UInt8), (110 : UInt8), (101 : UInt8), (100 : UInt8)] : ByteArray },
                                                    { data := #[(97 : UInt8), (99 : UInt8), (116 : UInt8), (105 : UInt8), (118 : UInt8), (101 : UInt8)] : ByteArray },
                                                    { data := #[(115 : UInt8), (116 : UInt8), (97 : UInt8), (108 : UInt8), (101 : UInt8)] : ByteArray },
                                                    { data := #[(114 : UInt8), (111 : UInt8), (103 : UInt8), (117 : UInt8), (101 : UInt8)] : ByteArray },
                                                    { data := #[(99 : UInt8), (111 : UInt8), (110 : UInt8), (102 : UInt8), (108 : UInt8), (105 : UInt8), (99 : UInt8), (116 : UInt8)] : ByteArray }].getD
                                                ((IntKind.i64.wrap m).tmod (6 : Int)).toNat (u.dflt (9 : Nat))) ||
                                        worthS ((IntKind.i64.wrap m).tmod (6 : Int)) !=
                                          [(0 : Int), (0 : Int), (0 : Int), (1 : Int), (2 : Int), (3 : Int)].getD ((IntKind.i64.wrap m).tmod (6 : Int)).toNat (u.dflt (3 : Nat))) =
                                      false →
                                    true = true)) ∧
                          ((decide ((IntKind.i64.wrap m).tmod (6 : Int) ≥ (0 : Int)) && decide ((IntKind.i64.wrap m).tmod (6 : Int) < (6 : Int))) = false →
                            ((!(nameS ((IntKind.i64.wrap m).tmod (6 : Int))).toList == { data := #[(45 : UInt8)] : ByteArray }.toList || worthS ((IntKind.i64.wrap m).tmod (6 : Int)) != (0 : Int)) = true → false = true) ∧
                              ((!(nameS ((IntKind.i64.wrap m).tmod (6 : Int))).toList == { data := #[(45 : UInt8)] : ByteArray }.toList || worthS ((IntKind.i64.wrap m).tmod (6 : Int)) != (0 : Int)) = false →
                                true = true)))) ∧
            ((decide (IntKind.i64.wrap n ≥ (0 : Int)) && decide (IntKind.i64.wrap n < (6 : Int))) = false →
              ((!(nameS (IntKind.i64.wrap n)).toList == { data := #[(45 : UInt8)] : ByteArray }.toList || worthS (IntKind.i64.wrap n) != (0 : Int)) = true → false = true) ∧
                ((!(nameS (IntKind.i64.wrap n)).toList == { data := #[(45 : UInt8)] : ByteArray }.toList || worthS (IntKind.i64.wrap n) != (0 : Int)) = false →
                  ((0 : Int) ≤ (1 : Int) ∧ (1 : Int) < (↑[IntKind.i64.wrap n, (IntKind.i64.wrap m).tmod (6 : Int)].length : Int)) ∧
                    ((decide ((IntKind.i64.wrap m).tmod (6 : Int) ≥ (0 : Int)) && decide ((IntKind.i64.wrap m).tmod (6 : Int) < (6 : Int))) = true →
                        ((0 : Int) ≤ (IntKind.i64.wrap m).tmod (6 : Int) ∧ (IntKind.i64.wrap m).tmod (6 : Int) < (6 : Int)) ∧
                          ((0 : Int) ≤ (IntKind.i64.wrap m).tmod (6 : Int) ∧ (IntKind.i64.wrap m).tmod (6 : Int) < (6 : Int)) ∧
                            ((!(nameS ((IntKind.i64.wrap m).tmod (6 : Int))).toList ==
                                        ByteArray.toList
                                          ([{ data := #[(102 : UInt8), (114 : UInt8), (101 : UInt8), (101 : UInt8)] : ByteArray },
                                                { data := #[(112 : UInt8), (108 : UInt8), (97 : UInt8), (110 : UInt8), (110 : UInt8), (101 : UInt8), (100 : UInt8)] : ByteArray },
                                                { data := #[(97 : UInt8), (99 : UInt8), (116 : UInt8), (105 : UInt8), (118 : UInt8), (101 : UInt8)] : ByteArray },
                                                { data := #[(115 : UInt8), (116 : UInt8), (97 : UInt8), (108 : UInt8), (101 : UInt8)] : ByteArray },
                                                { data := #[(114 : UInt8), (111 : UInt8), (103 : UInt8), (117 : UInt8), (101 : UInt8)] : ByteArray },
                                                { data := #[(99 : UInt8), (111 : UInt8), (110 : UInt8), (102 : UInt8), (108 : UInt8), (105 : UInt8), (99 : UInt8), (116 : UInt8)] : ByteArray }].getD
                                            ((IntKind.i64.wrap m).tmod (6 : Int)).toNat (u.dflt (9 : Nat))) ||
                                    worthS ((IntKind.i64.wrap m).tmod (6 : Int)) !=
                                      [(0 : Int), (0 : Int), (0 : Int), (1 : Int), (2 : Int), (3 : Int)].getD ((IntKind.i64.wrap m).tmod (6 : Int)).toNat (u.dflt (3 : Nat))) =
                                  true →
                                false = true) ∧
                              ((!(nameS ((IntKind.i64.wrap m).tmod (6 : Int))).toList ==
                                        ByteArray.toList
                                          ([{ data := #[(102 : UInt8), (114 : UInt8), (101 : UInt8), (101 : UInt8)] : ByteArray },
                                                { data := #[(112 : UInt8), (108 : UInt8), (97 : UInt8), (110 : UInt8), (110 : UInt8), (101 : UInt8), (100 : UInt8)] : ByteArray },
                                                { data := #[(97 : UInt8), (99 : UInt8), (116 : UInt8), (105 : UInt8), (118 : UInt8), (101 : UInt8)] : ByteArray },
                                                { data := #[(115 : UInt8), (116 : UInt8), (97 : UInt8), (108 : UInt8), (101 : UInt8)] : ByteArray },
                                                { data := #[(114 : UInt8), (111 : UInt8), (103 : UInt8), (117 : UInt8), (101 : UInt8)] : ByteArray },
                                                { data := #[(99 : UInt8), (111 : UInt8), (110 : UInt8), (102 : UInt8), (108 : UInt8), (105 : UInt8), (99 : UInt8), (116 : UInt8)] : ByteArray }].getD
                                            ((IntKind.i64.wrap m).tmod (6 : Int)).toNat (u.dflt (9 : Nat))) ||
                                    worthS ((IntKind.i64.wrap m).tmod (6 : Int)) !=
                                      [(0 : Int), (0 : Int), (0 : Int), (1 : Int), (2 : Int), (3 : Int)].getD ((IntKind.i64.wrap m).tmod (6 : Int)).toNat (u.dflt (3 : Nat))) =
                                  false →
                                true = true)) ∧
                      ((decide ((IntKind.i64.wrap m).tmod (6 : Int) ≥ (0 : Int)) && decide ((IntKind.i64.wrap m).tmod (6 : Int) < (6 : Int))) = false →
                        ((!(nameS ((IntKind.i64.wrap m).tmod (6 : Int))).toList == { data := #[(45 : UInt8)] : ByteArray }.toList || worthS ((IntKind.i64.wrap m).tmod (6 : Int)) != (0 : Int)) = true → false = true) ∧
                          ((!(nameS ((IntKind.i64.wrap m).tmod (6 : Int))).toList == { data := #[(45 : UInt8)] : ByteArray }.toList || worthS ((IntKind.i64.wrap m).tmod (6 : Int)) != (0 : Int)) = false → true = true)))))

def vcEvict : Int → Int → Int → Int → Int → Int → Int → Int → Int → List Seen → Int → Bool → Int → Prop :=
  fun (c0 c1 c2 c3 c4 c5 c6 c7 c8 : Int) (xs : List Seen) (mc : Int) (hd : Bool) (nw : Int) =>
  ((!true) = true → false = true) ∧
    ((!true) = false →
      xs.length < (9223372036854775808 : Nat) ∧
        (hd = true →
            ((sightsL xs).length * (24 : Nat) ≤ (140737488355328 : Nat) ∧ fc (6 : Int) c2 < (4611686018427387904 : Int)) ∧
              (∃ (g : Nat),
                  (g ≤ (sightsL xs).length ∧ (g = (0 : Nat) ∨ fc (6 : Int) c2 + (↑g : Int) < (↑(sightsL xs).length : Int))) ∧
                    (nw = nw ∧
                        True ∧
                          True ∧
                            ofH (fc (30 : Int) c0) (IntKind.i64.wrap (fc (30 : Int) c0 + fz (60 : Int) c1)) (fc (6 : Int) c2) (IntKind.i64.wrap nw)
                                  { m0 := (station mc).m0, m1 := (station mc).m1, m2 := (station mc).m2, m3 := (station mc).m3, m4 := (station mc).m4, m5 := (station mc).m5 : Mac } (sightsL xs) =
                                ofH (fc (30 : Int) c0) (IntKind.i64.wrap (fc (30 : Int) c0 + fz (60 : Int) c1)) (fc (6 : Int) c2) (IntKind.i64.wrap nw)
                                  { m0 := (station mc).m0, m1 := (station mc).m1, m2 := (station mc).m2, m3 := (station mc).m3, m4 := (station mc).m4, m5 := (station mc).m5 : Mac } (sightsL xs) ∧
                              sightsL xs = List.drop g (sightsL xs)) ∧
                      (fc (30 : Int) c0 = fc (30 : Int) c0 ∧
                          IntKind.i64.wrap (fc (30 : Int) c0 + fz (60 : Int) c1) = IntKind.i64.wrap (fc (30 : Int) c0 + fz (60 : Int) c1) ∧
                            fc (6 : Int) c2 = fc (6 : Int) c2 ∧
                              fc (20 : Int) c3 = fc (20 : Int) c3 ∧
                                fc (9 : Int) c4 = fc (9 : Int) c4 ∧ fc (6 : Int) c5 = fc (6 : Int) c5 ∧ fz (4 : Int) c6 = fz (4 : Int) c6 ∧ fc (40 : Int) c7 = fc (40 : Int) c7 ∧ fz (50 : Int) c8 = fz (50 : Int) c8) ∧
                        (0 : Int) = (0 : Int) ∧
                          { data := #[] : ByteArray } = { data := #[] : ByteArray } ∧
                            (station mc).m0 = (station mc).m0 ∧
                              (station mc).m1 = (station mc).m1 ∧ (station mc).m2 = (station mc).m2 ∧ (station mc).m3 = (station mc).m3 ∧ (station mc).m4 = (station mc).m4 ∧ (station mc).m5 = (station mc).m5) ∧
                ∀ (g : Nat),
                  g ≤ (sightsL xs).length ∧ (g = (0 : Nat) ∨ fc (6 : Int) c2 + (↑g : Int) < (↑(sightsL xs).length : Int)) →
                    (decide ((↑(List.drop g (sightsL xs)).length : Int) > IntKind.i64.wrap (fc (6 : Int) c2 + (1 : Int))) = true →
                        ((0 : Int) ≤ (1 : Int) ∧ (1 : Int) ≤ (↑(List.drop g (sightsL xs)).length : Int) ∧ (↑(List.drop g (sightsL xs)).length : Int) ≤ (↑(List.drop g (sightsL xs)).length : Int)) ∧
                          ((List.drop (1 : Nat) (List.take (↑(List.drop g (sightsL xs)).length : Int).toNat (List.drop g (sightsL xs)))).length * (24 : Nat) ≤ (140737488355328 : Nat) ∧
                              fc (6 : Int) c2 < (4611686018427387904 : Int)) ∧
                            ((ofH (fc (30 : Int) c0) (IntKind.i64.wrap (fc (30 : Int) c0 + fz (60 : Int) c1)) (fc (6 : Int) c2) (IntKind.i64.wrap nw)
                                      { m0 := (station mc).m0, m1 := (station mc).m1, m2 := (station mc).m2, m3 := (station mc).m3, m4 := (station mc).m4, m5 := (station mc).m5 : Mac }
                                      (List.drop (1 : Nat) (List.take (↑(List.drop g (sightsL xs)).length : Int).toNat (List.drop g (sightsL xs)))) !=
                                    ofH (fc (30 : Int) c0) (IntKind.i64.wrap (fc (30 : Int) c0 + fz (60 : Int) c1)) (fc (6 : Int) c2) (IntKind.i64.wrap nw)
                                      { m0 := (station mc).m0, m1 := (station mc).m1, m2 := (station mc).m2, m3 := (station mc).m3, m4 := (station mc).m4, m5 := (station mc).m5 : Mac } (sightsL xs)) =
                                  true →
                                false = true) ∧
                              ((ofH (fc (30 : Int) c0) (IntKind.i64.wrap (fc (30 : Int) c0 + fz (60 : Int) c1)) (fc (6 : Int) c2) (IntKind.i64.wrap nw)
                                      { m0 := (station mc).m0, m1 := (station mc).m1, m2 := (station mc).m2, m3 := (station mc).m3, m4 := (station mc).m4, m5 := (station mc).m5 : Mac }
                                      (List.drop (1 : Nat) (List.take (↑(List.drop g (sightsL xs)).length : Int).toNat (List.drop g (sightsL xs)))) !=
                                    ofH (fc (30 : Int) c0) (IntKind.i64.wrap (fc (30 : Int) c0 + fz (60 : Int) c1)) (fc (6 : Int) c2) (IntKind.i64.wrap nw)
                                      { m0 := (station mc).m0, m1 := (station mc).m1, m2 := (station mc).m2, m3 := (station mc).m3, m4 := (station mc).m4, m5 := (station mc).m5 : Mac } (sightsL xs)) =
                                  false →
                                ∃ (g_1 : Nat),
                                  (g_1 ≤ (sightsL xs).length ∧ (g_1 = (0 : Nat) ∨ fc (6 : Int) c2 + (↑g_1 : Int) < (↑(sightsL xs).length : Int))) ∧
                                    (annEvict (fc (6 : Int) c2) (sightsL xs)).μ g_1 < (annEvict (fc (6 : Int) c2) (sightsL xs)).μ g ∧
                                      (nw = nw ∧
                                          True ∧
                                            True ∧
                                              ofH (fc (30 : Int) c0) (IntKind.i64.wrap (fc (30 : Int) c0 + fz (60 : Int) c1)) (fc (6 : Int) c2) (IntKind.i64.wrap nw)
                                                    { m0 := (station mc).m0, m1 := (station mc).m1, m2 := (station mc).m2, m3 := (station mc).m3, m4 := (station mc).m4, m5 := (station mc).m5 : Mac } (sightsL xs) =
                                                  ofH (fc (30 : Int) c0) (IntKind.i64.wrap (fc (30 : Int) c0 + fz (60 : Int) c1)) (fc (6 : Int) c2) (IntKind.i64.wrap nw)
                                                    { m0 := (station mc).m0, m1 := (station mc).m1, m2 := (station mc).m2, m3 := (station mc).m3, m4 := (station mc).m4, m5 := (station mc).m5 : Mac } (sightsL xs) ∧
                                                List.drop (1 : Nat) (List.take (↑(List.drop g (sightsL xs)).length : Int).toNat (List.drop g (sightsL xs))) = List.drop g_1 (sightsL xs)) ∧
                                        (fc (30 : Int) c0 = fc (30 : Int) c0 ∧
                                            IntKind.i64.wrap (fc (30 : Int) c0 + fz (60 : Int) c1) = IntKind.i64.wrap (fc (30 : Int) c0 + fz (60 : Int) c1) ∧
                                              fc (6 : Int) c2 = fc (6 : Int) c2 ∧
                                                fc (20 : Int) c3 = fc (20 : Int) c3 ∧
                                                  fc (9 : Int) c4 = fc (9 : Int) c4 ∧
                                                    fc (6 : Int) c5 = fc (6 : Int) c5 ∧ fz (4 : Int) c6 = fz (4 : Int) c6 ∧ fc (40 : Int) c7 = fc (40 : Int) c7 ∧ fz (50 : Int) c8 = fz (50 : Int) c8) ∧
                                          (0 : Int) = (0 : Int) ∧
                                            { data := #[] : ByteArray } = { data := #[] : ByteArray } ∧
                                              (station mc).m0 = (station mc).m0 ∧
                                                (station mc).m1 = (station mc).m1 ∧
                                                  (station mc).m2 = (station mc).m2 ∧ (station mc).m3 = (station mc).m3 ∧ (station mc).m4 = (station mc).m4 ∧ (station mc).m5 = (station mc).m5)) ∧
                      (decide ((↑(List.drop g (sightsL xs)).length : Int) > IntKind.i64.wrap (fc (6 : Int) c2 + (1 : Int))) = false → true = true)) ∧
          (hd = false →
            ((sightsL xs).length * (24 : Nat) ≤ (140737488355328 : Nat) ∧ fc (6 : Int) c2 < (4611686018427387904 : Int)) ∧
              (∃ (g : Nat),
                  (g ≤ (sightsL xs).length ∧ (g = (0 : Nat) ∨ fc (6 : Int) c2 + (↑g : Int) < (↑(sightsL xs).length : Int))) ∧
                    (nw = nw ∧
                        True ∧
                          True ∧
                            ofN (fc (30 : Int) c0) (fc (6 : Int) c2) (IntKind.i64.wrap nw) (sightsL xs) = ofN (fc (30 : Int) c0) (fc (6 : Int) c2) (IntKind.i64.wrap nw) (sightsL xs) ∧
                              sightsL xs = List.drop g (sightsL xs)) ∧
                      fc (30 : Int) c0 = fc (30 : Int) c0 ∧
                        IntKind.i64.wrap (fc (30 : Int) c0 + fz (60 : Int) c1) = IntKind.i64.wrap (fc (30 : Int) c0 + fz (60 : Int) c1) ∧
                          fc (6 : Int) c2 = fc (6 : Int) c2 ∧
                            fc (20 : Int) c3 = fc (20 : Int) c3 ∧
                              fc (9 : Int) c4 = fc (9 : Int) c4 ∧ fc (6 : Int) c5 = fc (6 : Int) c5 ∧ fz (4 : Int) c6 = fz (4 : Int) c6 ∧ fc (40 : Int) c7 = fc (40 : Int) c7 ∧ fz (50 : Int) c8 = fz (50 : Int) c8) ∧
                ∀ (g : Nat),
                  g ≤ (sightsL xs).length ∧ (g = (0 : Nat) ∨ fc (6 : Int) c2 + (↑g : Int) < (↑(sightsL xs).length : Int)) →
                    (decide ((↑(List.drop g (sightsL xs)).length : Int) > IntKind.i64.wrap (fc (6 : Int) c2 + (1 : Int))) = true →
                        ((0 : Int) ≤ (1 : Int) ∧ (1 : Int) ≤ (↑(List.drop g (sightsL xs)).length : Int) ∧ (↑(List.drop g (sightsL xs)).length : Int) ≤ (↑(List.drop g (sightsL xs)).length : Int)) ∧
                          ((List.drop (1 : Nat) (List.take (↑(List.drop g (sightsL xs)).length : Int).toNat (List.drop g (sightsL xs)))).length * (24 : Nat) ≤ (140737488355328 : Nat) ∧
                              fc (6 : Int) c2 < (4611686018427387904 : Int)) ∧
                            ((ofN (fc (30 : Int) c0) (fc (6 : Int) c2) (IntKind.i64.wrap nw) (List.drop (1 : Nat) (List.take (↑(List.drop g (sightsL xs)).length : Int).toNat (List.drop g (sightsL xs)))) !=
                                    ofN (fc (30 : Int) c0) (fc (6 : Int) c2) (IntKind.i64.wrap nw) (sightsL xs)) =
                                  true →
                                false = true) ∧
                              ((ofN (fc (30 : Int) c0) (fc (6 : Int) c2) (IntKind.i64.wrap nw) (List.drop (1 : Nat) (List.take (↑(List.drop g (sightsL xs)).length : Int).toNat (List.drop g (sightsL xs)))) !=
                                    ofN (fc (30 : Int) c0) (fc (6 : Int) c2) (IntKind.i64.wrap nw) (sightsL xs)) =
                                  false →
                                ∃ (g_1 : Nat),
                                  (g_1 ≤ (sightsL xs).length ∧ (g_1 = (0 : Nat) ∨ fc (6 : Int) c2 + (↑g_1 : Int) < (↑(sightsL xs).length : Int))) ∧
                                    (annEvict (fc (6 : Int) c2) (sightsL xs)).μ g_1 < (annEvict (fc (6 : Int) c2) (sightsL xs)).μ g ∧
                                      (nw = nw ∧
                                          True ∧
                                            True ∧
                                              ofN (fc (30 : Int) c0) (fc (6 : Int) c2) (IntKind.i64.wrap nw) (sightsL xs) = ofN (fc (30 : Int) c0) (fc (6 : Int) c2) (IntKind.i64.wrap nw) (sightsL xs) ∧
                                                List.drop (1 : Nat) (List.take (↑(List.drop g (sightsL xs)).length : Int).toNat (List.drop g (sightsL xs))) = List.drop g_1 (sightsL xs)) ∧
                                        fc (30 : Int) c0 = fc (30 : Int) c0 ∧
                                          IntKind.i64.wrap (fc (30 : Int) c0 + fz (60 : Int) c1) = IntKind.i64.wrap (fc (30 : Int) c0 + fz (60 : Int) c1) ∧
                                            fc (6 : Int) c2 = fc (6 : Int) c2 ∧
                                              fc (20 : Int) c3 = fc (20 : Int) c3 ∧
                                                fc (9 : Int) c4 = fc (9 : Int) c4 ∧
                                                  fc (6 : Int) c5 = fc (6 : Int) c5 ∧ fz (4 : Int) c6 = fz (4 : Int) c6 ∧ fc (40 : Int) c7 = fc (40 : Int) c7 ∧ fz (50 : Int) c8 = fz (50 : Int) c8)) ∧
                      (decide ((↑(List.drop g (sightsL xs)).length : Int) > IntKind.i64.wrap (fc (6 : Int) c2 + (1 : Int))) = false → true = true)))

def vcOld : Int → Int → Int → Int → Int → Int → Int → Int → Int → List Seen → Bool → Int → Prop :=
  fun (c0 c1 c2 c3 c4 c5 c6 c7 c8 : Int) (xs : List Seen) (hd : Bool) (n : Int) =>
  ((!true) = true → false = true) ∧
    ((!true) = false →
      xs.length < (9223372036854775808 : Nat) ∧
        (hd = true →
            (hd = true →
                (((↑(sightsL xs).length : Int) == (0 : Int)) = true → True) ∧
                  (((↑(sightsL xs).length : Int) == (0 : Int)) = false → True) ∧
                    ∀ (v : Int),
                      (v = if ((↑(sightsL xs).length : Int) == (0 : Int)) = true then (1 : Int) else (3 : Int)) →
                        (decide ((↑(sightsL xs).length : Int) > (0 : Int)) = true →
                            (0 : Int) ≤ IntKind.i64.wrap ((↑(sightsL xs).length : Int) - (1 : Int)) ∧ IntKind.i64.wrap ((↑(sightsL xs).length : Int) - (1 : Int)) < (↑(sightsL xs).length : Int)) ∧
                          (decide ((↑(sightsL xs).length : Int) > (0 : Int)) = false → True) ∧
                            ∀ (v_1 : Int),
                              (v_1 =
                                  if decide ((↑(sightsL xs).length : Int) > (0 : Int)) = true then ((sightsL xs).getD (IntKind.i64.wrap ((↑(sightsL xs).length : Int) - (1 : Int))).toNat (u.dflt (48 : Nat))).time
                                  else (0 : Int)) →
                                ((sightsL xs).length * (24 : Nat) ≤ (140737488355328 : Nat) ∧ fc (6 : Int) c2 < (4611686018427387904 : Int)) ∧
                                  ((ofH (fc (30 : Int) c0) (IntKind.i64.wrap (fc (30 : Int) c0 + fz (60 : Int) c1)) (fc (6 : Int) c2)
                                            (IntKind.i64.wrap (IntKind.i64.wrap (v_1 + IntKind.i64.wrap (fc (30 : Int) c0 + fz (60 : Int) c1)) + IntKind.i64.wrap n))
                                            { m0 := (0 : Int), m1 := (0 : Int), m2 := (0 : Int), m3 := (0 : Int), m4 := (0 : Int), m5 := (0 : Int) : Mac } (sightsL xs) ==
                                          v) =
                                        true →
                                      (sightsL xs).length * (24 : Nat) ≤ (140737488355328 : Nat) ∧ fc (6 : Int) c2 < (4611686018427387904 : Int)) ∧
                                    (ofH (fc (30 : Int) c0) (IntKind.i64.wrap (fc (30 : Int) c0 + fz (60 : Int) c1)) (fc (6 : Int) c2)
                                            (IntKind.i64.wrap (IntKind.i64.wrap (v_1 + IntKind.i64.wrap (fc (30 : Int) c0 + fz (60 : Int) c1)) + IntKind.i64.wrap n))
                                            { m0 := (0 : Int), m1 := (0 : Int), m2 := (0 : Int), m3 := (0 : Int), m4 := (0 : Int), m5 := (0 : Int) : Mac } (sightsL xs) ==
                                          v &&
                                        ofH (fc (30 : Int) c0) (IntKind.i64.wrap (fc (30 : Int) c0 + fz (60 : Int) c1)) (fc (6 : Int) c2)
                                            (IntKind.i64.wrap (IntKind.i64.wrap (v_1 + IntKind.i64.wrap (fc (30 : Int) c0 + fz (60 : Int) c1)) + (1 : Int)))
                                            { m0 := (0 : Int), m1 := (0 : Int), m2 := (0 : Int), m3 := (0 : Int), m4 := (0 : Int), m5 := (0 : Int) : Mac } (sightsL xs) ==
                                          v) =
                                      true) ∧
              (hd = false →
                (decide ((↑(sightsL xs).length : Int) > (0 : Int)) = true →
                    (0 : Int) ≤ IntKind.i64.wrap ((↑(sightsL xs).length : Int) - (1 : Int)) ∧ IntKind.i64.wrap ((↑(sightsL xs).length : Int) - (1 : Int)) < (↑(sightsL xs).length : Int)) ∧
                  (decide ((↑(sightsL xs).length : Int) > (0 : Int)) = false → True) ∧
                    ∀ (v : Int),
                      (v =
                          if decide ((↑(sightsL xs).length : Int) > (0 : Int)) = true then ((sightsL xs).getD (IntKind.i64.wrap ((↑(sightsL xs).length : Int) - (1 : Int))).toNat (u.dflt (48 : Nat))).time
                          else (0 : Int)) →
                        ((sightsL xs).length * (24 : Nat) ≤ (140737488355328 : Nat) ∧ fc (6 : Int) c2 < (4611686018427387904 : Int)) ∧
                          ((ofH (fc (30 : Int) c0) (IntKind.i64.wrap (fc (30 : Int) c0 + fz (60 : Int) c1)) (fc (6 : Int) c2)
                                    (IntKind.i64.wrap (IntKind.i64.wrap (v + IntKind.i64.wrap (fc (30 : Int) c0 + fz (60 : Int) c1)) + IntKind.i64.wrap n))
                                    { m0 := (0 : Int), m1 := (0 : Int), m2 := (0 : Int), m3 := (0 : Int), m4 := (0 : Int), m5 := (0 : Int) : Mac } (sightsL xs) ==
                                  (0 : Int)) =
                                true →
                              (sightsL xs).length * (24 : Nat) ≤ (140737488355328 : Nat) ∧ fc (6 : Int) c2 < (4611686018427387904 : Int)) ∧
                            (ofH (fc (30 : Int) c0) (IntKind.i64.wrap (fc (30 : Int) c0 + fz (60 : Int) c1)) (fc (6 : Int) c2)
                                    (IntKind.i64.wrap (IntKind.i64.wrap (v + IntKind.i64.wrap (fc (30 : Int) c0 + fz (60 : Int) c1)) + IntKind.i64.wrap n))
                                    { m0 := (0 : Int), m1 := (0 : Int), m2 := (0 : Int), m3 := (0 : Int), m4 := (0 : Int), m5 := (0 : Int) : Mac } (sightsL xs) ==
                                  (0 : Int) &&
                                ofH (fc (30 : Int) c0) (IntKind.i64.wrap (fc (30 : Int) c0 + fz (60 : Int) c1)) (fc (6 : Int) c2)
                                    (IntKind.i64.wrap (IntKind.i64.wrap (v + IntKind.i64.wrap (fc (30 : Int) c0 + fz (60 : Int) c1)) + (1 : Int)))
                                    { m0 := (0 : Int), m1 := (0 : Int), m2 := (0 : Int), m3 := (0 : Int), m4 := (0 : Int), m5 := (0 : Int) : Mac } (sightsL xs) ==
                                  (0 : Int)) =
                              true)) ∧
          (hd = false →
            (hd = true →
                (((↑(sightsL xs).length : Int) == (0 : Int)) = true → True) ∧
                  (((↑(sightsL xs).length : Int) == (0 : Int)) = false → True) ∧
                    ∀ (v : Int),
                      (v = if ((↑(sightsL xs).length : Int) == (0 : Int)) = true then (1 : Int) else (3 : Int)) →
                        (decide ((↑(sightsL xs).length : Int) > (0 : Int)) = true →
                            (0 : Int) ≤ IntKind.i64.wrap ((↑(sightsL xs).length : Int) - (1 : Int)) ∧ IntKind.i64.wrap ((↑(sightsL xs).length : Int) - (1 : Int)) < (↑(sightsL xs).length : Int)) ∧
                          (decide ((↑(sightsL xs).length : Int) > (0 : Int)) = false → True) ∧
                            ∀ (v_1 : Int),
                              (v_1 =
                                  if decide ((↑(sightsL xs).length : Int) > (0 : Int)) = true then ((sightsL xs).getD (IntKind.i64.wrap ((↑(sightsL xs).length : Int) - (1 : Int))).toNat (u.dflt (48 : Nat))).time
                                  else (0 : Int)) →
                                ((sightsL xs).length * (24 : Nat) ≤ (140737488355328 : Nat) ∧ fc (6 : Int) c2 < (4611686018427387904 : Int)) ∧
                                  ((ofN (fc (30 : Int) c0) (fc (6 : Int) c2) (IntKind.i64.wrap (IntKind.i64.wrap (v_1 + IntKind.i64.wrap (fc (30 : Int) c0 + fz (60 : Int) c1)) + IntKind.i64.wrap n)) (sightsL xs) == v) =
                                        true →
                                      (sightsL xs).length * (24 : Nat) ≤ (140737488355328 : Nat) ∧ fc (6 : Int) c2 < (4611686018427387904 : Int)) ∧
                                    (ofN (fc (30 : Int) c0) (fc (6 : Int) c2) (IntKind.i64.wrap (IntKind.i64.wrap (v_1 + IntKind.i64.wrap (fc (30 : Int) c0 + fz (60 : Int) c1)) + IntKind.i64.wrap n)) (sightsL xs) == v &&
                                        ofN (fc (30 : Int) c0) (fc (6 : Int) c2) (IntKind.i64.wrap (IntKind.i64.wrap (v_1 + IntKind.i64.wrap (fc (30 : Int) c0 + fz (60 : Int) c1)) + (1 : Int))) (sightsL xs) == v) =
                                      true) ∧
              (hd = false →
                (decide ((↑(sightsL xs).length : Int) > (0 : Int)) = true →
                    (0 : Int) ≤ IntKind.i64.wrap ((↑(sightsL xs).length : Int) - (1 : Int)) ∧ IntKind.i64.wrap ((↑(sightsL xs).length : Int) - (1 : Int)) < (↑(sightsL xs).length : Int)) ∧
                  (decide ((↑(sightsL xs).length : Int) > (0 : Int)) = false → True) ∧
                    ∀ (v : Int),
                      (v =
                          if decide ((↑(sightsL xs).length : Int) > (0 : Int)) = true then ((sightsL xs).getD (IntKind.i64.wrap ((↑(sightsL xs).length : Int) - (1 : Int))).toNat (u.dflt (48 : Nat))).time
                          else (0 : Int)) →
                        ((sightsL xs).length * (24 : Nat) ≤ (140737488355328 : Nat) ∧ fc (6 : Int) c2 < (4611686018427387904 : Int)) ∧
                          ((ofN (fc (30 : Int) c0) (fc (6 : Int) c2) (IntKind.i64.wrap (IntKind.i64.wrap (v + IntKind.i64.wrap (fc (30 : Int) c0 + fz (60 : Int) c1)) + IntKind.i64.wrap n)) (sightsL xs) == (0 : Int)) =
                                true →
                              (sightsL xs).length * (24 : Nat) ≤ (140737488355328 : Nat) ∧ fc (6 : Int) c2 < (4611686018427387904 : Int)) ∧
                            (ofN (fc (30 : Int) c0) (fc (6 : Int) c2) (IntKind.i64.wrap (IntKind.i64.wrap (v + IntKind.i64.wrap (fc (30 : Int) c0 + fz (60 : Int) c1)) + IntKind.i64.wrap n)) (sightsL xs) == (0 : Int) &&
                                ofN (fc (30 : Int) c0) (fc (6 : Int) c2) (IntKind.i64.wrap (IntKind.i64.wrap (v + IntKind.i64.wrap (fc (30 : Int) c0 + fz (60 : Int) c1)) + (1 : Int))) (sightsL xs) == (0 : Int)) =
                              true)))

def vcActive : Int → Int → Int → Int → Int → Int → Int → Int → Int → Int → Int → Int → Prop :=
  fun (c0 c1 c2 c3 c4 c5 c6 c7 c8 n mc nw : Int) =>
  ((!true) = true → false = true) ∧
    ((!true) = false →
      (∃ (g : Nat),
          (manyOf c2 n - (↑g : Int)).NonNeg ∧
            (n = n ∧ nw = nw ∧ True ∧ True ∧ (0 : Int) = (↑g : Int) ∧ True) ∧
              (fc (30 : Int) c0 = fc (30 : Int) c0 ∧
                  IntKind.i64.wrap (fc (30 : Int) c0 + fz (60 : Int) c1) = IntKind.i64.wrap (fc (30 : Int) c0 + fz (60 : Int) c1) ∧
                    fc (6 : Int) c2 = fc (6 : Int) c2 ∧
                      fc (20 : Int) c3 = fc (20 : Int) c3 ∧
                        fc (9 : Int) c4 = fc (9 : Int) c4 ∧ fc (6 : Int) c5 = fc (6 : Int) c5 ∧ fz (4 : Int) c6 = fz (4 : Int) c6 ∧ fc (40 : Int) c7 = fc (40 : Int) c7 ∧ fz (50 : Int) c8 = fz (50 : Int) c8) ∧
                ((0 : Int) = (0 : Int) ∧
                    { data := #[] : ByteArray } = { data := #[] : ByteArray } ∧
                      (station mc).m0 = (station mc).m0 ∧
                        (station mc).m1 = (station mc).m1 ∧ (station mc).m2 = (station mc).m2 ∧ (station mc).m3 = (station mc).m3 ∧ (station mc).m4 = (station mc).m4 ∧ (station mc).m5 = (station mc).m5) ∧
                  List.replicate g (likeS mc nw) = []) ∧
        ∀ (g : Nat),
          (manyOf c2 n - (↑g : Int)).NonNeg →
            (4 : Int) ≠ (0 : Int) ∧
              (decide ((↑g : Int) < IntKind.i64.wrap (fc (6 : Int) c2 + IntKind.i64.wrap (n.tmod (4 : Int)))) = true →
                  ((List.replicate g (likeS mc nw)).length +
                          [{ src := (1 : Int), mac := { m0 := (station mc).m0, m1 := (station mc).m1, m2 := (station mc).m2, m3 := (station mc).m3, m4 := (station mc).m4, m5 := (station mc).m5 : Mac },
                                time := IntKind.i64.wrap nw : Sight }].length) *
                        (24 : Nat) ≤
                      (140737488355328 : Nat) ∧
                    ∃ (g_1 : Nat),
                      (manyOf c2 n - (↑g_1 : Int)).NonNeg ∧
                        (annActive mc nw (manyOf c2 n)).μ g_1 < (annActive mc nw (manyOf c2 n)).μ g ∧
                          (n = n ∧ nw = nw ∧ True ∧ True ∧ IntKind.i64.wrap ((↑g : Int) + (1 : Int)) = (↑g_1 : Int) ∧ True) ∧
                            (fc (30 : Int) c0 = fc (30 : Int) c0 ∧
                                IntKind.i64.wrap (fc (30 : Int) c0 + fz (60 : Int) c1) = IntKind.i64.wrap (fc (30 : Int) c0 + fz (60 : Int) c1) ∧
                                  fc (6 : Int) c2 = fc (6 : Int) c2 ∧
                                    fc (20 : Int) c3 = fc (20 : Int) c3 ∧
                                      fc (9 : Int) c4 = fc (9 : Int) c4 ∧
                                        fc (6 : Int) c5 = fc (6 : Int) c5 ∧ fz (4 : Int) c6 = fz (4 : Int) c6 ∧ fc (40 : Int) c7 = fc (40 : Int) c7 ∧ fz (50 : Int) c8 = fz (50 : Int) c8) ∧
                              ((0 : Int) = (0 : Int) ∧
                                  { data := #[] : ByteArray } = { data := #[] : ByteArray } ∧
                                    (station mc).m0 = (station mc).m0 ∧
                                      (station mc).m1 = (station mc).m1 ∧ (station mc).m2 = (station mc).m2 ∧ (station mc).m3 = (station mc).m3 ∧ (station mc).m4 = (station mc).m4 ∧ (station mc).m5 = (station mc).m5) ∧
                                List.replicate g (likeS mc nw) ++
                                    [{ src := (1 : Int), mac := { m0 := (station mc).m0, m1 := (station mc).m1, m2 := (station mc).m2, m3 := (station mc).m3, m4 := (station mc).m4, m5 := (station mc).m5 : Mac },
                                        time := IntKind.i64.wrap nw : Sight }] =
                                  List.replicate g_1 (likeS mc nw)) ∧
                (decide ((↑g : Int) < IntKind.i64.wrap (fc (6 : Int) c2 + IntKind.i64.wrap (n.tmod (4 : Int)))) = false →
                  ((List.replicate g (likeS mc nw)).length * (24 : Nat) ≤ (140737488355328 : Nat) ∧ fc (6 : Int) c2 < (4611686018427387904 : Int)) ∧
                    ((ofH (fc (30 : Int) c0) (IntKind.i64.wrap (fc (30 : Int) c0 + fz (60 : Int) c1)) (fc (6 : Int) c2) (IntKind.i64.wrap nw)
                              { m0 := (station mc).m0, m1 := (station mc).m1, m2 := (station mc).m2, m3 := (station mc).m3, m4 := (station mc).m4, m5 := (station mc).m5 : Mac } (List.replicate g (likeS mc nw)) ==
                            (2 : Int)) =
                          true →
                        decide (fc (30 : Int) c0 < (2 : Int)) = false → (List.replicate g (likeS mc nw)).length * (24 : Nat) ≤ (140737488355328 : Nat) ∧ fc (6 : Int) c2 < (4611686018427387904 : Int)) ∧
                      (ofH (fc (30 : Int) c0) (IntKind.i64.wrap (fc (30 : Int) c0 + fz (60 : Int) c1)) (fc (6 : Int) c2) (IntKind.i64.wrap nw)
                              { m0 := (station mc).m0, m1 := (station mc).m1, m2 := (station mc).m2, m3 := (station mc).m3, m4 := (station mc).m4, m5 := (station mc).m5 : Mac } (List.replicate g (likeS mc nw)) ==
                            (2 : Int) &&
                          (decide (fc (30 : Int) c0 < (2 : Int)) ||
                            ofH (fc (30 : Int) c0) (IntKind.i64.wrap (fc (30 : Int) c0 + fz (60 : Int) c1)) (fc (6 : Int) c2) (IntKind.i64.wrap (IntKind.i64.wrap nw + (1 : Int)))
                                { m0 := (station mc).m0, m1 := (station mc).m1, m2 := (station mc).m2, m3 := (station mc).m3, m4 := (station mc).m4, m5 := (station mc).m5 : Mac } (List.replicate g (likeS mc nw)) ==
                              (2 : Int))) =
                        true))


end Go.Proofs.Ytpokkmgnapoomaa.Stat
