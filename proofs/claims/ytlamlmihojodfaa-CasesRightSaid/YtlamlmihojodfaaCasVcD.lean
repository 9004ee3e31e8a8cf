/- Cases: what the law CasesRight comes to (printed by wip/Vc.lean; checked by the kernel in the next text). -/
import Derived.Test.YtlamlmihojodfaaCasSpecC
namespace Go.Proofs.Ytlamlmihojodfaa.Cas
open Go Go.Proofs.Ytlamlmihojodfaa.Sx

def vcRightR : List Cse → Prop :=
  fun (xs : List Cse) =>
  (∃ (g : Nat), (g ≤ xs.length ∧ okR xs g = true) ∧ (xs = xs ∧ xs = xs ∧ (↑xs.length : Int) = (↑xs.length : Int) ∧ (0 : Int) = (↑g : Int) ∧ True) ∧ [] = isAt xs g) ∧
    ∀ (g : Nat),
      g ≤ xs.length ∧ okR xs g = true →
        (decide ((↑g : Int) < (↑xs.length : Int)) = true →
            ((0 : Int) ≤ (↑g : Int) ∧ (↑g : Int) < (↑xs.length : Int)) ∧
              ∀ (v : Bool),
                v =
                    (decide ((xs.getD (↑g : Int).toNat (u.dflt (30 : Nat))).stage < (0 : Int)) || decide ((xs.getD (↑g : Int).toNat (u.dflt (30 : Nat))).stage > (5 : Int)) ||
                                decide ((xs.getD (↑g : Int).toNat (u.dflt (30 : Nat))).raised < (0 : Int)) ||
                              decide ((xs.getD (↑g : Int).toNat (u.dflt (30 : Nat))).raised > (1099511627776 : Int)) ||
                            decide ((xs.getD (↑g : Int).toNat (u.dflt (30 : Nat))).ended < (0 : Int)) ||
                          decide ((xs.getD (↑g : Int).toNat (u.dflt (30 : Nat))).ended > (1099511627776 : Int)) ||
                        openC
                            { addr := (xs.getD (↑g : Int).toNat (u.dflt (30 : Nat))).addr, raised := (xs.getD (↑g : Int).toNat (u.dflt (30 : Nat))).raised, ended := (xs.getD (↑g : Int).toNat (u.dflt (30 : Nat))).ended,
                              stage := (xs.getD (↑g : Int).toNat (u.dflt (30 : Nat))).stage : Cse } &&
                          ((xs.getD (↑g : Int).toNat (u.dflt (30 : Nat))).ended != (0 : Int) || getM (isAt xs g) (xs.getD (↑g : Int).toNat (u.dflt (30 : Nat))).addr false) ||
                      !openC
                            { addr := (xs.getD (↑g : Int).toNat (u.dflt (30 : Nat))).addr, raised := (xs.getD (↑g : Int).toNat (u.dflt (30 : Nat))).raised, ended := (xs.getD (↑g : Int).toNat (u.dflt (30 : Nat))).ended,
                              stage := (xs.getD (↑g : Int).toNat (u.dflt (30 : Nat))).stage : Cse } &&
                        decide ((xs.getD (↑g : Int).toNat (u.dflt (30 : Nat))).ended < (xs.getD (↑g : Int).toNat (u.dflt (30 : Nat))).raised)) →
                  (v = true → false = rightR xs) ∧
                    (v = false →
                      ∃ (g_1 : Nat),
                        (g_1 ≤ xs.length ∧ okR xs g_1 = true) ∧
                          (annRightR xs).μ g_1 < (annRightR xs).μ g ∧
                            (xs = xs ∧ xs = xs ∧ (↑xs.length : Int) = (↑xs.length : Int) ∧ IntKind.i64.wrap ((↑g : Int) + (1 : Int)) = (↑g_1 : Int) ∧ True) ∧
                              setM (isAt xs g) (xs.getD (↑g : Int).toNat (u.dflt (30 : Nat))).addr
                                  (getM (isAt xs g) (xs.getD (↑g : Int).toNat (u.dflt (30 : Nat))).addr false ||
                                    openC
                                      { addr := (xs.getD (↑g : Int).toNat (u.dflt (30 : Nat))).addr, raised := (xs.getD (↑g : Int).toNat (u.dflt (30 : Nat))).raised,
                                        ended := (xs.getD (↑g : Int).toNat (u.dflt (30 : Nat))).ended, stage := (xs.getD (↑g : Int).toNat (u.dflt (30 : Nat))).stage : Cse }) =
                                isAt xs g_1)) ∧
          (decide ((↑g : Int) < (↑xs.length : Int)) = false → decide ((↑xs.length : Int) ≤ (16 : Int)) = rightR xs)

def vcLRight : List Cse → Int → Int → Int → Int → Int → Int → Int → Int → Int → List Act → Int → Int → Int → Int → Int → Prop :=
  fun (raw : List Cse) (c0 c1 c2 c3 c4 c5 c6 c7 c8 : Int) (xs : List Act) (n x y z s : Int) =>
  ((!true) = true → false = true) ∧
    ((!true) = false →
      xs.length.succ.le (9223372036854775808 : Nat) ∧
        ∀ (v : List Cse),
          v = (someL (fc (40 : Int) c7) (fz (50 : Int) c8) xs).fst →
            ((0 : Int) ≤ (0 : Int) ∧ (0 : Int) ≤ mn (↑raw.length : Int) (100 : Int) ∧ mn (↑raw.length : Int) (100 : Int) ≤ (↑raw.length : Int)) ∧
              v.length.succ.le (9223372036854775808 : Nat) ∧
                ((!rightB v) = true → false = true) ∧
                  ((!rightB v) = false →
                    v.length * (32 : Nat) ≤ (140737488355328 : Nat) ∧
                      (decide ((↑v.length : Int) > (0 : Int)) = true →
                          (↑v.length : Int) ≠ (0 : Int) ∧
                            ((0 : Int) ≤ (IntKind.i64.wrap n).tmod (↑v.length : Int) ∧ (IntKind.i64.wrap n).tmod (↑v.length : Int) < (↑v.length : Int)) ∧
                              (v.set ((IntKind.i64.wrap n).tmod (↑v.length : Int)).toNat { addr := x, raised := y, ended := z, stage := s : Cse }).length.succ.le (9223372036854775808 : Nat) ∧
                                (v.set ((IntKind.i64.wrap n).tmod (↑v.length : Int)).toNat { addr := x, raised := y, ended := z, stage := s : Cse }).length.succ.le (9223372036854775808 : Nat) ∧
                                  ((rightB (v.set ((IntKind.i64.wrap n).tmod (↑v.length : Int)).toNat { addr := x, raised := y, ended := z, stage := s : Cse }) ==
                                          rightR (v.set ((IntKind.i64.wrap n).tmod (↑v.length : Int)).toNat { addr := x, raised := y, ended := z, stage := s : Cse })) =
                                        true →
                                      (List.drop (0 : Nat) (List.take (mn (↑raw.length : Int) (100 : Int)).toNat raw)).length.succ.le (9223372036854775808 : Nat)) ∧
                                    ((rightB (v.set ((IntKind.i64.wrap n).tmod (↑v.length : Int)).toNat { addr := x, raised := y, ended := z, stage := s : Cse }) ==
                                            rightR (v.set ((IntKind.i64.wrap n).tmod (↑v.length : Int)).toNat { addr := x, raised := y, ended := z, stage := s : Cse })) =
                                          true →
                                        (List.drop (0 : Nat) (List.take (mn (↑raw.length : Int) (100 : Int)).toNat raw)).length.succ.le (9223372036854775808 : Nat)) ∧
                                      (rightB (v.set ((IntKind.i64.wrap n).tmod (↑v.length : Int)).toNat { addr := x, raised := y, ended := z, stage := s : Cse }) ==
                                              rightR (v.set ((IntKind.i64.wrap n).tmod (↑v.length : Int)).toNat { addr := x, raised := y, ended := z, stage := s : Cse }) &&
                                            rightB (List.drop (0 : Nat) (List.take (mn (↑raw.length : Int) (100 : Int)).toNat raw)) ==
                                              rightR (List.drop (0 : Nat) (List.take (mn (↑raw.length : Int) (100 : Int)).toNat raw)) &&
                                          openC { addr := x, raised := y, ended := z, stage := s : Cse } == openC { addr := x, raised := y, ended := z, stage := s : Cse }) =
                                        true) ∧
                        (decide ((↑v.length : Int) > (0 : Int)) = false →
                          v.length.succ.le (9223372036854775808 : Nat) ∧
                            v.length.succ.le (9223372036854775808 : Nat) ∧
                              ((rightB v == rightR v) = true → (List.drop (0 : Nat) (List.take (mn (↑raw.length : Int) (100 : Int)).toNat raw)).length.succ.le (9223372036854775808 : Nat)) ∧
                                ((rightB v == rightR v) = true → (List.drop (0 : Nat) (List.take (mn (↑raw.length : Int) (100 : Int)).toNat raw)).length.succ.le (9223372036854775808 : Nat)) ∧
                                  (rightB v == rightR v &&
                                        rightB (List.drop (0 : Nat) (List.take (mn (↑raw.length : Int) (100 : Int)).toNat raw)) ==
                                          rightR (List.drop (0 : Nat) (List.take (mn (↑raw.length : Int) (100 : Int)).toNat raw)) &&
                                      openC { addr := x, raised := y, ended := z, stage := s : Cse } == openC { addr := x, raised := y, ended := z, stage := s : Cse }) =
                                    true)))


end Go.Proofs.Ytlamlmihojodfaa.Cas
