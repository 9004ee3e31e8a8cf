/- Cases: what the laws come to (printed by wip/Vc.lean; checked by the kernel in the next text). -/
import Derived.Test.YtlamlmihojodfaaCasSpecB
namespace Go.Proofs.Ytlamlmihojodfaa.Cas
open Go Go.Proofs.Ytlamlmihojodfaa.Sx

def vcLFind : List Cse → Int → Int → Prop :=
  fun (xs : List Cse) (n x : Int) =>
  ((!true) = true → false = true) ∧
    ((!true) = false →
      (∃ (g : Nat), g.le (2 : Nat) ∧ xs = xs ∧ (↑[x, nearA n].length : Int) = (↑[x, nearA n].length : Int) ∧ [x, nearA n] = twoA x n ∧ (0 : Int) = (↑g : Int)) ∧
        ∀ (g : Nat),
          g.le (2 : Nat) →
            (decide ((↑g : Int) < (↑[x, nearA n].length : Int)) = true →
                ((0 : Int) ≤ (↑g : Int) ∧ (↑g : Int) < (↑(twoA x n).length : Int)) ∧
                  (∃ (g_1 : Nat),
                      g_1.le xs.length ∧
                        xs = xs ∧
                          (twoA x n).getD (↑g : Int).toNat (u.dflt (24 : Nat)) = (twoA x n).getD (↑g : Int).toNat (u.dflt (24 : Nat)) ∧
                            twoA x n = twoA x n ∧
                              (↑[x, nearA n].length : Int) = (↑[x, nearA n].length : Int) ∧
                                (↑g : Int) = (↑g : Int) ∧ xs = xs ∧ (↑xs.length : Int) = (↑xs.length : Int) ∧ (0 : Int) = (↑g_1 : Int) ∧ (-1 : Int) = wantTo ((twoA x n).getD g (0 : Int)) xs g_1) ∧
                    ∀ (g_1 : Nat),
                      g_1.le xs.length →
                        (decide ((↑g_1 : Int) < (↑xs.length : Int)) = true →
                            ((0 : Int) ≤ (↑g_1 : Int) ∧ (↑g_1 : Int) < (↑xs.length : Int)) ∧
                              ((decide (wantTo ((twoA x n).getD g (0 : Int)) xs g_1 < (0 : Int)) && (xs.getD (↑g_1 : Int).toNat (u.dflt (30 : Nat))).addr == (twoA x n).getD (↑g : Int).toNat (u.dflt (24 : Nat)) &&
                                      openC
                                        { addr := (xs.getD (↑g_1 : Int).toNat (u.dflt (30 : Nat))).addr, raised := (xs.getD (↑g_1 : Int).toNat (u.dflt (30 : Nat))).raised,
                                          ended := (xs.getD (↑g_1 : Int).toNat (u.dflt (30 : Nat))).ended, stage := (xs.getD (↑g_1 : Int).toNat (u.dflt (30 : Nat))).stage : Cse }) =
                                    true →
                                  True) ∧
                                ((decide (wantTo ((twoA x n).getD g (0 : Int)) xs g_1 < (0 : Int)) && (xs.getD (↑g_1 : Int).toNat (u.dflt (30 : Nat))).addr == (twoA x n).getD (↑g : Int).toNat (u.dflt (24 : Nat)) &&
                                        openC
                                          { addr := (xs.getD (↑g_1 : Int).toNat (u.dflt (30 : Nat))).addr, raised := (xs.getD (↑g_1 : Int).toNat (u.dflt (30 : Nat))).raised,
                                            ended := (xs.getD (↑g_1 : Int).toNat (u.dflt (30 : Nat))).ended, stage := (xs.getD (↑g_1 : Int).toNat (u.dflt (30 : Nat))).stage : Cse }) =
                                      false →
                                    True) ∧
                                  ∀ (v : Int),
                                    (v =
                                        if
                                            (decide (wantTo ((twoA x n).getD g (0 : Int)) xs g_1 < (0 : Int)) &&
                                                  (xs.getD (↑g_1 : Int).toNat (u.dflt (30 : Nat))).addr == (twoA x n).getD (↑g : Int).toNat (u.dflt (24 : Nat)) &&
                                                openC
                                                  { addr := (xs.getD (↑g_1 : Int).toNat (u.dflt (30 : Nat))).addr, raised := (xs.getD (↑g_1 : Int).toNat (u.dflt (30 : Nat))).raised,
                                                    ended := (xs.getD (↑g_1 : Int).toNat (u.dflt (30 : Nat))).ended, stage := (xs.getD (↑g_1 : Int).toNat (u.dflt (30 : Nat))).stage : Cse }) =
                                              true then
                                          (↑g_1 : Int)
                                        else wantTo ((twoA x n).getD g (0 : Int)) xs g_1) →
                                      ∃ (g_2 : Nat),
                                        g_2.le xs.length ∧
                                          (annFindI xs x n g).μ g_2 < (annFindI xs x n g).μ g_1 ∧
                                            xs = xs ∧
                                              (twoA x n).getD (↑g : Int).toNat (u.dflt (24 : Nat)) = (twoA x n).getD (↑g : Int).toNat (u.dflt (24 : Nat)) ∧
                                                twoA x n = twoA x n ∧
                                                  (↑[x, nearA n].length : Int) = (↑[x, nearA n].length : Int) ∧
                                                    (↑g : Int) = (↑g : Int) ∧
                                                      xs = xs ∧ (↑xs.length : Int) = (↑xs.length : Int) ∧ IntKind.i64.wrap ((↑g_1 : Int) + (1 : Int)) = (↑g_2 : Int) ∧ v = wantTo ((twoA x n).getD g (0 : Int)) xs g_2) ∧
                          (decide ((↑g_1 : Int) < (↑xs.length : Int)) = false →
                            xs.length.succ.le (9223372036854775808 : Nat) ∧
                              ((firstI (hitF ((twoA x n).getD (↑g : Int).toNat (u.dflt (24 : Nat)))) xs != wantTo ((twoA x n).getD g (0 : Int)) xs g_1) = true → false = true) ∧
                                ((firstI (hitF ((twoA x n).getD (↑g : Int).toNat (u.dflt (24 : Nat)))) xs != wantTo ((twoA x n).getD g (0 : Int)) xs g_1) = false →
                                  ∃ (g_2 : Nat),
                                    g_2.le (2 : Nat) ∧
                                      (annFind x n).μ g_2 < (annFind x n).μ g ∧
                                        xs = xs ∧ (↑[x, nearA n].length : Int) = (↑[x, nearA n].length : Int) ∧ twoA x n = twoA x n ∧ IntKind.i64.wrap ((↑g : Int) + (1 : Int)) = (↑g_2 : Int)))) ∧
              (decide ((↑g : Int) < (↑[x, nearA n].length : Int)) = false → true = true))

def vcLEnds : Int → Int → Int → Int → Int → Int → Int → Int → Int → List Act → Prop :=
  fun (c0 c1 c2 c3 c4 c5 c6 c7 c8 : Int) (xs : List Act) =>
  ((!true) = true → false = true) ∧
    ((!true) = false →
      xs.length.succ.le (9223372036854775808 : Nat) ∧
        (someL (fc (40 : Int) c7) (fz (50 : Int) c8) xs).fst.length.le (1000000 : Nat) ∧
          (∃ (g : Nat),
              g.le (lastE (fc (40 : Int) c7) (fz (50 : Int) c8) xs).length ∧
                tickL (fc (40 : Int) c7) (IntKind.i64.wrap ((someL (fc (40 : Int) c7) (fz (50 : Int) c8) xs).snd + fc (40 : Int) c7)) (someL (fc (40 : Int) c7) (fz (50 : Int) c8) xs).fst =
                    tickL (fc (40 : Int) c7) (IntKind.i64.wrap ((someL (fc (40 : Int) c7) (fz (50 : Int) c8) xs).snd + fc (40 : Int) c7)) (someL (fc (40 : Int) c7) (fz (50 : Int) c8) xs).fst ∧
                  tickL (fc (40 : Int) c7) (IntKind.i64.wrap ((someL (fc (40 : Int) c7) (fz (50 : Int) c8) xs).snd + fc (40 : Int) c7)) (someL (fc (40 : Int) c7) (fz (50 : Int) c8) xs).fst =
                      tickL (fc (40 : Int) c7) (IntKind.i64.wrap ((someL (fc (40 : Int) c7) (fz (50 : Int) c8) xs).snd + fc (40 : Int) c7)) (someL (fc (40 : Int) c7) (fz (50 : Int) c8) xs).fst ∧
                    (↑(tickL (fc (40 : Int) c7) (IntKind.i64.wrap ((someL (fc (40 : Int) c7) (fz (50 : Int) c8) xs).snd + fc (40 : Int) c7)) (someL (fc (40 : Int) c7) (fz (50 : Int) c8) xs).fst).length : Int) =
                        (↑(tickL (fc (40 : Int) c7) (IntKind.i64.wrap ((someL (fc (40 : Int) c7) (fz (50 : Int) c8) xs).snd + fc (40 : Int) c7)) (someL (fc (40 : Int) c7) (fz (50 : Int) c8) xs).fst).length : Int) ∧
                      (0 : Int) = (↑g : Int)) ∧
            ∀ (g : Nat),
              g.le (lastE (fc (40 : Int) c7) (fz (50 : Int) c8) xs).length →
                (decide
                        ((↑g : Int) <
                          (↑(tickL (fc (40 : Int) c7) (IntKind.i64.wrap ((someL (fc (40 : Int) c7) (fz (50 : Int) c8) xs).snd + fc (40 : Int) c7)) (someL (fc (40 : Int) c7) (fz (50 : Int) c8) xs).fst).length : Int)) =
                      true →
                    ((0 : Int) ≤ (↑g : Int) ∧
                        (↑g : Int) <
                          (↑(tickL (fc (40 : Int) c7) (IntKind.i64.wrap ((someL (fc (40 : Int) c7) (fz (50 : Int) c8) xs).snd + fc (40 : Int) c7)) (someL (fc (40 : Int) c7) (fz (50 : Int) c8) xs).fst).length : Int)) ∧
                      ((((tickL (fc (40 : Int) c7) (IntKind.i64.wrap ((someL (fc (40 : Int) c7) (fz (50 : Int) c8) xs).snd + fc (40 : Int) c7)) (someL (fc (40 : Int) c7) (fz (50 : Int) c8) xs).fst).getD (↑g : Int).toNat
                                    (u.dflt (30 : Nat))).stage ==
                                (0 : Int) ||
                              openC
                                  {
                                    addr :=
                                      ((tickL (fc (40 : Int) c7) (IntKind.i64.wrap ((someL (fc (40 : Int) c7) (fz (50 : Int) c8) xs).snd + fc (40 : Int) c7)) (someL (fc (40 : Int) c7) (fz (50 : Int) c8) xs).fst).getD
                                          (↑g : Int).toNat (u.dflt (30 : Nat))).addr,
                                    raised :=
                                      ((tickL (fc (40 : Int) c7) (IntKind.i64.wrap ((someL (fc (40 : Int) c7) (fz (50 : Int) c8) xs).snd + fc (40 : Int) c7)) (someL (fc (40 : Int) c7) (fz (50 : Int) c8) xs).fst).getD
                                          (↑g : Int).toNat (u.dflt (30 : Nat))).raised,
                                    ended :=
                                      ((tickL (fc (40 : Int) c7) (IntKind.i64.wrap ((someL (fc (40 : Int) c7) (fz (50 : Int) c8) xs).snd + fc (40 : Int) c7)) (someL (fc (40 : Int) c7) (fz (50 : Int) c8) xs).fst).getD
                                          (↑g : Int).toNat (u.dflt (30 : Nat))).ended,
                                    stage :=
                                      ((tickL (fc (40 : Int) c7) (IntKind.i64.wrap ((someL (fc (40 : Int) c7) (fz (50 : Int) c8) xs).snd + fc (40 : Int) c7)) (someL (fc (40 : Int) c7) (fz (50 : Int) c8) xs).fst).getD
                                          (↑g : Int).toNat (u.dflt (30 : Nat))).stage :
                                    Cse } &&
                                ((tickL (fc (40 : Int) c7) (IntKind.i64.wrap ((someL (fc (40 : Int) c7) (fz (50 : Int) c8) xs).snd + fc (40 : Int) c7)) (someL (fc (40 : Int) c7) (fz (50 : Int) c8) xs).fst).getD
                                      (↑g : Int).toNat (u.dflt (30 : Nat))).stage !=
                                  (1 : Int)) =
                            true →
                          false = true) ∧
                        ((((tickL (fc (40 : Int) c7) (IntKind.i64.wrap ((someL (fc (40 : Int) c7) (fz (50 : Int) c8) xs).snd + fc (40 : Int) c7)) (someL (fc (40 : Int) c7) (fz (50 : Int) c8) xs).fst).getD
                                    (↑g : Int).toNat (u.dflt (30 : Nat))).stage ==
                                (0 : Int) ||
                              openC
                                  {
                                    addr :=
                                      ((tickL (fc (40 : Int) c7) (IntKind.i64.wrap ((someL (fc (40 : Int) c7) (fz (50 : Int) c8) xs).snd + fc (40 : Int) c7)) (someL (fc (40 : Int) c7) (fz (50 : Int) c8) xs).fst).getD
                                          (↑g : Int).toNat (u.dflt (30 : Nat))).addr,
                                    raised :=
                                      ((tickL (fc (40 : Int) c7) (IntKind.i64.wrap ((someL (fc (40 : Int) c7) (fz (50 : Int) c8) xs).snd + fc (40 : Int) c7)) (someL (fc (40 : Int) c7) (fz (50 : Int) c8) xs).fst).getD
                                          (↑g : Int).toNat (u.dflt (30 : Nat))).raised,
                                    ended :=
                                      ((tickL (fc (40 : Int) c7) (IntKind.i64.wrap ((someL (fc (40 : Int) c7) (fz (50 : Int) c8) xs).snd + fc (40 : Int) c7)) (someL (fc (40 : Int) c7) (fz (50 : Int) c8) xs).fst).getD
                                          (↑g : Int).toNat (u.dflt (30 : Nat))).ended,
                                    stage :=
                                      ((tickL (fc (40 : Int) c7) (IntKind.i64.wrap ((someL (fc (40 : Int) c7) (fz (50 : Int) c8) xs).snd + fc (40 : Int) c7)) (someL (fc (40 : Int) c7) (fz (50 : Int) c8) xs).fst).getD
                                          (↑g : Int).toNat (u.dflt (30 : Nat))).stage :
                                    Cse } &&
                                ((tickL (fc (40 : Int) c7) (IntKind.i64.wrap ((someL (fc (40 : Int) c7) (fz (50 : Int) c8) xs).snd + fc (40 : Int) c7)) (someL (fc (40 : Int) c7) (fz (50 : Int) c8) xs).fst).getD
                                      (↑g : Int).toNat (u.dflt (30 : Nat))).stage !=
                                  (1 : Int)) =
                            false →
                          ∃ (g_1 : Nat),
                            g_1.le (lastE (fc (40 : Int) c7) (fz (50 : Int) c8) xs).length ∧
                              (annEnds (fc (40 : Int) c7) (fz (50 : Int) c8) xs).μ g_1 < (annEnds (fc (40 : Int) c7) (fz (50 : Int) c8) xs).μ g ∧
                                tickL (fc (40 : Int) c7) (IntKind.i64.wrap ((someL (fc (40 : Int) c7) (fz (50 : Int) c8) xs).snd + fc (40 : Int) c7)) (someL (fc (40 : Int) c7) (fz (50 : Int) c8) xs).fst =
                                    tickL (fc (40 : Int) c7) (IntKind.i64.wrap ((someL (fc (40 : Int) c7) (fz (50 : Int) c8) xs).snd + fc (40 : Int) c7)) (someL (fc (40 : Int) c7) (fz (50 : Int) c8) xs).fst ∧
                                  tickL (fc (40 : Int) c7) (IntKind.i64.wrap ((someL (fc (40 : Int) c7) (fz (50 : Int) c8) xs).snd + fc (40 : Int) c7)) (someL (fc (40 : Int) c7) (fz (50 : Int) c8) xs).fst =
                                      tickL (fc (40 : Int) c7) (IntKind.i64.wrap ((someL (fc (40 : Int) c7) (fz (50 : Int) c8) xs).snd + fc (40 : Int) c7)) (someL (fc (40 : Int) c7) (fz (50 : Int) c8) xs).fst ∧
                                    (↑(tickL (fc (40 : Int) c7) (IntKind.i64.wrap ((someL (fc (40 : Int) c7) (fz (50 : Int) c8) xs).snd + fc (40 : Int) c7)) (someL (fc (40 : Int) c7) (fz (50 : Int) c8) xs).fst).length :
                                          Int) =
                                        (↑(tickL (fc (40 : Int) c7) (IntKind.i64.wrap ((someL (fc (40 : Int) c7) (fz (50 : Int) c8) xs).snd + fc (40 : Int) c7))
                                                (someL (fc (40 : Int) c7) (fz (50 : Int) c8) xs).fst).length :
                                          Int) ∧
                                      IntKind.i64.wrap ((↑g : Int) + (1 : Int)) = (↑g_1 : Int))) ∧
                  (decide
                        ((↑g : Int) <
                          (↑(tickL (fc (40 : Int) c7) (IntKind.i64.wrap ((someL (fc (40 : Int) c7) (fz (50 : Int) c8) xs).snd + fc (40 : Int) c7)) (someL (fc (40 : Int) c7) (fz (50 : Int) c8) xs).fst).length : Int)) =
                      false →
                    (tickL (fc (40 : Int) c7) (IntKind.i64.wrap ((someL (fc (40 : Int) c7) (fz (50 : Int) c8) xs).snd + fc (40 : Int) c7)) (someL (fc (40 : Int) c7) (fz (50 : Int) c8) xs).fst).length.succ.le
                        (9223372036854775808 : Nat) ∧
                      rightB (tickL (fc (40 : Int) c7) (IntKind.i64.wrap ((someL (fc (40 : Int) c7) (fz (50 : Int) c8) xs).snd + fc (40 : Int) c7)) (someL (fc (40 : Int) c7) (fz (50 : Int) c8) xs).fst) = true))

def vcLQuiet : Int → Int → Int → Int → Int → Int → Int → Int → Int → Int → Int → Int → Prop :=
  fun (c0 c1 c2 c3 c4 c5 c6 c7 c8 a t l : Int) =>
  ((!true) = true → false = true) ∧
    ((!true) = false →
      Nat.le (0 : Nat) (1000000 : Nat) ∧
        (raiseL (fz (50 : Int) c8) [] (nearA a) (IntKind.i64.wrap t)).length.le (1000000 : Nat) ∧
          (nextL (raiseL (fz (50 : Int) c8) [] (nearA a) (IntKind.i64.wrap t)) (nearA a) (0 : Int) (2 : Int) (IntKind.i64.wrap (IntKind.i64.wrap t + (1 : Int)))).length.le (1000000 : Nat) ∧
            ((raiseE (fz (50 : Int) c8) [] (nearA a) (IntKind.i64.wrap t) != (0 : Int) || nextE (raiseL (fz (50 : Int) c8) [] (nearA a) (IntKind.i64.wrap t)) (nearA a) (0 : Int) != (0 : Int)) = true → false = true) ∧
              ((raiseE (fz (50 : Int) c8) [] (nearA a) (IntKind.i64.wrap t) != (0 : Int) || nextE (raiseL (fz (50 : Int) c8) [] (nearA a) (IntKind.i64.wrap t)) (nearA a) (0 : Int) != (0 : Int)) = false →
                (decide (IntKind.i64.wrap l < fz (50 : Int) c8) = true →
                    (raiseE (fz (50 : Int) c8) (nextL (raiseL (fz (50 : Int) c8) [] (nearA a) (IntKind.i64.wrap t)) (nearA a) (0 : Int) (2 : Int) (IntKind.i64.wrap (IntKind.i64.wrap t + (1 : Int)))) (nearA a)
                            (IntKind.i64.wrap (IntKind.i64.wrap (IntKind.i64.wrap t + (1 : Int)) + IntKind.i64.wrap l)) ==
                          (8 : Int) &&
                        (↑(raiseL (fz (50 : Int) c8) (nextL (raiseL (fz (50 : Int) c8) [] (nearA a) (IntKind.i64.wrap t)) (nearA a) (0 : Int) (2 : Int) (IntKind.i64.wrap (IntKind.i64.wrap t + (1 : Int)))) (nearA a)
                                  (IntKind.i64.wrap (IntKind.i64.wrap (IntKind.i64.wrap t + (1 : Int)) + IntKind.i64.wrap l))).length :
                            Int) ==
                          (0 : Int)) =
                      true) ∧
                  (decide (IntKind.i64.wrap l < fz (50 : Int) c8) = false →
                    ((raiseE (fz (50 : Int) c8) (nextL (raiseL (fz (50 : Int) c8) [] (nearA a) (IntKind.i64.wrap t)) (nearA a) (0 : Int) (2 : Int) (IntKind.i64.wrap (IntKind.i64.wrap t + (1 : Int)))) (nearA a)
                                (IntKind.i64.wrap (IntKind.i64.wrap (IntKind.i64.wrap t + (1 : Int)) + IntKind.i64.wrap l)) ==
                              (0 : Int) &&
                            (↑(raiseL (fz (50 : Int) c8) (nextL (raiseL (fz (50 : Int) c8) [] (nearA a) (IntKind.i64.wrap t)) (nearA a) (0 : Int) (2 : Int) (IntKind.i64.wrap (IntKind.i64.wrap t + (1 : Int)))) (nearA a)
                                      (IntKind.i64.wrap (IntKind.i64.wrap (IntKind.i64.wrap t + (1 : Int)) + IntKind.i64.wrap l))).length :
                                Int) ==
                              (2 : Int)) =
                          true →
                        (raiseL (fz (50 : Int) c8) (nextL (raiseL (fz (50 : Int) c8) [] (nearA a) (IntKind.i64.wrap t)) (nearA a) (0 : Int) (2 : Int) (IntKind.i64.wrap (IntKind.i64.wrap t + (1 : Int)))) (nearA a)
                                  (IntKind.i64.wrap (IntKind.i64.wrap (IntKind.i64.wrap t + (1 : Int)) + IntKind.i64.wrap l))).length.succ.le
                          (9223372036854775808 : Nat)) ∧
                      (raiseE (fz (50 : Int) c8) (nextL (raiseL (fz (50 : Int) c8) [] (nearA a) (IntKind.i64.wrap t)) (nearA a) (0 : Int) (2 : Int) (IntKind.i64.wrap (IntKind.i64.wrap t + (1 : Int)))) (nearA a)
                                (IntKind.i64.wrap (IntKind.i64.wrap (IntKind.i64.wrap t + (1 : Int)) + IntKind.i64.wrap l)) ==
                              (0 : Int) &&
                            (↑(raiseL (fz (50 : Int) c8) (nextL (raiseL (fz (50 : Int) c8) [] (nearA a) (IntKind.i64.wrap t)) (nearA a) (0 : Int) (2 : Int) (IntKind.i64.wrap (IntKind.i64.wrap t + (1 : Int)))) (nearA a)
                                      (IntKind.i64.wrap (IntKind.i64.wrap (IntKind.i64.wrap t + (1 : Int)) + IntKind.i64.wrap l))).length :
                                Int) ==
                              (2 : Int) &&
                          firstI (hitF (nearA a))
                              (raiseL (fz (50 : Int) c8) (nextL (raiseL (fz (50 : Int) c8) [] (nearA a) (IntKind.i64.wrap t)) (nearA a) (0 : Int) (2 : Int) (IntKind.i64.wrap (IntKind.i64.wrap t + (1 : Int)))) (nearA a)
                                (IntKind.i64.wrap (IntKind.i64.wrap (IntKind.i64.wrap t + (1 : Int)) + IntKind.i64.wrap l))) ==
                            (1 : Int)) =
                        true)))

def vcLApp : Int → Int → Int → Int → Int → Int → Int → Int → Int → Int → Int → Prop :=
  fun (c0 c1 c2 c3 c4 c5 c6 c7 c8 a t : Int) =>
  ((!true) = true → false = true) ∧
    ((!true) = false →
      Nat.le (0 : Nat) (1000000 : Nat) ∧
        (raiseL (fz (50 : Int) c8) [] (nearA a) (0 : Int)).length.le (1000000 : Nat) ∧
          (raiseL (fz (50 : Int) c8) [] (nearA a) (0 : Int)).length.le (1000000 : Nat) ∧
            (nextL (raiseL (fz (50 : Int) c8) [] (nearA a) (0 : Int)) (nearA a) (0 : Int) (1 : Int) (0 : Int)).length.le (1000000 : Nat) ∧
              (tickL (fc (40 : Int) c7) (IntKind.i64.wrap t) (nextL (raiseL (fz (50 : Int) c8) [] (nearA a) (0 : Int)) (nearA a) (0 : Int) (1 : Int) (0 : Int))).length.le (1000000 : Nat) ∧
                (tickL (fc (40 : Int) c7) (IntKind.i64.wrap t) (nextL (raiseL (fz (50 : Int) c8) [] (nearA a) (0 : Int)) (nearA a) (0 : Int) (1 : Int) (0 : Int))).length.le (1000000 : Nat) ∧
                  (tickL (fc (40 : Int) c7) (IntKind.i64.wrap t) (nextL (raiseL (fz (50 : Int) c8) [] (nearA a) (0 : Int)) (nearA a) (0 : Int) (1 : Int) (0 : Int))).length.le (1000000 : Nat) ∧
                    ((raiseE (fz (50 : Int) c8) [] (nearA a) (0 : Int) != (0 : Int) || nextE (raiseL (fz (50 : Int) c8) [] (nearA a) (0 : Int)) (nearA a) (0 : Int) != (0 : Int) ||
                                  nextE (tickL (fc (40 : Int) c7) (IntKind.i64.wrap t) (nextL (raiseL (fz (50 : Int) c8) [] (nearA a) (0 : Int)) (nearA a) (0 : Int) (1 : Int) (0 : Int))) (nearA a) (1 : Int) !=
                                    (0 : Int) ||
                                cancelE (tickL (fc (40 : Int) c7) (IntKind.i64.wrap t) (nextL (raiseL (fz (50 : Int) c8) [] (nearA a) (0 : Int)) (nearA a) (0 : Int) (1 : Int) (0 : Int))) (nearA a) != (0 : Int) ||
                              nextE (raiseL (fz (50 : Int) c8) [] (nearA a) (0 : Int)) (nearA a) (1 : Int) != (8 : Int) ||
                            nextE (tickL (fc (40 : Int) c7) (IntKind.i64.wrap t) (nextL (raiseL (fz (50 : Int) c8) [] (nearA a) (0 : Int)) (nearA a) (0 : Int) (1 : Int) (0 : Int))) (nearA a) (0 : Int) != (8 : Int)) =
                          true →
                        false = true) ∧
                      ((raiseE (fz (50 : Int) c8) [] (nearA a) (0 : Int) != (0 : Int) || nextE (raiseL (fz (50 : Int) c8) [] (nearA a) (0 : Int)) (nearA a) (0 : Int) != (0 : Int) ||
                                  nextE (tickL (fc (40 : Int) c7) (IntKind.i64.wrap t) (nextL (raiseL (fz (50 : Int) c8) [] (nearA a) (0 : Int)) (nearA a) (0 : Int) (1 : Int) (0 : Int))) (nearA a) (1 : Int) !=
                                    (0 : Int) ||
                                cancelE (tickL (fc (40 : Int) c7) (IntKind.i64.wrap t) (nextL (raiseL (fz (50 : Int) c8) [] (nearA a) (0 : Int)) (nearA a) (0 : Int) (1 : Int) (0 : Int))) (nearA a) != (0 : Int) ||
                              nextE (raiseL (fz (50 : Int) c8) [] (nearA a) (0 : Int)) (nearA a) (1 : Int) != (8 : Int) ||
                            nextE (tickL (fc (40 : Int) c7) (IntKind.i64.wrap t) (nextL (raiseL (fz (50 : Int) c8) [] (nearA a) (0 : Int)) (nearA a) (0 : Int) (1 : Int) (0 : Int))) (nearA a) (0 : Int) != (8 : Int)) =
                          false →
                        ((0 : Int) ≤ (0 : Int) ∧
                            (0 : Int) <
                              (↑(nextL (tickL (fc (40 : Int) c7) (IntKind.i64.wrap t) (nextL (raiseL (fz (50 : Int) c8) [] (nearA a) (0 : Int)) (nearA a) (0 : Int) (1 : Int) (0 : Int))) (nearA a) (1 : Int) (5 : Int)
                                      (IntKind.i64.wrap t)).length :
                                Int)) ∧
                          ((((nextL (tickL (fc (40 : Int) c7) (IntKind.i64.wrap t) (nextL (raiseL (fz (50 : Int) c8) [] (nearA a) (0 : Int)) (nearA a) (0 : Int) (1 : Int) (0 : Int))) (nearA a) (1 : Int) (5 : Int)
                                            (IntKind.i64.wrap t)).getD
                                        (0 : Nat) (u.dflt (30 : Nat))).addr ==
                                    nearA a &&
                                  (((nextL (tickL (fc (40 : Int) c7) (IntKind.i64.wrap t) (nextL (raiseL (fz (50 : Int) c8) [] (nearA a) (0 : Int)) (nearA a) (0 : Int) (1 : Int) (0 : Int))) (nearA a) (1 : Int) (5 : Int)
                                              (IntKind.i64.wrap t)).getD
                                          (0 : Nat) (u.dflt (30 : Nat))).raised ==
                                      (0 : Int) &&
                                    (((nextL (tickL (fc (40 : Int) c7) (IntKind.i64.wrap t) (nextL (raiseL (fz (50 : Int) c8) [] (nearA a) (0 : Int)) (nearA a) (0 : Int) (1 : Int) (0 : Int))) (nearA a) (1 : Int)
                                                (5 : Int) (IntKind.i64.wrap t)).getD
                                            (0 : Nat) (u.dflt (30 : Nat))).ended ==
                                        IntKind.i64.wrap t &&
                                      (((nextL (tickL (fc (40 : Int) c7) (IntKind.i64.wrap t) (nextL (raiseL (fz (50 : Int) c8) [] (nearA a) (0 : Int)) (nearA a) (0 : Int) (1 : Int) (0 : Int))) (nearA a) (1 : Int)
                                                  (5 : Int) (IntKind.i64.wrap t)).getD
                                              (0 : Nat) (u.dflt (30 : Nat))).stage ==
                                          (5 : Int) &&
                                        true)))) =
                                true →
                              (0 : Int) ≤ (0 : Int) ∧
                                (0 : Int) <
                                  (↑(cancelL (tickL (fc (40 : Int) c7) (IntKind.i64.wrap t) (nextL (raiseL (fz (50 : Int) c8) [] (nearA a) (0 : Int)) (nearA a) (0 : Int) (1 : Int) (0 : Int))) (nearA a)
                                          (IntKind.i64.wrap t)).length :
                                    Int)) ∧
                            (((nextL (tickL (fc (40 : Int) c7) (IntKind.i64.wrap t) (nextL (raiseL (fz (50 : Int) c8) [] (nearA a) (0 : Int)) (nearA a) (0 : Int) (1 : Int) (0 : Int))) (nearA a) (1 : Int) (5 : Int)
                                            (IntKind.i64.wrap t)).getD
                                        (0 : Nat) (u.dflt (30 : Nat))).addr ==
                                    nearA a &&
                                  (((nextL (tickL (fc (40 : Int) c7) (IntKind.i64.wrap t) (nextL (raiseL (fz (50 : Int) c8) [] (nearA a) (0 : Int)) (nearA a) (0 : Int) (1 : Int) (0 : Int))) (nearA a) (1 : Int) (5 : Int)
                                              (IntKind.i64.wrap t)).getD
                                          (0 : Nat) (u.dflt (30 : Nat))).raised ==
                                      (0 : Int) &&
                                    (((nextL (tickL (fc (40 : Int) c7) (IntKind.i64.wrap t) (nextL (raiseL (fz (50 : Int) c8) [] (nearA a) (0 : Int)) (nearA a) (0 : Int) (1 : Int) (0 : Int))) (nearA a) (1 : Int)
                                                (5 : Int) (IntKind.i64.wrap t)).getD
                                            (0 : Nat) (u.dflt (30 : Nat))).ended ==
                                        IntKind.i64.wrap t &&
                                      (((nextL (tickL (fc (40 : Int) c7) (IntKind.i64.wrap t) (nextL (raiseL (fz (50 : Int) c8) [] (nearA a) (0 : Int)) (nearA a) (0 : Int) (1 : Int) (0 : Int))) (nearA a) (1 : Int)
                                                  (5 : Int) (IntKind.i64.wrap t)).getD
                                              (0 : Nat) (u.dflt (30 : Nat))).stage ==
                                          (5 : Int) &&
                                        true))) &&
                                ((cancelL (tickL (fc (40 : Int) c7) (IntKind.i64.wrap t) (nextL (raiseL (fz (50 : Int) c8) [] (nearA a) (0 : Int)) (nearA a) (0 : Int) (1 : Int) (0 : Int))) (nearA a)
                                          (IntKind.i64.wrap t)).getD
                                      (0 : Nat) (u.dflt (30 : Nat))).stage ==
                                  (4 : Int)) =
                              true))

def vcLOver : Int → Int → Int → Int → Int → Int → Int → Int → Int → List Act → Int → Prop :=
  fun (c0 c1 c2 c3 c4 c5 c6 c7 c8 : Int) (xs : List Act) (n : Int) =>
  ((!true) = true → false = true) ∧
    ((!true) = false →
      xs.length.succ.le (9223372036854775808 : Nat) ∧
        (someL (fc (40 : Int) c7) (fz (50 : Int) c8) xs).fst.length.succ.le (9223372036854775808 : Nat) ∧
          (decide (firstI (hitF (nearA n)) (someL (fc (40 : Int) c7) (fz (50 : Int) c8) xs).fst ≥ (0 : Int)) = true →
              (someL (fc (40 : Int) c7) (fz (50 : Int) c8) xs).fst.length.le (1000000 : Nat) ∧
                (cancelL (someL (fc (40 : Int) c7) (fz (50 : Int) c8) xs).fst (nearA n) (someL (fc (40 : Int) c7) (fz (50 : Int) c8) xs).snd).length.le (1000000 : Nat) ∧
                  ((cancelE (someL (fc (40 : Int) c7) (fz (50 : Int) c8) xs).fst (nearA n) == (0 : Int) &&
                          cancelE (cancelL (someL (fc (40 : Int) c7) (fz (50 : Int) c8) xs).fst (nearA n) (someL (fc (40 : Int) c7) (fz (50 : Int) c8) xs).snd) (nearA n) == (7 : Int)) =
                        true →
                      (cancelL (someL (fc (40 : Int) c7) (fz (50 : Int) c8) xs).fst (nearA n) (someL (fc (40 : Int) c7) (fz (50 : Int) c8) xs).snd).length.succ.le (9223372036854775808 : Nat)) ∧
                    (cancelE (someL (fc (40 : Int) c7) (fz (50 : Int) c8) xs).fst (nearA n) == (0 : Int) &&
                            cancelE (cancelL (someL (fc (40 : Int) c7) (fz (50 : Int) c8) xs).fst (nearA n) (someL (fc (40 : Int) c7) (fz (50 : Int) c8) xs).snd) (nearA n) == (7 : Int) &&
                          decide (firstI (hitF (nearA n)) (cancelL (someL (fc (40 : Int) c7) (fz (50 : Int) c8) xs).fst (nearA n) (someL (fc (40 : Int) c7) (fz (50 : Int) c8) xs).snd) < (0 : Int)) &&
                        (↑(cancelL (someL (fc (40 : Int) c7) (fz (50 : Int) c8) xs).fst (nearA n) (someL (fc (40 : Int) c7) (fz (50 : Int) c8) xs).snd).length : Int) ==
                          (↑(someL (fc (40 : Int) c7) (fz (50 : Int) c8) xs).fst.length : Int)) =
                      true) ∧
            (decide (firstI (hitF (nearA n)) (someL (fc (40 : Int) c7) (fz (50 : Int) c8) xs).fst ≥ (0 : Int)) = false →
              (someL (fc (40 : Int) c7) (fz (50 : Int) c8) xs).fst.length.le (1000000 : Nat) ∧
                ((raiseE (fz (50 : Int) c8) (someL (fc (40 : Int) c7) (fz (50 : Int) c8) xs).fst (nearA n) (someL (fc (40 : Int) c7) (fz (50 : Int) c8) xs).snd != (0 : Int)) = true →
                    (raiseE (fz (50 : Int) c8) (someL (fc (40 : Int) c7) (fz (50 : Int) c8) xs).fst (nearA n) (someL (fc (40 : Int) c7) (fz (50 : Int) c8) xs).snd == (8 : Int) ||
                        raiseE (fz (50 : Int) c8) (someL (fc (40 : Int) c7) (fz (50 : Int) c8) xs).fst (nearA n) (someL (fc (40 : Int) c7) (fz (50 : Int) c8) xs).snd == (4 : Int) &&
                          (↑(someL (fc (40 : Int) c7) (fz (50 : Int) c8) xs).fst.length : Int) == (16 : Int)) =
                      true) ∧
                  ((raiseE (fz (50 : Int) c8) (someL (fc (40 : Int) c7) (fz (50 : Int) c8) xs).fst (nearA n) (someL (fc (40 : Int) c7) (fz (50 : Int) c8) xs).snd != (0 : Int)) = false →
                    (raiseL (fz (50 : Int) c8) (someL (fc (40 : Int) c7) (fz (50 : Int) c8) xs).fst (nearA n) (someL (fc (40 : Int) c7) (fz (50 : Int) c8) xs).snd).length.succ.le (9223372036854775808 : Nat) ∧
                      ((firstI (hitF (nearA n)) (raiseL (fz (50 : Int) c8) (someL (fc (40 : Int) c7) (fz (50 : Int) c8) xs).fst (nearA n) (someL (fc (40 : Int) c7) (fz (50 : Int) c8) xs).snd) ==
                              IntKind.i64.wrap
                                ((↑(raiseL (fz (50 : Int) c8) (someL (fc (40 : Int) c7) (fz (50 : Int) c8) xs).fst (nearA n) (someL (fc (40 : Int) c7) (fz (50 : Int) c8) xs).snd).length : Int) - (1 : Int))) =
                            true →
                          (0 : Int) ≤
                              IntKind.i64.wrap
                                ((↑(raiseL (fz (50 : Int) c8) (someL (fc (40 : Int) c7) (fz (50 : Int) c8) xs).fst (nearA n) (someL (fc (40 : Int) c7) (fz (50 : Int) c8) xs).snd).length : Int) - (1 : Int)) ∧
                            IntKind.i64.wrap ((↑(raiseL (fz (50 : Int) c8) (someL (fc (40 : Int) c7) (fz (50 : Int) c8) xs).fst (nearA n) (someL (fc (40 : Int) c7) (fz (50 : Int) c8) xs).snd).length : Int) - (1 : Int)) <
                              (↑(raiseL (fz (50 : Int) c8) (someL (fc (40 : Int) c7) (fz (50 : Int) c8) xs).fst (nearA n) (someL (fc (40 : Int) c7) (fz (50 : Int) c8) xs).snd).length : Int)) ∧
                        (firstI (hitF (nearA n)) (raiseL (fz (50 : Int) c8) (someL (fc (40 : Int) c7) (fz (50 : Int) c8) xs).fst (nearA n) (someL (fc (40 : Int) c7) (fz (50 : Int) c8) xs).snd) ==
                                IntKind.i64.wrap
                                  ((↑(raiseL (fz (50 : Int) c8) (someL (fc (40 : Int) c7) (fz (50 : Int) c8) xs).fst (nearA n) (someL (fc (40 : Int) c7) (fz (50 : Int) c8) xs).snd).length : Int) - (1 : Int)) &&
                              (((raiseL (fz (50 : Int) c8) (someL (fc (40 : Int) c7) (fz (50 : Int) c8) xs).fst (nearA n) (someL (fc (40 : Int) c7) (fz (50 : Int) c8) xs).snd).getD
                                      (IntKind.i64.wrap
                                          ((↑(raiseL (fz (50 : Int) c8) (someL (fc (40 : Int) c7) (fz (50 : Int) c8) xs).fst (nearA n) (someL (fc (40 : Int) c7) (fz (50 : Int) c8) xs).snd).length : Int) -
                                            (1 : Int))).toNat
                                      (u.dflt (30 : Nat))).addr ==
                                  nearA n &&
                                (((raiseL (fz (50 : Int) c8) (someL (fc (40 : Int) c7) (fz (50 : Int) c8) xs).fst (nearA n) (someL (fc (40 : Int) c7) (fz (50 : Int) c8) xs).snd).getD
                                        (IntKind.i64.wrap
                                            ((↑(raiseL (fz (50 : Int) c8) (someL (fc (40 : Int) c7) (fz (50 : Int) c8) xs).fst (nearA n) (someL (fc (40 : Int) c7) (fz (50 : Int) c8) xs).snd).length : Int) -
                                              (1 : Int))).toNat
                                        (u.dflt (30 : Nat))).raised ==
                                    (someL (fc (40 : Int) c7) (fz (50 : Int) c8) xs).snd &&
                                  (((raiseL (fz (50 : Int) c8) (someL (fc (40 : Int) c7) (fz (50 : Int) c8) xs).fst (nearA n) (someL (fc (40 : Int) c7) (fz (50 : Int) c8) xs).snd).getD
                                          (IntKind.i64.wrap
                                              ((↑(raiseL (fz (50 : Int) c8) (someL (fc (40 : Int) c7) (fz (50 : Int) c8) xs).fst (nearA n) (someL (fc (40 : Int) c7) (fz (50 : Int) c8) xs).snd).length : Int) -
                                                (1 : Int))).toNat
                                          (u.dflt (30 : Nat))).ended ==
                                      (0 : Int) &&
                                    (((raiseL (fz (50 : Int) c8) (someL (fc (40 : Int) c7) (fz (50 : Int) c8) xs).fst (nearA n) (someL (fc (40 : Int) c7) (fz (50 : Int) c8) xs).snd).getD
                                            (IntKind.i64.wrap
                                                ((↑(raiseL (fz (50 : Int) c8) (someL (fc (40 : Int) c7) (fz (50 : Int) c8) xs).fst (nearA n) (someL (fc (40 : Int) c7) (fz (50 : Int) c8) xs).snd).length : Int) -
                                                  (1 : Int))).toNat
                                            (u.dflt (30 : Nat))).stage ==
                                        (0 : Int) &&
                                      true)))) &&
                            (↑(raiseL (fz (50 : Int) c8) (someL (fc (40 : Int) c7) (fz (50 : Int) c8) xs).fst (nearA n) (someL (fc (40 : Int) c7) (fz (50 : Int) c8) xs).snd).length : Int) ==
                              mn (IntKind.i64.wrap ((↑(someL (fc (40 : Int) c7) (fz (50 : Int) c8) xs).fst.length : Int) + (1 : Int))) (16 : Int)) =
                          true)))

def vcLScr : Int → Int → Int → Int → Int → Int → Int → Int → Int → List Act → Prop :=
  fun (c0 c1 c2 c3 c4 c5 c6 c7 c8 : Int) (xs : List Act) =>
  ((!true) = true → false = true) ∧
    ((!true) = false →
      ((0 : Int) ≤ (0 : Int) ∧ (0 : Int) ≤ mn (↑xs.length : Int) (200 : Int) ∧ mn (↑xs.length : Int) (200 : Int) ≤ (↑xs.length : Int)) ∧
        (∃ (g : Nat),
            g.le (headS xs (200 : Int)).length ∧
              (True ∧
                  List.drop (0 : Nat) (List.take (mn (↑xs.length : Int) (200 : Int)).toNat xs) = List.drop (0 : Nat) (List.take (mn (↑xs.length : Int) (200 : Int)).toNat xs) ∧
                    (↑(List.drop (0 : Nat) (List.take (mn (↑xs.length : Int) (200 : Int)).toNat xs)).length : Int) = (↑(List.drop (0 : Nat) (List.take (mn (↑xs.length : Int) (200 : Int)).toNat xs)).length : Int) ∧
                      (0 : Int) = (↑g : Int) ∧ (someAt (fc (40 : Int) c7) (fz (50 : Int) c8) (headS xs (200 : Int)) g).fst = [] ∧ (0 : Int) = (someAt (fc (40 : Int) c7) (fz (50 : Int) c8) (headS xs (200 : Int)) g).snd) ∧
                fc (30 : Int) c0 = fc (30 : Int) c0 ∧
                  IntKind.i64.wrap (fc (30 : Int) c0 + fz (60 : Int) c1) = IntKind.i64.wrap (fc (30 : Int) c0 + fz (60 : Int) c1) ∧
                    fc (6 : Int) c2 = fc (6 : Int) c2 ∧
                      fc (20 : Int) c3 = fc (20 : Int) c3 ∧
                        fc (9 : Int) c4 = fc (9 : Int) c4 ∧ fc (6 : Int) c5 = fc (6 : Int) c5 ∧ fz (4 : Int) c6 = fz (4 : Int) c6 ∧ fc (40 : Int) c7 = fc (40 : Int) c7 ∧ fz (50 : Int) c8 = fz (50 : Int) c8) ∧
          ∀ (g : Nat),
            g.le (headS xs (200 : Int)).length →
              (decide ((↑g : Int) < (↑(List.drop (0 : Nat) (List.take (mn (↑xs.length : Int) (200 : Int)).toNat xs)).length : Int)) = true →
                  ((0 : Int) ≤ (↑g : Int) ∧ (↑g : Int) < (↑(List.drop (0 : Nat) (List.take (mn (↑xs.length : Int) (200 : Int)).toNat xs)).length : Int)) ∧
                    (8 : Int) ≠ (0 : Int) ∧
                      (decide (((List.drop (0 : Nat) (List.take (mn (↑xs.length : Int) (200 : Int)).toNat xs)).getD (↑g : Int).toNat (u.dflt (46 : Nat))).op.tmod (8 : Int) > (5 : Int)) = true →
                          (10 : Int) ≠ (0 : Int) ∧
                            (someAt (fc (40 : Int) c7) (fz (50 : Int) c8) (headS xs (200 : Int)) g).fst.length.le (1000000 : Nat) ∧
                              (((↑(tickL (fc (40 : Int) c7)
                                              (IntKind.i64.wrap
                                                ((someAt (fc (40 : Int) c7) (fz (50 : Int) c8) (headS xs (200 : Int)) g).snd +
                                                  IntKind.i64.wrap (((List.drop (0 : Nat) (List.take (mn (↑xs.length : Int) (200 : Int)).toNat xs)).getD (↑g : Int).toNat (u.dflt (46 : Nat))).n.tmod (10 : Int))))
                                              (someAt (fc (40 : Int) c7) (fz (50 : Int) c8) (headS xs (200 : Int)) g).fst).length :
                                        Int) !=
                                      (↑(someAt (fc (40 : Int) c7) (fz (50 : Int) c8) (headS xs (200 : Int)) g).fst.length : Int)) =
                                    true →
                                  false = true) ∧
                                (((↑(tickL (fc (40 : Int) c7)
                                              (IntKind.i64.wrap
                                                ((someAt (fc (40 : Int) c7) (fz (50 : Int) c8) (headS xs (200 : Int)) g).snd +
                                                  IntKind.i64.wrap (((List.drop (0 : Nat) (List.take (mn (↑xs.length : Int) (200 : Int)).toNat xs)).getD (↑g : Int).toNat (u.dflt (46 : Nat))).n.tmod (10 : Int))))
                                              (someAt (fc (40 : Int) c7) (fz (50 : Int) c8) (headS xs (200 : Int)) g).fst).length :
                                        Int) !=
                                      (↑(someAt (fc (40 : Int) c7) (fz (50 : Int) c8) (headS xs (200 : Int)) g).fst.length : Int)) =
                                    false →
                                  (∃ (g_1 : Nat),
                                      g_1.le (someAt (fc (40 : Int) c7) (fz (50 : Int) c8) (headS xs (200 : Int)) g).fst.length ∧
                                        (True ∧
                                            (someAt (fc (40 : Int) c7) (fz (50 : Int) c8) (headS xs (200 : Int)) g).fst = (someAt (fc (40 : Int) c7) (fz (50 : Int) c8) (headS xs (200 : Int)) g).fst ∧
                                              IntKind.i64.wrap
                                                    ((someAt (fc (40 : Int) c7) (fz (50 : Int) c8) (headS xs (200 : Int)) g).snd +
                                                      IntKind.i64.wrap (((List.drop (0 : Nat) (List.take (mn (↑xs.length : Int) (200 : Int)).toNat xs)).getD (↑g : Int).toNat (u.dflt (46 : Nat))).n.tmod (10 : Int))) =
                                                  IntKind.i64.wrap
                                                    ((someAt (fc (40 : Int) c7) (fz (50 : Int) c8) (headS xs (200 : Int)) g).snd +
                                                      IntKind.i64.wrap (((List.drop (0 : Nat) (List.take (mn (↑xs.length : Int) (200 : Int)).toNat xs)).getD (↑g : Int).toNat (u.dflt (46 : Nat))).n.tmod (10 : Int))) ∧
                                                tickL (fc (40 : Int) c7)
                                                      (IntKind.i64.wrap
                                                        ((someAt (fc (40 : Int) c7) (fz (50 : Int) c8) (headS xs (200 : Int)) g).snd +
                                                          IntKind.i64.wrap (((List.drop (0 : Nat) (List.take (mn (↑xs.length : Int) (200 : Int)).toNat xs)).getD (↑g : Int).toNat (u.dflt (46 : Nat))).n.tmod (10 : Int))))
                                                      (someAt (fc (40 : Int) c7) (fz (50 : Int) c8) (headS xs (200 : Int)) g).fst =
                                                    tickL (fc (40 : Int) c7)
                                                      (IntKind.i64.wrap
                                                        ((someAt (fc (40 : Int) c7) (fz (50 : Int) c8) (headS xs (200 : Int)) g).snd +
                                                          IntKind.i64.wrap (((List.drop (0 : Nat) (List.take (mn (↑xs.length : Int) (200 : Int)).toNat xs)).getD (↑g : Int).toNat (u.dflt (46 : Nat))).n.tmod (10 : Int))))
                                                      (someAt (fc (40 : Int) c7) (fz (50 : Int) c8) (headS xs (200 : Int)) g).fst ∧
                                                  List.drop (0 : Nat) (List.take (mn (↑xs.length : Int) (200 : Int)).toNat xs) = List.drop (0 : Nat) (List.take (mn (↑xs.length : Int) (200 : Int)).toNat xs) ∧
                                                    (↑(List.drop (0 : Nat) (List.take (mn (↑xs.length : Int) (200 : Int)).toNat xs)).length : Int) =
                                                        (↑(List.drop (0 : Nat) (List.take (mn (↑xs.length : Int) (200 : Int)).toNat xs)).length : Int) ∧
                                                      (↑g : Int) = (↑g : Int) ∧
                                                        (someAt (fc (40 : Int) c7) (fz (50 : Int) c8) (headS xs (200 : Int)) g).fst = (someAt (fc (40 : Int) c7) (fz (50 : Int) c8) (headS xs (200 : Int)) g).fst ∧
                                                          (↑(someAt (fc (40 : Int) c7) (fz (50 : Int) c8) (headS xs (200 : Int)) g).fst.length : Int) =
                                                              (↑(someAt (fc (40 : Int) c7) (fz (50 : Int) c8) (headS xs (200 : Int)) g).fst.length : Int) ∧
                                                            (0 : Int) = (↑g_1 : Int)) ∧
                                          fc (30 : Int) c0 = fc (30 : Int) c0 ∧
                                            IntKind.i64.wrap (fc (30 : Int) c0 + fz (60 : Int) c1) = IntKind.i64.wrap (fc (30 : Int) c0 + fz (60 : Int) c1) ∧
                                              fc (6 : Int) c2 = fc (6 : Int) c2 ∧
                                                fc (20 : Int) c3 = fc (20 : Int) c3 ∧
                                                  fc (9 : Int) c4 = fc (9 : Int) c4 ∧
                                                    fc (6 : Int) c5 = fc (6 : Int) c5 ∧ fz (4 : Int) c6 = fz (4 : Int) c6 ∧ fc (40 : Int) c7 = fc (40 : Int) c7 ∧ fz (50 : Int) c8 = fz (50 : Int) c8) ∧
                                    ∀ (g_1 : Nat),
                                      g_1.le (someAt (fc (40 : Int) c7) (fz (50 : Int) c8) (headS xs (200 : Int)) g).fst.length →
                                        (decide ((↑g_1 : Int) < (↑(someAt (fc (40 : Int) c7) (fz (50 : Int) c8) (headS xs (200 : Int)) g).fst.length : Int)) = true →
                                            ((0 : Int) ≤ (↑g_1 : Int) ∧ (↑g_1 : Int) < (↑(someAt (fc (40 : Int) c7) (fz (50 : Int) c8) (headS xs (200 : Int)) g).fst.length : Int)) ∧
                                              ((((someAt (fc (40 : Int) c7) (fz (50 : Int) c8) (headS xs (200 : Int)) g).fst.getD (↑g_1 : Int).toNat (u.dflt (30 : Nat))).stage == (0 : Int) &&
                                                      decide
                                                        (IntKind.i64.wrap
                                                            (IntKind.i64.wrap
                                                                ((someAt (fc (40 : Int) c7) (fz (50 : Int) c8) (headS xs (200 : Int)) g).snd +
                                                                  IntKind.i64.wrap
                                                                    (((List.drop (0 : Nat) (List.take (mn (↑xs.length : Int) (200 : Int)).toNat xs)).getD (↑g : Int).toNat (u.dflt (46 : Nat))).n.tmod (10 : Int))) -
                                                              ((someAt (fc (40 : Int) c7) (fz (50 : Int) c8) (headS xs (200 : Int)) g).fst.getD (↑g_1 : Int).toNat (u.dflt (30 : Nat))).raised) ≥
                                                          fc (40 : Int) c7)) =
                                                    true →
                                                  ((0 : Int) ≤ (↑g_1 : Int) ∧
                                                      (↑g_1 : Int) <
                                                        (↑(tickL (fc (40 : Int) c7)
                                                                (IntKind.i64.wrap
                                                                  ((someAt (fc (40 : Int) c7) (fz (50 : Int) c8) (headS xs (200 : Int)) g).snd +
                                                                    IntKind.i64.wrap
                                                                      (((List.drop (0 : Nat) (List.take (mn (↑xs.length : Int) (200 : Int)).toNat xs)).getD (↑g : Int).toNat (u.dflt (46 : Nat))).n.tmod (10 : Int))))
                                                                (someAt (fc (40 : Int) c7) (fz (50 : Int) c8) (headS xs (200 : Int)) g).fst).length :
                                                          Int)) ∧
                                                    ((!(((tickL (fc (40 : Int) c7)
                                                                        (IntKind.i64.wrap
                                                                          ((someAt (fc (40 : Int) c7) (fz (50 : Int) c8) (headS xs (200 : Int)) g).snd +
                                                                            IntKind.i64.wrap
                                                                              (((List.drop (0 : Nat) (List.take (mn (↑xs.length : Int) (200 : Int)).toNat xs)).getD (↑g : Int).toNat (u.dflt (46 : Nat))).n.tmod
                                                                                (10 : Int))))
                                                                        (someAt (fc (40 : Int) c7) (fz (50 : Int) c8) (headS xs (200 : Int)) g).fst).getD
                                                                    (↑g_1 : Int).toNat (u.dflt (30 : Nat))).addr ==
                                                                ((someAt (fc (40 : Int) c7) (fz (50 : Int) c8) (headS xs (200 : Int)) g).fst.getD (↑g_1 : Int).toNat (u.dflt (30 : Nat))).addr &&
                                                              (((tickL (fc (40 : Int) c7)
                                                                          (IntKind.i64.wrap
                                                                            ((someAt (fc (40 : Int) c7) (fz (50 : Int) c8) (headS xs (200 : Int)) g).snd +
                                                                              IntKind.i64.wrap
                                                                                (((List.drop (0 : Nat) (List.take (mn (↑xs.length : Int) (200 : Int)).toNat xs)).getD (↑g : Int).toNat (u.dflt (46 : Nat))).n.tmod
                                                                                  (10 : Int))))
                                                                          (someAt (fc (40 : Int) c7) (fz (50 : Int) c8) (headS xs (200 : Int)) g).fst).getD
                                                                      (↑g_1 : Int).toNat (u.dflt (30 : Nat))).raised ==
                                                                  ((someAt (fc (40 : Int) c7) (fz (50 : Int) c8) (headS xs (200 : Int)) g).fst.getD (↑g_1 : Int).toNat (u.dflt (30 : Nat))).raised &&
                                                                (((tickL (fc (40 : Int) c7)
                                                                            (IntKind.i64.wrap
                                                                              ((someAt (fc (40 : Int) c7) (fz (50 : Int) c8) (headS xs (200 : Int)) g).snd +
                                                                                IntKind.i64.wrap
                                                                                  (((List.drop (0 : Nat) (List.take (mn (↑xs.length : Int) (200 : Int)).toNat xs)).getD (↑g : Int).toNat (u.dflt (46 : Nat))).n.tmod
                                                                                    (10 : Int))))
                                                                            (someAt (fc (40 : Int) c7) (fz (50 : Int) c8) (headS xs (200 : Int)) g).fst).getD
                                                                        (↑g_1 : Int).toNat (u.dflt (30 : Nat))).ended ==
                                                                    IntKind.i64.wrap
                                                                      ((someAt (fc (40 : Int) c7) (fz (50 : Int) c8) (headS xs (200 : Int)) g).snd +
                                                                        IntKind.i64.wrap
                                                                          (((List.drop (0 : Nat) (List.take (mn (↑xs.length : Int) (200 : Int)).toNat xs)).getD (↑g : Int).toNat (u.dflt (46 : Nat))).n.tmod (10 : Int))) &&
                                                                  (((tickL (fc (40 : Int) c7)
                                                                              (IntKind.i64.wrap
                                                                                ((someAt (fc (40 : Int) c7) (fz (50 : Int) c8) (headS xs (200 : Int)) g).snd +
                                                                                  IntKind.i64.wrap
                                                                                    (((List.drop (0 : Nat) (List.take (mn (↑xs.length : Int) (200 : Int)).toNat xs)).getD (↑g : Int).toNat (u.dflt (46 : Nat))).n.tmod
                                                                                      (10 : Int))))
                                                                              (someAt (fc (40 : Int) c7) (fz (50 : Int) c8) (headS xs (200 : Int)) g).fst).getD
                                                                          (↑g_1 : Int).toNat (u.dflt (30 : Nat))).stage ==
                                                                      (3 : Int) &&
                                                                    true))))) =
                                                          true →
                                                        false = true) ∧
                                                      ((!(((tickL (fc (40 : Int) c7)
                                                                        (IntKind.i64.wrap
                                                                          ((someAt (fc (40 : Int) c7) (fz (50 : Int) c8) (headS xs (200 : Int)) g).snd +
                                                                            IntKind.i64.wrap
                                                                              (((List.drop (0 : Nat) (List.take (mn (↑xs.length : Int) (200 : Int)).toNat xs)).getD (↑g : Int).toNat (u.dflt (46 : Nat))).n.tmod
                                                                                (10 : Int))))
                                                                        (someAt (fc (40 : Int) c7) (fz (50 : Int) c8) (headS xs (200 : Int)) g).fst).getD
                                                                    (↑g_1 : Int).toNat (u.dflt (30 : Nat))).addr ==
                                                                ((someAt (fc (40 : Int) c7) (fz (50 : Int) c8) (headS xs (200 : Int)) g).fst.getD (↑g_1 : Int).toNat (u.dflt (30 : Nat))).addr &&
                                                              (((tickL (fc (40 : Int) c7)
                                                                          (IntKind.i64.wrap
                                                                            ((someAt (fc (40 : Int) c7) (fz (50 : Int) c8) (headS xs (200 : Int)) g).snd +
                                                                              IntKind.i64.wrap
                                                                                (((List.drop (0 : Nat) (List.take (mn (↑xs.length : Int) (200 : Int)).toNat xs)).getD (↑g : Int).toNat (u.dflt (46 : Nat))).n.tmod
                                                                                  (10 : Int))))
                                                                          (someAt (fc (40 : Int) c7) (fz (50 : Int) c8) (headS xs (200 : Int)) g).fst).getD
                                                                      (↑g_1 : Int).toNat (u.dflt (30 : Nat))).raised ==
                                                                  ((someAt (fc (40 : Int) c7) (fz (50 : Int) c8) (headS xs (200 : Int)) g).fst.getD (↑g_1 : Int).toNat (u.dflt (30 : Nat))).raised &&
                                                                (((tickL (fc (40 : Int) c7)
                                                                            (IntKind.i64.wrap
                                                                              ((someAt (fc (40 : Int) c7) (fz (50 : Int) c8) (headS xs (200 : Int)) g).snd +
                                                                                IntKind.i64.wrap
                                                                                  (((List.drop (0 : Nat) (List.take (mn (↑xs.length : Int) (200 : Int)).toNat xs)).getD (↑g : Int).toNat (u.dflt (46 : Nat))).n.tmod
                                                                                    (10 : Int))))
                                                                            (someAt (fc (40 : Int) c7) (fz (50 : Int) c8) (headS xs (200 : Int)) g).fst).getD
                                                                        (↑g_1 : Int).toNat (u.dflt (30 : Nat))).ended ==
                                                                    IntKind.i64.wrap
                                                                      ((someAt (fc (40 : Int) c7) (fz (50 : Int) c8) (headS xs (200 : Int)) g).snd +
                                                                        IntKind.i64.wrap
                                                                          (((List.drop (0 : Nat) (List.take (mn (↑xs.length : Int) (200 : Int)).toNat xs)).getD (↑g : Int).toNat (u.dflt (46 : Nat))).n.tmod (10 : Int))) &&
                                                                  (((tickL (fc (40 : Int) c7)
                                                                              (IntKind.i64.wrap
                                                                                ((someAt (fc (40 : Int) c7) (fz (50 : Int) c8) (headS xs (200 : Int)) g).snd +
                                                                                  IntKind.i64.wrap
                                                                                    (((List.drop (0 : Nat) (List.take (mn (↑xs.length : Int) (200 : Int)).toNat xs)).getD (↑g : Int).toNat (u.dflt (46 : Nat))).n.tmod
                                                                                      (10 : Int))))
                                                                              (someAt (fc (40 : Int) c7) (fz (50 : Int) c8) (headS xs (200 : Int)) g).fst).getD
                                                                          (↑g_1 : Int).toNat (u.dflt (30 : Nat))).stage ==
                                                                      (3 : Int) &&
                                                                    true))))) =
                                                          false →
                                                        ∃ (g_2 : Nat),
                                                          g_2.le (someAt (fc (40 : Int) c7) (fz (50 : Int) c8) (headS xs (200 : Int)) g).fst.length ∧
                                                            (annScrI (fc (40 : Int) c7) (fz (50 : Int) c8) (headS xs (200 : Int)) g).μ g_2 <
                                                                (annScrI (fc (40 : Int) c7) (fz (50 : Int) c8) (headS xs (200 : Int)) g).μ g_1 ∧
                                                              (True ∧
                                                                  (someAt (fc (40 : Int) c7) (fz (50 : Int) c8) (headS xs (200 : Int)) g).fst =
                                                                      (someAt (fc (40 : Int) c7) (fz (50 : Int) c8) (headS xs (200 : Int)) g).fst ∧
                                                                    IntKind.i64.wrap
                                                                          ((someAt (fc (40 : Int) c7) (fz (50 : Int) c8) (headS xs (200 : Int)) g).snd +
                                                                            IntKind.i64.wrap
                                                                              (((List.drop (0 : Nat) (List.take (mn (↑xs.length : Int) (200 : Int)).toNat xs)).getD (↑g : Int).toNat (u.dflt (46 : Nat))).n.tmod
                                                                                (10 : Int))) =
                                                                        IntKind.i64.wrap
                                                                          ((someAt (fc (40 : Int) c7) (fz (50 : Int) c8) (headS xs (200 : Int)) g).snd +
                                                                            IntKind.i64.wrap
                                                                              (((List.drop (0 : Nat) (List.take (mn (↑xs.length : Int) (200 : Int)).toNat xs)).getD (↑g : Int).toNat (u.dflt (46 : Nat))).n.tmod
                                                                                (10 : Int))) ∧
                                                                      tickL (fc (40 : Int) c7)
                                                                            (IntKind.i64.wrap
                                                                              ((someAt (fc (40 : Int) c7) (fz (50 : Int) c8) (headS xs (200 : Int)) g).snd +
                                                                                IntKind.i64.wrap
                                                                                  (((List.drop (0 : Nat) (List.take (mn (↑xs.length : Int) (200 : Int)).toNat xs)).getD (↑g : Int).toNat (u.dflt (46 : Nat))).n.tmod
                                                                                    (10 : Int))))
                                                                            (someAt (fc (40 : Int) c7) (fz (50 : Int) c8) (headS xs (200 : Int)) g).fst =
                                                                          tickL (fc (40 : Int) c7)
                                                                            (IntKind.i64.wrap
                                                                              ((someAt (fc (40 : Int) c7) (fz (50 : Int) c8) (headS xs (200 : Int)) g).snd +
                                                                                IntKind.i64.wrap
                                                                                  (((List.drop (0 : Nat) (List.take (mn (↑xs.length : Int) (200 : Int)).toNat xs)).getD (↑g : Int).toNat (u.dflt (46 : Nat))).n.tmod
                                                                                    (10 : Int))))
                                                                            (someAt (fc (40 : Int) c7) (fz (50 : Int) c8) (headS xs (200 : Int)) g).fst ∧
                                                                        List.drop (0 : Nat) (List.take (mn (↑xs.length : Int) (200 : Int)).toNat xs) =
                                                                            List.drop (0 : Nat) (List.take (mn (↑xs.length : Int) (200 : Int)).toNat xs) ∧
                                                                          (↑(List.drop (0 : Nat) (List.take (mn (↑xs.length : Int) (200 : Int)).toNat xs)).length : Int) =
                                                                              (↑(List.drop (0 : Nat) (List.take (mn (↑xs.length : Int) (200 : Int)).toNat xs)).length : Int) ∧
                                                                            (↑g : Int) = (↑g : Int) ∧
                                                                              (someAt (fc (40 : Int) c7) (fz (50 : Int) c8) (headS xs (200 : Int)) g).fst =
                                                                                  (someAt (fc (40 : Int) c7) (fz (50 : Int) c8) (headS xs (200 : Int)) g).fst ∧
                                                                                (↑(someAt (fc (40 : Int) c7) (fz (50 : Int) c8) (headS xs (200 : Int)) g).fst.length : Int) =
                                                                                    (↑(someAt (fc (40 : Int) c7) (fz (50 : Int) c8) (headS xs (200 : Int)) g).fst.length : Int) ∧
                                                                                  IntKind.i64.wrap ((↑g_1 : Int) + (1 : Int)) = (↑g_2 : Int)) ∧
                                                                fc (30 : Int) c0 = fc (30 : Int) c0 ∧
                                                                  IntKind.i64.wrap (fc (30 : Int) c0 + fz (60 : Int) c1) = IntKind.i64.wrap (fc (30 : Int) c0 + fz (60 : Int) c1) ∧
                                                                    fc (6 : Int) c2 = fc (6 : Int) c2 ∧
                                                                      fc (20 : Int) c3 = fc (20 : Int) c3 ∧
                                                                        fc (9 : Int) c4 = fc (9 : Int) c4 ∧
                                                                          fc (6 : Int) c5 = fc (6 : Int) c5 ∧
                                                                            fz (4 : Int) c6 = fz (4 : Int) c6 ∧ fc (40 : Int) c7 = fc (40 : Int) c7 ∧ fz (50 : Int) c8 = fz (50 : Int) c8)) ∧
                                                ((((someAt (fc (40 : Int) c7) (fz (50 : Int) c8) (headS xs (200 : Int)) g).fst.getD (↑g_1 : Int).toNat (u.dflt (30 : Nat))).stage == (0 : Int) &&
                                                      decide
                                                        (IntKind.i64.wrap
                                                            (IntKind.i64.wrap
                                                                ((someAt (fc (40 : Int) c7) (fz (50 : Int) c8) (headS xs (200 : Int)) g).snd +
                                                                  IntKind.i64.wrap
                                                                    (((List.drop (0 : Nat) (List.take (mn (↑xs.length : Int) (200 : Int)).toNat xs)).getD (↑g : Int).toNat (u.dflt (46 : Nat))).n.tmod (10 : Int))) -
                                                              ((someAt (fc (40 : Int) c7) (fz (50 : Int) c8) (headS xs (200 : Int)) g).fst.getD (↑g_1 : Int).toNat (u.dflt (30 : Nat))).raised) ≥
                                                          fc (40 : Int) c7)) =
                                                    false →
                                                  ((0 : Int) ≤ (↑g_1 : Int) ∧
                                                      (↑g_1 : Int) <
                                                        (↑(tickL (fc (40 : Int) c7)
                                                                (IntKind.i64.wrap
                                                                  ((someAt (fc (40 : Int) c7) (fz (50 : Int) c8) (headS xs (200 : Int)) g).snd +
                                                                    IntKind.i64.wrap
                                                                      (((List.drop (0 : Nat) (List.take (mn (↑xs.length : Int) (200 : Int)).toNat xs)).getD (↑g : Int).toNat (u.dflt (46 : Nat))).n.tmod (10 : Int))))
                                                                (someAt (fc (40 : Int) c7) (fz (50 : Int) c8) (headS xs (200 : Int)) g).fst).length :
                                                          Int)) ∧
                                                    ((!(((tickL (fc (40 : Int) c7)
                                                                        (IntKind.i64.wrap
                                                                          ((someAt (fc (40 : Int) c7) (fz (50 : Int) c8) (headS xs (200 : Int)) g).snd +
                                                                            IntKind.i64.wrap
                                                                              (((List.drop (0 : Nat) (List.take (mn (↑xs.length : Int) (200 : Int)).toNat xs)).getD (↑g : Int).toNat (u.dflt (46 : Nat))).n.tmod
                                                                                (10 : Int))))
                                                                        (someAt (fc (40 : Int) c7) (fz (50 : Int) c8) (headS xs (200 : Int)) g).fst).getD
                                                                    (↑g_1 : Int).toNat (u.dflt (30 : Nat))).addr ==
                                                                ((someAt (fc (40 : Int) c7) (fz (50 : Int) c8) (headS xs (200 : Int)) g).fst.getD (↑g_1 : Int).toNat (u.dflt (30 : Nat))).addr &&
                                                              (((tickL (fc (40 : Int) c7)
                                                                          (IntKind.i64.wrap
                                                                            ((someAt (fc (40 : Int) c7) (fz (50 : Int) c8) (headS xs (200 : Int)) g).snd +
                                                                              IntKind.i64.wrap
                                                                                (((List.drop (0 : Nat) (List.take (mn (↑xs.length : Int) (200 : Int)).toNat xs)).getD (↑g : Int).toNat (u.dflt (46 : Nat))).n.tmod
                                                                                  (10 : Int))))
                                                                          (someAt (fc (40 : Int) c7) (fz (50 : Int) c8) (headS xs (200 : Int)) g).fst).getD
                                                                      (↑g_1 : Int).toNat (u.dflt (30 : Nat))).raised ==
                                                                  ((someAt (fc (40 : Int) c7) (fz (50 : Int) c8) (headS xs (200 : Int)) g).fst.getD (↑g_1 : Int).toNat (u.dflt (30 : Nat))).raised &&
                                                                (((tickL (fc (40 : Int) c7)
                                                                            (IntKind.i64.wrap
                                                                              ((someAt (fc (40 : Int) c7) (fz (50 : Int) c8) (headS xs (200 : Int)) g).snd +
                                                                                IntKind.i64.wrap
                                                                                  (((List.drop (0 : Nat) (List.take (mn (↑xs.length : Int) (200 : Int)).toNat xs)).getD (↑g : Int).toNat (u.dflt (46 : Nat))).n.tmod
                                                                                    (10 : Int))))
                                                                            (someAt (fc (40 : Int) c7) (fz (50 : Int) c8) (headS xs (200 : Int)) g).fst).getD
                                                                        (↑g_1 : Int).toNat (u.dflt (30 : Nat))).ended ==
                                                                    ((someAt (fc (40 : Int) c7) (fz (50 : Int) c8) (headS xs (200 : Int)) g).fst.getD (↑g_1 : Int).toNat (u.dflt (30 : Nat))).ended &&
                                                                  (((tickL (fc (40 : Int) c7)
                                                                              (IntKind.i64.wrap
                                                                                ((someAt (fc (40 : Int) c7) (fz (50 : Int) c8) (headS xs (200 : Int)) g).snd +
                                                                                  IntKind.i64.wrap
                                                                                    (((List.drop (0 : Nat) (List.take (mn (↑xs.length : Int) (200 : Int)).toNat xs)).getD (↑g : Int).toNat (u.dflt (46 : Nat))).n.tmod
                                                                                      (10 : Int))))
                                                                              (someAt (fc (40 : Int) c7) (fz (50 : Int) c8) (headS xs (200 : Int)) g).fst).getD
                                                                          (↑g_1 : Int).toNat (u.dflt (30 : Nat))).stage ==
                                                                      ((someAt (fc (40 : Int) c7) (fz (50 : Int) c8) (headS xs (200 : Int)) g).fst.getD (↑g_1 : Int).toNat (u.dflt (30 : Nat))).stage &&
                                                                    true))))) =
                                                          true →
                                                        false = true) ∧
                                                      ((!(((tickL (fc (40 : Int) c7)
                                                                        (IntKind.i64.wrap
                                                                          ((someAt (fc (40 : Int) c7) (fz (50 : Int) c8) (headS xs (200 : Int)) g).snd +
                                                                            IntKind.i64.wrap
                                                                              (((List.drop (0 : Nat) (List.take (mn (↑xs.length : Int) (200 : Int)).toNat xs)).getD (↑g : Int).toNat (u.dflt (46 : Nat))).n.tmod
                                                                                (10 : Int))))
                                                                        (someAt (fc (40 : Int) c7) (fz (50 : Int) c8) (headS xs (200 : Int)) g).fst).getD
                                                                    (↑g_1 : Int).toNat (u.dflt (30 : Nat))).addr ==
                                                                ((someAt (fc (40 : Int) c7) (fz (50 : Int) c8) (headS xs (200 : Int)) g).fst.getD (↑g_1 : Int).toNat (u.dflt (30 : Nat))).addr &&
                                                              (((tickL (fc (40 : Int) c7)
                                                                          (IntKind.i64.wrap
                                                                            ((someAt (fc (40 : Int) c7) (fz (50 : Int) c8) (headS xs (200 : Int)) g).snd +
                                                                              IntKind.i64.wrap
                                                                                (((List.drop (0 : Nat) (List.take (mn (↑xs.length : Int) (200 : Int)).toNat xs)).getD (↑g : Int).toNat (u.dflt (46 : Nat))).n.tmod
                                                                                  (10 : Int))))
                                                                          (someAt (fc (40 : Int) c7) (fz (50 : Int) c8) (headS xs (200 : Int)) g).fst).getD
                                                                      (↑g_1 : Int).toNat (u.dflt (30 : Nat))).raised ==
                                                                  ((someAt (fc (40 : Int) c7) (fz (50 : Int) c8) (headS xs (200 : Int)) g).fst.getD (↑g_1 : Int).toNat (u.dflt (30 : Nat))).raised &&
                                                                (((tickL (fc (40 : Int) c7)
                                                                            (IntKind.i64.wrap
                                                                              ((someAt (fc (40 : Int) c7) (fz (50 : Int) c8) (headS xs (200 : Int)) g).snd +
                                                                                IntKind.i64.wrap
                                                                                  (((List.drop (0 : Nat) (List.take (mn (↑xs.length : Int) (200 : Int)).toNat xs)).getD (↑g : Int).toNat (u.dflt (46 : Nat))).n.tmod
                                                                                    (10 : Int))))
                                                                            (someAt (fc (40 : Int) c7) (fz (50 : Int) c8) (headS xs (200 : Int)) g).fst).getD
                                                                        (↑g_1 : Int).toNat (u.dflt (30 : Nat))).ended ==
                                                                    ((someAt (fc (40 : Int) c7) (fz (50 : Int) c8) (headS xs (200 : Int)) g).fst.getD (↑g_1 : Int).toNat (u.dflt (30 : Nat))).ended &&
                                                                  (((tickL (fc (40 : Int) c7)
                                                                              (IntKind.i64.wrap
                                                                                ((someAt (fc (40 : Int) c7) (fz (50 : Int) c8) (headS xs (200 : Int)) g).snd +
                                                                                  IntKind.i64.wrap
                                                                                    (((List.drop (0 : Nat) (List.take (mn (↑xs.length : Int) (200 : Int)).toNat xs)).getD (↑g : Int).toNat (u.dflt (46 : Nat))).n.tmod
                                                                                      (10 : Int))))
                                                                              (someAt (fc (40 : Int) c7) (fz (50 : Int) c8) (headS xs (200 : Int)) g).fst).getD
                                                                          (↑g_1 : Int).toNat (u.dflt (30 : Nat))).stage ==
                                                                      ((someAt (fc (40 : Int) c7) (fz (50 : Int) c8) (headS xs (200 : Int)) g).fst.getD (↑g_1 : Int).toNat (u.dflt (30 : Nat))).stage &&
                                                                    true))))) =
                                                          false →
                                                        ∃ (g_2 : Nat),
                                                          g_2.le (someAt (fc (40 : Int) c7) (fz (50 : Int) c8) (headS xs (200 : Int)) g).fst.length ∧
                                                            (annScrI (fc (40 : Int) c7) (fz (50 : Int) c8) (headS xs (200 : Int)) g).μ g_2 <
                                                                (annScrI (fc (40 : Int) c7) (fz (50 : Int) c8) (headS xs (200 : Int)) g).μ g_1 ∧
                                                              (True ∧
                                                                  (someAt (fc (40 : Int) c7) (fz (50 : Int) c8) (headS xs (200 : Int)) g).fst =
                                                                      (someAt (fc (40 : Int) c7) (fz (50 : Int) c8) (headS xs (200 : Int)) g).fst ∧
                                                                    IntKind.i64.wrap
                                                                          ((someAt (fc (40 : Int) c7) (fz (50 : Int) c8) (headS xs (200 : Int)) g).snd +
                                                                            IntKind.i64.wrap
                                                                              (((List.drop (0 : Nat) (List.take (mn (↑xs.length : Int) (200 : Int)).toNat xs)).getD (↑g : Int).toNat (u.dflt (46 : Nat))).n.tmod
                                                                                (10 : Int))) =
                                                                        IntKind.i64.wrap
                                                                          ((someAt (fc (40 : Int) c7) (fz (50 : Int) c8) (headS xs (200 : Int)) g).snd +
                                                                            IntKind.i64.wrap
                                                                              (((List.drop (0 : Nat) (List.take (mn (↑xs.length : Int) (200 : Int)).toNat xs)).getD (↑g : Int).toNat (u.dflt (46 : Nat))).n.tmod
                                                                                (10 : Int))) ∧
                                                                      tickL (fc (40 : Int) c7)
                                                                            (IntKind.i64.wrap
                                                                              ((someAt (fc (40 : Int) c7) (fz (50 : Int) c8) (headS xs (200 : Int)) g).snd +
                                                                                IntKind.i64.wrap
                                                                                  (((List.drop (0 : Nat) (List.take (mn (↑xs.length : Int) (200 : Int)).toNat xs)).getD (↑g : Int).toNat (u.dflt (46 : Nat))).n.tmod
                                                                                    (10 : Int))))
                                                                            (someAt (fc (40 : Int) c7) (fz (50 : Int) c8) (headS xs (200 : Int)) g).fst =
                                                                          tickL (fc (40 : Int) c7)
                                                                            (IntKind.i64.wrap
                                                                              ((someAt (fc (40 : Int) c7) (fz (50 : Int) c8) (headS xs (200 : Int)) g).snd +
                                                                                IntKind.i64.wrap
                                                                                  (((List.drop (0 : Nat) (List.take (mn (↑xs.length : Int) (200 : Int)).toNat xs)).getD (↑g : Int).toNat (u.dflt (46 : Nat))).n.tmod
                                                                                    (10 : Int))))
                                                                            (someAt (fc (40 : Int) c7) (fz (50 : Int) c8) (headS xs (200 : Int)) g).fst ∧
                                                                        List.drop (0 : Nat) (List.take (mn (↑xs.length : Int) (200 : Int)).toNat xs) =
                                                                            List.drop (0 : Nat) (List.take (mn (↑xs.length : Int) (200 : Int)).toNat xs) ∧
                                                                          (↑(List.drop (0 : Nat) (List.take (mn (↑xs.length : Int) (200 : Int)).toNat xs)).length : Int) =
                                                                              (↑(List.drop (0 : Nat) (List.take (mn (↑xs.length : Int) (200 : Int)).toNat xs)).length : Int) ∧
                                                                            (↑g : Int) = (↑g : Int) ∧
                                                                              (someAt (fc (40 : Int) c7) (fz (50 : Int) c8) (headS xs (200 : Int)) g).fst =
                                                                                  (someAt (fc (40 : Int) c7) (fz (50 : Int) c8) (headS xs (200 : Int)) g).fst ∧
                                                                                (↑(someAt (fc (40 : Int) c7) (fz (50 : Int) c8) (headS xs (200 : Int)) g).fst.length : Int) =
                                                                                    (↑(someAt (fc (40 : Int) c7) (fz (50 : Int) c8) (headS xs (200 : Int)) g).fst.length : Int) ∧
                                                                                  IntKind.i64.wrap ((↑g_1 : Int) + (1 : Int)) = (↑g_2 : Int)) ∧
                                                                fc (30 : Int) c0 = fc (30 : Int) c0 ∧
                                                                  IntKind.i64.wrap (fc (30 : Int) c0 + fz (60 : Int) c1) = IntKind.i64.wrap (fc (30 : Int) c0 + fz (60 : Int) c1) ∧
                                                                    fc (6 : Int) c2 = fc (6 : Int) c2 ∧
                                                                      fc (20 : Int) c3 = fc (20 : Int) c3 ∧
                                                                        fc (9 : Int) c4 = fc (9 : Int) c4 ∧
                                                                          fc (6 : Int) c5 = fc (6 : Int) c5 ∧
                                                                            fz (4 : Int) c6 = fz (4 : Int) c6 ∧ fc (40 : Int) c7 = fc (40 : Int) c7 ∧ fz (50 : Int) c8 = fz (50 : Int) c8))) ∧
                                          (decide ((↑g_1 : Int) < (↑(someAt (fc (40 : Int) c7) (fz (50 : Int) c8) (headS xs (200 : Int)) g).fst.length : Int)) = false →
                                            ∃ (g_2 : Nat),
                                              g_2.le (headS xs (200 : Int)).length ∧
                                                (annScr (fc (40 : Int) c7) (fz (50 : Int) c8) (headS xs (200 : Int))).μ g_2 < (annScr (fc (40 : Int) c7) (fz (50 : Int) c8) (headS xs (200 : Int))).μ g ∧
                                                  (True ∧
                                                      List.drop (0 : Nat) (List.take (mn (↑xs.length : Int) (200 : Int)).toNat xs) = List.drop (0 : Nat) (List.take (mn (↑xs.length : Int) (200 : Int)).toNat xs) ∧
                                                        (↑(List.drop (0 : Nat) (List.take (mn (↑xs.length : Int) (200 : Int)).toNat xs)).length : Int) =
                                                            (↑(List.drop (0 : Nat) (List.take (mn (↑xs.length : Int) (200 : Int)).toNat xs)).length : Int) ∧
                                                          IntKind.i64.wrap ((↑g : Int) + (1 : Int)) = (↑g_2 : Int) ∧
                                                            tickL (fc (40 : Int) c7)
                                                                  (IntKind.i64.wrap
                                                                    ((someAt (fc (40 : Int) c7) (fz (50 : Int) c8) (headS xs (200 : Int)) g).snd +
                                                                      IntKind.i64.wrap
                                                                        (((List.drop (0 : Nat) (List.take (mn (↑xs.length : Int) (200 : Int)).toNat xs)).getD (↑g : Int).toNat (u.dflt (46 : Nat))).n.tmod (10 : Int))))
                                                                  (someAt (fc (40 : Int) c7) (fz (50 : Int) c8) (headS xs (200 : Int)) g).fst =
                                                                (someAt (fc (40 : Int) c7) (fz (50 : Int) c8) (headS xs (200 : Int)) g_2).fst ∧
                                                              IntKind.i64.wrap
                                                                  ((someAt (fc (40 : Int) c7) (fz (50 : Int) c8) (headS xs (200 : Int)) g).snd +
                                                                    IntKind.i64.wrap
                                                                      (((List.drop (0 : Nat) (List.take (mn (↑xs.length : Int) (200 : Int)).toNat xs)).getD (↑g : Int).toNat (u.dflt (46 : Nat))).n.tmod (10 : Int))) =
                                                                (someAt (fc (40 : Int) c7) (fz (50 : Int) c8) (headS xs (200 : Int)) g_2).snd) ∧
                                                    fc (30 : Int) c0 = fc (30 : Int) c0 ∧
                                                      IntKind.i64.wrap (fc (30 : Int) c0 + fz (60 : Int) c1) = IntKind.i64.wrap (fc (30 : Int) c0 + fz (60 : Int) c1) ∧
                                                        fc (6 : Int) c2 = fc (6 : Int) c2 ∧
                                                          fc (20 : Int) c3 = fc (20 : Int) c3 ∧
                                                            fc (9 : Int) c4 = fc (9 : Int) c4 ∧
                                                              fc (6 : Int) c5 = fc (6 : Int) c5 ∧ fz (4 : Int) c6 = fz (4 : Int) c6 ∧ fc (40 : Int) c7 = fc (40 : Int) c7 ∧ fz (50 : Int) c8 = fz (50 : Int) c8))) ∧
                        (decide (((List.drop (0 : Nat) (List.take (mn (↑xs.length : Int) (200 : Int)).toNat xs)).getD (↑g : Int).toNat (u.dflt (46 : Nat))).op.tmod (8 : Int) > (5 : Int)) = false →
                          (someAt (fc (40 : Int) c7) (fz (50 : Int) c8) (headS xs (200 : Int)) g).fst.length.le (1000000 : Nat) ∧
                            ((someAt (fc (40 : Int) c7) (fz (50 : Int) c8) (headS xs (200 : Int)) g).fst.length.le (1000000 : Nat) ∧
                                (0 : Int) ≤ ((List.drop (0 : Nat) (List.take (mn (↑xs.length : Int) (200 : Int)).toNat xs)).getD (↑g : Int).toNat (u.dflt (46 : Nat))).op ∧
                                  ((List.drop (0 : Nat) (List.take (mn (↑xs.length : Int) (200 : Int)).toNat xs)).getD (↑g : Int).toNat (u.dflt (46 : Nat))).op.tmod (8 : Int) < (6 : Int)) ∧
                              ((doE (fz (50 : Int) c8) (someAt (fc (40 : Int) c7) (fz (50 : Int) c8) (headS xs (200 : Int)) g).fst
                                        { op := ((List.drop (0 : Nat) (List.take (mn (↑xs.length : Int) (200 : Int)).toNat xs)).getD (↑g : Int).toNat (u.dflt (46 : Nat))).op,
                                          addr := ((List.drop (0 : Nat) (List.take (mn (↑xs.length : Int) (200 : Int)).toNat xs)).getD (↑g : Int).toNat (u.dflt (46 : Nat))).addr,
                                          n := ((List.drop (0 : Nat) (List.take (mn (↑xs.length : Int) (200 : Int)).toNat xs)).getD (↑g : Int).toNat (u.dflt (46 : Nat))).n : Act }
                                        (someAt (fc (40 : Int) c7) (fz (50 : Int) c8) (headS xs (200 : Int)) g).snd !=
                                      modE (fz (50 : Int) c8) (someAt (fc (40 : Int) c7) (fz (50 : Int) c8) (headS xs (200 : Int)) g).fst
                                        { op := ((List.drop (0 : Nat) (List.take (mn (↑xs.length : Int) (200 : Int)).toNat xs)).getD (↑g : Int).toNat (u.dflt (46 : Nat))).op,
                                          addr := ((List.drop (0 : Nat) (List.take (mn (↑xs.length : Int) (200 : Int)).toNat xs)).getD (↑g : Int).toNat (u.dflt (46 : Nat))).addr,
                                          n := ((List.drop (0 : Nat) (List.take (mn (↑xs.length : Int) (200 : Int)).toNat xs)).getD (↑g : Int).toNat (u.dflt (46 : Nat))).n : Act }
                                        (someAt (fc (40 : Int) c7) (fz (50 : Int) c8) (headS xs (200 : Int)) g).snd) =
                                    false →
                                  (doL (fz (50 : Int) c8) (someAt (fc (40 : Int) c7) (fz (50 : Int) c8) (headS xs (200 : Int)) g).fst
                                              { op := ((List.drop (0 : Nat) (List.take (mn (↑xs.length : Int) (200 : Int)).toNat xs)).getD (↑g : Int).toNat (u.dflt (46 : Nat))).op,
                                                addr := ((List.drop (0 : Nat) (List.take (mn (↑xs.length : Int) (200 : Int)).toNat xs)).getD (↑g : Int).toNat (u.dflt (46 : Nat))).addr,
                                                n := ((List.drop (0 : Nat) (List.take (mn (↑xs.length : Int) (200 : Int)).toNat xs)).getD (↑g : Int).toNat (u.dflt (46 : Nat))).n : Act }
                                              (someAt (fc (40 : Int) c7) (fz (50 : Int) c8) (headS xs (200 : Int)) g).snd).length.succ.le
                                      (9223372036854775808 : Nat) ∧
                                    (modL (fz (50 : Int) c8) (someAt (fc (40 : Int) c7) (fz (50 : Int) c8) (headS xs (200 : Int)) g).fst
                                              { op := ((List.drop (0 : Nat) (List.take (mn (↑xs.length : Int) (200 : Int)).toNat xs)).getD (↑g : Int).toNat (u.dflt (46 : Nat))).op,
                                                addr := ((List.drop (0 : Nat) (List.take (mn (↑xs.length : Int) (200 : Int)).toNat xs)).getD (↑g : Int).toNat (u.dflt (46 : Nat))).addr,
                                                n := ((List.drop (0 : Nat) (List.take (mn (↑xs.length : Int) (200 : Int)).toNat xs)).getD (↑g : Int).toNat (u.dflt (46 : Nat))).n : Act }
                                              (someAt (fc (40 : Int) c7) (fz (50 : Int) c8) (headS xs (200 : Int)) g).snd).length.succ.le
                                      (9223372036854775808 : Nat)) ∧
                                ((doE (fz (50 : Int) c8) (someAt (fc (40 : Int) c7) (fz (50 : Int) c8) (headS xs (200 : Int)) g).fst
                                            { op := ((List.drop (0 : Nat) (List.take (mn (↑xs.length : Int) (200 : Int)).toNat xs)).getD (↑g : Int).toNat (u.dflt (46 : Nat))).op,
                                              addr := ((List.drop (0 : Nat) (List.take (mn (↑xs.length : Int) (200 : Int)).toNat xs)).getD (↑g : Int).toNat (u.dflt (46 : Nat))).addr,
                                              n := ((List.drop (0 : Nat) (List.take (mn (↑xs.length : Int) (200 : Int)).toNat xs)).getD (↑g : Int).toNat (u.dflt (46 : Nat))).n : Act }
                                            (someAt (fc (40 : Int) c7) (fz (50 : Int) c8) (headS xs (200 : Int)) g).snd !=
                                          modE (fz (50 : Int) c8) (someAt (fc (40 : Int) c7) (fz (50 : Int) c8) (headS xs (200 : Int)) g).fst
                                            { op := ((List.drop (0 : Nat) (List.take (mn (↑xs.length : Int) (200 : Int)).toNat xs)).getD (↑g : Int).toNat (u.dflt (46 : Nat))).op,
                                              addr := ((List.drop (0 : Nat) (List.take (mn (↑xs.length : Int) (200 : Int)).toNat xs)).getD (↑g : Int).toNat (u.dflt (46 : Nat))).addr,
                                              n := ((List.drop (0 : Nat) (List.take (mn (↑xs.length : Int) (200 : Int)).toNat xs)).getD (↑g : Int).toNat (u.dflt (46 : Nat))).n : Act }
                                            (someAt (fc (40 : Int) c7) (fz (50 : Int) c8) (headS xs (200 : Int)) g).snd ||
                                        !sameL
                                            (doL (fz (50 : Int) c8) (someAt (fc (40 : Int) c7) (fz (50 : Int) c8) (headS xs (200 : Int)) g).fst
                                              { op := ((List.drop (0 : Nat) (List.take (mn (↑xs.length : Int) (200 : Int)).toNat xs)).getD (↑g : Int).toNat (u.dflt (46 : Nat))).op,
                                                addr := ((List.drop (0 : Nat) (List.take (mn (↑xs.length : Int) (200 : Int)).toNat xs)).getD (↑g : Int).toNat (u.dflt (46 : Nat))).addr,
                                                n := ((List.drop (0 : Nat) (List.take (mn (↑xs.length : Int) (200 : Int)).toNat xs)).getD (↑g : Int).toNat (u.dflt (46 : Nat))).n : Act }
                                              (someAt (fc (40 : Int) c7) (fz (50 : Int) c8) (headS xs (200 : Int)) g).snd)
                                            (modL (fz (50 : Int) c8) (someAt (fc (40 : Int) c7) (fz (50 : Int) c8) (headS xs (200 : Int)) g).fst
                                              { op := ((List.drop (0 : Nat) (List.take (mn (↑xs.length : Int) (200 : Int)).toNat xs)).getD (↑g : Int).toNat (u.dflt (46 : Nat))).op,
                                                addr := ((List.drop (0 : Nat) (List.take (mn (↑xs.length : Int) (200 : Int)).toNat xs)).getD (↑g : Int).toNat (u.dflt (46 : Nat))).addr,
                                                n := ((List.drop (0 : Nat) (List.take (mn (↑xs.length : Int) (200 : Int)).toNat xs)).getD (↑g : Int).toNat (u.dflt (46 : Nat))).n : Act }
                                              (someAt (fc (40 : Int) c7) (fz (50 : Int) c8) (headS xs (200 : Int)) g).snd)) =
                                      true →
                                    false = true) ∧
                                  ((doE (fz (50 : Int) c8) (someAt (fc (40 : Int) c7) (fz (50 : Int) c8) (headS xs (200 : Int)) g).fst
                                            { op := ((List.drop (0 : Nat) (List.take (mn (↑xs.length : Int) (200 : Int)).toNat xs)).getD (↑g : Int).toNat (u.dflt (46 : Nat))).op,
                                              addr := ((List.drop (0 : Nat) (List.take (mn (↑xs.length : Int) (200 : Int)).toNat xs)).getD (↑g : Int).toNat (u.dflt (46 : Nat))).addr,
                                              n := ((List.drop (0 : Nat) (List.take (mn (↑xs.length : Int) (200 : Int)).toNat xs)).getD (↑g : Int).toNat (u.dflt (46 : Nat))).n : Act }
                                            (someAt (fc (40 : Int) c7) (fz (50 : Int) c8) (headS xs (200 : Int)) g).snd !=
                                          modE (fz (50 : Int) c8) (someAt (fc (40 : Int) c7) (fz (50 : Int) c8) (headS xs (200 : Int)) g).fst
                                            { op := ((List.drop (0 : Nat) (List.take (mn (↑xs.length : Int) (200 : Int)).toNat xs)).getD (↑g : Int).toNat (u.dflt (46 : Nat))).op,
                                              addr := ((List.drop (0 : Nat) (List.take (mn (↑xs.length : Int) (200 : Int)).toNat xs)).getD (↑g : Int).toNat (u.dflt (46 : Nat))).addr,
                                              n := ((List.drop (0 : Nat) (List.take (mn (↑xs.length : Int) (200 : Int)).toNat xs)).getD (↑g : Int).toNat (u.dflt (46 : Nat))).n : Act }
                                            (someAt (fc (40 : Int) c7) (fz (50 : Int) c8) (headS xs (200 : Int)) g).snd ||
                                        !sameL
                                            (doL (fz (50 : Int) c8) (someAt (fc (40 : Int) c7) (fz (50 : Int) c8) (headS xs (200 : Int)) g).fst
                                              { op := ((List.drop (0 : Nat) (List.take (mn (↑xs.length : Int) (200 : Int)).toNat xs)).getD (↑g : Int).toNat (u.dflt (46 : Nat))).op,
                                                addr := ((List.drop (0 : Nat) (List.take (mn (↑xs.length : Int) (200 : Int)).toNat xs)).getD (↑g : Int).toNat (u.dflt (46 : Nat))).addr,
                                                n := ((List.drop (0 : Nat) (List.take (mn (↑xs.length : Int) (200 : Int)).toNat xs)).getD (↑g : Int).toNat (u.dflt (46 : Nat))).n : Act }
                                              (someAt (fc (40 : Int) c7) (fz (50 : Int) c8) (headS xs (200 : Int)) g).snd)
                                            (modL (fz (50 : Int) c8) (someAt (fc (40 : Int) c7) (fz (50 : Int) c8) (headS xs (200 : Int)) g).fst
                                              { op := ((List.drop (0 : Nat) (List.take (mn (↑xs.length : Int) (200 : Int)).toNat xs)).getD (↑g : Int).toNat (u.dflt (46 : Nat))).op,
                                                addr := ((List.drop (0 : Nat) (List.take (mn (↑xs.length : Int) (200 : Int)).toNat xs)).getD (↑g : Int).toNat (u.dflt (46 : Nat))).addr,
                                                n := ((List.drop (0 : Nat) (List.take (mn (↑xs.length : Int) (200 : Int)).toNat xs)).getD (↑g : Int).toNat (u.dflt (46 : Nat))).n : Act }
                                              (someAt (fc (40 : Int) c7) (fz (50 : Int) c8) (headS xs (200 : Int)) g).snd)) =
                                      false →
                                    ((doE (fz (50 : Int) c8) (someAt (fc (40 : Int) c7) (fz (50 : Int) c8) (headS xs (200 : Int)) g).fst
                                              { op := ((List.drop (0 : Nat) (List.take (mn (↑xs.length : Int) (200 : Int)).toNat xs)).getD (↑g : Int).toNat (u.dflt (46 : Nat))).op,
                                                addr := ((List.drop (0 : Nat) (List.take (mn (↑xs.length : Int) (200 : Int)).toNat xs)).getD (↑g : Int).toNat (u.dflt (46 : Nat))).addr,
                                                n := ((List.drop (0 : Nat) (List.take (mn (↑xs.length : Int) (200 : Int)).toNat xs)).getD (↑g : Int).toNat (u.dflt (46 : Nat))).n : Act }
                                              (someAt (fc (40 : Int) c7) (fz (50 : Int) c8) (headS xs (200 : Int)) g).snd ==
                                            (0 : Int)) =
                                          true →
                                        True) ∧
                                      ((doE (fz (50 : Int) c8) (someAt (fc (40 : Int) c7) (fz (50 : Int) c8) (headS xs (200 : Int)) g).fst
                                                { op := ((List.drop (0 : Nat) (List.take (mn (↑xs.length : Int) (200 : Int)).toNat xs)).getD (↑g : Int).toNat (u.dflt (46 : Nat))).op,
                                                  addr := ((List.drop (0 : Nat) (List.take (mn (↑xs.length : Int) (200 : Int)).toNat xs)).getD (↑g : Int).toNat (u.dflt (46 : Nat))).addr,
                                                  n := ((List.drop (0 : Nat) (List.take (mn (↑xs.length : Int) (200 : Int)).toNat xs)).getD (↑g : Int).toNat (u.dflt (46 : Nat))).n : Act }
                                                (someAt (fc (40 : Int) c7) (fz (50 : Int) c8) (headS xs (200 : Int)) g).snd ==
                                              (0 : Int)) =
                                            false →
                                          True) ∧
                                        ∀ (v : List Cse),
                                          (v =
                                              if
                                                  (doE (fz (50 : Int) c8) (someAt (fc (40 : Int) c7) (fz (50 : Int) c8) (headS xs (200 : Int)) g).fst
                                                        { op := ((List.drop (0 : Nat) (List.take (mn (↑xs.length : Int) (200 : Int)).toNat xs)).getD (↑g : Int).toNat (u.dflt (46 : Nat))).op,
                                                          addr := ((List.drop (0 : Nat) (List.take (mn (↑xs.length : Int) (200 : Int)).toNat xs)).getD (↑g : Int).toNat (u.dflt (46 : Nat))).addr,
                                                          n := ((List.drop (0 : Nat) (List.take (mn (↑xs.length : Int) (200 : Int)).toNat xs)).getD (↑g : Int).toNat (u.dflt (46 : Nat))).n : Act }
                                                        (someAt (fc (40 : Int) c7) (fz (50 : Int) c8) (headS xs (200 : Int)) g).snd ==
                                                      (0 : Int)) =
                                                    true then
                                                doL (fz (50 : Int) c8) (someAt (fc (40 : Int) c7) (fz (50 : Int) c8) (headS xs (200 : Int)) g).fst
                                                  { op := ((List.drop (0 : Nat) (List.take (mn (↑xs.length : Int) (200 : Int)).toNat xs)).getD (↑g : Int).toNat (u.dflt (46 : Nat))).op,
                                                    addr := ((List.drop (0 : Nat) (List.take (mn (↑xs.length : Int) (200 : Int)).toNat xs)).getD (↑g : Int).toNat (u.dflt (46 : Nat))).addr,
                                                    n := ((List.drop (0 : Nat) (List.take (mn (↑xs.length : Int) (200 : Int)).toNat xs)).getD (↑g : Int).toNat (u.dflt (46 : Nat))).n : Act }
                                                  (someAt (fc (40 : Int) c7) (fz (50 : Int) c8) (headS xs (200 : Int)) g).snd
                                              else (someAt (fc (40 : Int) c7) (fz (50 : Int) c8) (headS xs (200 : Int)) g).fst) →
                                            v.length.succ.le (9223372036854775808 : Nat) ∧
                                              ((!rightB v) = true → false = true) ∧
                                                ((!rightB v) = false →
                                                  ∃ (g_1 : Nat),
                                                    g_1.le (headS xs (200 : Int)).length ∧
                                                      (annScr (fc (40 : Int) c7) (fz (50 : Int) c8) (headS xs (200 : Int))).μ g_1 < (annScr (fc (40 : Int) c7) (fz (50 : Int) c8) (headS xs (200 : Int))).μ g ∧
                                                        (True ∧
                                                            List.drop (0 : Nat) (List.take (mn (↑xs.length : Int) (200 : Int)).toNat xs) = List.drop (0 : Nat) (List.take (mn (↑xs.length : Int) (200 : Int)).toNat xs) ∧
                                                              (↑(List.drop (0 : Nat) (List.take (mn (↑xs.length : Int) (200 : Int)).toNat xs)).length : Int) =
                                                                  (↑(List.drop (0 : Nat) (List.take (mn (↑xs.length : Int) (200 : Int)).toNat xs)).length : Int) ∧
                                                                IntKind.i64.wrap ((↑g : Int) + (1 : Int)) = (↑g_1 : Int) ∧
                                                                  v = (someAt (fc (40 : Int) c7) (fz (50 : Int) c8) (headS xs (200 : Int)) g_1).fst ∧
                                                                    (someAt (fc (40 : Int) c7) (fz (50 : Int) c8) (headS xs (200 : Int)) g).snd =
                                                                      (someAt (fc (40 : Int) c7) (fz (50 : Int) c8) (headS xs (200 : Int)) g_1).snd) ∧
                                                          fc (30 : Int) c0 = fc (30 : Int) c0 ∧
                                                            IntKind.i64.wrap (fc (30 : Int) c0 + fz (60 : Int) c1) = IntKind.i64.wrap (fc (30 : Int) c0 + fz (60 : Int) c1) ∧
                                                              fc (6 : Int) c2 = fc (6 : Int) c2 ∧
                                                                fc (20 : Int) c3 = fc (20 : Int) c3 ∧
                                                                  fc (9 : Int) c4 = fc (9 : Int) c4 ∧
                                                                    fc (6 : Int) c5 = fc (6 : Int) c5 ∧ fz (4 : Int) c6 = fz (4 : Int) c6 ∧ fc (40 : Int) c7 = fc (40 : Int) c7 ∧ fz (50 : Int) c8 = fz (50 : Int) c8)))) ∧
                (decide ((↑g : Int) < (↑(List.drop (0 : Nat) (List.take (mn (↑xs.length : Int) (200 : Int)).toNat xs)).length : Int)) = false → true = true))


end Go.Proofs.Ytlamlmihojodfaa.Cas
