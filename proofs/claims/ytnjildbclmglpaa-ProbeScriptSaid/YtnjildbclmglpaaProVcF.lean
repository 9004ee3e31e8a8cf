/- Questions that wait: what taking one out, and the law ProbeAnswer, come to (printed by wip/Vc.lean; checked by the kernel in the next text). -/
import Derived.Test.YtnjildbclmglpaaProSpecF
namespace Go.Proofs.Ytnjildbclmglpaa.Pro
open Go Go.Proofs.Ytnjildbclmglpaa.Sx

def vcDelete : List Prb → Int → Int → Prop :=
  fun (xs : List Prb) (i j : Int) =>
  ((0 : Int) ≤ i ∧ i ≤ j ∧ j ≤ (↑xs.length : Int) ∧ (↑xs.length : Int) ≤ (↑xs.length : Int)) ∧
    ((i == j) = true → False ∧ xs = cutAt xs i.toNat ++ [zeroP] ∧ (cutAt xs i.toNat ++ [zeroP]).length = xs.length ∧ True) ∧
      ((i == j) = false →
        ((0 : Int) ≤ (0 : Int) ∧ (0 : Int) ≤ i ∧ i ≤ (↑xs.length : Int)) ∧
          ((0 : Int) ≤ j ∧ j ≤ (↑xs.length : Int) ∧ (↑xs.length : Int) ≤ (↑xs.length : Int)) ∧
            i.toNat - (0 : Nat) + (List.take ((↑xs.length : Int).toNat - j.toNat) (List.drop ((0 : Nat) + j.toNat) xs)).length ≤ xs.length ∧
              ((0 : Int) ≤ (↑(i.toNat - (0 : Nat) + (List.take ((↑xs.length : Int).toNat - j.toNat) (List.drop ((0 : Nat) + j.toNat) xs)).length) : Int) ∧
                  (↑(i.toNat - (0 : Nat) + (List.take ((↑xs.length : Int).toNat - j.toNat) (List.drop ((0 : Nat) + j.toNat) xs)).length) : Int) ≤ (↑xs.length : Int) ∧
                    (↑xs.length : Int) ≤
                      (↑((List.take (i.toNat - (0 : Nat)) xs ++ List.take ((↑xs.length : Int).toNat - j.toNat) (List.drop ((0 : Nat) + j.toNat) xs) ++
                                List.drop (i.toNat - (0 : Nat) + (List.take ((↑xs.length : Int).toNat - j.toNat) (List.drop ((0 : Nat) + j.toNat) xs)).length) xs).length -
                            (0 : Nat)) :
                        Int)) ∧
                ((0 : Nat) = (0 : Nat) ∧ i.toNat - (0 : Nat) + (List.take ((↑xs.length : Int).toNat - j.toNat) (List.drop ((0 : Nat) + j.toNat) xs)).length = xs.length - (1 : Nat)) ∧
                  List.take ((0 : Nat) + (↑(i.toNat - (0 : Nat) + (List.take ((↑xs.length : Int).toNat - j.toNat) (List.drop ((0 : Nat) + j.toNat) xs)).length) : Int).toNat)
                            (List.take (i.toNat - (0 : Nat)) xs ++ List.take ((↑xs.length : Int).toNat - j.toNat) (List.drop ((0 : Nat) + j.toNat) xs) ++
                              List.drop (i.toNat - (0 : Nat) + (List.take ((↑xs.length : Int).toNat - j.toNat) (List.drop ((0 : Nat) + j.toNat) xs)).length) xs) ++
                          List.replicate ((↑xs.length : Int).toNat - (↑(i.toNat - (0 : Nat) + (List.take ((↑xs.length : Int).toNat - j.toNat) (List.drop ((0 : Nat) + j.toNat) xs)).length) : Int).toNat)
                            { addr := (0 : Int), id := (0 : Int), num := (0 : Int), sent := (0 : Int), tries := (0 : Int) : Prb } ++
                        List.drop
                          ((0 : Nat) + (↑(i.toNat - (0 : Nat) + (List.take ((↑xs.length : Int).toNat - j.toNat) (List.drop ((0 : Nat) + j.toNat) xs)).length) : Int).toNat +
                            ((↑xs.length : Int).toNat - (↑(i.toNat - (0 : Nat) + (List.take ((↑xs.length : Int).toNat - j.toNat) (List.drop ((0 : Nat) + j.toNat) xs)).length) : Int).toNat))
                          (List.take (i.toNat - (0 : Nat)) xs ++ List.take ((↑xs.length : Int).toNat - j.toNat) (List.drop ((0 : Nat) + j.toNat) xs) ++
                            List.drop (i.toNat - (0 : Nat) + (List.take ((↑xs.length : Int).toNat - j.toNat) (List.drop ((0 : Nat) + j.toNat) xs)).length) xs) =
                      cutAt xs i.toNat ++ [zeroP] ∧
                    (cutAt xs i.toNat ++ [zeroP]).length = xs.length ∧ True)

def vcMatch : List Prb → Bool → Int → Int → Int → Int → Int → Int → Int → Int → Int → Int → Prop :=
  fun (xs : List Prb) (an : Bool) (f t m0 m1 m2 m3 m4 m5 i s : Int) =>
  xs.length.succ.le (9223372036854775808 : Nat) ∧
    (decide (firstI (ansTo an f i s) xs < (0 : Int)) = true → matL xs an f i s = [] ∧ (7 : Int) = matE xs an f i s) ∧
      (decide (firstI (ansTo an f i s) xs < (0 : Int)) = false →
        (xs.length * (40 : Nat)).le (140737488355328 : Nat) ∧
          (IntKind.i64.wrap (firstI (ansTo an f i s) xs + (1 : Int)) = firstI (ansTo an f i s) xs + (1 : Int) ∧
              (0 : Int) ≤ firstI (ansTo an f i s) xs ∧ firstI (ansTo an f i s) xs < (↑xs.length : Int) ∧ xs.length ≤ (1000000 : Nat)) ∧
            List.take (xs.length - (1 : Nat)) (List.drop (0 : Nat) (cutAt xs (firstI (ansTo an f i s) xs).toNat ++ [zeroP])) = matL xs an f i s ∧ (0 : Int) = matE xs an f i s)

def vcLateL : Int → Int → Int → Int → Int → Int → Int → Int → Int → List Prb → Int → Int → Prop :=
  fun (c0 c1 c2 c3 c4 c5 c6 c7 c8 : Int) (xs : List Prb) (now room : Int) =>
  (∃ (g : Nat),
      g.le xs.length ∧
        (now = now ∧ room = room ∧ True ∧ xs = xs ∧ (↑xs.length : Int) = (↑xs.length : Int) ∧ (0 : Int) = (↑g : Int) ∧ True ∧ True) ∧
          (c0 = c0 ∧ c1 = c1 ∧ c2 = c2 ∧ c3 = c3 ∧ c4 = c4 ∧ c5 = c5 ∧ c6 = c6 ∧ c7 = c7 ∧ c8 = c8) ∧ (lateAtL c5 c6 now room xs g).fst = [] ∧ (lateAtL c5 c6 now room xs g).snd = []) ∧
    ∀ (g : Nat),
      g.le xs.length →
        (decide ((↑g : Int) < (↑xs.length : Int)) = true →
            ((0 : Int) ≤ (↑g : Int) ∧ (↑g : Int) < (↑xs.length : Int)) ∧
              ((decide (IntKind.i64.wrap (now - (xs.getD (↑g : Int).toNat (u.dflt (29 : Nat))).sent) ≥ c5) && decide ((xs.getD (↑g : Int).toNat (u.dflt (29 : Nat))).tries ≥ c6)) = true →
                  ∃ (g_1 : Nat),
                    g_1.le xs.length ∧
                      (annLateL c5 c6 now room xs).μ g_1 < (annLateL c5 c6 now room xs).μ g ∧
                        (now = now ∧ room = room ∧ True ∧ xs = xs ∧ (↑xs.length : Int) = (↑xs.length : Int) ∧ IntKind.i64.wrap ((↑g : Int) + (1 : Int)) = (↑g_1 : Int) ∧ True ∧ True) ∧
                          (c0 = c0 ∧ c1 = c1 ∧ c2 = c2 ∧ c3 = c3 ∧ c4 = c4 ∧ c5 = c5 ∧ c6 = c6 ∧ c7 = c7 ∧ c8 = c8) ∧
                            (lateAtL c5 c6 now room xs g).fst = (lateAtL c5 c6 now room xs g_1).fst ∧ (lateAtL c5 c6 now room xs g).snd = (lateAtL c5 c6 now room xs g_1).snd) ∧
                ((decide (IntKind.i64.wrap (now - (xs.getD (↑g : Int).toNat (u.dflt (29 : Nat))).sent) ≥ c5) && decide ((xs.getD (↑g : Int).toNat (u.dflt (29 : Nat))).tries ≥ c6)) = false →
                  ((decide (IntKind.i64.wrap (now - (xs.getD (↑g : Int).toNat (u.dflt (29 : Nat))).sent) ≥ c5) && decide ((↑(lateAtL c5 c6 now room xs g).snd.length : Int) < room)) = true →
                      ((lateAtL c5 c6 now room xs g).snd.length +
                              [{ addr := (xs.getD (↑g : Int).toNat (u.dflt (29 : Nat))).addr, id := (xs.getD (↑g : Int).toNat (u.dflt (29 : Nat))).id, num := (xs.getD (↑g : Int).toNat (u.dflt (29 : Nat))).num,
                                    sent := now, tries := IntKind.i64.wrap ((xs.getD (↑g : Int).toNat (u.dflt (29 : Nat))).tries + (1 : Int)) : Prb }].length) *
                            (40 : Nat) ≤
                          (140737488355328 : Nat) ∧
                        ((lateAtL c5 c6 now room xs g).fst.length +
                                [{ addr := (xs.getD (↑g : Int).toNat (u.dflt (29 : Nat))).addr, id := (xs.getD (↑g : Int).toNat (u.dflt (29 : Nat))).id, num := (xs.getD (↑g : Int).toNat (u.dflt (29 : Nat))).num,
                                      sent := now, tries := IntKind.i64.wrap ((xs.getD (↑g : Int).toNat (u.dflt (29 : Nat))).tries + (1 : Int)) : Prb }].length) *
                              (40 : Nat) ≤
                            (140737488355328 : Nat) ∧
                          ∃ (g_1 : Nat),
                            g_1.le xs.length ∧
                              (annLateL c5 c6 now room xs).μ g_1 < (annLateL c5 c6 now room xs).μ g ∧
                                (now = now ∧ room = room ∧ True ∧ xs = xs ∧ (↑xs.length : Int) = (↑xs.length : Int) ∧ IntKind.i64.wrap ((↑g : Int) + (1 : Int)) = (↑g_1 : Int) ∧ True ∧ True) ∧
                                  (c0 = c0 ∧ c1 = c1 ∧ c2 = c2 ∧ c3 = c3 ∧ c4 = c4 ∧ c5 = c5 ∧ c6 = c6 ∧ c7 = c7 ∧ c8 = c8) ∧
                                    (lateAtL c5 c6 now room xs g).fst ++
                                          [{ addr := (xs.getD (↑g : Int).toNat (u.dflt (29 : Nat))).addr, id := (xs.getD (↑g : Int).toNat (u.dflt (29 : Nat))).id,
                                              num := (xs.getD (↑g : Int).toNat (u.dflt (29 : Nat))).num, sent := now, tries := IntKind.i64.wrap ((xs.getD (↑g : Int).toNat (u.dflt (29 : Nat))).tries + (1 : Int)) :
                                              Prb }] =
                                        (lateAtL c5 c6 now room xs g_1).fst ∧
                                      (lateAtL c5 c6 now room xs g).snd ++
                                          [{ addr := (xs.getD (↑g : Int).toNat (u.dflt (29 : Nat))).addr, id := (xs.getD (↑g : Int).toNat (u.dflt (29 : Nat))).id,
                                              num := (xs.getD (↑g : Int).toNat (u.dflt (29 : Nat))).num, sent := now, tries := IntKind.i64.wrap ((xs.getD (↑g : Int).toNat (u.dflt (29 : Nat))).tries + (1 : Int)) :
                                              Prb }] =
                                        (lateAtL c5 c6 now room xs g_1).snd) ∧
                    ((decide (IntKind.i64.wrap (now - (xs.getD (↑g : Int).toNat (u.dflt (29 : Nat))).sent) ≥ c5) && decide ((↑(lateAtL c5 c6 now room xs g).snd.length : Int) < room)) = false →
                      ((lateAtL c5 c6 now room xs g).fst.length +
                              [{ addr := (xs.getD (↑g : Int).toNat (u.dflt (29 : Nat))).addr, id := (xs.getD (↑g : Int).toNat (u.dflt (29 : Nat))).id, num := (xs.getD (↑g : Int).toNat (u.dflt (29 : Nat))).num,
                                    sent := (xs.getD (↑g : Int).toNat (u.dflt (29 : Nat))).sent, tries := (xs.getD (↑g : Int).toNat (u.dflt (29 : Nat))).tries : Prb }].length) *
                            (40 : Nat) ≤
                          (140737488355328 : Nat) ∧
                        ∃ (g_1 : Nat),
                          g_1.le xs.length ∧
                            (annLateL c5 c6 now room xs).μ g_1 < (annLateL c5 c6 now room xs).μ g ∧
                              (now = now ∧ room = room ∧ True ∧ xs = xs ∧ (↑xs.length : Int) = (↑xs.length : Int) ∧ IntKind.i64.wrap ((↑g : Int) + (1 : Int)) = (↑g_1 : Int) ∧ True ∧ True) ∧
                                (c0 = c0 ∧ c1 = c1 ∧ c2 = c2 ∧ c3 = c3 ∧ c4 = c4 ∧ c5 = c5 ∧ c6 = c6 ∧ c7 = c7 ∧ c8 = c8) ∧
                                  (lateAtL c5 c6 now room xs g).fst ++
                                        [{ addr := (xs.getD (↑g : Int).toNat (u.dflt (29 : Nat))).addr, id := (xs.getD (↑g : Int).toNat (u.dflt (29 : Nat))).id, num := (xs.getD (↑g : Int).toNat (u.dflt (29 : Nat))).num,
                                            sent := (xs.getD (↑g : Int).toNat (u.dflt (29 : Nat))).sent, tries := (xs.getD (↑g : Int).toNat (u.dflt (29 : Nat))).tries : Prb }] =
                                      (lateAtL c5 c6 now room xs g_1).fst ∧
                                    (lateAtL c5 c6 now room xs g).snd = (lateAtL c5 c6 now room xs g_1).snd))) ∧
          (decide ((↑g : Int) < (↑xs.length : Int)) = false → (lateAtL c5 c6 now room xs g).fst = (lateLL c5 c6 now room xs).fst ∧ (lateAtL c5 c6 now room xs g).snd = (lateLL c5 c6 now room xs).snd)

def vcSame : List Prb → List Prb → Prop :=
  fun (xs ys : List Prb) =>
  (((↑xs.length : Int) != (↑ys.length : Int)) = true → false = sameL xs ys) ∧
    (((↑xs.length : Int) != (↑ys.length : Int)) = false →
      (∃ (g : Nat), (g ≤ xs.length ∧ xs.length = ys.length ∧ sameTo xs ys g = true) ∧ xs = xs ∧ ys = ys ∧ xs = xs ∧ (↑xs.length : Int) = (↑xs.length : Int) ∧ (0 : Int) = (↑g : Int)) ∧
        ∀ (g : Nat),
          g ≤ xs.length ∧ xs.length = ys.length ∧ sameTo xs ys g = true →
            (decide ((↑g : Int) < (↑xs.length : Int)) = true →
                ((0 : Int) ≤ (↑g : Int) ∧ (↑g : Int) < (↑xs.length : Int)) ∧
                  ((0 : Int) ≤ (↑g : Int) ∧ (↑g : Int) < (↑ys.length : Int)) ∧
                    ((!((xs.getD (↑g : Int).toNat (u.dflt (29 : Nat))).addr == (ys.getD (↑g : Int).toNat (u.dflt (29 : Nat))).addr &&
                              ((xs.getD (↑g : Int).toNat (u.dflt (29 : Nat))).id == (ys.getD (↑g : Int).toNat (u.dflt (29 : Nat))).id &&
                                ((xs.getD (↑g : Int).toNat (u.dflt (29 : Nat))).num == (ys.getD (↑g : Int).toNat (u.dflt (29 : Nat))).num &&
                                  ((xs.getD (↑g : Int).toNat (u.dflt (29 : Nat))).sent == (ys.getD (↑g : Int).toNat (u.dflt (29 : Nat))).sent &&
                                    ((xs.getD (↑g : Int).toNat (u.dflt (29 : Nat))).tries == (ys.getD (↑g : Int).toNat (u.dflt (29 : Nat))).tries && true)))))) =
                          true →
                        false = sameL xs ys) ∧
                      ((!((xs.getD (↑g : Int).toNat (u.dflt (29 : Nat))).addr == (ys.getD (↑g : Int).toNat (u.dflt (29 : Nat))).addr &&
                              ((xs.getD (↑g : Int).toNat (u.dflt (29 : Nat))).id == (ys.getD (↑g : Int).toNat (u.dflt (29 : Nat))).id &&
                                ((xs.getD (↑g : Int).toNat (u.dflt (29 : Nat))).num == (ys.getD (↑g : Int).toNat (u.dflt (29 : Nat))).num &&
                                  ((xs.getD (↑g : Int).toNat (u.dflt (29 : Nat))).sent == (ys.getD (↑g : Int).toNat (u.dflt (29 : Nat))).sent &&
                                    ((xs.getD (↑g : Int).toNat (u.dflt (29 : Nat))).tries == (ys.getD (↑g : Int).toNat (u.dflt (29 : Nat))).tries && true)))))) =
                          false →
                        ∃ (g_1 : Nat),
                          (g_1 ≤ xs.length ∧ xs.length = ys.length ∧ sameTo xs ys g_1 = true) ∧
                            (annSame xs ys).μ g_1 < (annSame xs ys).μ g ∧ xs = xs ∧ ys = ys ∧ xs = xs ∧ (↑xs.length : Int) = (↑xs.length : Int) ∧ IntKind.i64.wrap ((↑g : Int) + (1 : Int)) = (↑g_1 : Int))) ∧
              (decide ((↑g : Int) < (↑xs.length : Int)) = false → true = sameL xs ys))

def vcLAnswer : Int → Int → Int → Int → Bool → Prop :=
  fun (a s z o : Int) (an : Bool) =>
  ((!true) = true → false = true) ∧
    ((!true) = false →
      Nat.le (1 : Nat) (9223372036854775808 : Nat) ∧
        ((putErr []
                  { addr := (ofP a (IntKind.i64.wrap s) (1 : Int)).addr, id := (ofP a (IntKind.i64.wrap s) (1 : Int)).id, num := (ofP a (IntKind.i64.wrap s) (1 : Int)).num,
                    sent := (ofP a (IntKind.i64.wrap s) (1 : Int)).sent, tries := (ofP a (IntKind.i64.wrap s) (1 : Int)).tries : Prb } !=
                (0 : Int)) =
              true →
            false = true) ∧
          ((putErr []
                  { addr := (ofP a (IntKind.i64.wrap s) (1 : Int)).addr, id := (ofP a (IntKind.i64.wrap s) (1 : Int)).id, num := (ofP a (IntKind.i64.wrap s) (1 : Int)).num,
                    sent := (ofP a (IntKind.i64.wrap s) (1 : Int)).sent, tries := (ofP a (IntKind.i64.wrap s) (1 : Int)).tries : Prb } !=
                (0 : Int)) =
              false →
            (4 : Int) ≠ (0 : Int) ∧
              ((z.tmod (4 : Int) == (0 : Int)) = true →
                  (4 : Int) ≠ (0 : Int) ∧
                    ((z.tmod (4 : Int) == (1 : Int)) = true →
                        (putL []
                                { addr := (ofP a (IntKind.i64.wrap s) (1 : Int)).addr, id := (ofP a (IntKind.i64.wrap s) (1 : Int)).id, num := (ofP a (IntKind.i64.wrap s) (1 : Int)).num,
                                  sent := (ofP a (IntKind.i64.wrap s) (1 : Int)).sent, tries := (ofP a (IntKind.i64.wrap s) (1 : Int)).tries : Prb }).length ≤
                            (1000000 : Nat) ∧
                          (putL []
                                  { addr := (ofP a (IntKind.i64.wrap s) (1 : Int)).addr, id := (ofP a (IntKind.i64.wrap s) (1 : Int)).id, num := (ofP a (IntKind.i64.wrap s) (1 : Int)).num,
                                    sent := (ofP a (IntKind.i64.wrap s) (1 : Int)).sent, tries := (ofP a (IntKind.i64.wrap s) (1 : Int)).tries : Prb }).length ≤
                              (1000000 : Nat) ∧
                            (an = true → (4 : Int) ≠ (0 : Int)) ∧
                              ((matE
                                        (putL []
                                          { addr := (ofP a (IntKind.i64.wrap s) (1 : Int)).addr, id := (ofP a (IntKind.i64.wrap s) (1 : Int)).id, num := (ofP a (IntKind.i64.wrap s) (1 : Int)).num,
                                            sent := (ofP a (IntKind.i64.wrap s) (1 : Int)).sent, tries := (ofP a (IntKind.i64.wrap s) (1 : Int)).tries : Prb })
                                        an (IntKind.u32.wrap ((ofP a (IntKind.i64.wrap s) (1 : Int)).addr + (1 : Int))) (IntKind.i64.wrap ((ofP a (IntKind.i64.wrap s) (1 : Int)).id + (1 : Int))) (IntKind.i64.wrap o) ==
                                      (0 : Int)) ==
                                    (an && decide (z.tmod (4 : Int) > (1 : Int)) && o == s) &&
                                  matE
                                      (putL []
                                        { addr := (ofP a (IntKind.i64.wrap s) (1 : Int)).addr, id := (ofP a (IntKind.i64.wrap s) (1 : Int)).id, num := (ofP a (IntKind.i64.wrap s) (1 : Int)).num,
                                          sent := (ofP a (IntKind.i64.wrap s) (1 : Int)).sent, tries := (ofP a (IntKind.i64.wrap s) (1 : Int)).tries : Prb })
                                      true (ofP a (IntKind.i64.wrap s) (1 : Int)).addr (ofP a (IntKind.i64.wrap s) (1 : Int)).id (ofP a (IntKind.i64.wrap s) (1 : Int)).num ==
                                    (0 : Int)) =
                                true) ∧
                      ((z.tmod (4 : Int) == (1 : Int)) = false →
                        (putL []
                                { addr := (ofP a (IntKind.i64.wrap s) (1 : Int)).addr, id := (ofP a (IntKind.i64.wrap s) (1 : Int)).id, num := (ofP a (IntKind.i64.wrap s) (1 : Int)).num,
                                  sent := (ofP a (IntKind.i64.wrap s) (1 : Int)).sent, tries := (ofP a (IntKind.i64.wrap s) (1 : Int)).tries : Prb }).length ≤
                            (1000000 : Nat) ∧
                          (putL []
                                  { addr := (ofP a (IntKind.i64.wrap s) (1 : Int)).addr, id := (ofP a (IntKind.i64.wrap s) (1 : Int)).id, num := (ofP a (IntKind.i64.wrap s) (1 : Int)).num,
                                    sent := (ofP a (IntKind.i64.wrap s) (1 : Int)).sent, tries := (ofP a (IntKind.i64.wrap s) (1 : Int)).tries : Prb }).length ≤
                              (1000000 : Nat) ∧
                            (an = true → (4 : Int) ≠ (0 : Int)) ∧
                              ((matE
                                        (putL []
                                          { addr := (ofP a (IntKind.i64.wrap s) (1 : Int)).addr, id := (ofP a (IntKind.i64.wrap s) (1 : Int)).id, num := (ofP a (IntKind.i64.wrap s) (1 : Int)).num,
                                            sent := (ofP a (IntKind.i64.wrap s) (1 : Int)).sent, tries := (ofP a (IntKind.i64.wrap s) (1 : Int)).tries : Prb })
                                        an (ofP a (IntKind.i64.wrap s) (1 : Int)).addr (IntKind.i64.wrap ((ofP a (IntKind.i64.wrap s) (1 : Int)).id + (1 : Int))) (IntKind.i64.wrap o) ==
                                      (0 : Int)) ==
                                    (an && decide (z.tmod (4 : Int) > (1 : Int)) && o == s) &&
                                  matE
                                      (putL []
                                        { addr := (ofP a (IntKind.i64.wrap s) (1 : Int)).addr, id := (ofP a (IntKind.i64.wrap s) (1 : Int)).id, num := (ofP a (IntKind.i64.wrap s) (1 : Int)).num,
                                          sent := (ofP a (IntKind.i64.wrap s) (1 : Int)).sent, tries := (ofP a (IntKind.i64.wrap s) (1 : Int)).tries : Prb })
                                      true (ofP a (IntKind.i64.wrap s) (1 : Int)).addr (ofP a (IntKind.i64.wrap s) (1 : Int)).id (ofP a (IntKind.i64.wrap s) (1 : Int)).num ==
                                    (0 : Int)) =
                                true)) ∧
                ((z.tmod (4 : Int) == (0 : Int)) = false →
                  (4 : Int) ≠ (0 : Int) ∧
                    ((z.tmod (4 : Int) == (1 : Int)) = true →
                        (putL []
                                { addr := (ofP a (IntKind.i64.wrap s) (1 : Int)).addr, id := (ofP a (IntKind.i64.wrap s) (1 : Int)).id, num := (ofP a (IntKind.i64.wrap s) (1 : Int)).num,
                                  sent := (ofP a (IntKind.i64.wrap s) (1 : Int)).sent, tries := (ofP a (IntKind.i64.wrap s) (1 : Int)).tries : Prb }).length ≤
                            (1000000 : Nat) ∧
                          (putL []
                                  { addr := (ofP a (IntKind.i64.wrap s) (1 : Int)).addr, id := (ofP a (IntKind.i64.wrap s) (1 : Int)).id, num := (ofP a (IntKind.i64.wrap s) (1 : Int)).num,
                                    sent := (ofP a (IntKind.i64.wrap s) (1 : Int)).sent, tries := (ofP a (IntKind.i64.wrap s) (1 : Int)).tries : Prb }).length ≤
                              (1000000 : Nat) ∧
                            (an = true → (4 : Int) ≠ (0 : Int)) ∧
                              ((matE
                                        (putL []
                                          { addr := (ofP a (IntKind.i64.wrap s) (1 : Int)).addr, id := (ofP a (IntKind.i64.wrap s) (1 : Int)).id, num := (ofP a (IntKind.i64.wrap s) (1 : Int)).num,
                                            sent := (ofP a (IntKind.i64.wrap s) (1 : Int)).sent, tries := (ofP a (IntKind.i64.wrap s) (1 : Int)).tries : Prb })
                                        an (IntKind.u32.wrap ((ofP a (IntKind.i64.wrap s) (1 : Int)).addr + (1 : Int))) (ofP a (IntKind.i64.wrap s) (1 : Int)).id (IntKind.i64.wrap o) ==
                                      (0 : Int)) ==
                                    (an && decide (z.tmod (4 : Int) > (1 : Int)) && o == s) &&
                                  matE
                                      (putL []
                                        { addr := (ofP a (IntKind.i64.wrap s) (1 : Int)).addr, id := (ofP a (IntKind.i64.wrap s) (1 : Int)).id, num := (ofP a (IntKind.i64.wrap s) (1 : Int)).num,
                                          sent := (ofP a (IntKind.i64.wrap s) (1 : Int)).sent, tries := (ofP a (IntKind.i64.wrap s) (1 : Int)).tries : Prb })
                                      true (ofP a (IntKind.i64.wrap s) (1 : Int)).addr (ofP a (IntKind.i64.wrap s) (1 : Int)).id (ofP a (IntKind.i64.wrap s) (1 : Int)).num ==
                                    (0 : Int)) =
                                true) ∧
                      ((z.tmod (4 : Int) == (1 : Int)) = false →
                        (putL []
                                { addr := (ofP a (IntKind.i64.wrap s) (1 : Int)).addr, id := (ofP a (IntKind.i64.wrap s) (1 : Int)).id, num := (ofP a (IntKind.i64.wrap s) (1 : Int)).num,
                                  sent := (ofP a (IntKind.i64.wrap s) (1 : Int)).sent, tries := (ofP a (IntKind.i64.wrap s) (1 : Int)).tries : Prb }).length ≤
                            (1000000 : Nat) ∧
                          (putL []
                                  { addr := (ofP a (IntKind.i64.wrap s) (1 : Int)).addr, id := (ofP a (IntKind.i64.wrap s) (1 : Int)).id, num := (ofP a (IntKind.i64.wrap s) (1 : Int)).num,
                                    sent := (ofP a (IntKind.i64.wrap s) (1 : Int)).sent, tries := (ofP a (IntKind.i64.wrap s) (1 : Int)).tries : Prb }).length ≤
                              (1000000 : Nat) ∧
                            (an = true → (4 : Int) ≠ (0 : Int)) ∧
                              ((matE
                                        (putL []
                                          { addr := (ofP a (IntKind.i64.wrap s) (1 : Int)).addr, id := (ofP a (IntKind.i64.wrap s) (1 : Int)).id, num := (ofP a (IntKind.i64.wrap s) (1 : Int)).num,
                                            sent := (ofP a (IntKind.i64.wrap s) (1 : Int)).sent, tries := (ofP a (IntKind.i64.wrap s) (1 : Int)).tries : Prb })
                                        an (ofP a (IntKind.i64.wrap s) (1 : Int)).addr (ofP a (IntKind.i64.wrap s) (1 : Int)).id (IntKind.i64.wrap o) ==
                                      (0 : Int)) ==
                                    (an && decide (z.tmod (4 : Int) > (1 : Int)) && o == s) &&
                                  matE
                                      (putL []
                                        { addr := (ofP a (IntKind.i64.wrap s) (1 : Int)).addr, id := (ofP a (IntKind.i64.wrap s) (1 : Int)).id, num := (ofP a (IntKind.i64.wrap s) (1 : Int)).num,
                                          sent := (ofP a (IntKind.i64.wrap s) (1 : Int)).sent, tries := (ofP a (IntKind.i64.wrap s) (1 : Int)).tries : Prb })
                                      true (ofP a (IntKind.i64.wrap s) (1 : Int)).addr (ofP a (IntKind.i64.wrap s) (1 : Int)).id (ofP a (IntKind.i64.wrap s) (1 : Int)).num ==
                                    (0 : Int)) =
                                true))))


end Go.Proofs.Ytnjildbclmglpaa.Pro
