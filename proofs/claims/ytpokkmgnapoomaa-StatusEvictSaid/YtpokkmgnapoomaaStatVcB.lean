/- What an address stands as: what the loops come to (printed by wip/Vc.lean; checked by the kernel in the next text). -/
import Derived.Test.YtpokkmgnapoomaaStatSpecB
namespace Go.Proofs.Ytpokkmgnapoomaa.Stat
open Go Go.Proofs.Ytpokkmgnapoomaa.Sx

def vcSince : Int → Int → Prop :=
  fun (a b : Int) => IntKind.i64.wrap (clampT a - clampT b) = since a b

def vcWithin : Int → Int → Int → Prop :=
  fun (a b n : Int) => (decide (since a b ≥ (0 : Int)) && decide (since a b < n)) = within a b n

def vcApart : List Sight → Prop :=
  fun (xs : List Sight) =>
  (∃ (g : Nat × Mac),
      (g.fst ≤ xs.length ∧ apartGo g.snd (List.drop g.fst xs) = apartGo zeroMac xs) ∧
        (xs = xs ∧ (↑xs.length : Int) = (↑xs.length : Int) ∧ (0 : Int) = (↑g.fst : Int) ∧ True) ∧
          (0 : Int) = g.snd.m0 ∧ (0 : Int) = g.snd.m1 ∧ (0 : Int) = g.snd.m2 ∧ (0 : Int) = g.snd.m3 ∧ (0 : Int) = g.snd.m4 ∧ (0 : Int) = g.snd.m5) ∧
    ∀ (g : Nat × Mac),
      g.fst ≤ xs.length ∧ apartGo g.snd (List.drop g.fst xs) = apartGo zeroMac xs →
        (decide ((↑g.fst : Int) < (↑xs.length : Int)) = true →
            ((0 : Int) ≤ (↑g.fst : Int) ∧ (↑g.fst : Int) < (↑xs.length : Int)) ∧
              (noneM
                      { m0 := (xs.getD (↑g.fst : Int).toNat (u.dflt (48 : Nat))).mac.m0, m1 := (xs.getD (↑g.fst : Int).toNat (u.dflt (48 : Nat))).mac.m1, m2 := (xs.getD (↑g.fst : Int).toNat (u.dflt (48 : Nat))).mac.m2,
                        m3 := (xs.getD (↑g.fst : Int).toNat (u.dflt (48 : Nat))).mac.m3, m4 := (xs.getD (↑g.fst : Int).toNat (u.dflt (48 : Nat))).mac.m4, m5 := (xs.getD (↑g.fst : Int).toNat (u.dflt (48 : Nat))).mac.m5 :
                        Mac } =
                    true →
                  ∃ (g_1 : Nat × Mac),
                    (g_1.fst ≤ xs.length ∧ apartGo g_1.snd (List.drop g_1.fst xs) = apartGo zeroMac xs) ∧
                      (annApart xs).μ g_1 < (annApart xs).μ g ∧
                        (xs = xs ∧ (↑xs.length : Int) = (↑xs.length : Int) ∧ IntKind.i64.wrap ((↑g.fst : Int) + (1 : Int)) = (↑g_1.fst : Int) ∧ True) ∧
                          g.snd.m0 = g_1.snd.m0 ∧ g.snd.m1 = g_1.snd.m1 ∧ g.snd.m2 = g_1.snd.m2 ∧ g.snd.m3 = g_1.snd.m3 ∧ g.snd.m4 = g_1.snd.m4 ∧ g.snd.m5 = g_1.snd.m5) ∧
                (noneM
                      { m0 := (xs.getD (↑g.fst : Int).toNat (u.dflt (48 : Nat))).mac.m0, m1 := (xs.getD (↑g.fst : Int).toNat (u.dflt (48 : Nat))).mac.m1, m2 := (xs.getD (↑g.fst : Int).toNat (u.dflt (48 : Nat))).mac.m2,
                        m3 := (xs.getD (↑g.fst : Int).toNat (u.dflt (48 : Nat))).mac.m3, m4 := (xs.getD (↑g.fst : Int).toNat (u.dflt (48 : Nat))).mac.m4, m5 := (xs.getD (↑g.fst : Int).toNat (u.dflt (48 : Nat))).mac.m5 :
                        Mac } =
                    false →
                  (noneM { m0 := g.snd.m0, m1 := g.snd.m1, m2 := g.snd.m2, m3 := g.snd.m3, m4 := g.snd.m4, m5 := g.snd.m5 : Mac } = true →
                      ∃ (g_1 : Nat × Mac),
                        (g_1.fst ≤ xs.length ∧ apartGo g_1.snd (List.drop g_1.fst xs) = apartGo zeroMac xs) ∧
                          (annApart xs).μ g_1 < (annApart xs).μ g ∧
                            (xs = xs ∧ (↑xs.length : Int) = (↑xs.length : Int) ∧ IntKind.i64.wrap ((↑g.fst : Int) + (1 : Int)) = (↑g_1.fst : Int) ∧ True) ∧
                              (xs.getD (↑g.fst : Int).toNat (u.dflt (48 : Nat))).mac.m0 = g_1.snd.m0 ∧
                                (xs.getD (↑g.fst : Int).toNat (u.dflt (48 : Nat))).mac.m1 = g_1.snd.m1 ∧
                                  (xs.getD (↑g.fst : Int).toNat (u.dflt (48 : Nat))).mac.m2 = g_1.snd.m2 ∧
                                    (xs.getD (↑g.fst : Int).toNat (u.dflt (48 : Nat))).mac.m3 = g_1.snd.m3 ∧
                                      (xs.getD (↑g.fst : Int).toNat (u.dflt (48 : Nat))).mac.m4 = g_1.snd.m4 ∧ (xs.getD (↑g.fst : Int).toNat (u.dflt (48 : Nat))).mac.m5 = g_1.snd.m5) ∧
                    (noneM { m0 := g.snd.m0, m1 := g.snd.m1, m2 := g.snd.m2, m3 := g.snd.m3, m4 := g.snd.m4, m5 := g.snd.m5 : Mac } = false →
                      ((!(g.snd.m0 == (xs.getD (↑g.fst : Int).toNat (u.dflt (48 : Nat))).mac.m0 &&
                                (g.snd.m1 == (xs.getD (↑g.fst : Int).toNat (u.dflt (48 : Nat))).mac.m1 &&
                                  (g.snd.m2 == (xs.getD (↑g.fst : Int).toNat (u.dflt (48 : Nat))).mac.m2 &&
                                    (g.snd.m3 == (xs.getD (↑g.fst : Int).toNat (u.dflt (48 : Nat))).mac.m3 &&
                                      (g.snd.m4 == (xs.getD (↑g.fst : Int).toNat (u.dflt (48 : Nat))).mac.m4 && (g.snd.m5 == (xs.getD (↑g.fst : Int).toNat (u.dflt (48 : Nat))).mac.m5 && true))))))) =
                            true →
                          true = apartGo zeroMac xs) ∧
                        ((!(g.snd.m0 == (xs.getD (↑g.fst : Int).toNat (u.dflt (48 : Nat))).mac.m0 &&
                                (g.snd.m1 == (xs.getD (↑g.fst : Int).toNat (u.dflt (48 : Nat))).mac.m1 &&
                                  (g.snd.m2 == (xs.getD (↑g.fst : Int).toNat (u.dflt (48 : Nat))).mac.m2 &&
                                    (g.snd.m3 == (xs.getD (↑g.fst : Int).toNat (u.dflt (48 : Nat))).mac.m3 &&
                                      (g.snd.m4 == (xs.getD (↑g.fst : Int).toNat (u.dflt (48 : Nat))).mac.m4 && (g.snd.m5 == (xs.getD (↑g.fst : Int).toNat (u.dflt (48 : Nat))).mac.m5 && true))))))) =
                            false →
                          ∃ (g_1 : Nat × Mac),
                            (g_1.fst ≤ xs.length ∧ apartGo g_1.snd (List.drop g_1.fst xs) = apartGo zeroMac xs) ∧
                              (annApart xs).μ g_1 < (annApart xs).μ g ∧
                                (xs = xs ∧ (↑xs.length : Int) = (↑xs.length : Int) ∧ IntKind.i64.wrap ((↑g.fst : Int) + (1 : Int)) = (↑g_1.fst : Int) ∧ True) ∧
                                  g.snd.m0 = g_1.snd.m0 ∧ g.snd.m1 = g_1.snd.m1 ∧ g.snd.m2 = g_1.snd.m2 ∧ g.snd.m3 = g_1.snd.m3 ∧ g.snd.m4 = g_1.snd.m4 ∧ g.snd.m5 = g_1.snd.m5)))) ∧
          (decide ((↑g.fst : Int) < (↑xs.length : Int)) = false → false = apartGo zeroMac xs)

def vcForeign : Int → ByteArray → Int → Int → Int → Int → Int → Int → List Sight → Prop :=
  fun (z : Int) (o : ByteArray) (a b c d e f : Int) (xs : List Sight) =>
  (∃ (g : Nat),
      (g ≤ xs.length ∧ foreign { m0 := a, m1 := b, m2 := c, m3 := d, m4 := e, m5 := f : Mac } (List.take g xs) = false) ∧
        (True ∧ xs = xs ∧ (↑xs.length : Int) = (↑xs.length : Int) ∧ (0 : Int) = (↑g : Int)) ∧ z = z ∧ o = o ∧ a = a ∧ b = b ∧ c = c ∧ d = d ∧ e = e ∧ f = f) ∧
    ∀ (g : Nat),
      g ≤ xs.length ∧ foreign { m0 := a, m1 := b, m2 := c, m3 := d, m4 := e, m5 := f : Mac } (List.take g xs) = false →
        (decide ((↑g : Int) < (↑xs.length : Int)) = true →
            ((0 : Int) ≤ (↑g : Int) ∧ (↑g : Int) < (↑xs.length : Int)) ∧
              ((!noneM
                            { m0 := (xs.getD (↑g : Int).toNat (u.dflt (48 : Nat))).mac.m0, m1 := (xs.getD (↑g : Int).toNat (u.dflt (48 : Nat))).mac.m1, m2 := (xs.getD (↑g : Int).toNat (u.dflt (48 : Nat))).mac.m2,
                              m3 := (xs.getD (↑g : Int).toNat (u.dflt (48 : Nat))).mac.m3, m4 := (xs.getD (↑g : Int).toNat (u.dflt (48 : Nat))).mac.m4, m5 := (xs.getD (↑g : Int).toNat (u.dflt (48 : Nat))).mac.m5 :
                              Mac } &&
                        !noneM { m0 := a, m1 := b, m2 := c, m3 := d, m4 := e, m5 := f : Mac } &&
                      !((xs.getD (↑g : Int).toNat (u.dflt (48 : Nat))).mac.m0 == a &&
                          ((xs.getD (↑g : Int).toNat (u.dflt (48 : Nat))).mac.m1 == b &&
                            ((xs.getD (↑g : Int).toNat (u.dflt (48 : Nat))).mac.m2 == c &&
                              ((xs.getD (↑g : Int).toNat (u.dflt (48 : Nat))).mac.m3 == d &&
                                ((xs.getD (↑g : Int).toNat (u.dflt (48 : Nat))).mac.m4 == e && ((xs.getD (↑g : Int).toNat (u.dflt (48 : Nat))).mac.m5 == f && true))))))) =
                    true →
                  true = foreign { m0 := a, m1 := b, m2 := c, m3 := d, m4 := e, m5 := f : Mac } xs) ∧
                ((!noneM
                            { m0 := (xs.getD (↑g : Int).toNat (u.dflt (48 : Nat))).mac.m0, m1 := (xs.getD (↑g : Int).toNat (u.dflt (48 : Nat))).mac.m1, m2 := (xs.getD (↑g : Int).toNat (u.dflt (48 : Nat))).mac.m2,
                              m3 := (xs.getD (↑g : Int).toNat (u.dflt (48 : Nat))).mac.m3, m4 := (xs.getD (↑g : Int).toNat (u.dflt (48 : Nat))).mac.m4, m5 := (xs.getD (↑g : Int).toNat (u.dflt (48 : Nat))).mac.m5 :
                              Mac } &&
                        !noneM { m0 := a, m1 := b, m2 := c, m3 := d, m4 := e, m5 := f : Mac } &&
                      !((xs.getD (↑g : Int).toNat (u.dflt (48 : Nat))).mac.m0 == a &&
                          ((xs.getD (↑g : Int).toNat (u.dflt (48 : Nat))).mac.m1 == b &&
                            ((xs.getD (↑g : Int).toNat (u.dflt (48 : Nat))).mac.m2 == c &&
                              ((xs.getD (↑g : Int).toNat (u.dflt (48 : Nat))).mac.m3 == d &&
                                ((xs.getD (↑g : Int).toNat (u.dflt (48 : Nat))).mac.m4 == e && ((xs.getD (↑g : Int).toNat (u.dflt (48 : Nat))).mac.m5 == f && true))))))) =
                    false →
                  ∃ (g_1 : Nat),
                    (g_1 ≤ xs.length ∧ foreign { m0 := a, m1 := b, m2 := c, m3 := d, m4 := e, m5 := f : Mac } (List.take g_1 xs) = false) ∧
                      (annForeign { m0 := a, m1 := b, m2 := c, m3 := d, m4 := e, m5 := f : Mac } xs).μ g_1 < (annForeign { m0 := a, m1 := b, m2 := c, m3 := d, m4 := e, m5 := f : Mac } xs).μ g ∧
                        (True ∧ xs = xs ∧ (↑xs.length : Int) = (↑xs.length : Int) ∧ IntKind.i64.wrap ((↑g : Int) + (1 : Int)) = (↑g_1 : Int)) ∧ z = z ∧ o = o ∧ a = a ∧ b = b ∧ c = c ∧ d = d ∧ e = e ∧ f = f)) ∧
          (decide ((↑g : Int) < (↑xs.length : Int)) = false → false = foreign { m0 := a, m1 := b, m2 := c, m3 := d, m4 := e, m5 := f : Mac } xs)

def vcFresh : Int → Int → Int → Int → Int → Int → Int → Int → Int → List Sight → Int → Prop :=
  fun (c0 c1 c2 c3 c4 c5 c6 c7 c8 : Int) (xs : List Sight) (now : Int) =>
  ((0 : Int) ≤ mx (0 : Int) (IntKind.i64.wrap (IntKind.i64.wrap ((↑xs.length : Int) - mx (0 : Int) c2) - (1 : Int))) ∧
      mx (0 : Int) (IntKind.i64.wrap (IntKind.i64.wrap ((↑xs.length : Int) - mx (0 : Int) c2) - (1 : Int))) ≤ (↑xs.length : Int) ∧ (↑xs.length : Int) ≤ (↑xs.length : Int)) ∧
    (∃ (g : Nat),
        g.le (tailS c2 xs).length ∧
          (now = now ∧
              True ∧
                List.drop (mx (0 : Int) (IntKind.i64.wrap (IntKind.i64.wrap ((↑xs.length : Int) - mx (0 : Int) c2) - (1 : Int)))).toNat (List.take (↑xs.length : Int).toNat xs) =
                    List.drop (mx (0 : Int) (IntKind.i64.wrap (IntKind.i64.wrap ((↑xs.length : Int) - mx (0 : Int) c2) - (1 : Int)))).toNat (List.take (↑xs.length : Int).toNat xs) ∧
                  (↑(List.drop (mx (0 : Int) (IntKind.i64.wrap (IntKind.i64.wrap ((↑xs.length : Int) - mx (0 : Int) c2) - (1 : Int)))).toNat (List.take (↑xs.length : Int).toNat xs)).length : Int) =
                      (↑(List.drop (mx (0 : Int) (IntKind.i64.wrap (IntKind.i64.wrap ((↑xs.length : Int) - mx (0 : Int) c2) - (1 : Int)))).toNat (List.take (↑xs.length : Int).toNat xs)).length : Int) ∧
                    (0 : Int) = (↑g : Int) ∧ True) ∧
            (c0 = c0 ∧ c1 = c1 ∧ c2 = c2 ∧ c3 = c3 ∧ c4 = c4 ∧ c5 = c5 ∧ c6 = c6 ∧ c7 = c7 ∧ c8 = c8) ∧ List.filter (freshS c0 now) (List.take g (tailS c2 xs)) = []) ∧
      ∀ (g : Nat),
        g.le (tailS c2 xs).length →
          (decide ((↑g : Int) < (↑(List.drop (mx (0 : Int) (IntKind.i64.wrap (IntKind.i64.wrap ((↑xs.length : Int) - mx (0 : Int) c2) - (1 : Int)))).toNat (List.take (↑xs.length : Int).toNat xs)).length : Int)) = true →
              ((0 : Int) ≤ (↑g : Int) ∧
                  (↑g : Int) < (↑(List.drop (mx (0 : Int) (IntKind.i64.wrap (IntKind.i64.wrap ((↑xs.length : Int) - mx (0 : Int) c2) - (1 : Int)))).toNat (List.take (↑xs.length : Int).toNat xs)).length : Int)) ∧
                (within now
                        ((List.drop (mx (0 : Int) (IntKind.i64.wrap (IntKind.i64.wrap ((↑xs.length : Int) - mx (0 : Int) c2) - (1 : Int)))).toNat (List.take (↑xs.length : Int).toNat xs)).getD (↑g : Int).toNat
                            (u.dflt (48 : Nat))).time
                        c0 =
                      true →
                    ((List.filter (freshS c0 now) (List.take g (tailS c2 xs))).length +
                            [{
                                  src :=
                                    ((List.drop (mx (0 : Int) (IntKind.i64.wrap (IntKind.i64.wrap ((↑xs.length : Int) - mx (0 : Int) c2) - (1 : Int)))).toNat (List.take (↑xs.length : Int).toNat xs)).getD (↑g : Int).toNat
                                        (u.dflt (48 : Nat))).src,
                                  mac :=
                                    {
                                      m0 :=
                                        ((List.drop (mx (0 : Int) (IntKind.i64.wrap (IntKind.i64.wrap ((↑xs.length : Int) - mx (0 : Int) c2) - (1 : Int)))).toNat (List.take (↑xs.length : Int).toNat xs)).getD
                                              (↑g : Int).toNat (u.dflt (48 : Nat))).mac.m0,
                                      m1 :=
                                        ((List.drop (mx (0 : Int) (IntKind.i64.wrap (IntKind.i64.wrap ((↑xs.length : Int) - mx (0 : Int) c2) - (1 : Int)))).toNat (List.take (↑xs.length : Int).toNat xs)).getD
                                              (↑g : Int).toNat (u.dflt (48 : Nat))).mac.m1,
                                      m2 :=
                                        ((List.drop (mx (0 : Int) (IntKind.i64.wrap (IntKind.i64.wrap ((↑xs.length : Int) - mx (0 : Int) c2) - (1 : Int)))).toNat (List.take (↑xs.length : Int).toNat xs)).getD
                                              (↑g : Int).toNat (u.dflt (48 : Nat))).mac.m2,
                                      m3 :=
                                        ((List.drop (mx (0 : Int) (IntKind.i64.wrap (IntKind.i64.wrap ((↑xs.length : Int) - mx (0 : Int) c2) - (1 : Int)))).toNat (List.take (↑xs.length : Int).toNat xs)).getD
                                              (↑g : Int).toNat (u.dflt (48 : Nat))).mac.m3,
                                      m4 :=
                                        ((List.drop (mx (0 : Int) (IntKind.i64.wrap (IntKind.i64.wrap ((↑xs.length : Int) - mx (0 : Int) c2) - (1 : Int)))).toNat (List.take (↑xs.length : Int).toNat xs)).getD
                                              (↑g : Int).toNat (u.dflt (48 : Nat))).mac.m4,
                                      m5 :=
                                        ((List.drop (mx (0 : Int) (IntKind.i64.wrap (IntKind.i64.wrap ((↑xs.length : Int) - mx (0 : Int) c2) - (1 : Int)))).toNat (List.take (↑xs.length : Int).toNat xs)).getD
                                              (↑g : Int).toNat (u.dflt (48 : Nat))).mac.m5 :
                                      Mac },
                                  time :=
                                    ((List.drop (mx (0 : Int) (IntKind.i64.wrap (IntKind.i64.wrap ((↑xs.length : Int) - mx (0 : Int) c2) - (1 : Int)))).toNat (List.take (↑xs.length : Int).toNat xs)).getD (↑g : Int).toNat
                                        (u.dflt (48 : Nat))).time :
                                  Sight }].length) *
                          (24 : Nat) ≤
                        (140737488355328 : Nat) ∧
                      ∃ (g_1 : Nat),
                        g_1.le (tailS c2 xs).length ∧
                          (annFresh c0 c2 now xs).μ g_1 < (annFresh c0 c2 now xs).μ g ∧
                            (now = now ∧
                                True ∧
                                  List.drop (mx (0 : Int) (IntKind.i64.wrap (IntKind.i64.wrap ((↑xs.length : Int) - mx (0 : Int) c2) - (1 : Int)))).toNat (List.take (↑xs.length : Int).toNat xs) =
                                      List.drop (mx (0 : Int) (IntKind.i64.wrap (IntKind.i64.wrap ((↑xs.length : Int) - mx (0 : Int) c2) - (1 : Int)))).toNat (List.take (↑xs.length : Int).toNat xs) ∧
                                    (↑(List.drop (mx (0 : Int) (IntKind.i64.wrap (IntKind.i64.wrap ((↑xs.length : Int) - mx (0 : Int) c2) - (1 : Int)))).toNat (List.take (↑xs.length : Int).toNat xs)).length : Int) =
                                        (↑(List.drop (mx (0 : Int) (IntKind.i64.wrap (IntKind.i64.wrap ((↑xs.length : Int) - mx (0 : Int) c2) - (1 : Int)))).toNat (List.take (↑xs.length : Int).toNat xs)).length : Int) ∧
                                      IntKind.i64.wrap ((↑g : Int) + (1 : Int)) = (↑g_1 : Int) ∧ True) ∧
                              (c0 = c0 ∧ c1 = c1 ∧ c2 = c2 ∧ c3 = c3 ∧ c4 = c4 ∧ c5 = c5 ∧ c6 = c6 ∧ c7 = c7 ∧ c8 = c8) ∧
                                List.filter (freshS c0 now) (List.take g (tailS c2 xs)) ++
                                    [{
                                        src :=
                                          ((List.drop (mx (0 : Int) (IntKind.i64.wrap (IntKind.i64.wrap ((↑xs.length : Int) - mx (0 : Int) c2) - (1 : Int)))).toNat (List.take (↑xs.length : Int).toNat xs)).getD
                                              (↑g : Int).toNat (u.dflt (48 : Nat))).src,
                                        mac :=
                                          {
                                            m0 :=
                                              ((List.drop (mx (0 : Int) (IntKind.i64.wrap (IntKind.i64.wrap ((↑xs.length : Int) - mx (0 : Int) c2) - (1 : Int)))).toNat (List.take (↑xs.length : Int).toNat xs)).getD
                                                    (↑g : Int).toNat (u.dflt (48 : Nat))).mac.m0,
                                            m1 :=
                                              ((List.drop (mx (0 : Int) (IntKind.i64.wrap (IntKind.i64.wrap ((↑xs.length : Int) - mx (0 : Int) c2) - (1 : Int)))).toNat (List.take (↑xs.length : Int).toNat xs)).getD
                                                    (↑g : Int).toNat (u.dflt (48 : Nat))).mac.m1,
                                            m2 :=
                                              ((List.drop (mx (0 : Int) (IntKind.i64.wrap (IntKind.i64.wrap ((↑xs.length : Int) - mx (0 : Int) c2) - (1 : Int)))).toNat (List.take (↑xs.length : Int).toNat xs)).getD
                                                    (↑g : Int).toNat (u.dflt (48 : Nat))).mac.m2,
                                            m3 :=
                                              ((List.drop (mx (0 : Int) (IntKind.i64.wrap (IntKind.i64.wrap ((↑xs.length : Int) - mx (0 : Int) c2) - (1 : Int)))).toNat (List.take (↑xs.length : Int).toNat xs)).getD
                                                    (↑g : Int).toNat (u.dflt (48 : Nat))).mac.m3,
                                            m4 :=
                                              ((List.drop (mx (0 : Int) (IntKind.i64.wrap (IntKind.i64.wrap ((↑xs.length : Int) - mx (0 : Int) c2) - (1 : Int)))).toNat (List.take (↑xs.length : Int).toNat xs)).getD
                                                    (↑g : Int).toNat (u.dflt (48 : Nat))).mac.m4,
                                            m5 :=
                                              ((List.drop (mx (0 : Int) (IntKind.i64.wrap (IntKind.i64.wrap ((↑xs.length : Int) - mx (0 : Int) c2) - (1 : Int)))).toNat (List.take (↑xs.length : Int).toNat xs)).getD
                                                    (↑g : Int).toNat (u.dflt (48 : Nat))).mac.m5 :
                                            Mac },
                                        time :=
                                          ((List.drop (mx (0 : Int) (IntKind.i64.wrap (IntKind.i64.wrap ((↑xs.length : Int) - mx (0 : Int) c2) - (1 : Int)))).toNat (List.take (↑xs.length : Int).toNat xs)).getD
                                              (↑g : Int).toNat (u.dflt (48 : Nat))).time :
                                        Sight }] =
                                  List.filter (freshS c0 now) (List.take g_1 (tailS c2 xs))) ∧
                  (within now
                        ((List.drop (mx (0 : Int) (IntKind.i64.wrap (IntKind.i64.wrap ((↑xs.length : Int) - mx (0 : Int) c2) - (1 : Int)))).toNat (List.take (↑xs.length : Int).toNat xs)).getD (↑g : Int).toNat
                            (u.dflt (48 : Nat))).time
                        c0 =
                      false →
                    ∃ (g_1 : Nat),
                      g_1.le (tailS c2 xs).length ∧
                        (annFresh c0 c2 now xs).μ g_1 < (annFresh c0 c2 now xs).μ g ∧
                          (now = now ∧
                              True ∧
                                List.drop (mx (0 : Int) (IntKind.i64.wrap (IntKind.i64.wrap ((↑xs.length : Int) - mx (0 : Int) c2) - (1 : Int)))).toNat (List.take (↑xs.length : Int).toNat xs) =
                                    List.drop (mx (0 : Int) (IntKind.i64.wrap (IntKind.i64.wrap ((↑xs.length : Int) - mx (0 : Int) c2) - (1 : Int)))).toNat (List.take (↑xs.length : Int).toNat xs) ∧
                                  (↑(List.drop (mx (0 : Int) (IntKind.i64.wrap (IntKind.i64.wrap ((↑xs.length : Int) - mx (0 : Int) c2) - (1 : Int)))).toNat (List.take (↑xs.length : Int).toNat xs)).length : Int) =
                                      (↑(List.drop (mx (0 : Int) (IntKind.i64.wrap (IntKind.i64.wrap ((↑xs.length : Int) - mx (0 : Int) c2) - (1 : Int)))).toNat (List.take (↑xs.length : Int).toNat xs)).length : Int) ∧
                                    IntKind.i64.wrap ((↑g : Int) + (1 : Int)) = (↑g_1 : Int) ∧ True) ∧
                            (c0 = c0 ∧ c1 = c1 ∧ c2 = c2 ∧ c3 = c3 ∧ c4 = c4 ∧ c5 = c5 ∧ c6 = c6 ∧ c7 = c7 ∧ c8 = c8) ∧
                              List.filter (freshS c0 now) (List.take g (tailS c2 xs)) = List.filter (freshS c0 now) (List.take g_1 (tailS c2 xs)))) ∧
            (decide ((↑g : Int) < (↑(List.drop (mx (0 : Int) (IntKind.i64.wrap (IntKind.i64.wrap ((↑xs.length : Int) - mx (0 : Int) c2) - (1 : Int)))).toNat (List.take (↑xs.length : Int).toNat xs)).length : Int)) =
                false →
              List.filter (freshS c0 now) (List.take g (tailS c2 xs)) = freshL c0 c2 now xs)


end Go.Proofs.Ytpokkmgnapoomaa.Stat
