/- What an address stands as: what the two ways come to (printed by wip/Vc.lean; checked by the kernel in the next text). -/
import Derived.Test.YtpokkmgnapoomaaStatSpecC
namespace Go.Proofs.Ytpokkmgnapoomaa.Stat
open Go Go.Proofs.Ytpokkmgnapoomaa.Sx

def vcOfN : Int → Int → Int → Int → Int → Int → Int → Int → Int → List Sight → Int → Prop :=
  fun (c0 c1 c2 c3 c4 c5 c6 c7 c8 : Int) (xs : List Sight) (now : Int) =>
  (xs.length * (24 : Nat) ≤ (140737488355328 : Nat) ∧ c2 < (9223372036854775808 : Int)) ∧
    ∀ (v : List Sight),
      v = freshL c0 c2 now xs →
        v.length < (9223372036854775808 : Nat) ∧
          (apartGo zeroMac v = true → (5 : Int) = ofN c0 c2 now xs) ∧
            (apartGo zeroMac v = false →
              (decide ((↑v.length : Int) > (0 : Int)) = true → True) ∧
                (decide ((↑v.length : Int) > (0 : Int)) = false → True) ∧
                  ∀ (v_1 : Bool),
                    (v_1 = if decide ((↑v.length : Int) > (0 : Int)) = true then decide ((↑v.length : Int) > (0 : Int)) else false) →
                      (v_1 = true → (4 : Int) = ofN c0 c2 now xs) ∧ (v_1 = false → (0 : Int) = ofN c0 c2 now xs))

def vcOfH : Int →
  Int →
    Int →
      Int → Int → Int → Int → Int → Int → Int → ByteArray → Int → Int → Int → Int → Int → Int → List Sight → Int → Prop :=
  fun (c0 c1 c2 c3 c4 c5 c6 c7 c8 z : Int) (o : ByteArray) (a b c d e f : Int) (xs : List Sight) (now : Int) =>
  (xs.length * (24 : Nat) ≤ (140737488355328 : Nat) ∧ c2 < (9223372036854775808 : Int)) ∧
    ∀ (v : List Sight),
      v = freshL c0 c2 now xs →
        v.length < (9223372036854775808 : Nat) ∧
          (apartGo zeroMac v = true → (5 : Int) = ofH c0 c1 c2 now { m0 := a, m1 := b, m2 := c, m3 := d, m4 := e, m5 := f : Mac } xs) ∧
            (apartGo zeroMac v = false →
              v.length < (9223372036854775808 : Nat) ∧
                (foreign { m0 := a, m1 := b, m2 := c, m3 := d, m4 := e, m5 := f : Mac } v = true → (4 : Int) = ofH c0 c1 c2 now { m0 := a, m1 := b, m2 := c, m3 := d, m4 := e, m5 := f : Mac } xs) ∧
                  (foreign { m0 := a, m1 := b, m2 := c, m3 := d, m4 := e, m5 := f : Mac } v = false →
                    (decide ((↑v.length : Int) ≥ c2) = true → (2 : Int) = ofH c0 c1 c2 now { m0 := a, m1 := b, m2 := c, m3 := d, m4 := e, m5 := f : Mac } xs) ∧
                      (decide ((↑v.length : Int) ≥ c2) = false →
                        (decide ((↑xs.length : Int) > (0 : Int)) = true → (0 : Int) ≤ IntKind.i64.wrap ((↑xs.length : Int) - (1 : Int)) ∧ IntKind.i64.wrap ((↑xs.length : Int) - (1 : Int)) < (↑xs.length : Int)) ∧
                          ((decide ((↑xs.length : Int) > (0 : Int)) && !within now (xs.getD (IntKind.i64.wrap ((↑xs.length : Int) - (1 : Int))).toNat (u.dflt (48 : Nat))).time c1) = true →
                              (3 : Int) = ofH c0 c1 c2 now { m0 := a, m1 := b, m2 := c, m3 := d, m4 := e, m5 := f : Mac } xs) ∧
                            ((decide ((↑xs.length : Int) > (0 : Int)) && !within now (xs.getD (IntKind.i64.wrap ((↑xs.length : Int) - (1 : Int))).toNat (u.dflt (48 : Nat))).time c1) = false →
                              (1 : Int) = ofH c0 c1 c2 now { m0 := a, m1 := b, m2 := c, m3 := d, m4 := e, m5 := f : Mac } xs))))

def vcOfLN : Int → Int → Int → Int → Int → Int → Int → Int → Int → List Sight → Int → Prop :=
  fun (c0 c1 c2 c3 c4 c5 c6 c7 c8 : Int) (xs : List Sight) (now : Int) =>
  (∃ (g : Nat),
      g.le xs.length ∧
        (True ∧ xs = xs ∧ now = now ∧ True ∧ xs = xs ∧ (↑xs.length : Int) = (↑xs.length : Int) ∧ (0 : Int) = (↑g : Int) ∧ True ∧ (0 : Int) = cntL c0 c2 now xs g) ∧
          (c0 = c0 ∧ c1 = c1 ∧ c2 = c2 ∧ c3 = c3 ∧ c4 = c4 ∧ c5 = c5 ∧ c6 = c6 ∧ c7 = c7 ∧ c8 = c8) ∧ macsL c0 c2 now xs g = []) ∧
    ∀ (g : Nat),
      g.le xs.length →
        (decide ((↑g : Int) < (↑xs.length : Int)) = true →
            ((0 : Int) ≤ (↑g : Int) ∧ (↑g : Int) < (↑xs.length : Int)) ∧
              ((decide (IntKind.i64.wrap ((↑xs.length : Int) - (↑g : Int)) ≤ IntKind.i64.wrap (mx (0 : Int) c2 + (1 : Int))) && withinL now (xs.getD (↑g : Int).toNat (u.dflt (48 : Nat))).time c0) = true →
                  ((!((xs.getD (↑g : Int).toNat (u.dflt (48 : Nat))).mac.m0 == (0 : Int) &&
                            ((xs.getD (↑g : Int).toNat (u.dflt (48 : Nat))).mac.m1 == (0 : Int) &&
                              ((xs.getD (↑g : Int).toNat (u.dflt (48 : Nat))).mac.m2 == (0 : Int) &&
                                ((xs.getD (↑g : Int).toNat (u.dflt (48 : Nat))).mac.m3 == (0 : Int) &&
                                  ((xs.getD (↑g : Int).toNat (u.dflt (48 : Nat))).mac.m4 == (0 : Int) && ((xs.getD (↑g : Int).toNat (u.dflt (48 : Nat))).mac.m5 == (0 : Int) && true))))))) =
                        true →
                      ((macsL c0 c2 now xs g).length +
                              [{ m0 := (xs.getD (↑g : Int).toNat (u.dflt (48 : Nat))).mac.m0, m1 := (xs.getD (↑g : Int).toNat (u.dflt (48 : Nat))).mac.m1, m2 := (xs.getD (↑g : Int).toNat (u.dflt (48 : Nat))).mac.m2,
                                    m3 := (xs.getD (↑g : Int).toNat (u.dflt (48 : Nat))).mac.m3, m4 := (xs.getD (↑g : Int).toNat (u.dflt (48 : Nat))).mac.m4, m5 := (xs.getD (↑g : Int).toNat (u.dflt (48 : Nat))).mac.m5 :
                                    Mac }].length) *
                            (6 : Nat) ≤
                          (140737488355328 : Nat) ∧
                        ∃ (g_1 : Nat),
                          g_1.le xs.length ∧
                            (annL1 c0 c2 now xs).μ g_1 < (annL1 c0 c2 now xs).μ g ∧
                              (True ∧
                                  xs = xs ∧
                                    now = now ∧
                                      True ∧
                                        xs = xs ∧
                                          (↑xs.length : Int) = (↑xs.length : Int) ∧
                                            IntKind.i64.wrap ((↑g : Int) + (1 : Int)) = (↑g_1 : Int) ∧ True ∧ IntKind.i64.wrap (cntL c0 c2 now xs g + (1 : Int)) = cntL c0 c2 now xs g_1) ∧
                                (c0 = c0 ∧ c1 = c1 ∧ c2 = c2 ∧ c3 = c3 ∧ c4 = c4 ∧ c5 = c5 ∧ c6 = c6 ∧ c7 = c7 ∧ c8 = c8) ∧
                                  macsL c0 c2 now xs g ++
                                      [{ m0 := (xs.getD (↑g : Int).toNat (u.dflt (48 : Nat))).mac.m0, m1 := (xs.getD (↑g : Int).toNat (u.dflt (48 : Nat))).mac.m1,
                                          m2 := (xs.getD (↑g : Int).toNat (u.dflt (48 : Nat))).mac.m2, m3 := (xs.getD (↑g : Int).toNat (u.dflt (48 : Nat))).mac.m3,
                                          m4 := (xs.getD (↑g : Int).toNat (u.dflt (48 : Nat))).mac.m4, m5 := (xs.getD (↑g : Int).toNat (u.dflt (48 : Nat))).mac.m5 : Mac }] =
                                    macsL c0 c2 now xs g_1) ∧
                    ((!((xs.getD (↑g : Int).toNat (u.dflt (48 : Nat))).mac.m0 == (0 : Int) &&
                            ((xs.getD (↑g : Int).toNat (u.dflt (48 : Nat))).mac.m1 == (0 : Int) &&
                              ((xs.getD (↑g : Int).toNat (u.dflt (48 : Nat))).mac.m2 == (0 : Int) &&
                                ((xs.getD (↑g : Int).toNat (u.dflt (48 : Nat))).mac.m3 == (0 : Int) &&
                                  ((xs.getD (↑g : Int).toNat (u.dflt (48 : Nat))).mac.m4 == (0 : Int) && ((xs.getD (↑g : Int).toNat (u.dflt (48 : Nat))).mac.m5 == (0 : Int) && true))))))) =
                        false →
                      ∃ (g_1 : Nat),
                        g_1.le xs.length ∧
                          (annL1 c0 c2 now xs).μ g_1 < (annL1 c0 c2 now xs).μ g ∧
                            (True ∧
                                xs = xs ∧
                                  now = now ∧
                                    True ∧
                                      xs = xs ∧
                                        (↑xs.length : Int) = (↑xs.length : Int) ∧
                                          IntKind.i64.wrap ((↑g : Int) + (1 : Int)) = (↑g_1 : Int) ∧ True ∧ IntKind.i64.wrap (cntL c0 c2 now xs g + (1 : Int)) = cntL c0 c2 now xs g_1) ∧
                              (c0 = c0 ∧ c1 = c1 ∧ c2 = c2 ∧ c3 = c3 ∧ c4 = c4 ∧ c5 = c5 ∧ c6 = c6 ∧ c7 = c7 ∧ c8 = c8) ∧ macsL c0 c2 now xs g = macsL c0 c2 now xs g_1)) ∧
                ((decide (IntKind.i64.wrap ((↑xs.length : Int) - (↑g : Int)) ≤ IntKind.i64.wrap (mx (0 : Int) c2 + (1 : Int))) && withinL now (xs.getD (↑g : Int).toNat (u.dflt (48 : Nat))).time c0) = false →
                  ∃ (g_1 : Nat),
                    g_1.le xs.length ∧
                      (annL1 c0 c2 now xs).μ g_1 < (annL1 c0 c2 now xs).μ g ∧
                        (True ∧
                            xs = xs ∧
                              now = now ∧ True ∧ xs = xs ∧ (↑xs.length : Int) = (↑xs.length : Int) ∧ IntKind.i64.wrap ((↑g : Int) + (1 : Int)) = (↑g_1 : Int) ∧ True ∧ cntL c0 c2 now xs g = cntL c0 c2 now xs g_1) ∧
                          (c0 = c0 ∧ c1 = c1 ∧ c2 = c2 ∧ c3 = c3 ∧ c4 = c4 ∧ c5 = c5 ∧ c6 = c6 ∧ c7 = c7 ∧ c8 = c8) ∧ macsL c0 c2 now xs g = macsL c0 c2 now xs g_1)) ∧
          (decide ((↑g : Int) < (↑xs.length : Int)) = false →
            (∃ (g_1 : Nat),
                g_1.le (macsL c0 c2 now xs xs.length).length ∧
                  (True ∧
                      xs = xs ∧
                        now = now ∧
                          True ∧
                            cntL c0 c2 now xs g = cntL c0 c2 now xs g ∧
                              True ∧
                                (↑(macsL c0 c2 now xs g).length : Int) = (↑(macsL c0 c2 now xs g).length : Int) ∧ True ∧ (0 : Int) = (↑g_1 : Int) ∧ false = apartL (macsL c0 c2 now xs xs.length) g_1 ∧ false = false) ∧
                    (c0 = c0 ∧ c1 = c1 ∧ c2 = c2 ∧ c3 = c3 ∧ c4 = c4 ∧ c5 = c5 ∧ c6 = c6 ∧ c7 = c7 ∧ c8 = c8) ∧ macsL c0 c2 now xs g = macsL c0 c2 now xs g) ∧
              ∀ (g_1 : Nat),
                g_1.le (macsL c0 c2 now xs xs.length).length →
                  (decide ((↑g_1 : Int) < (↑(macsL c0 c2 now xs g).length : Int)) = true →
                      ((0 : Int) ≤ (↑g_1 : Int) ∧ (↑g_1 : Int) < (↑(macsL c0 c2 now xs g).length : Int)) ∧
                        (apartL (macsL c0 c2 now xs xs.length) g_1 = false → (0 : Int) ≤ (0 : Int) ∧ (0 : Int) < (↑(macsL c0 c2 now xs g).length : Int)) ∧
                          ∃ (g_2 : Nat),
                            g_2.le (macsL c0 c2 now xs xs.length).length ∧
                              (annL2N (macsL c0 c2 now xs xs.length)).μ g_2 < (annL2N (macsL c0 c2 now xs xs.length)).μ g_1 ∧
                                (True ∧
                                    xs = xs ∧
                                      now = now ∧
                                        True ∧
                                          cntL c0 c2 now xs g = cntL c0 c2 now xs g ∧
                                            True ∧
                                              (↑(macsL c0 c2 now xs g).length : Int) = (↑(macsL c0 c2 now xs g).length : Int) ∧
                                                True ∧
                                                  IntKind.i64.wrap ((↑g_1 : Int) + (1 : Int)) = (↑g_2 : Int) ∧
                                                    (apartL (macsL c0 c2 now xs xs.length) g_1 ||
                                                          !(((macsL c0 c2 now xs g).getD (↑g_1 : Int).toNat (u.dflt (35 : Nat))).m0 == ((macsL c0 c2 now xs g).getD (0 : Nat) (u.dflt (35 : Nat))).m0 &&
                                                              (((macsL c0 c2 now xs g).getD (↑g_1 : Int).toNat (u.dflt (35 : Nat))).m1 == ((macsL c0 c2 now xs g).getD (0 : Nat) (u.dflt (35 : Nat))).m1 &&
                                                                (((macsL c0 c2 now xs g).getD (↑g_1 : Int).toNat (u.dflt (35 : Nat))).m2 == ((macsL c0 c2 now xs g).getD (0 : Nat) (u.dflt (35 : Nat))).m2 &&
                                                                  (((macsL c0 c2 now xs g).getD (↑g_1 : Int).toNat (u.dflt (35 : Nat))).m3 == ((macsL c0 c2 now xs g).getD (0 : Nat) (u.dflt (35 : Nat))).m3 &&
                                                                    (((macsL c0 c2 now xs g).getD (↑g_1 : Int).toNat (u.dflt (35 : Nat))).m4 == ((macsL c0 c2 now xs g).getD (0 : Nat) (u.dflt (35 : Nat))).m4 &&
                                                                      (((macsL c0 c2 now xs g).getD (↑g_1 : Int).toNat (u.dflt (35 : Nat))).m5 == ((macsL c0 c2 now xs g).getD (0 : Nat) (u.dflt (35 : Nat))).m5 &&
                                                                        true))))))) =
                                                        apartL (macsL c0 c2 now xs xs.length) g_2 ∧
                                                      (false && true) = false) ∧
                                  (c0 = c0 ∧ c1 = c1 ∧ c2 = c2 ∧ c3 = c3 ∧ c4 = c4 ∧ c5 = c5 ∧ c6 = c6 ∧ c7 = c7 ∧ c8 = c8) ∧ macsL c0 c2 now xs g = macsL c0 c2 now xs g) ∧
                    (decide ((↑g_1 : Int) < (↑(macsL c0 c2 now xs g).length : Int)) = false →
                      (apartL (macsL c0 c2 now xs xs.length) g_1 = true → (5 : Int) = ofLN c0 c2 now xs) ∧
                        (apartL (macsL c0 c2 now xs xs.length) g_1 = false →
                          (decide (cntL c0 c2 now xs g > (0 : Int)) = true → (4 : Int) = ofLN c0 c2 now xs) ∧ (decide (cntL c0 c2 now xs g > (0 : Int)) = false → (0 : Int) = ofLN c0 c2 now xs))))

def vcOfLH : Int →
  Int →
    Int →
      Int → Int → Int → Int → Int → Int → Int → ByteArray → Int → Int → Int → Int → Int → Int → List Sight → Int → Prop :=
  fun (c0 c1 c2 c3 c4 c5 c6 c7 c8 z : Int) (o : ByteArray) (a b c d e f : Int) (xs : List Sight) (now : Int) =>
  (∃ (g : Nat),
      g.le xs.length ∧
        (((0 : Nat) = (0 : Nat) ∧ z = z ∧ o = o ∧ a = a ∧ b = b ∧ c = c ∧ d = d ∧ e = e ∧ f = f) ∧
            xs = xs ∧ now = now ∧ True ∧ xs = xs ∧ (↑xs.length : Int) = (↑xs.length : Int) ∧ (0 : Int) = (↑g : Int) ∧ True ∧ (0 : Int) = cntL c0 c2 now xs g) ∧
          (c0 = c0 ∧ c1 = c1 ∧ c2 = c2 ∧ c3 = c3 ∧ c4 = c4 ∧ c5 = c5 ∧ c6 = c6 ∧ c7 = c7 ∧ c8 = c8) ∧ macsL c0 c2 now xs g = []) ∧
    ∀ (g : Nat),
      g.le xs.length →
        (decide ((↑g : Int) < (↑xs.length : Int)) = true →
            ((0 : Int) ≤ (↑g : Int) ∧ (↑g : Int) < (↑xs.length : Int)) ∧
              ((decide (IntKind.i64.wrap ((↑xs.length : Int) - (↑g : Int)) ≤ IntKind.i64.wrap (mx (0 : Int) c2 + (1 : Int))) && withinL now (xs.getD (↑g : Int).toNat (u.dflt (48 : Nat))).time c0) = true →
                  ((!((xs.getD (↑g : Int).toNat (u.dflt (48 : Nat))).mac.m0 == (0 : Int) &&
                            ((xs.getD (↑g : Int).toNat (u.dflt (48 : Nat))).mac.m1 == (0 : Int) &&
                              ((xs.getD (↑g : Int).toNat (u.dflt (48 : Nat))).mac.m2 == (0 : Int) &&
                                ((xs.getD (↑g : Int).toNat (u.dflt (48 : Nat))).mac.m3 == (0 : Int) &&
                                  ((xs.getD (↑g : Int).toNat (u.dflt (48 : Nat))).mac.m4 == (0 : Int) && ((xs.getD (↑g : Int).toNat (u.dflt (48 : Nat))).mac.m5 == (0 : Int) && true))))))) =
                        true →
                      ((macsL c0 c2 now xs g).length +
                              [{ m0 := (xs.getD (↑g : Int).toNat (u.dflt (48 : Nat))).mac.m0, m1 := (xs.getD (↑g : Int).toNat (u.dflt (48 : Nat))).mac.m1, m2 := (xs.getD (↑g : Int).toNat (u.dflt (48 : Nat))).mac.m2,
                                    m3 := (xs.getD (↑g : Int).toNat (u.dflt (48 : Nat))).mac.m3, m4 := (xs.getD (↑g : Int).toNat (u.dflt (48 : Nat))).mac.m4, m5 := (xs.getD (↑g : Int).toNat (u.dflt (48 : Nat))).mac.m5 :
                                    Mac }].length) *
                            (6 : Nat) ≤
                          (140737488355328 : Nat) ∧
                        ∃ (g_1 : Nat),
                          g_1.le xs.length ∧
                            (annL1 c0 c2 now xs).μ g_1 < (annL1 c0 c2 now xs).μ g ∧
                              (((0 : Nat) = (0 : Nat) ∧ z = z ∧ o = o ∧ a = a ∧ b = b ∧ c = c ∧ d = d ∧ e = e ∧ f = f) ∧
                                  xs = xs ∧
                                    now = now ∧
                                      True ∧
                                        xs = xs ∧
                                          (↑xs.length : Int) = (↑xs.length : Int) ∧
                                            IntKind.i64.wrap ((↑g : Int) + (1 : Int)) = (↑g_1 : Int) ∧ True ∧ IntKind.i64.wrap (cntL c0 c2 now xs g + (1 : Int)) = cntL c0 c2 now xs g_1) ∧
                                (c0 = c0 ∧ c1 = c1 ∧ c2 = c2 ∧ c3 = c3 ∧ c4 = c4 ∧ c5 = c5 ∧ c6 = c6 ∧ c7 = c7 ∧ c8 = c8) ∧
                                  macsL c0 c2 now xs g ++
                                      [{ m0 := (xs.getD (↑g : Int).toNat (u.dflt (48 : Nat))).mac.m0, m1 := (xs.getD (↑g : Int).toNat (u.dflt (48 : Nat))).mac.m1,
                                          m2 := (xs.getD (↑g : Int).toNat (u.dflt (48 : Nat))).mac.m2, m3 := (xs.getD (↑g : Int).toNat (u.dflt (48 : Nat))).mac.m3,
                                          m4 := (xs.getD (↑g : Int).toNat (u.dflt (48 : Nat))).mac.m4, m5 := (xs.getD (↑g : Int).toNat (u.dflt (48 : Nat))).mac.m5 : Mac }] =
                                    macsL c0 c2 now xs g_1) ∧
                    ((!((xs.getD (↑g : Int).toNat (u.dflt (48 : Nat))).mac.m0 == (0 : Int) &&
                            ((xs.getD (↑g : Int).toNat (u.dflt (48 : Nat))).mac.m1 == (0 : Int) &&
                              ((xs.getD (↑g : Int).toNat (u.dflt (48 : Nat))).mac.m2 == (0 : Int) &&
                                ((xs.getD (↑g : Int).toNat (u.dflt (48 : Nat))).mac.m3 == (0 : Int) &&
                                  ((xs.getD (↑g : Int).toNat (u.dflt (48 : Nat))).mac.m4 == (0 : Int) && ((xs.getD (↑g : Int).toNat (u.dflt (48 : Nat))).mac.m5 == (0 : Int) && true))))))) =
                        false →
                      ∃ (g_1 : Nat),
                        g_1.le xs.length ∧
                          (annL1 c0 c2 now xs).μ g_1 < (annL1 c0 c2 now xs).μ g ∧
                            (((0 : Nat) = (0 : Nat) ∧ z = z ∧ o = o ∧ a = a ∧ b = b ∧ c = c ∧ d = d ∧ e = e ∧ f = f) ∧
                                xs = xs ∧
                                  now = now ∧
                                    True ∧
                                      xs = xs ∧
                                        (↑xs.length : Int) = (↑xs.length : Int) ∧
                                          IntKind.i64.wrap ((↑g : Int) + (1 : Int)) = (↑g_1 : Int) ∧ True ∧ IntKind.i64.wrap (cntL c0 c2 now xs g + (1 : Int)) = cntL c0 c2 now xs g_1) ∧
                              (c0 = c0 ∧ c1 = c1 ∧ c2 = c2 ∧ c3 = c3 ∧ c4 = c4 ∧ c5 = c5 ∧ c6 = c6 ∧ c7 = c7 ∧ c8 = c8) ∧ macsL c0 c2 now xs g = macsL c0 c2 now xs g_1)) ∧
                ((decide (IntKind.i64.wrap ((↑xs.length : Int) - (↑g : Int)) ≤ IntKind.i64.wrap (mx (0 : Int) c2 + (1 : Int))) && withinL now (xs.getD (↑g : Int).toNat (u.dflt (48 : Nat))).time c0) = false →
                  ∃ (g_1 : Nat),
                    g_1.le xs.length ∧
                      (annL1 c0 c2 now xs).μ g_1 < (annL1 c0 c2 now xs).μ g ∧
                        (((0 : Nat) = (0 : Nat) ∧ z = z ∧ o = o ∧ a = a ∧ b = b ∧ c = c ∧ d = d ∧ e = e ∧ f = f) ∧
                            xs = xs ∧
                              now = now ∧ True ∧ xs = xs ∧ (↑xs.length : Int) = (↑xs.length : Int) ∧ IntKind.i64.wrap ((↑g : Int) + (1 : Int)) = (↑g_1 : Int) ∧ True ∧ cntL c0 c2 now xs g = cntL c0 c2 now xs g_1) ∧
                          (c0 = c0 ∧ c1 = c1 ∧ c2 = c2 ∧ c3 = c3 ∧ c4 = c4 ∧ c5 = c5 ∧ c6 = c6 ∧ c7 = c7 ∧ c8 = c8) ∧ macsL c0 c2 now xs g = macsL c0 c2 now xs g_1)) ∧
          (decide ((↑g : Int) < (↑xs.length : Int)) = false →
            (∃ (g_1 : Nat),
                g_1.le (macsL c0 c2 now xs xs.length).length ∧
                  (((0 : Nat) = (0 : Nat) ∧ z = z ∧ o = o ∧ a = a ∧ b = b ∧ c = c ∧ d = d ∧ e = e ∧ f = f) ∧
                      xs = xs ∧
                        now = now ∧
                          True ∧
                            cntL c0 c2 now xs g = cntL c0 c2 now xs g ∧
                              True ∧
                                (↑(macsL c0 c2 now xs g).length : Int) = (↑(macsL c0 c2 now xs g).length : Int) ∧
                                  True ∧
                                    (0 : Int) = (↑g_1 : Int) ∧
                                      false = apartL (macsL c0 c2 now xs xs.length) g_1 ∧ false = otherL { m0 := a, m1 := b, m2 := c, m3 := d, m4 := e, m5 := f : Mac } (macsL c0 c2 now xs xs.length) g_1) ∧
                    (c0 = c0 ∧ c1 = c1 ∧ c2 = c2 ∧ c3 = c3 ∧ c4 = c4 ∧ c5 = c5 ∧ c6 = c6 ∧ c7 = c7 ∧ c8 = c8) ∧ macsL c0 c2 now xs g = macsL c0 c2 now xs g) ∧
              ∀ (g_1 : Nat),
                g_1.le (macsL c0 c2 now xs xs.length).length →
                  (decide ((↑g_1 : Int) < (↑(macsL c0 c2 now xs g).length : Int)) = true →
                      ((0 : Int) ≤ (↑g_1 : Int) ∧ (↑g_1 : Int) < (↑(macsL c0 c2 now xs g).length : Int)) ∧
                        (apartL (macsL c0 c2 now xs xs.length) g_1 = false → (0 : Int) ≤ (0 : Int) ∧ (0 : Int) < (↑(macsL c0 c2 now xs g).length : Int)) ∧
                          ∃ (g_2 : Nat),
                            g_2.le (macsL c0 c2 now xs xs.length).length ∧
                              (annL2H { m0 := a, m1 := b, m2 := c, m3 := d, m4 := e, m5 := f : Mac } (macsL c0 c2 now xs xs.length)).μ g_2 <
                                  (annL2H { m0 := a, m1 := b, m2 := c, m3 := d, m4 := e, m5 := f : Mac } (macsL c0 c2 now xs xs.length)).μ g_1 ∧
                                (((0 : Nat) = (0 : Nat) ∧ z = z ∧ o = o ∧ a = a ∧ b = b ∧ c = c ∧ d = d ∧ e = e ∧ f = f) ∧
                                    xs = xs ∧
                                      now = now ∧
                                        True ∧
                                          cntL c0 c2 now xs g = cntL c0 c2 now xs g ∧
                                            True ∧
                                              (↑(macsL c0 c2 now xs g).length : Int) = (↑(macsL c0 c2 now xs g).length : Int) ∧
                                                True ∧
                                                  IntKind.i64.wrap ((↑g_1 : Int) + (1 : Int)) = (↑g_2 : Int) ∧
                                                    (apartL (macsL c0 c2 now xs xs.length) g_1 ||
                                                          !(((macsL c0 c2 now xs g).getD (↑g_1 : Int).toNat (u.dflt (35 : Nat))).m0 == ((macsL c0 c2 now xs g).getD (0 : Nat) (u.dflt (35 : Nat))).m0 &&
                                                              (((macsL c0 c2 now xs g).getD (↑g_1 : Int).toNat (u.dflt (35 : Nat))).m1 == ((macsL c0 c2 now xs g).getD (0 : Nat) (u.dflt (35 : Nat))).m1 &&
                                                                (((macsL c0 c2 now xs g).getD (↑g_1 : Int).toNat (u.dflt (35 : Nat))).m2 == ((macsL c0 c2 now xs g).getD (0 : Nat) (u.dflt (35 : Nat))).m2 &&
                                                                  (((macsL c0 c2 now xs g).getD (↑g_1 : Int).toNat (u.dflt (35 : Nat))).m3 == ((macsL c0 c2 now xs g).getD (0 : Nat) (u.dflt (35 : Nat))).m3 &&
                                                                    (((macsL c0 c2 now xs g).getD (↑g_1 : Int).toNat (u.dflt (35 : Nat))).m4 == ((macsL c0 c2 now xs g).getD (0 : Nat) (u.dflt (35 : Nat))).m4 &&
                                                                      (((macsL c0 c2 now xs g).getD (↑g_1 : Int).toNat (u.dflt (35 : Nat))).m5 == ((macsL c0 c2 now xs g).getD (0 : Nat) (u.dflt (35 : Nat))).m5 &&
                                                                        true))))))) =
                                                        apartL (macsL c0 c2 now xs xs.length) g_2 ∧
                                                      (otherL { m0 := a, m1 := b, m2 := c, m3 := d, m4 := e, m5 := f : Mac } (macsL c0 c2 now xs xs.length) g_1 ||
                                                          !(a == (0 : Int) && (b == (0 : Int) && (c == (0 : Int) && (d == (0 : Int) && (e == (0 : Int) && (f == (0 : Int) && true)))))) &&
                                                            !(((macsL c0 c2 now xs g).getD (↑g_1 : Int).toNat (u.dflt (35 : Nat))).m0 == a &&
                                                                (((macsL c0 c2 now xs g).getD (↑g_1 : Int).toNat (u.dflt (35 : Nat))).m1 == b &&
                                                                  (((macsL c0 c2 now xs g).getD (↑g_1 : Int).toNat (u.dflt (35 : Nat))).m2 == c &&
                                                                    (((macsL c0 c2 now xs g).getD (↑g_1 : Int).toNat (u.dflt (35 : Nat))).m3 == d &&
                                                                      (((macsL c0 c2 now xs g).getD (↑g_1 : Int).toNat (u.dflt (35 : Nat))).m4 == e &&
                                                                        (((macsL c0 c2 now xs g).getD (↑g_1 : Int).toNat (u.dflt (35 : Nat))).m5 == f && true))))))) =
                                                        otherL { m0 := a, m1 := b, m2 := c, m3 := d, m4 := e, m5 := f : Mac } (macsL c0 c2 now xs xs.length) g_2) ∧
                                  (c0 = c0 ∧ c1 = c1 ∧ c2 = c2 ∧ c3 = c3 ∧ c4 = c4 ∧ c5 = c5 ∧ c6 = c6 ∧ c7 = c7 ∧ c8 = c8) ∧ macsL c0 c2 now xs g = macsL c0 c2 now xs g) ∧
                    (decide ((↑g_1 : Int) < (↑(macsL c0 c2 now xs g).length : Int)) = false →
                      (apartL (macsL c0 c2 now xs xs.length) g_1 = true → (5 : Int) = ofLH c0 c1 c2 now { m0 := a, m1 := b, m2 := c, m3 := d, m4 := e, m5 := f : Mac } xs) ∧
                        (apartL (macsL c0 c2 now xs xs.length) g_1 = false →
                          (otherL { m0 := a, m1 := b, m2 := c, m3 := d, m4 := e, m5 := f : Mac } (macsL c0 c2 now xs xs.length) g_1 = true →
                              (4 : Int) = ofLH c0 c1 c2 now { m0 := a, m1 := b, m2 := c, m3 := d, m4 := e, m5 := f : Mac } xs) ∧
                            (otherL { m0 := a, m1 := b, m2 := c, m3 := d, m4 := e, m5 := f : Mac } (macsL c0 c2 now xs xs.length) g_1 = false →
                              (decide (cntL c0 c2 now xs g ≥ c2) = true → (2 : Int) = ofLH c0 c1 c2 now { m0 := a, m1 := b, m2 := c, m3 := d, m4 := e, m5 := f : Mac } xs) ∧
                                (decide (cntL c0 c2 now xs g ≥ c2) = false →
                                  (decide ((↑xs.length : Int) > (0 : Int)) = true →
                                      (0 : Int) ≤ IntKind.i64.wrap ((↑xs.length : Int) - (1 : Int)) ∧ IntKind.i64.wrap ((↑xs.length : Int) - (1 : Int)) < (↑xs.length : Int)) ∧
                                    ((decide ((↑xs.length : Int) > (0 : Int)) && !withinL now (xs.getD (IntKind.i64.wrap ((↑xs.length : Int) - (1 : Int))).toNat (u.dflt (48 : Nat))).time c1) = true →
                                        (3 : Int) = ofLH c0 c1 c2 now { m0 := a, m1 := b, m2 := c, m3 := d, m4 := e, m5 := f : Mac } xs) ∧
                                      ((decide ((↑xs.length : Int) > (0 : Int)) && !withinL now (xs.getD (IntKind.i64.wrap ((↑xs.length : Int) - (1 : Int))).toNat (u.dflt (48 : Nat))).time c1) = false →
                                        (1 : Int) = ofLH c0 c1 c2 now { m0 := a, m1 := b, m2 := c, m3 := d, m4 := e, m5 := f : Mac } xs))))))


end Go.Proofs.Ytpokkmgnapoomaa.Stat
