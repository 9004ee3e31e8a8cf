/- Questions that wait: what the package's functions come to (printed by wip/Vc.lean; checked by the kernel in the next text). -/
import Derived.Test.YtnjildbclmglpaaProSpecC
namespace Go.Proofs.Ytnjildbclmglpaa.Pro
open Go Go.Proofs.Ytnjildbclmglpaa.Sx

def vcContR : Int → Int → Int → Int → Int → List Prb → Prop :=
  fun (x1 x2 x3 x4 x5 : Int) (xs : List Prb) =>
  xs.length.succ.le (9223372036854775808 : Nat) ∧
    decide (firstI (sameA { addr := x1, id := x2, num := x3, sent := x4, tries := x5 : Prb }) xs ≥ (0 : Int)) = xs.any (sameA { addr := x1, id := x2, num := x3, sent := x4, tries := x5 : Prb })

def vcContP : Int → Int → Int → Int → Int → List Prb → Prop :=
  fun (x1 x2 x3 x4 x5 : Int) (xs : List Prb) =>
  xs.length.succ.le (9223372036854775808 : Nat) ∧
    decide (firstI (sameA { addr := x1, id := x2, num := x3, sent := x4, tries := x5 : Prb }) xs ≥ (0 : Int)) = xs.any (sameA { addr := x1, id := x2, num := x3, sent := x4, tries := x5 : Prb })

def vcPut : List Prb → Int → Int → Int → Int → Int → Prop :=
  fun (xs : List Prb) (a b c d e : Int) =>
  xs.length.succ.le (9223372036854775808 : Nat) ∧
    (xs.any (sameA { addr := a, id := b, num := c, sent := d, tries := e : Prb }) = true →
        putL xs { addr := a, id := b, num := c, sent := d, tries := e : Prb } = [] ∧ (6 : Int) = putErr xs { addr := a, id := b, num := c, sent := d, tries := e : Prb }) ∧
      (xs.any (sameA { addr := a, id := b, num := c, sent := d, tries := e : Prb }) = false →
        (decide ((↑xs.length : Int) ≥ (16 : Int)) = true →
            putL xs { addr := a, id := b, num := c, sent := d, tries := e : Prb } = [] ∧ (4 : Int) = putErr xs { addr := a, id := b, num := c, sent := d, tries := e : Prb }) ∧
          (decide ((↑xs.length : Int) ≥ (16 : Int)) = false →
            (xs.length * (40 : Nat)).le (140737488355328 : Nat) ∧
              (xs.length + [{ addr := a, id := b, num := c, sent := d, tries := e : Prb }].length) * (40 : Nat) ≤ (140737488355328 : Nat) ∧
                xs ++ [{ addr := a, id := b, num := c, sent := d, tries := e : Prb }] = putL xs { addr := a, id := b, num := c, sent := d, tries := e : Prb } ∧
                  (0 : Int) = putErr xs { addr := a, id := b, num := c, sent := d, tries := e : Prb }))

def vcLate : Int → Int → Int → Int → Int → Int → Int → Int → Int → List Prb → Int → Int → Prop :=
  fun (c0 c1 c2 c3 c4 c5 c6 c7 c8 : Int) (xs : List Prb) (now room : Int) =>
  (∃ (g : Nat),
      g.le xs.length ∧
        (now = now ∧ room = room ∧ True ∧ xs = xs ∧ (↑xs.length : Int) = (↑xs.length : Int) ∧ (0 : Int) = (↑g : Int) ∧ True ∧ True) ∧
          (c0 = c0 ∧ c1 = c1 ∧ c2 = c2 ∧ c3 = c3 ∧ c4 = c4 ∧ c5 = c5 ∧ c6 = c6 ∧ c7 = c7 ∧ c8 = c8) ∧ (lateAt c5 c6 now room xs g).fst = [] ∧ (lateAt c5 c6 now room xs g).snd = []) ∧
    ∀ (g : Nat),
      g.le xs.length →
        (decide ((↑g : Int) < (↑xs.length : Int)) = true →
            ((0 : Int) ≤ (↑g : Int) ∧ (↑g : Int) < (↑xs.length : Int)) ∧
              (decide (since now (xs.getD (↑g : Int).toNat (u.dflt (29 : Nat))).sent < c5) = true →
                  ((lateAt c5 c6 now room xs g).fst.length +
                          [{ addr := (xs.getD (↑g : Int).toNat (u.dflt (29 : Nat))).addr, id := (xs.getD (↑g : Int).toNat (u.dflt (29 : Nat))).id, num := (xs.getD (↑g : Int).toNat (u.dflt (29 : Nat))).num,
                                sent := (xs.getD (↑g : Int).toNat (u.dflt (29 : Nat))).sent, tries := (xs.getD (↑g : Int).toNat (u.dflt (29 : Nat))).tries : Prb }].length) *
                        (40 : Nat) ≤
                      (140737488355328 : Nat) ∧
                    ∃ (g_1 : Nat),
                      g_1.le xs.length ∧
                        (annLate c5 c6 now room xs).μ g_1 < (annLate c5 c6 now room xs).μ g ∧
                          (now = now ∧ room = room ∧ True ∧ xs = xs ∧ (↑xs.length : Int) = (↑xs.length : Int) ∧ IntKind.i64.wrap ((↑g : Int) + (1 : Int)) = (↑g_1 : Int) ∧ True ∧ True) ∧
                            (c0 = c0 ∧ c1 = c1 ∧ c2 = c2 ∧ c3 = c3 ∧ c4 = c4 ∧ c5 = c5 ∧ c6 = c6 ∧ c7 = c7 ∧ c8 = c8) ∧
                              (lateAt c5 c6 now room xs g).fst ++
                                    [{ addr := (xs.getD (↑g : Int).toNat (u.dflt (29 : Nat))).addr, id := (xs.getD (↑g : Int).toNat (u.dflt (29 : Nat))).id, num := (xs.getD (↑g : Int).toNat (u.dflt (29 : Nat))).num,
                                        sent := (xs.getD (↑g : Int).toNat (u.dflt (29 : Nat))).sent, tries := (xs.getD (↑g : Int).toNat (u.dflt (29 : Nat))).tries : Prb }] =
                                  (lateAt c5 c6 now room xs g_1).fst ∧
                                (lateAt c5 c6 now room xs g).snd = (lateAt c5 c6 now room xs g_1).snd) ∧
                (decide (since now (xs.getD (↑g : Int).toNat (u.dflt (29 : Nat))).sent < c5) = false →
                  (decide ((xs.getD (↑g : Int).toNat (u.dflt (29 : Nat))).tries ≥ c6) = true →
                      ∃ (g_1 : Nat),
                        g_1.le xs.length ∧
                          (annLate c5 c6 now room xs).μ g_1 < (annLate c5 c6 now room xs).μ g ∧
                            (now = now ∧ room = room ∧ True ∧ xs = xs ∧ (↑xs.length : Int) = (↑xs.length : Int) ∧ IntKind.i64.wrap ((↑g : Int) + (1 : Int)) = (↑g_1 : Int) ∧ True ∧ True) ∧
                              (c0 = c0 ∧ c1 = c1 ∧ c2 = c2 ∧ c3 = c3 ∧ c4 = c4 ∧ c5 = c5 ∧ c6 = c6 ∧ c7 = c7 ∧ c8 = c8) ∧
                                (lateAt c5 c6 now room xs g).fst = (lateAt c5 c6 now room xs g_1).fst ∧ (lateAt c5 c6 now room xs g).snd = (lateAt c5 c6 now room xs g_1).snd) ∧
                    (decide ((xs.getD (↑g : Int).toNat (u.dflt (29 : Nat))).tries ≥ c6) = false →
                      (decide ((↑(lateAt c5 c6 now room xs g).snd.length : Int) < room) = true →
                          ((lateAt c5 c6 now room xs g).snd.length +
                                  [{ addr := (xs.getD (↑g : Int).toNat (u.dflt (29 : Nat))).addr, id := (xs.getD (↑g : Int).toNat (u.dflt (29 : Nat))).id, num := (xs.getD (↑g : Int).toNat (u.dflt (29 : Nat))).num,
                                        sent := clampT now, tries := IntKind.i64.wrap ((xs.getD (↑g : Int).toNat (u.dflt (29 : Nat))).tries + (1 : Int)) : Prb }].length) *
                                (40 : Nat) ≤
                              (140737488355328 : Nat) ∧
                            ((lateAt c5 c6 now room xs g).fst.length +
                                    [{ addr := (xs.getD (↑g : Int).toNat (u.dflt (29 : Nat))).addr, id := (xs.getD (↑g : Int).toNat (u.dflt (29 : Nat))).id, num := (xs.getD (↑g : Int).toNat (u.dflt (29 : Nat))).num,
                                          sent := clampT now, tries := IntKind.i64.wrap ((xs.getD (↑g : Int).toNat (u.dflt (29 : Nat))).tries + (1 : Int)) : Prb }].length) *
                                  (40 : Nat) ≤
                                (140737488355328 : Nat) ∧
                              ∃ (g_1 : Nat),
                                g_1.le xs.length ∧
                                  (annLate c5 c6 now room xs).μ g_1 < (annLate c5 c6 now room xs).μ g ∧
                                    (now = now ∧ room = room ∧ True ∧ xs = xs ∧ (↑xs.length : Int) = (↑xs.length : Int) ∧ IntKind.i64.wrap ((↑g : Int) + (1 : Int)) = (↑g_1 : Int) ∧ True ∧ True) ∧
                                      (c0 = c0 ∧ c1 = c1 ∧ c2 = c2 ∧ c3 = c3 ∧ c4 = c4 ∧ c5 = c5 ∧ c6 = c6 ∧ c7 = c7 ∧ c8 = c8) ∧
                                        (lateAt c5 c6 now room xs g).fst ++
                                              [{ addr := (xs.getD (↑g : Int).toNat (u.dflt (29 : Nat))).addr, id := (xs.getD (↑g : Int).toNat (u.dflt (29 : Nat))).id,
                                                  num := (xs.getD (↑g : Int).toNat (u.dflt (29 : Nat))).num, sent := clampT now,
                                                  tries := IntKind.i64.wrap ((xs.getD (↑g : Int).toNat (u.dflt (29 : Nat))).tries + (1 : Int)) : Prb }] =
                                            (lateAt c5 c6 now room xs g_1).fst ∧
                                          (lateAt c5 c6 now room xs g).snd ++
                                              [{ addr := (xs.getD (↑g : Int).toNat (u.dflt (29 : Nat))).addr, id := (xs.getD (↑g : Int).toNat (u.dflt (29 : Nat))).id,
                                                  num := (xs.getD (↑g : Int).toNat (u.dflt (29 : Nat))).num, sent := clampT now,
                                                  tries := IntKind.i64.wrap ((xs.getD (↑g : Int).toNat (u.dflt (29 : Nat))).tries + (1 : Int)) : Prb }] =
                                            (lateAt c5 c6 now room xs g_1).snd) ∧
                        (decide ((↑(lateAt c5 c6 now room xs g).snd.length : Int) < room) = false →
                          ((lateAt c5 c6 now room xs g).fst.length +
                                  [{ addr := (xs.getD (↑g : Int).toNat (u.dflt (29 : Nat))).addr, id := (xs.getD (↑g : Int).toNat (u.dflt (29 : Nat))).id, num := (xs.getD (↑g : Int).toNat (u.dflt (29 : Nat))).num,
                                        sent := (xs.getD (↑g : Int).toNat (u.dflt (29 : Nat))).sent, tries := (xs.getD (↑g : Int).toNat (u.dflt (29 : Nat))).tries : Prb }].length) *
                                (40 : Nat) ≤
                              (140737488355328 : Nat) ∧
                            ∃ (g_1 : Nat),
                              g_1.le xs.length ∧
                                (annLate c5 c6 now room xs).μ g_1 < (annLate c5 c6 now room xs).μ g ∧
                                  (now = now ∧ room = room ∧ True ∧ xs = xs ∧ (↑xs.length : Int) = (↑xs.length : Int) ∧ IntKind.i64.wrap ((↑g : Int) + (1 : Int)) = (↑g_1 : Int) ∧ True ∧ True) ∧
                                    (c0 = c0 ∧ c1 = c1 ∧ c2 = c2 ∧ c3 = c3 ∧ c4 = c4 ∧ c5 = c5 ∧ c6 = c6 ∧ c7 = c7 ∧ c8 = c8) ∧
                                      (lateAt c5 c6 now room xs g).fst ++
                                            [{ addr := (xs.getD (↑g : Int).toNat (u.dflt (29 : Nat))).addr, id := (xs.getD (↑g : Int).toNat (u.dflt (29 : Nat))).id,
                                                num := (xs.getD (↑g : Int).toNat (u.dflt (29 : Nat))).num, sent := (xs.getD (↑g : Int).toNat (u.dflt (29 : Nat))).sent,
                                                tries := (xs.getD (↑g : Int).toNat (u.dflt (29 : Nat))).tries : Prb }] =
                                          (lateAt c5 c6 now room xs g_1).fst ∧
                                        (lateAt c5 c6 now room xs g).snd = (lateAt c5 c6 now room xs g_1).snd)))) ∧
          (decide ((↑g : Int) < (↑xs.length : Int)) = false → (lateAt c5 c6 now room xs g).fst = (lateL c5 c6 now room xs).fst ∧ (lateAt c5 c6 now room xs g).snd = (lateL c5 c6 now room xs).snd)

def vcRight : List Prb → Prop :=
  fun (xs : List Prb) =>
  (∃ (g : Nat), (g ≤ xs.length ∧ okTo xs g = true) ∧ xs = xs ∧ xs = xs ∧ (↑xs.length : Int) = (↑xs.length : Int) ∧ (0 : Int) = (↑g : Int)) ∧
    ∀ (g : Nat),
      g ≤ xs.length ∧ okTo xs g = true →
        (decide ((↑g : Int) < (↑xs.length : Int)) = true →
            ((0 : Int) ≤ (↑g : Int) ∧ (↑g : Int) < (↑xs.length : Int)) ∧
              (((xs.getD (↑g : Int).toNat (u.dflt (29 : Nat))).id != IntKind.i64.wrap (bitsI BinOp.and IntKind.u32 (xs.getD (↑g : Int).toNat (u.dflt (29 : Nat))).addr (65535 : Int)) ||
                              decide ((xs.getD (↑g : Int).toNat (u.dflt (29 : Nat))).num < (0 : Int)) ||
                            decide ((xs.getD (↑g : Int).toNat (u.dflt (29 : Nat))).num > (65535 : Int)) ||
                          (xs.getD (↑g : Int).toNat (u.dflt (29 : Nat))).sent != clampT (xs.getD (↑g : Int).toNat (u.dflt (29 : Nat))).sent ||
                        decide ((xs.getD (↑g : Int).toNat (u.dflt (29 : Nat))).tries < (0 : Int)) ||
                      decide ((xs.getD (↑g : Int).toNat (u.dflt (29 : Nat))).tries > (8 : Int))) =
                    true →
                  false = rightB xs) ∧
                (((xs.getD (↑g : Int).toNat (u.dflt (29 : Nat))).id != IntKind.i64.wrap (bitsI BinOp.and IntKind.u32 (xs.getD (↑g : Int).toNat (u.dflt (29 : Nat))).addr (65535 : Int)) ||
                              decide ((xs.getD (↑g : Int).toNat (u.dflt (29 : Nat))).num < (0 : Int)) ||
                            decide ((xs.getD (↑g : Int).toNat (u.dflt (29 : Nat))).num > (65535 : Int)) ||
                          (xs.getD (↑g : Int).toNat (u.dflt (29 : Nat))).sent != clampT (xs.getD (↑g : Int).toNat (u.dflt (29 : Nat))).sent ||
                        decide ((xs.getD (↑g : Int).toNat (u.dflt (29 : Nat))).tries < (0 : Int)) ||
                      decide ((xs.getD (↑g : Int).toNat (u.dflt (29 : Nat))).tries > (8 : Int))) =
                    false →
                  ((0 : Int) ≤ (0 : Int) ∧ (0 : Int) ≤ (↑g : Int) ∧ (↑g : Int) ≤ (↑xs.length : Int)) ∧
                    (List.drop (0 : Nat) (List.take (↑g : Int).toNat xs)).length.succ.le (9223372036854775808 : Nat) ∧
                      ((List.drop (0 : Nat) (List.take (↑g : Int).toNat xs)).any
                              (sameA
                                { addr := (xs.getD (↑g : Int).toNat (u.dflt (29 : Nat))).addr, id := (xs.getD (↑g : Int).toNat (u.dflt (29 : Nat))).id, num := (xs.getD (↑g : Int).toNat (u.dflt (29 : Nat))).num,
                                  sent := (xs.getD (↑g : Int).toNat (u.dflt (29 : Nat))).sent, tries := (xs.getD (↑g : Int).toNat (u.dflt (29 : Nat))).tries : Prb }) =
                            true →
                          false = rightB xs) ∧
                        ((List.drop (0 : Nat) (List.take (↑g : Int).toNat xs)).any
                              (sameA
                                { addr := (xs.getD (↑g : Int).toNat (u.dflt (29 : Nat))).addr, id := (xs.getD (↑g : Int).toNat (u.dflt (29 : Nat))).id, num := (xs.getD (↑g : Int).toNat (u.dflt (29 : Nat))).num,
                                  sent := (xs.getD (↑g : Int).toNat (u.dflt (29 : Nat))).sent, tries := (xs.getD (↑g : Int).toNat (u.dflt (29 : Nat))).tries : Prb }) =
                            false →
                          ∃ (g_1 : Nat),
                            (g_1 ≤ xs.length ∧ okTo xs g_1 = true) ∧
                              (annRight xs).μ g_1 < (annRight xs).μ g ∧ xs = xs ∧ xs = xs ∧ (↑xs.length : Int) = (↑xs.length : Int) ∧ IntKind.i64.wrap ((↑g : Int) + (1 : Int)) = (↑g_1 : Int)))) ∧
          (decide ((↑g : Int) < (↑xs.length : Int)) = false → decide ((↑xs.length : Int) ≤ (16 : Int)) = rightB xs)

def vcRightL : List Prb → Prop :=
  fun (xs : List Prb) =>
  (∃ (g : Nat), (g ≤ xs.length ∧ okToL xs g = true) ∧ xs = xs ∧ xs = xs ∧ (↑xs.length : Int) = (↑xs.length : Int) ∧ (0 : Int) = (↑g : Int)) ∧
    ∀ (g : Nat),
      g ≤ xs.length ∧ okToL xs g = true →
        (decide ((↑g : Int) < (↑xs.length : Int)) = true →
            ((0 : Int) ≤ (↑g : Int) ∧ (↑g : Int) < (↑xs.length : Int)) ∧
              (65536 : Int) ≠ (0 : Int) ∧
                (((xs.getD (↑g : Int).toNat (u.dflt (29 : Nat))).id != IntKind.i64.wrap ((xs.getD (↑g : Int).toNat (u.dflt (29 : Nat))).addr.tmod (65536 : Int)) ||
                                  decide ((xs.getD (↑g : Int).toNat (u.dflt (29 : Nat))).num < (0 : Int)) ||
                                decide ((xs.getD (↑g : Int).toNat (u.dflt (29 : Nat))).num > (65535 : Int)) ||
                              decide ((xs.getD (↑g : Int).toNat (u.dflt (29 : Nat))).sent < (0 : Int)) ||
                            decide ((xs.getD (↑g : Int).toNat (u.dflt (29 : Nat))).sent > (1099511627776 : Int)) ||
                          decide ((xs.getD (↑g : Int).toNat (u.dflt (29 : Nat))).tries < (0 : Int)) ||
                        decide ((xs.getD (↑g : Int).toNat (u.dflt (29 : Nat))).tries > (8 : Int))) =
                      true →
                    false = rightL xs) ∧
                  (((xs.getD (↑g : Int).toNat (u.dflt (29 : Nat))).id != IntKind.i64.wrap ((xs.getD (↑g : Int).toNat (u.dflt (29 : Nat))).addr.tmod (65536 : Int)) ||
                                  decide ((xs.getD (↑g : Int).toNat (u.dflt (29 : Nat))).num < (0 : Int)) ||
                                decide ((xs.getD (↑g : Int).toNat (u.dflt (29 : Nat))).num > (65535 : Int)) ||
                              decide ((xs.getD (↑g : Int).toNat (u.dflt (29 : Nat))).sent < (0 : Int)) ||
                            decide ((xs.getD (↑g : Int).toNat (u.dflt (29 : Nat))).sent > (1099511627776 : Int)) ||
                          decide ((xs.getD (↑g : Int).toNat (u.dflt (29 : Nat))).tries < (0 : Int)) ||
                        decide ((xs.getD (↑g : Int).toNat (u.dflt (29 : Nat))).tries > (8 : Int))) =
                      false →
                    ((0 : Int) ≤ (0 : Int) ∧ (0 : Int) ≤ (↑g : Int) ∧ (↑g : Int) ≤ (↑xs.length : Int)) ∧
                      (∃ (g_1 : Nat),
                          (g_1 ≤ g ∧ (List.take g_1 xs).any (sameA (getP xs g)) = false) ∧
                            (xs = xs ∧
                                xs = xs ∧
                                  (↑xs.length : Int) = (↑xs.length : Int) ∧
                                    (↑g : Int) = (↑g : Int) ∧
                                      True ∧
                                        List.drop (0 : Nat) (List.take (↑g : Int).toNat xs) = List.drop (0 : Nat) (List.take (↑g : Int).toNat xs) ∧
                                          (↑(List.drop (0 : Nat) (List.take (↑g : Int).toNat xs)).length : Int) = (↑(List.drop (0 : Nat) (List.take (↑g : Int).toNat xs)).length : Int) ∧ (0 : Int) = (↑g_1 : Int)) ∧
                              (xs.getD (↑g : Int).toNat (u.dflt (29 : Nat))).addr = (xs.getD (↑g : Int).toNat (u.dflt (29 : Nat))).addr ∧
                                (xs.getD (↑g : Int).toNat (u.dflt (29 : Nat))).id = (xs.getD (↑g : Int).toNat (u.dflt (29 : Nat))).id ∧
                                  (xs.getD (↑g : Int).toNat (u.dflt (29 : Nat))).num = (xs.getD (↑g : Int).toNat (u.dflt (29 : Nat))).num ∧
                                    (xs.getD (↑g : Int).toNat (u.dflt (29 : Nat))).sent = (xs.getD (↑g : Int).toNat (u.dflt (29 : Nat))).sent ∧
                                      (xs.getD (↑g : Int).toNat (u.dflt (29 : Nat))).tries = (xs.getD (↑g : Int).toNat (u.dflt (29 : Nat))).tries) ∧
                        ∀ (g_1 : Nat),
                          g_1 ≤ g ∧ (List.take g_1 xs).any (sameA (getP xs g)) = false →
                            (decide ((↑g_1 : Int) < (↑(List.drop (0 : Nat) (List.take (↑g : Int).toNat xs)).length : Int)) = true →
                                ((0 : Int) ≤ (↑g_1 : Int) ∧ (↑g_1 : Int) < (↑(List.drop (0 : Nat) (List.take (↑g : Int).toNat xs)).length : Int)) ∧
                                  ((((List.drop (0 : Nat) (List.take (↑g : Int).toNat xs)).getD (↑g_1 : Int).toNat (u.dflt (29 : Nat))).addr == (xs.getD (↑g : Int).toNat (u.dflt (29 : Nat))).addr) = true →
                                      false = rightL xs) ∧
                                    ((((List.drop (0 : Nat) (List.take (↑g : Int).toNat xs)).getD (↑g_1 : Int).toNat (u.dflt (29 : Nat))).addr == (xs.getD (↑g : Int).toNat (u.dflt (29 : Nat))).addr) = false →
                                      ∃ (g_2 : Nat),
                                        (g_2 ≤ g ∧ (List.take g_2 xs).any (sameA (getP xs g)) = false) ∧
                                          (annRightL2 xs g).μ g_2 < (annRightL2 xs g).μ g_1 ∧
                                            (xs = xs ∧
                                                xs = xs ∧
                                                  (↑xs.length : Int) = (↑xs.length : Int) ∧
                                                    (↑g : Int) = (↑g : Int) ∧
                                                      True ∧
                                                        List.drop (0 : Nat) (List.take (↑g : Int).toNat xs) = List.drop (0 : Nat) (List.take (↑g : Int).toNat xs) ∧
                                                          (↑(List.drop (0 : Nat) (List.take (↑g : Int).toNat xs)).length : Int) = (↑(List.drop (0 : Nat) (List.take (↑g : Int).toNat xs)).length : Int) ∧
                                                            IntKind.i64.wrap ((↑g_1 : Int) + (1 : Int)) = (↑g_2 : Int)) ∧
                                              (xs.getD (↑g : Int).toNat (u.dflt (29 : Nat))).addr = (xs.getD (↑g : Int).toNat (u.dflt (29 : Nat))).addr ∧
                                                (xs.getD (↑g : Int).toNat (u.dflt (29 : Nat))).id = (xs.getD (↑g : Int).toNat (u.dflt (29 : Nat))).id ∧
                                                  (xs.getD (↑g : Int).toNat (u.dflt (29 : Nat))).num = (xs.getD (↑g : Int).toNat (u.dflt (29 : Nat))).num ∧
                                                    (xs.getD (↑g : Int).toNat (u.dflt (29 : Nat))).sent = (xs.getD (↑g : Int).toNat (u.dflt (29 : Nat))).sent ∧
                                                      (xs.getD (↑g : Int).toNat (u.dflt (29 : Nat))).tries = (xs.getD (↑g : Int).toNat (u.dflt (29 : Nat))).tries)) ∧
                              (decide ((↑g_1 : Int) < (↑(List.drop (0 : Nat) (List.take (↑g : Int).toNat xs)).length : Int)) = false →
                                ∃ (g_2 : Nat),
                                  (g_2 ≤ xs.length ∧ okToL xs g_2 = true) ∧
                                    (annRightL xs).μ g_2 < (annRightL xs).μ g ∧ xs = xs ∧ xs = xs ∧ (↑xs.length : Int) = (↑xs.length : Int) ∧ IntKind.i64.wrap ((↑g : Int) + (1 : Int)) = (↑g_2 : Int)))) ∧
          (decide ((↑g : Int) < (↑xs.length : Int)) = false → decide ((↑xs.length : Int) ≤ (16 : Int)) = rightL xs)


end Go.Proofs.Ytnjildbclmglpaa.Pro
