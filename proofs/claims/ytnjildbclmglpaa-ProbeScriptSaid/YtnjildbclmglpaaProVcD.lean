/- Questions that wait: what the laws' own pieces come to (printed by wip/Vc.lean; checked by the kernel in the next text). -/
import Derived.Test.YtnjildbclmglpaaProSpecD
namespace Go.Proofs.Ytnjildbclmglpaa.Pro
open Go Go.Proofs.Ytnjildbclmglpaa.Sx

def vcAwake : Prop :=
  ∀ (v : Int),
  v = (167772165 : Int) →
    ∀ (v : Int),
      v = (5 : Int) →
        ∀ (v : Int),
          v = (1 : Int) →
            ∀ (v : Int),
              v = (2 : Int) →
                ∀ (v : Int),
                  v = (0 : Int) →
                    Nat.le (1 : Nat) (9223372036854775808 : Nat) ∧
                      ∀ (v : Int),
                        v = (0 : Int) →
                          ∀ (v : List Prb),
                            v = putL [] { addr := (167772165 : Int), id := (5 : Int), num := (1 : Int), sent := (2 : Int), tries := (0 : Int) : Prb } →
                              Nat.le (40 : Nat) (140737488355328 : Nat) ∧
                                Nat.le (40 : Nat) (140737488355328 : Nat) ∧
                                  (((0 : Int) == (0 : Int) && (1 : Int) == (1 : Int) && (5 : Int) == (5 : Int) && (1 : Int) == (1 : Int) && (0 : Int) == (0 : Int) && (0 : Int) == (0 : Int) && (0 : Int) == (0 : Int)) =
                                        true →
                                      Nat.le (2 : Nat) (9223372036854775808 : Nat)) ∧
                                    ((0 : Int) == (0 : Int) && (1 : Int) == (1 : Int) && (5 : Int) == (5 : Int) && (1 : Int) == (1 : Int) && (0 : Int) == (0 : Int) && (0 : Int) == (0 : Int) && (0 : Int) == (0 : Int) &&
                                        rightB (putL [] { addr := (167772165 : Int), id := (5 : Int), num := (1 : Int), sent := (2 : Int), tries := (0 : Int) : Prb })) =
                                      true

def vcSome : Int → Int → Int → Int → Int → Int → Int → Int → Int → List Act → Prop :=
  fun (c0 c1 c2 c3 c4 c5 c6 c7 c8 : Int) (xs : List Act) =>
  ((0 : Int) ≤ (0 : Int) ∧ (0 : Int) ≤ mn (↑xs.length : Int) (60 : Int) ∧ mn (↑xs.length : Int) (60 : Int) ≤ (↑xs.length : Int)) ∧
    (∃ (g : Nat),
        g.le (headS xs (60 : Int)).length ∧
          (True ∧
              List.drop (0 : Nat) (List.take (mn (↑xs.length : Int) (60 : Int)).toNat xs) = List.drop (0 : Nat) (List.take (mn (↑xs.length : Int) (60 : Int)).toNat xs) ∧
                (↑(List.drop (0 : Nat) (List.take (mn (↑xs.length : Int) (60 : Int)).toNat xs)).length : Int) = (↑(List.drop (0 : Nat) (List.take (mn (↑xs.length : Int) (60 : Int)).toNat xs)).length : Int) ∧
                  (0 : Int) = (↑g : Int) ∧ (someAt c5 c6 (headS xs (60 : Int)) g).fst = [] ∧ (0 : Int) = (someAt c5 c6 (headS xs (60 : Int)) g).snd) ∧
            c0 = c0 ∧ c1 = c1 ∧ c2 = c2 ∧ c3 = c3 ∧ c4 = c4 ∧ c5 = c5 ∧ c6 = c6 ∧ c7 = c7 ∧ c8 = c8) ∧
      ∀ (g : Nat),
        g.le (headS xs (60 : Int)).length →
          (decide ((↑g : Int) < (↑(List.drop (0 : Nat) (List.take (mn (↑xs.length : Int) (60 : Int)).toNat xs)).length : Int)) = true →
              ((0 : Int) ≤ (↑g : Int) ∧ (↑g : Int) < (↑(List.drop (0 : Nat) (List.take (mn (↑xs.length : Int) (60 : Int)).toNat xs)).length : Int)) ∧
                (4 : Int) ≠ (0 : Int) ∧
                  ((((List.drop (0 : Nat) (List.take (mn (↑xs.length : Int) (60 : Int)).toNat xs)).getD (↑g : Int).toNat (u.dflt (51 : Nat))).op.tmod (4 : Int) == (0 : Int)) = true →
                      (5 : Int) ≠ (0 : Int) ∧
                        ∀ (v : Int),
                          v =
                              IntKind.i64.wrap
                                ((someAt c5 c6 (headS xs (60 : Int)) g).snd +
                                  IntKind.i64.wrap (((List.drop (0 : Nat) (List.take (mn (↑xs.length : Int) (60 : Int)).toNat xs)).getD (↑g : Int).toNat (u.dflt (51 : Nat))).n.tmod (5 : Int))) →
                            (4 : Int) ≠ (0 : Int) ∧
                              ((someAt c5 c6 (headS xs (60 : Int)) g).fst.length * (40 : Nat)).le (140737488355328 : Nat) ∧
                                ∃ (g_1 : Nat),
                                  g_1.le (headS xs (60 : Int)).length ∧
                                    (annSome c5 c6 (headS xs (60 : Int))).μ g_1 < (annSome c5 c6 (headS xs (60 : Int))).μ g ∧
                                      (True ∧
                                          List.drop (0 : Nat) (List.take (mn (↑xs.length : Int) (60 : Int)).toNat xs) = List.drop (0 : Nat) (List.take (mn (↑xs.length : Int) (60 : Int)).toNat xs) ∧
                                            (↑(List.drop (0 : Nat) (List.take (mn (↑xs.length : Int) (60 : Int)).toNat xs)).length : Int) =
                                                (↑(List.drop (0 : Nat) (List.take (mn (↑xs.length : Int) (60 : Int)).toNat xs)).length : Int) ∧
                                              IntKind.i64.wrap ((↑g : Int) + (1 : Int)) = (↑g_1 : Int) ∧
                                                (lateL c5 c6 v
                                                        (IntKind.i64.wrap
                                                          ((1 : Int) +
                                                            IntKind.i64.wrap (((List.drop (0 : Nat) (List.take (mn (↑xs.length : Int) (60 : Int)).toNat xs)).getD (↑g : Int).toNat (u.dflt (51 : Nat))).n.tmod (4 : Int))))
                                                        (someAt c5 c6 (headS xs (60 : Int)) g).fst).fst =
                                                    (someAt c5 c6 (headS xs (60 : Int)) g_1).fst ∧
                                                  v = (someAt c5 c6 (headS xs (60 : Int)) g_1).snd) ∧
                                        c0 = c0 ∧ c1 = c1 ∧ c2 = c2 ∧ c3 = c3 ∧ c4 = c4 ∧ c5 = c5 ∧ c6 = c6 ∧ c7 = c7 ∧ c8 = c8) ∧
                    ((((List.drop (0 : Nat) (List.take (mn (↑xs.length : Int) (60 : Int)).toNat xs)).getD (↑g : Int).toNat (u.dflt (51 : Nat))).op.tmod (4 : Int) == (0 : Int)) = false →
                      (someAt c5 c6 (headS xs (60 : Int)) g).fst.length.succ.le (9223372036854775808 : Nat) ∧
                        ((putErr (someAt c5 c6 (headS xs (60 : Int)) g).fst
                                  {
                                    addr :=
                                      (ofP (nearA ((List.drop (0 : Nat) (List.take (mn (↑xs.length : Int) (60 : Int)).toNat xs)).getD (↑g : Int).toNat (u.dflt (51 : Nat))).addr)
                                          (IntKind.i64.wrap ((List.drop (0 : Nat) (List.take (mn (↑xs.length : Int) (60 : Int)).toNat xs)).getD (↑g : Int).toNat (u.dflt (51 : Nat))).num)
                                          (someAt c5 c6 (headS xs (60 : Int)) g).snd).addr,
                                    id :=
                                      (ofP (nearA ((List.drop (0 : Nat) (List.take (mn (↑xs.length : Int) (60 : Int)).toNat xs)).getD (↑g : Int).toNat (u.dflt (51 : Nat))).addr)
                                          (IntKind.i64.wrap ((List.drop (0 : Nat) (List.take (mn (↑xs.length : Int) (60 : Int)).toNat xs)).getD (↑g : Int).toNat (u.dflt (51 : Nat))).num)
                                          (someAt c5 c6 (headS xs (60 : Int)) g).snd).id,
                                    num :=
                                      (ofP (nearA ((List.drop (0 : Nat) (List.take (mn (↑xs.length : Int) (60 : Int)).toNat xs)).getD (↑g : Int).toNat (u.dflt (51 : Nat))).addr)
                                          (IntKind.i64.wrap ((List.drop (0 : Nat) (List.take (mn (↑xs.length : Int) (60 : Int)).toNat xs)).getD (↑g : Int).toNat (u.dflt (51 : Nat))).num)
                                          (someAt c5 c6 (headS xs (60 : Int)) g).snd).num,
                                    sent :=
                                      (ofP (nearA ((List.drop (0 : Nat) (List.take (mn (↑xs.length : Int) (60 : Int)).toNat xs)).getD (↑g : Int).toNat (u.dflt (51 : Nat))).addr)
                                          (IntKind.i64.wrap ((List.drop (0 : Nat) (List.take (mn (↑xs.length : Int) (60 : Int)).toNat xs)).getD (↑g : Int).toNat (u.dflt (51 : Nat))).num)
                                          (someAt c5 c6 (headS xs (60 : Int)) g).snd).sent,
                                    tries :=
                                      (ofP (nearA ((List.drop (0 : Nat) (List.take (mn (↑xs.length : Int) (60 : Int)).toNat xs)).getD (↑g : Int).toNat (u.dflt (51 : Nat))).addr)
                                          (IntKind.i64.wrap ((List.drop (0 : Nat) (List.take (mn (↑xs.length : Int) (60 : Int)).toNat xs)).getD (↑g : Int).toNat (u.dflt (51 : Nat))).num)
                                          (someAt c5 c6 (headS xs (60 : Int)) g).snd).tries :
                                    Prb } ==
                                (0 : Int)) =
                              true →
                            True) ∧
                          ((putErr (someAt c5 c6 (headS xs (60 : Int)) g).fst
                                    {
                                      addr :=
                                        (ofP (nearA ((List.drop (0 : Nat) (List.take (mn (↑xs.length : Int) (60 : Int)).toNat xs)).getD (↑g : Int).toNat (u.dflt (51 : Nat))).addr)
                                            (IntKind.i64.wrap ((List.drop (0 : Nat) (List.take (mn (↑xs.length : Int) (60 : Int)).toNat xs)).getD (↑g : Int).toNat (u.dflt (51 : Nat))).num)
                                            (someAt c5 c6 (headS xs (60 : Int)) g).snd).addr,
                                      id :=
                                        (ofP (nearA ((List.drop (0 : Nat) (List.take (mn (↑xs.length : Int) (60 : Int)).toNat xs)).getD (↑g : Int).toNat (u.dflt (51 : Nat))).addr)
                                            (IntKind.i64.wrap ((List.drop (0 : Nat) (List.take (mn (↑xs.length : Int) (60 : Int)).toNat xs)).getD (↑g : Int).toNat (u.dflt (51 : Nat))).num)
                                            (someAt c5 c6 (headS xs (60 : Int)) g).snd).id,
                                      num :=
                                        (ofP (nearA ((List.drop (0 : Nat) (List.take (mn (↑xs.length : Int) (60 : Int)).toNat xs)).getD (↑g : Int).toNat (u.dflt (51 : Nat))).addr)
                                            (IntKind.i64.wrap ((List.drop (0 : Nat) (List.take (mn (↑xs.length : Int) (60 : Int)).toNat xs)).getD (↑g : Int).toNat (u.dflt (51 : Nat))).num)
                                            (someAt c5 c6 (headS xs (60 : Int)) g).snd).num,
                                      sent :=
                                        (ofP (nearA ((List.drop (0 : Nat) (List.take (mn (↑xs.length : Int) (60 : Int)).toNat xs)).getD (↑g : Int).toNat (u.dflt (51 : Nat))).addr)
                                            (IntKind.i64.wrap ((List.drop (0 : Nat) (List.take (mn (↑xs.length : Int) (60 : Int)).toNat xs)).getD (↑g : Int).toNat (u.dflt (51 : Nat))).num)
                                            (someAt c5 c6 (headS xs (60 : Int)) g).snd).sent,
                                      tries :=
                                        (ofP (nearA ((List.drop (0 : Nat) (List.take (mn (↑xs.length : Int) (60 : Int)).toNat xs)).getD (↑g : Int).toNat (u.dflt (51 : Nat))).addr)
                                            (IntKind.i64.wrap ((List.drop (0 : Nat) (List.take (mn (↑xs.length : Int) (60 : Int)).toNat xs)).getD (↑g : Int).toNat (u.dflt (51 : Nat))).num)
                                            (someAt c5 c6 (headS xs (60 : Int)) g).snd).tries :
                                      Prb } ==
                                  (0 : Int)) =
                                false →
                              True) ∧
                            ∀ (v : List Prb),
                              (v =
                                  if
                                      (putErr (someAt c5 c6 (headS xs (60 : Int)) g).fst
                                            {
                                              addr :=
                                                (ofP (nearA ((List.drop (0 : Nat) (List.take (mn (↑xs.length : Int) (60 : Int)).toNat xs)).getD (↑g : Int).toNat (u.dflt (51 : Nat))).addr)
                                                    (IntKind.i64.wrap ((List.drop (0 : Nat) (List.take (mn (↑xs.length : Int) (60 : Int)).toNat xs)).getD (↑g : Int).toNat (u.dflt (51 : Nat))).num)
                                                    (someAt c5 c6 (headS xs (60 : Int)) g).snd).addr,
                                              id :=
                                                (ofP (nearA ((List.drop (0 : Nat) (List.take (mn (↑xs.length : Int) (60 : Int)).toNat xs)).getD (↑g : Int).toNat (u.dflt (51 : Nat))).addr)
                                                    (IntKind.i64.wrap ((List.drop (0 : Nat) (List.take (mn (↑xs.length : Int) (60 : Int)).toNat xs)).getD (↑g : Int).toNat (u.dflt (51 : Nat))).num)
                                                    (someAt c5 c6 (headS xs (60 : Int)) g).snd).id,
                                              num :=
                                                (ofP (nearA ((List.drop (0 : Nat) (List.take (mn (↑xs.length : Int) (60 : Int)).toNat xs)).getD (↑g : Int).toNat (u.dflt (51 : Nat))).addr)
                                                    (IntKind.i64.wrap ((List.drop (0 : Nat) (List.take (mn (↑xs.length : Int) (60 : Int)).toNat xs)).getD (↑g : Int).toNat (u.dflt (51 : Nat))).num)
                                                    (someAt c5 c6 (headS xs (60 : Int)) g).snd).num,
                                              sent :=
                                                (ofP (nearA ((List.drop (0 : Nat) (List.take (mn (↑xs.length : Int) (60 : Int)).toNat xs)).getD (↑g : Int).toNat (u.dflt (51 : Nat))).addr)
                                                    (IntKind.i64.wrap ((List.drop (0 : Nat) (List.take (mn (↑xs.length : Int) (60 : Int)).toNat xs)).getD (↑g : Int).toNat (u.dflt (51 : Nat))).num)
                                                    (someAt c5 c6 (headS xs (60 : Int)) g).snd).sent,
                                              tries :=
                                                (ofP (nearA ((List.drop (0 : Nat) (List.take (mn (↑xs.length : Int) (60 : Int)).toNat xs)).getD (↑g : Int).toNat (u.dflt (51 : Nat))).addr)
                                                    (IntKind.i64.wrap ((List.drop (0 : Nat) (List.take (mn (↑xs.length : Int) (60 : Int)).toNat xs)).getD (↑g : Int).toNat (u.dflt (51 : Nat))).num)
                                                    (someAt c5 c6 (headS xs (60 : Int)) g).snd).tries :
                                              Prb } ==
                                          (0 : Int)) =
                                        true then
                                    putL (someAt c5 c6 (headS xs (60 : Int)) g).fst
                                      {
                                        addr :=
                                          (ofP (nearA ((List.drop (0 : Nat) (List.take (mn (↑xs.length : Int) (60 : Int)).toNat xs)).getD (↑g : Int).toNat (u.dflt (51 : Nat))).addr)
                                              (IntKind.i64.wrap ((List.drop (0 : Nat) (List.take (mn (↑xs.length : Int) (60 : Int)).toNat xs)).getD (↑g : Int).toNat (u.dflt (51 : Nat))).num)
                                              (someAt c5 c6 (headS xs (60 : Int)) g).snd).addr,
                                        id :=
                                          (ofP (nearA ((List.drop (0 : Nat) (List.take (mn (↑xs.length : Int) (60 : Int)).toNat xs)).getD (↑g : Int).toNat (u.dflt (51 : Nat))).addr)
                                              (IntKind.i64.wrap ((List.drop (0 : Nat) (List.take (mn (↑xs.length : Int) (60 : Int)).toNat xs)).getD (↑g : Int).toNat (u.dflt (51 : Nat))).num)
                                              (someAt c5 c6 (headS xs (60 : Int)) g).snd).id,
                                        num :=
                                          (ofP (nearA ((List.drop (0 : Nat) (List.take (mn (↑xs.length : Int) (60 : Int)).toNat xs)).getD (↑g : Int).toNat (u.dflt (51 : Nat))).addr)
                                              (IntKind.i64.wrap ((List.drop (0 : Nat) (List.take (mn (↑xs.length : Int) (60 : Int)).toNat xs)).getD (↑g : Int).toNat (u.dflt (51 : Nat))).num)
                                              (someAt c5 c6 (headS xs (60 : Int)) g).snd).num,
                                        sent :=
                                          (ofP (nearA ((List.drop (0 : Nat) (List.take (mn (↑xs.length : Int) (60 : Int)).toNat xs)).getD (↑g : Int).toNat (u.dflt (51 : Nat))).addr)
                                              (IntKind.i64.wrap ((List.drop (0 : Nat) (List.take (mn (↑xs.length : Int) (60 : Int)).toNat xs)).getD (↑g : Int).toNat (u.dflt (51 : Nat))).num)
                                              (someAt c5 c6 (headS xs (60 : Int)) g).snd).sent,
                                        tries :=
                                          (ofP (nearA ((List.drop (0 : Nat) (List.take (mn (↑xs.length : Int) (60 : Int)).toNat xs)).getD (↑g : Int).toNat (u.dflt (51 : Nat))).addr)
                                              (IntKind.i64.wrap ((List.drop (0 : Nat) (List.take (mn (↑xs.length : Int) (60 : Int)).toNat xs)).getD (↑g : Int).toNat (u.dflt (51 : Nat))).num)
                                              (someAt c5 c6 (headS xs (60 : Int)) g).snd).tries :
                                        Prb }
                                  else (someAt c5 c6 (headS xs (60 : Int)) g).fst) →
                                ∃ (g_1 : Nat),
                                  g_1.le (headS xs (60 : Int)).length ∧
                                    (annSome c5 c6 (headS xs (60 : Int))).μ g_1 < (annSome c5 c6 (headS xs (60 : Int))).μ g ∧
                                      (True ∧
                                          List.drop (0 : Nat) (List.take (mn (↑xs.length : Int) (60 : Int)).toNat xs) = List.drop (0 : Nat) (List.take (mn (↑xs.length : Int) (60 : Int)).toNat xs) ∧
                                            (↑(List.drop (0 : Nat) (List.take (mn (↑xs.length : Int) (60 : Int)).toNat xs)).length : Int) =
                                                (↑(List.drop (0 : Nat) (List.take (mn (↑xs.length : Int) (60 : Int)).toNat xs)).length : Int) ∧
                                              IntKind.i64.wrap ((↑g : Int) + (1 : Int)) = (↑g_1 : Int) ∧
                                                v = (someAt c5 c6 (headS xs (60 : Int)) g_1).fst ∧ (someAt c5 c6 (headS xs (60 : Int)) g).snd = (someAt c5 c6 (headS xs (60 : Int)) g_1).snd) ∧
                                        c0 = c0 ∧ c1 = c1 ∧ c2 = c2 ∧ c3 = c3 ∧ c4 = c4 ∧ c5 = c5 ∧ c6 = c6 ∧ c7 = c7 ∧ c8 = c8)) ∧
            (decide ((↑g : Int) < (↑(List.drop (0 : Nat) (List.take (mn (↑xs.length : Int) (60 : Int)).toNat xs)).length : Int)) = false →
              (someAt c5 c6 (headS xs (60 : Int)) g).fst = (someL c5 c6 xs).fst ∧ (someAt c5 c6 (headS xs (60 : Int)) g).snd = (someL c5 c6 xs).snd)


end Go.Proofs.Ytnjildbclmglpaa.Pro
