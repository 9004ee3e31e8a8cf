/- Questions that wait: what the laws ProbeOf, ProbeRight, ProbeEnds, ProbeTwice come to (printed by wip/Vc.lean; checked by the kernel in the next text). -/
import Derived.Test.YtnjildbclmglpaaProSpecE
namespace Go.Proofs.Ytnjildbclmglpaa.Pro
open Go Go.Proofs.Ytnjildbclmglpaa.Sx

def vcLOf : Int → Int → Int → Prop :=
  fun (a s now : Int) =>
  ((!true) = true → false = true) ∧
    ((!true) = false →
      (65536 : Int) ≠ (0 : Int) ∧
        (((ofP a s now).addr == a &&
                  ((ofP a s now).id == IntKind.i64.wrap (a.tmod (65536 : Int)) &&
                    ((ofP a s now).num == bitsI BinOp.and IntKind.i64 s (65535 : Int) && ((ofP a s now).sent == mx (0 : Int) (mn now (1099511627776 : Int)) && ((ofP a s now).tries == (0 : Int) && true)))) &&
                (false == false &&
                  ((0 : Int) == (0 : Int) &&
                    ((ofP a s now).addr == a &&
                      ((0 : Int) == (0 : Int) && ((0 : Int) == (0 : Int) && ((0 : Int) == (0 : Int) && ((0 : Int) == (0 : Int) && ((0 : Int) == (0 : Int) && ((0 : Int) == (0 : Int) && true))))) &&
                        ((ofP a s now).id == (ofP a s now).id && ((ofP a s now).num == (ofP a s now).num && true))))))) =
              true →
            [{ addr := (ofP a s now).addr, id := (ofP a s now).id, num := (ofP a s now).num, sent := (ofP a s now).sent, tries := (ofP a s now).tries : Prb }].length.succ.le (9223372036854775808 : Nat) ∧
              rightB [{ addr := (ofP a s now).addr, id := (ofP a s now).id, num := (ofP a s now).num, sent := (ofP a s now).sent, tries := (ofP a s now).tries : Prb }] = true) ∧
          (((ofP a s now).addr == a &&
                  ((ofP a s now).id == IntKind.i64.wrap (a.tmod (65536 : Int)) &&
                    ((ofP a s now).num == bitsI BinOp.and IntKind.i64 s (65535 : Int) && ((ofP a s now).sent == mx (0 : Int) (mn now (1099511627776 : Int)) && ((ofP a s now).tries == (0 : Int) && true)))) &&
                (false == false &&
                  ((0 : Int) == (0 : Int) &&
                    ((ofP a s now).addr == a &&
                      ((0 : Int) == (0 : Int) && ((0 : Int) == (0 : Int) && ((0 : Int) == (0 : Int) && ((0 : Int) == (0 : Int) && ((0 : Int) == (0 : Int) && ((0 : Int) == (0 : Int) && true))))) &&
                        ((ofP a s now).id == (ofP a s now).id && ((ofP a s now).num == (ofP a s now).num && true))))))) =
              false →
            false = true))

def vcLRight : List Prb → Int → Int → Int → Int → Int → Int → Int → Int → Int → List Act → Int → Int → Int → Int → Int → Int → Prop :=
  fun (raw : List Prb) (c0 c1 c2 c3 c4 c5 c6 c7 c8 : Int) (acts : List Act) (z a b c d e : Int) =>
  ((!true) = true → false = true) ∧
    ((!true) = false →
      acts.length.succ.le (9223372036854775808 : Nat) ∧
        ∀ (v : List Prb),
          v = (someL (fc (6 : Int) c5) (fz (4 : Int) c6) acts).fst →
            ((0 : Int) ≤ (0 : Int) ∧ (0 : Int) ≤ mn (↑raw.length : Int) (100 : Int) ∧ mn (↑raw.length : Int) (100 : Int) ≤ (↑raw.length : Int)) ∧
              v.length.succ.le (9223372036854775808 : Nat) ∧
                ((!rightB v) = true → false = true) ∧
                  ((!rightB v) = false →
                    v.length * (40 : Nat) ≤ (140737488355328 : Nat) ∧
                      ∀ (v_1 : List Prb),
                        v_1 = v →
                          (decide ((↑v_1.length : Int) > (0 : Int)) = true →
                              (↑v_1.length : Int) ≠ (0 : Int) ∧
                                ((0 : Int) ≤ (IntKind.i64.wrap z).tmod (↑v_1.length : Int) ∧ (IntKind.i64.wrap z).tmod (↑v_1.length : Int) < (↑v_1.length : Int)) ∧
                                  (v_1.set ((IntKind.i64.wrap z).tmod (↑v_1.length : Int)).toNat { addr := a, id := b, num := c, sent := d, tries := e : Prb }).length.succ.le (9223372036854775808 : Nat) ∧
                                    (v_1.set ((IntKind.i64.wrap z).tmod (↑v_1.length : Int)).toNat { addr := a, id := b, num := c, sent := d, tries := e : Prb }).length.succ.le (9223372036854775808 : Nat) ∧
                                      ((rightB (v_1.set ((IntKind.i64.wrap z).tmod (↑v_1.length : Int)).toNat { addr := a, id := b, num := c, sent := d, tries := e : Prb }) ==
                                              rightL (v_1.set ((IntKind.i64.wrap z).tmod (↑v_1.length : Int)).toNat { addr := a, id := b, num := c, sent := d, tries := e : Prb })) =
                                            true →
                                          (List.drop (0 : Nat) (List.take (mn (↑raw.length : Int) (100 : Int)).toNat raw)).length.succ.le (9223372036854775808 : Nat)) ∧
                                        ((rightB (v_1.set ((IntKind.i64.wrap z).tmod (↑v_1.length : Int)).toNat { addr := a, id := b, num := c, sent := d, tries := e : Prb }) ==
                                                rightL (v_1.set ((IntKind.i64.wrap z).tmod (↑v_1.length : Int)).toNat { addr := a, id := b, num := c, sent := d, tries := e : Prb })) =
                                              true →
                                            (List.drop (0 : Nat) (List.take (mn (↑raw.length : Int) (100 : Int)).toNat raw)).length.succ.le (9223372036854775808 : Nat)) ∧
                                          (rightB (v_1.set ((IntKind.i64.wrap z).tmod (↑v_1.length : Int)).toNat { addr := a, id := b, num := c, sent := d, tries := e : Prb }) ==
                                                rightL (v_1.set ((IntKind.i64.wrap z).tmod (↑v_1.length : Int)).toNat { addr := a, id := b, num := c, sent := d, tries := e : Prb }) &&
                                              rightB (List.drop (0 : Nat) (List.take (mn (↑raw.length : Int) (100 : Int)).toNat raw)) ==
                                                rightL (List.drop (0 : Nat) (List.take (mn (↑raw.length : Int) (100 : Int)).toNat raw))) =
                                            true) ∧
                            (decide ((↑v_1.length : Int) > (0 : Int)) = false →
                              v_1.length.succ.le (9223372036854775808 : Nat) ∧
                                v_1.length.succ.le (9223372036854775808 : Nat) ∧
                                  ((rightB v_1 == rightL v_1) = true → (List.drop (0 : Nat) (List.take (mn (↑raw.length : Int) (100 : Int)).toNat raw)).length.succ.le (9223372036854775808 : Nat)) ∧
                                    ((rightB v_1 == rightL v_1) = true → (List.drop (0 : Nat) (List.take (mn (↑raw.length : Int) (100 : Int)).toNat raw)).length.succ.le (9223372036854775808 : Nat)) ∧
                                      (rightB v_1 == rightL v_1 &&
                                          rightB (List.drop (0 : Nat) (List.take (mn (↑raw.length : Int) (100 : Int)).toNat raw)) ==
                                            rightL (List.drop (0 : Nat) (List.take (mn (↑raw.length : Int) (100 : Int)).toNat raw))) =
                                        true)))

def vcLEnds : Int → Int → Int → Int → Int → Int → Int → Int → Int → List Act → Prop :=
  fun (c0 c1 c2 c3 c4 c5 c6 c7 c8 : Int) (acts : List Act) =>
  ((!true) = true → false = true) ∧
    ((!true) = false →
      acts.length.succ.le (9223372036854775808 : Nat) ∧
        (∃ (g : Nat),
            (manyE (fc (6 : Int) c5) (fz (4 : Int) c6) - (↑g : Int)).NonNeg ∧
              (True ∧
                  (0 : Int) = (↑g : Int) ∧
                    (someL (fc (6 : Int) c5) (fz (4 : Int) c6) acts).snd = (someL (fc (6 : Int) c5) (fz (4 : Int) c6) acts).snd + (↑g : Int) ∧
                      (someL (fc (6 : Int) c5) (fz (4 : Int) c6) acts).fst =
                        endsAt (fc (6 : Int) c5) (fz (4 : Int) c6) (someL (fc (6 : Int) c5) (fz (4 : Int) c6) acts).snd (someL (fc (6 : Int) c5) (fz (4 : Int) c6) acts).fst g) ∧
                fc (30 : Int) c0 = fc (30 : Int) c0 ∧
                  IntKind.i64.wrap (fc (30 : Int) c0 + fz (60 : Int) c1) = IntKind.i64.wrap (fc (30 : Int) c0 + fz (60 : Int) c1) ∧
                    fc (6 : Int) c2 = fc (6 : Int) c2 ∧
                      fc (20 : Int) c3 = fc (20 : Int) c3 ∧
                        fc (9 : Int) c4 = fc (9 : Int) c4 ∧ fc (6 : Int) c5 = fc (6 : Int) c5 ∧ fz (4 : Int) c6 = fz (4 : Int) c6 ∧ fc (40 : Int) c7 = fc (40 : Int) c7 ∧ fz (50 : Int) c8 = fz (50 : Int) c8) ∧
          ∀ (g : Nat),
            (manyE (fc (6 : Int) c5) (fz (4 : Int) c6) - (↑g : Int)).NonNeg →
              ((decide ((↑g : Int) < IntKind.i64.wrap (IntKind.i64.wrap (fz (4 : Int) c6 + (1 : Int)) * fc (6 : Int) c5)) &&
                      decide ((↑(endsAt (fc (6 : Int) c5) (fz (4 : Int) c6) (someL (fc (6 : Int) c5) (fz (4 : Int) c6) acts).snd (someL (fc (6 : Int) c5) (fz (4 : Int) c6) acts).fst g).length : Int) > (0 : Int))) =
                    true →
                  ((endsAt (fc (6 : Int) c5) (fz (4 : Int) c6) (someL (fc (6 : Int) c5) (fz (4 : Int) c6) acts).snd (someL (fc (6 : Int) c5) (fz (4 : Int) c6) acts).fst g).length * (40 : Nat)).le
                      (140737488355328 : Nat) ∧
                    ((decide
                              ((↑(lateL (fc (6 : Int) c5) (fz (4 : Int) c6) (IntKind.i64.wrap ((someL (fc (6 : Int) c5) (fz (4 : Int) c6) acts).snd + (↑g : Int) + (1 : Int))) (64 : Int)
                                          (endsAt (fc (6 : Int) c5) (fz (4 : Int) c6) (someL (fc (6 : Int) c5) (fz (4 : Int) c6) acts).snd (someL (fc (6 : Int) c5) (fz (4 : Int) c6) acts).fst g)).fst.length :
                                  Int) >
                                (↑(endsAt (fc (6 : Int) c5) (fz (4 : Int) c6) (someL (fc (6 : Int) c5) (fz (4 : Int) c6) acts).snd (someL (fc (6 : Int) c5) (fz (4 : Int) c6) acts).fst g).length : Int)) ||
                            decide
                              ((↑(lateL (fc (6 : Int) c5) (fz (4 : Int) c6) (IntKind.i64.wrap ((someL (fc (6 : Int) c5) (fz (4 : Int) c6) acts).snd + (↑g : Int) + (1 : Int))) (64 : Int)
                                          (endsAt (fc (6 : Int) c5) (fz (4 : Int) c6) (someL (fc (6 : Int) c5) (fz (4 : Int) c6) acts).snd (someL (fc (6 : Int) c5) (fz (4 : Int) c6) acts).fst g)).snd.length :
                                  Int) >
                                (↑(lateL (fc (6 : Int) c5) (fz (4 : Int) c6) (IntKind.i64.wrap ((someL (fc (6 : Int) c5) (fz (4 : Int) c6) acts).snd + (↑g : Int) + (1 : Int))) (64 : Int)
                                          (endsAt (fc (6 : Int) c5) (fz (4 : Int) c6) (someL (fc (6 : Int) c5) (fz (4 : Int) c6) acts).snd (someL (fc (6 : Int) c5) (fz (4 : Int) c6) acts).fst g)).fst.length :
                                  Int))) =
                          true →
                        false = true) ∧
                      ((decide
                              ((↑(lateL (fc (6 : Int) c5) (fz (4 : Int) c6) (IntKind.i64.wrap ((someL (fc (6 : Int) c5) (fz (4 : Int) c6) acts).snd + (↑g : Int) + (1 : Int))) (64 : Int)
                                          (endsAt (fc (6 : Int) c5) (fz (4 : Int) c6) (someL (fc (6 : Int) c5) (fz (4 : Int) c6) acts).snd (someL (fc (6 : Int) c5) (fz (4 : Int) c6) acts).fst g)).fst.length :
                                  Int) >
                                (↑(endsAt (fc (6 : Int) c5) (fz (4 : Int) c6) (someL (fc (6 : Int) c5) (fz (4 : Int) c6) acts).snd (someL (fc (6 : Int) c5) (fz (4 : Int) c6) acts).fst g).length : Int)) ||
                            decide
                              ((↑(lateL (fc (6 : Int) c5) (fz (4 : Int) c6) (IntKind.i64.wrap ((someL (fc (6 : Int) c5) (fz (4 : Int) c6) acts).snd + (↑g : Int) + (1 : Int))) (64 : Int)
                                          (endsAt (fc (6 : Int) c5) (fz (4 : Int) c6) (someL (fc (6 : Int) c5) (fz (4 : Int) c6) acts).snd (someL (fc (6 : Int) c5) (fz (4 : Int) c6) acts).fst g)).snd.length :
                                  Int) >
                                (↑(lateL (fc (6 : Int) c5) (fz (4 : Int) c6) (IntKind.i64.wrap ((someL (fc (6 : Int) c5) (fz (4 : Int) c6) acts).snd + (↑g : Int) + (1 : Int))) (64 : Int)
                                          (endsAt (fc (6 : Int) c5) (fz (4 : Int) c6) (someL (fc (6 : Int) c5) (fz (4 : Int) c6) acts).snd (someL (fc (6 : Int) c5) (fz (4 : Int) c6) acts).fst g)).fst.length :
                                  Int))) =
                          false →
                        ∃ (g_1 : Nat),
                          (manyE (fc (6 : Int) c5) (fz (4 : Int) c6) - (↑g_1 : Int)).NonNeg ∧
                            (annEnds (fc (6 : Int) c5) (fz (4 : Int) c6) acts).μ g_1 < (annEnds (fc (6 : Int) c5) (fz (4 : Int) c6) acts).μ g ∧
                              (True ∧
                                  IntKind.i64.wrap ((↑g : Int) + (1 : Int)) = (↑g_1 : Int) ∧
                                    IntKind.i64.wrap ((someL (fc (6 : Int) c5) (fz (4 : Int) c6) acts).snd + (↑g : Int) + (1 : Int)) = (someL (fc (6 : Int) c5) (fz (4 : Int) c6) acts).snd + (↑g_1 : Int) ∧
                                      (lateL (fc (6 : Int) c5) (fz (4 : Int) c6) (IntKind.i64.wrap ((someL (fc (6 : Int) c5) (fz (4 : Int) c6) acts).snd + (↑g : Int) + (1 : Int))) (64 : Int)
                                            (endsAt (fc (6 : Int) c5) (fz (4 : Int) c6) (someL (fc (6 : Int) c5) (fz (4 : Int) c6) acts).snd (someL (fc (6 : Int) c5) (fz (4 : Int) c6) acts).fst g)).fst =
                                        endsAt (fc (6 : Int) c5) (fz (4 : Int) c6) (someL (fc (6 : Int) c5) (fz (4 : Int) c6) acts).snd (someL (fc (6 : Int) c5) (fz (4 : Int) c6) acts).fst g_1) ∧
                                fc (30 : Int) c0 = fc (30 : Int) c0 ∧
                                  IntKind.i64.wrap (fc (30 : Int) c0 + fz (60 : Int) c1) = IntKind.i64.wrap (fc (30 : Int) c0 + fz (60 : Int) c1) ∧
                                    fc (6 : Int) c2 = fc (6 : Int) c2 ∧
                                      fc (20 : Int) c3 = fc (20 : Int) c3 ∧
                                        fc (9 : Int) c4 = fc (9 : Int) c4 ∧
                                          fc (6 : Int) c5 = fc (6 : Int) c5 ∧ fz (4 : Int) c6 = fz (4 : Int) c6 ∧ fc (40 : Int) c7 = fc (40 : Int) c7 ∧ fz (50 : Int) c8 = fz (50 : Int) c8)) ∧
                ((decide ((↑g : Int) < IntKind.i64.wrap (IntKind.i64.wrap (fz (4 : Int) c6 + (1 : Int)) * fc (6 : Int) c5)) &&
                      decide ((↑(endsAt (fc (6 : Int) c5) (fz (4 : Int) c6) (someL (fc (6 : Int) c5) (fz (4 : Int) c6) acts).snd (someL (fc (6 : Int) c5) (fz (4 : Int) c6) acts).fst g).length : Int) > (0 : Int))) =
                    false →
                  ((↑(endsAt (fc (6 : Int) c5) (fz (4 : Int) c6) (someL (fc (6 : Int) c5) (fz (4 : Int) c6) acts).snd (someL (fc (6 : Int) c5) (fz (4 : Int) c6) acts).fst g).length : Int) == (0 : Int)) = true))

def vcLTwice : Int → Int → Int → Int → Int → Int → Int → Int → Int → List Act → Int → Prop :=
  fun (c0 c1 c2 c3 c4 c5 c6 c7 c8 : Int) (acts : List Act) (r : Int) =>
  ((!true) = true → false = true) ∧
    ((!true) = false →
      acts.length.succ.le (9223372036854775808 : Nat) ∧
        ∀ (v : Int),
          v = (someL (fc (6 : Int) c5) (fz (4 : Int) c6) acts).snd →
            ∀ (v_1 : List Prb),
              v_1 = (someL (fc (6 : Int) c5) (fz (4 : Int) c6) acts).fst →
                (v_1.length * (40 : Nat)).le (140737488355328 : Nat) ∧
                  ∀ (v_2 : List Prb),
                    v_2 = (lateL (fc (6 : Int) c5) (fz (4 : Int) c6) (IntKind.i64.wrap (v + fc (6 : Int) c5)) (IntKind.i64.wrap r) v_1).snd →
                      ∀ (v_3 : List Prb),
                        v_3 = (lateL (fc (6 : Int) c5) (fz (4 : Int) c6) (IntKind.i64.wrap (v + fc (6 : Int) c5)) (IntKind.i64.wrap r) v_1).fst →
                          ((decide ((↑v_2.length : Int) > IntKind.i64.wrap r) || decide ((↑v_3.length : Int) > (↑v_1.length : Int))) = true → false = true) ∧
                            ((decide ((↑v_2.length : Int) > IntKind.i64.wrap r) || decide ((↑v_3.length : Int) > (↑v_1.length : Int))) = false →
                              (∃ (g : Nat),
                                  g.le (twL (fc (6 : Int) c5) (fz (4 : Int) c6) r acts).snd.length ∧
                                    (True ∧ v_1 = v_1 ∧ v = v ∧ v_3 = v_3 ∧ v_2 = v_2 ∧ (↑v_2.length : Int) = (↑v_2.length : Int) ∧ (0 : Int) = (↑g : Int)) ∧
                                      fc (30 : Int) c0 = fc (30 : Int) c0 ∧
                                        IntKind.i64.wrap (fc (30 : Int) c0 + fz (60 : Int) c1) = IntKind.i64.wrap (fc (30 : Int) c0 + fz (60 : Int) c1) ∧
                                          fc (6 : Int) c2 = fc (6 : Int) c2 ∧
                                            fc (20 : Int) c3 = fc (20 : Int) c3 ∧
                                              fc (9 : Int) c4 = fc (9 : Int) c4 ∧
                                                fc (6 : Int) c5 = fc (6 : Int) c5 ∧ fz (4 : Int) c6 = fz (4 : Int) c6 ∧ fc (40 : Int) c7 = fc (40 : Int) c7 ∧ fz (50 : Int) c8 = fz (50 : Int) c8) ∧
                                ∀ (g : Nat),
                                  g.le (twL (fc (6 : Int) c5) (fz (4 : Int) c6) r acts).snd.length →
                                    (decide ((↑g : Int) < (↑v_2.length : Int)) = true →
                                        ((0 : Int) ≤ (↑g : Int) ∧ (↑g : Int) < (↑v_2.length : Int)) ∧
                                          ∀ (v_4 : Int),
                                            v_4 = (v_2.getD (↑g : Int).toNat (u.dflt (29 : Nat))).addr →
                                              ∀ (v_5 : Int),
                                                v_5 = (v_2.getD (↑g : Int).toNat (u.dflt (29 : Nat))).id →
                                                  ∀ (v_6 : Int),
                                                    v_6 = (v_2.getD (↑g : Int).toNat (u.dflt (29 : Nat))).num →
                                                      ∀ (v_7 : Int),
                                                        v_7 = (v_2.getD (↑g : Int).toNat (u.dflt (29 : Nat))).sent →
                                                          ∀ (v_8 : Int),
                                                            v_8 = (v_2.getD (↑g : Int).toNat (u.dflt (29 : Nat))).tries →
                                                              (∃ (g_1 : Nat),
                                                                  g_1.le (twL (fc (6 : Int) c5) (fz (4 : Int) c6) r acts).fst.length ∧
                                                                    (True ∧
                                                                        v_1 = v_1 ∧
                                                                          v = v ∧
                                                                            v_3 = v_3 ∧
                                                                              True ∧
                                                                                false = false ∧
                                                                                  v_2 = v_2 ∧
                                                                                    (↑v_2.length : Int) = (↑v_2.length : Int) ∧
                                                                                      (↑g : Int) = (↑g : Int) ∧
                                                                                        v_3 = v_3 ∧
                                                                                          (↑v_3.length : Int) = (↑v_3.length : Int) ∧
                                                                                            (0 : Int) = (↑g_1 : Int) ∧
                                                                                              false =
                                                                                                (List.take g_1 (twL (fc (6 : Int) c5) (fz (4 : Int) c6) r acts).fst).any
                                                                                                  (same5 (getP (twL (fc (6 : Int) c5) (fz (4 : Int) c6) r acts).snd g))) ∧
                                                                      (fc (30 : Int) c0 = fc (30 : Int) c0 ∧
                                                                          IntKind.i64.wrap (fc (30 : Int) c0 + fz (60 : Int) c1) = IntKind.i64.wrap (fc (30 : Int) c0 + fz (60 : Int) c1) ∧
                                                                            fc (6 : Int) c2 = fc (6 : Int) c2 ∧
                                                                              fc (20 : Int) c3 = fc (20 : Int) c3 ∧
                                                                                fc (9 : Int) c4 = fc (9 : Int) c4 ∧
                                                                                  fc (6 : Int) c5 = fc (6 : Int) c5 ∧
                                                                                    fz (4 : Int) c6 = fz (4 : Int) c6 ∧ fc (40 : Int) c7 = fc (40 : Int) c7 ∧ fz (50 : Int) c8 = fz (50 : Int) c8) ∧
                                                                        v_4 = v_4 ∧ v_5 = v_5 ∧ v_6 = v_6 ∧ v_7 = v_7 ∧ v_8 = v_8) ∧
                                                                ∀ (g_1 : Nat),
                                                                  g_1.le (twL (fc (6 : Int) c5) (fz (4 : Int) c6) r acts).fst.length →
                                                                    (decide ((↑g_1 : Int) < (↑v_3.length : Int)) = true →
                                                                        ((0 : Int) ≤ (↑g_1 : Int) ∧ (↑g_1 : Int) < (↑v_3.length : Int)) ∧
                                                                          ∃ (g_2 : Nat),
                                                                            g_2.le (twL (fc (6 : Int) c5) (fz (4 : Int) c6) r acts).fst.length ∧
                                                                              (annTwiceI (twL (fc (6 : Int) c5) (fz (4 : Int) c6) r acts).fst (getP (twL (fc (6 : Int) c5) (fz (4 : Int) c6) r acts).snd g)).μ g_2 <
                                                                                  (annTwiceI (twL (fc (6 : Int) c5) (fz (4 : Int) c6) r acts).fst (getP (twL (fc (6 : Int) c5) (fz (4 : Int) c6) r acts).snd g)).μ g_1 ∧
                                                                                (True ∧
                                                                                    v_1 = v_1 ∧
                                                                                      v = v ∧
                                                                                        v_3 = v_3 ∧
                                                                                          True ∧
                                                                                            false = false ∧
                                                                                              v_2 = v_2 ∧
                                                                                                (↑v_2.length : Int) = (↑v_2.length : Int) ∧
                                                                                                  (↑g : Int) = (↑g : Int) ∧
                                                                                                    v_3 = v_3 ∧
                                                                                                      (↑v_3.length : Int) = (↑v_3.length : Int) ∧
                                                                                                        IntKind.i64.wrap ((↑g_1 : Int) + (1 : Int)) = (↑g_2 : Int) ∧
                                                                                                          ((List.take g_1 (twL (fc (6 : Int) c5) (fz (4 : Int) c6) r acts).fst).any
                                                                                                                (same5 (getP (twL (fc (6 : Int) c5) (fz (4 : Int) c6) r acts).snd g)) ||
                                                                                                              v_4 == (v_3.getD (↑g_1 : Int).toNat (u.dflt (29 : Nat))).addr &&
                                                                                                                (v_5 == (v_3.getD (↑g_1 : Int).toNat (u.dflt (29 : Nat))).id &&
                                                                                                                  (v_6 == (v_3.getD (↑g_1 : Int).toNat (u.dflt (29 : Nat))).num &&
                                                                                                                    (v_7 == (v_3.getD (↑g_1 : Int).toNat (u.dflt (29 : Nat))).sent &&
                                                                                                                      (v_8 == (v_3.getD (↑g_1 : Int).toNat (u.dflt (29 : Nat))).tries && true))))) =
                                                                                                            (List.take g_2 (twL (fc (6 : Int) c5) (fz (4 : Int) c6) r acts).fst).any
                                                                                                              (same5 (getP (twL (fc (6 : Int) c5) (fz (4 : Int) c6) r acts).snd g))) ∧
                                                                                  (fc (30 : Int) c0 = fc (30 : Int) c0 ∧
                                                                                      IntKind.i64.wrap (fc (30 : Int) c0 + fz (60 : Int) c1) = IntKind.i64.wrap (fc (30 : Int) c0 + fz (60 : Int) c1) ∧
                                                                                        fc (6 : Int) c2 = fc (6 : Int) c2 ∧
                                                                                          fc (20 : Int) c3 = fc (20 : Int) c3 ∧
                                                                                            fc (9 : Int) c4 = fc (9 : Int) c4 ∧
                                                                                              fc (6 : Int) c5 = fc (6 : Int) c5 ∧
                                                                                                fz (4 : Int) c6 = fz (4 : Int) c6 ∧ fc (40 : Int) c7 = fc (40 : Int) c7 ∧ fz (50 : Int) c8 = fz (50 : Int) c8) ∧
                                                                                    v_4 = v_4 ∧ v_5 = v_5 ∧ v_6 = v_6 ∧ v_7 = v_7 ∧ v_8 = v_8) ∧
                                                                      (decide ((↑g_1 : Int) < (↑v_3.length : Int)) = false →
                                                                        (∃ (g_2 : Nat),
                                                                            g_2.le (someL (fc (6 : Int) c5) (fz (4 : Int) c6) acts).fst.length ∧
                                                                              (True ∧
                                                                                  v_1 = v_1 ∧
                                                                                    v = v ∧
                                                                                      v_3 = v_3 ∧
                                                                                        True ∧
                                                                                          (List.take g_1 (twL (fc (6 : Int) c5) (fz (4 : Int) c6) r acts).fst).any
                                                                                                (same5 (getP (twL (fc (6 : Int) c5) (fz (4 : Int) c6) r acts).snd g)) =
                                                                                              (List.take g_1 (twL (fc (6 : Int) c5) (fz (4 : Int) c6) r acts).fst).any
                                                                                                (same5 (getP (twL (fc (6 : Int) c5) (fz (4 : Int) c6) r acts).snd g)) ∧
                                                                                            v_2 = v_2 ∧
                                                                                              (↑v_2.length : Int) = (↑v_2.length : Int) ∧
                                                                                                (↑g : Int) = (↑g : Int) ∧
                                                                                                  v_1 = v_1 ∧
                                                                                                    (↑v_1.length : Int) = (↑v_1.length : Int) ∧
                                                                                                      (0 : Int) = (↑g_2 : Int) ∧
                                                                                                        false =
                                                                                                          (List.take g_2 (someL (fc (6 : Int) c5) (fz (4 : Int) c6) acts).fst).any
                                                                                                            (wasP (getP (twL (fc (6 : Int) c5) (fz (4 : Int) c6) r acts).snd g))) ∧
                                                                                (fc (30 : Int) c0 = fc (30 : Int) c0 ∧
                                                                                    IntKind.i64.wrap (fc (30 : Int) c0 + fz (60 : Int) c1) = IntKind.i64.wrap (fc (30 : Int) c0 + fz (60 : Int) c1) ∧
                                                                                      fc (6 : Int) c2 = fc (6 : Int) c2 ∧
                                                                                        fc (20 : Int) c3 = fc (20 : Int) c3 ∧
                                                                                          fc (9 : Int) c4 = fc (9 : Int) c4 ∧
                                                                                            fc (6 : Int) c5 = fc (6 : Int) c5 ∧
                                                                                              fz (4 : Int) c6 = fz (4 : Int) c6 ∧ fc (40 : Int) c7 = fc (40 : Int) c7 ∧ fz (50 : Int) c8 = fz (50 : Int) c8) ∧
                                                                                  v_4 = v_4 ∧ v_5 = v_5 ∧ v_6 = v_6 ∧ v_7 = v_7 ∧ v_8 = v_8) ∧
                                                                          ∀ (g_2 : Nat),
                                                                            g_2.le (someL (fc (6 : Int) c5) (fz (4 : Int) c6) acts).fst.length →
                                                                              (decide ((↑g_2 : Int) < (↑v_1.length : Int)) = true →
                                                                                  ((0 : Int) ≤ (↑g_2 : Int) ∧ (↑g_2 : Int) < (↑v_1.length : Int)) ∧
                                                                                    ∃ (g_3 : Nat),
                                                                                      g_3.le (someL (fc (6 : Int) c5) (fz (4 : Int) c6) acts).fst.length ∧
                                                                                        (annTwiceW (someL (fc (6 : Int) c5) (fz (4 : Int) c6) acts).fst (getP (twL (fc (6 : Int) c5) (fz (4 : Int) c6) r acts).snd g)).μ
                                                                                              g_3 <
                                                                                            (annTwiceW (someL (fc (6 : Int) c5) (fz (4 : Int) c6) acts).fst (getP (twL (fc (6 : Int) c5) (fz (4 : Int) c6) r acts).snd g)).μ
                                                                                              g_2 ∧
                                                                                          (True ∧
                                                                                              v_1 = v_1 ∧
                                                                                                v = v ∧
                                                                                                  v_3 = v_3 ∧
                                                                                                    True ∧
                                                                                                      (List.take g_1 (twL (fc (6 : Int) c5) (fz (4 : Int) c6) r acts).fst).any
                                                                                                            (same5 (getP (twL (fc (6 : Int) c5) (fz (4 : Int) c6) r acts).snd g)) =
                                                                                                          (List.take g_1 (twL (fc (6 : Int) c5) (fz (4 : Int) c6) r acts).fst).any
                                                                                                            (same5 (getP (twL (fc (6 : Int) c5) (fz (4 : Int) c6) r acts).snd g)) ∧
                                                                                                        v_2 = v_2 ∧
                                                                                                          (↑v_2.length : Int) = (↑v_2.length : Int) ∧
                                                                                                            (↑g : Int) = (↑g : Int) ∧
                                                                                                              v_1 = v_1 ∧
                                                                                                                (↑v_1.length : Int) = (↑v_1.length : Int) ∧
                                                                                                                  IntKind.i64.wrap ((↑g_2 : Int) + (1 : Int)) = (↑g_3 : Int) ∧
                                                                                                                    ((List.take g_2 (someL (fc (6 : Int) c5) (fz (4 : Int) c6) acts).fst).any
                                                                                                                          (wasP (getP (twL (fc (6 : Int) c5) (fz (4 : Int) c6) r acts).snd g)) ||
                                                                                                                        v_4 == (v_1.getD (↑g_2 : Int).toNat (u.dflt (29 : Nat))).addr &&
                                                                                                                              v_5 == (v_1.getD (↑g_2 : Int).toNat (u.dflt (29 : Nat))).id &&
                                                                                                                            v_6 == (v_1.getD (↑g_2 : Int).toNat (u.dflt (29 : Nat))).num &&
                                                                                                                          v_8 == IntKind.i64.wrap ((v_1.getD (↑g_2 : Int).toNat (u.dflt (29 : Nat))).tries + (1 : Int))) =
                                                                                                                      (List.take g_3 (someL (fc (6 : Int) c5) (fz (4 : Int) c6) acts).fst).any
                                                                                                                        (wasP (getP (twL (fc (6 : Int) c5) (fz (4 : Int) c6) r acts).snd g))) ∧
                                                                                            (fc (30 : Int) c0 = fc (30 : Int) c0 ∧
                                                                                                IntKind.i64.wrap (fc (30 : Int) c0 + fz (60 : Int) c1) = IntKind.i64.wrap (fc (30 : Int) c0 + fz (60 : Int) c1) ∧
                                                                                                  fc (6 : Int) c2 = fc (6 : Int) c2 ∧
                                                                                                    fc (20 : Int) c3 = fc (20 : Int) c3 ∧
                                                                                                      fc (9 : Int) c4 = fc (9 : Int) c4 ∧
                                                                                                        fc (6 : Int) c5 = fc (6 : Int) c5 ∧
                                                                                                          fz (4 : Int) c6 = fz (4 : Int) c6 ∧ fc (40 : Int) c7 = fc (40 : Int) c7 ∧ fz (50 : Int) c8 = fz (50 : Int) c8) ∧
                                                                                              v_4 = v_4 ∧ v_5 = v_5 ∧ v_6 = v_6 ∧ v_7 = v_7 ∧ v_8 = v_8) ∧
                                                                                (decide ((↑g_2 : Int) < (↑v_1.length : Int)) = false →
                                                                                  ∀ (v_9 : Bool),
                                                                                    v_9 =
                                                                                        (!(List.take g_1 (twL (fc (6 : Int) c5) (fz (4 : Int) c6) r acts).fst).any
                                                                                                  (same5 (getP (twL (fc (6 : Int) c5) (fz (4 : Int) c6) r acts).snd g)) ||
                                                                                              !(List.take g_2 (someL (fc (6 : Int) c5) (fz (4 : Int) c6) acts).fst).any
                                                                                                  (wasP (getP (twL (fc (6 : Int) c5) (fz (4 : Int) c6) r acts).snd g)) ||
                                                                                            v_7 != IntKind.i64.wrap (v + fc (6 : Int) c5) ||
                                                                                          decide (v_8 > fz (4 : Int) c6)) →
                                                                                      (v_9 = true → false = true) ∧
                                                                                        (v_9 = false →
                                                                                          ∃ (g_3 : Nat),
                                                                                            g_3.le (twL (fc (6 : Int) c5) (fz (4 : Int) c6) r acts).snd.length ∧
                                                                                              (annTwice (twL (fc (6 : Int) c5) (fz (4 : Int) c6) r acts).snd.length).μ g_3 <
                                                                                                  (annTwice (twL (fc (6 : Int) c5) (fz (4 : Int) c6) r acts).snd.length).μ g ∧
                                                                                                (True ∧
                                                                                                    v_1 = v_1 ∧
                                                                                                      v = v ∧
                                                                                                        v_3 = v_3 ∧
                                                                                                          v_2 = v_2 ∧
                                                                                                            (↑v_2.length : Int) = (↑v_2.length : Int) ∧ IntKind.i64.wrap ((↑g : Int) + (1 : Int)) = (↑g_3 : Int)) ∧
                                                                                                  fc (30 : Int) c0 = fc (30 : Int) c0 ∧
                                                                                                    IntKind.i64.wrap (fc (30 : Int) c0 + fz (60 : Int) c1) = IntKind.i64.wrap (fc (30 : Int) c0 + fz (60 : Int) c1) ∧
                                                                                                      fc (6 : Int) c2 = fc (6 : Int) c2 ∧
                                                                                                        fc (20 : Int) c3 = fc (20 : Int) c3 ∧
                                                                                                          fc (9 : Int) c4 = fc (9 : Int) c4 ∧
                                                                                                            fc (6 : Int) c5 = fc (6 : Int) c5 ∧
                                                                                                              fz (4 : Int) c6 = fz (4 : Int) c6 ∧
                                                                                                                fc (40 : Int) c7 = fc (40 : Int) c7 ∧ fz (50 : Int) c8 = fz (50 : Int) c8)))) ∧
                                      (decide ((↑g : Int) < (↑v_2.length : Int)) = false → v_3.length.succ.le (9223372036854775808 : Nat) ∧ rightB v_3 = true)))


end Go.Proofs.Ytnjildbclmglpaa.Pro
