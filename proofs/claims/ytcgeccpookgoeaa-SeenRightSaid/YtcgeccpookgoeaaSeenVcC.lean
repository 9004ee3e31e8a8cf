/- Sightings: what the laws come to (printed by wip/Vc.lean; checked by the kernel in the next text). -/
import Derived.Test.YtcgeccpookgoeaaSeenSpecB
namespace Go.Proofs.Ytcgeccpookgoeaa.Seen
open Go Go.Proofs.Ytcgeccpookgoeaa.Sx

def vcWant : Int → Bool → Prop :=
  fun (a : Int) (odd : Bool) => (2 : Int) ≠ (0 : Int) ∧ ((a.tmod (2 : Int) == (1 : Int)) == odd) = wantA odd a

def vcForget : List Known → Bool → Prop :=
  fun (ks : List Known) (odd : Bool) =>
  (∃ (g : Nat), g.le ks.length ∧ (((21 : Nat) = (21 : Nat) ∧ True) ∧ ks = ks ∧ (↑ks.length : Int) = (↑ks.length : Int) ∧ (0 : Int) = (↑g : Int) ∧ True) ∧ odd = odd ∧ List.filter (wantK odd) (List.take g ks) = []) ∧
    ∀ (g : Nat),
      g.le ks.length →
        (decide ((↑g : Int) < (↑ks.length : Int)) = true →
            ((0 : Int) ≤ (↑g : Int) ∧ (↑g : Int) < (↑ks.length : Int)) ∧
              (wantA odd (ks.getD (↑g : Int).toNat (u.dflt (53 : Nat))).addr = true →
                  ((List.filter (wantK odd) (List.take g ks)).length + [{ addr := (ks.getD (↑g : Int).toNat (u.dflt (53 : Nat))).addr, seen := (ks.getD (↑g : Int).toNat (u.dflt (53 : Nat))).seen : Known }].length) *
                        (32 : Nat) ≤
                      (140737488355328 : Nat) ∧
                    ∃ (g_1 : Nat),
                      g_1.le ks.length ∧
                        (annForget odd ks).μ g_1 < (annForget odd ks).μ g ∧
                          (((21 : Nat) = (21 : Nat) ∧ True) ∧ ks = ks ∧ (↑ks.length : Int) = (↑ks.length : Int) ∧ IntKind.i64.wrap ((↑g : Int) + (1 : Int)) = (↑g_1 : Int) ∧ True) ∧
                            odd = odd ∧
                              List.filter (wantK odd) (List.take g ks) ++ [{ addr := (ks.getD (↑g : Int).toNat (u.dflt (53 : Nat))).addr, seen := (ks.getD (↑g : Int).toNat (u.dflt (53 : Nat))).seen : Known }] =
                                List.filter (wantK odd) (List.take g_1 ks)) ∧
                (wantA odd (ks.getD (↑g : Int).toNat (u.dflt (53 : Nat))).addr = false →
                  ∃ (g_1 : Nat),
                    g_1.le ks.length ∧
                      (annForget odd ks).μ g_1 < (annForget odd ks).μ g ∧
                        (((21 : Nat) = (21 : Nat) ∧ True) ∧ ks = ks ∧ (↑ks.length : Int) = (↑ks.length : Int) ∧ IntKind.i64.wrap ((↑g : Int) + (1 : Int)) = (↑g_1 : Int) ∧ True) ∧
                          odd = odd ∧ List.filter (wantK odd) (List.take g ks) = List.filter (wantK odd) (List.take g_1 ks))) ∧
          (decide ((↑g : Int) < (↑ks.length : Int)) = false → True ∧ (odd = odd ∧ List.filter (wantK odd) (List.take g ks) = List.filter (wantK odd) ks) ∧ True)

def vcLKeep : List Sight → Int → Int → Int → Int → Int → Int → Int → Int → Prop :=
  fun (ss : List Sight) (s a b c d e f t : Int) =>
  ((!true) = true → false = true) ∧
    ((!true) = false →
      ((0 : Int) ≤ (0 : Int) ∧ (0 : Int) ≤ mn (↑ss.length : Int) (50 : Int) ∧ mn (↑ss.length : Int) (50 : Int) ≤ (↑ss.length : Int)) ∧
        ∀ (v : List Sight),
          v = List.drop (0 : Nat) (List.take (mn (↑ss.length : Int) (50 : Int)).toNat ss) →
            (v.length + (1 : Nat)) * (24 : Nat) ≤ (140737488355328 : Nat) ∧
              v.length * (24 : Nat) ≤ (140737488355328 : Nat) ∧
                (v.length + [{ src := s, mac := { m0 := a, m1 := b, m2 := c, m3 := d, m4 := e, m5 := f : Mac }, time := t : Sight }].length) * (24 : Nat) ≤ (140737488355328 : Nat) ∧
                  ((0 : Int) ≤ mx (0 : Int) (IntKind.i64.wrap ((↑(v ++ [{ src := s, mac := { m0 := a, m1 := b, m2 := c, m3 := d, m4 := e, m5 := f : Mac }, time := t : Sight }]).length : Int) - (8 : Int))) ∧
                      mx (0 : Int) (IntKind.i64.wrap ((↑(v ++ [{ src := s, mac := { m0 := a, m1 := b, m2 := c, m3 := d, m4 := e, m5 := f : Mac }, time := t : Sight }]).length : Int) - (8 : Int))) ≤
                          (↑(v ++ [{ src := s, mac := { m0 := a, m1 := b, m2 := c, m3 := d, m4 := e, m5 := f : Mac }, time := t : Sight }]).length : Int) ∧
                        (↑(v ++ [{ src := s, mac := { m0 := a, m1 := b, m2 := c, m3 := d, m4 := e, m5 := f : Mac }, time := t : Sight }]).length : Int) ≤
                          (↑(v ++ [{ src := s, mac := { m0 := a, m1 := b, m2 := c, m3 := d, m4 := e, m5 := f : Mac }, time := t : Sight }]).length : Int)) ∧
                    ((keepL v { src := s, mac := { m0 := a, m1 := b, m2 := c, m3 := d, m4 := e, m5 := f : Mac }, time := t : Sight }).length.succ.le (9223372036854775808 : Nat) ∧
                        (List.take
                                  ((↑(v ++ [{ src := s, mac := { m0 := a, m1 := b, m2 := c, m3 := d, m4 := e, m5 := f : Mac }, time := t : Sight }]).length : Int).toNat -
                                    (mx (0 : Int) (IntKind.i64.wrap ((↑(v ++ [{ src := s, mac := { m0 := a, m1 := b, m2 := c, m3 := d, m4 := e, m5 := f : Mac }, time := t : Sight }]).length : Int) - (8 : Int)))).toNat)
                                  (List.drop
                                    ((0 : Nat) +
                                      (mx (0 : Int) (IntKind.i64.wrap ((↑(v ++ [{ src := s, mac := { m0 := a, m1 := b, m2 := c, m3 := d, m4 := e, m5 := f : Mac }, time := t : Sight }]).length : Int) - (8 : Int)))).toNat)
                                    (v ++ [{ src := s, mac := { m0 := a, m1 := b, m2 := c, m3 := d, m4 := e, m5 := f : Mac }, time := t : Sight }]))).length.succ.le
                          (9223372036854775808 : Nat)) ∧
                      sameL (keepL v { src := s, mac := { m0 := a, m1 := b, m2 := c, m3 := d, m4 := e, m5 := f : Mac }, time := t : Sight })
                          (List.take
                            ((↑(v ++ [{ src := s, mac := { m0 := a, m1 := b, m2 := c, m3 := d, m4 := e, m5 := f : Mac }, time := t : Sight }]).length : Int).toNat -
                              (mx (0 : Int) (IntKind.i64.wrap ((↑(v ++ [{ src := s, mac := { m0 := a, m1 := b, m2 := c, m3 := d, m4 := e, m5 := f : Mac }, time := t : Sight }]).length : Int) - (8 : Int)))).toNat)
                            (List.drop
                              ((0 : Nat) +
                                (mx (0 : Int) (IntKind.i64.wrap ((↑(v ++ [{ src := s, mac := { m0 := a, m1 := b, m2 := c, m3 := d, m4 := e, m5 := f : Mac }, time := t : Sight }]).length : Int) - (8 : Int)))).toNat)
                              (v ++ [{ src := s, mac := { m0 := a, m1 := b, m2 := c, m3 := d, m4 := e, m5 := f : Mac }, time := t : Sight }]))) =
                        true)

def vcLApart : List Act → Int → Int → Int → Int → Prop :=
  fun (acts : List Act) (a b c d : Int) =>
  ((!true) = true → false = true) ∧
    ((!true) = false →
      (acts.length.succ.le (9223372036854775808 : Nat) ∧ ∀ (a : Act), a ∈ acts → (0 : Int) ≤ a.addr ∧ (0 : Int) ≤ a.src ∧ (0 : Int) ≤ a.later) ∧
        ∀ (v : Int),
          v = (someL acts).snd →
            ∀ (v_1 : List Known),
              v_1 = (someL acts).fst →
                (v_1.length ≤ (1000 : Nat) ∧ (∀ (x : Known), x ∈ v_1 → x.seen.length ≤ (1000 : Nat)) ∧ ∀ (i j : Nat), i < j → j < v_1.length → (getK v_1 i).addr < (getK v_1 j).addr) ∧
                  ∀ (v_2 : Int),
                    v_2 =
                        putE v_1 (nearA a)
                          { src := (sightA { addr := a, src := b, who := c, later := d : Act } v).src,
                            mac :=
                              { m0 := (sightA { addr := a, src := b, who := c, later := d : Act } v).mac.m0, m1 := (sightA { addr := a, src := b, who := c, later := d : Act } v).mac.m1,
                                m2 := (sightA { addr := a, src := b, who := c, later := d : Act } v).mac.m2, m3 := (sightA { addr := a, src := b, who := c, later := d : Act } v).mac.m3,
                                m4 := (sightA { addr := a, src := b, who := c, later := d : Act } v).mac.m4, m5 := (sightA { addr := a, src := b, who := c, later := d : Act } v).mac.m5 : Mac },
                            time := (sightA { addr := a, src := b, who := c, later := d : Act } v).time : Sight } →
                      ∀ (v_3 : List Known),
                        v_3 =
                            putL v_1 (nearA a)
                              { src := (sightA { addr := a, src := b, who := c, later := d : Act } v).src,
                                mac :=
                                  { m0 := (sightA { addr := a, src := b, who := c, later := d : Act } v).mac.m0, m1 := (sightA { addr := a, src := b, who := c, later := d : Act } v).mac.m1,
                                    m2 := (sightA { addr := a, src := b, who := c, later := d : Act } v).mac.m2, m3 := (sightA { addr := a, src := b, who := c, later := d : Act } v).mac.m3,
                                    m4 := (sightA { addr := a, src := b, who := c, later := d : Act } v).mac.m4, m5 := (sightA { addr := a, src := b, who := c, later := d : Act } v).mac.m5 : Mac },
                                time := (sightA { addr := a, src := b, who := c, later := d : Act } v).time : Sight } →
                          ((v_2 != (0 : Int)) = true → false = true) ∧
                            ((v_2 != (0 : Int)) = false →
                              (∃ (g : Nat),
                                  g.le (someL acts).fst.length ∧
                                    (True ∧ v_1 = v_1 ∧ v = v ∧ nearA a = nearA a ∧ v_3 = v_3 ∧ v_1 = v_1 ∧ (↑v_1.length : Int) = (↑v_1.length : Int) ∧ (0 : Int) = (↑g : Int)) ∧ a = a ∧ b = b ∧ c = c ∧ d = d) ∧
                                ∀ (g : Nat),
                                  g.le (someL acts).fst.length →
                                    (decide ((↑g : Int) < (↑v_1.length : Int)) = true →
                                        ((0 : Int) ≤ (↑g : Int) ∧ (↑g : Int) < (↑v_1.length : Int)) ∧
                                          (((v_1.getD (↑g : Int).toNat (u.dflt (53 : Nat))).addr != nearA a) = true →
                                              (v_3.length < (4611686018427387904 : Nat) ∧ ∀ (i j : Nat), i < j → j < v_3.length → (getK v_3 i).addr < (getK v_3 j).addr) ∧
                                                ∀ (x : Known), x ∈ v_3 → x.seen.length * (24 : Nat) ≤ (140737488355328 : Nat)) ∧
                                            (((v_1.getD (↑g : Int).toNat (u.dflt (53 : Nat))).addr != nearA a) = true →
                                                (seenK v_3 (v_1.getD (↑g : Int).toNat (u.dflt (53 : Nat))).addr).length.succ.le (9223372036854775808 : Nat) ∧
                                                  (v_1.getD (↑g : Int).toNat (u.dflt (53 : Nat))).seen.length.succ.le (9223372036854775808 : Nat)) ∧
                                              (((v_1.getD (↑g : Int).toNat (u.dflt (53 : Nat))).addr != nearA a &&
                                                      !sameL (seenK v_3 (v_1.getD (↑g : Int).toNat (u.dflt (53 : Nat))).addr) (v_1.getD (↑g : Int).toNat (u.dflt (53 : Nat))).seen) =
                                                    false →
                                                  ((v_1.getD (↑g : Int).toNat (u.dflt (53 : Nat))).addr == nearA a) = true →
                                                    (v_1.length < (4611686018427387904 : Nat) ∧ ∀ (i j : Nat), i < j → j < v_1.length → (getK v_1 i).addr < (getK v_1 j).addr) ∧
                                                      ∀ (x : Known), x ∈ v_1 → x.seen.length * (24 : Nat) ≤ (140737488355328 : Nat)) ∧
                                                (((v_1.getD (↑g : Int).toNat (u.dflt (53 : Nat))).addr != nearA a &&
                                                        !sameL (seenK v_3 (v_1.getD (↑g : Int).toNat (u.dflt (53 : Nat))).addr) (v_1.getD (↑g : Int).toNat (u.dflt (53 : Nat))).seen) =
                                                      false →
                                                    ((v_1.getD (↑g : Int).toNat (u.dflt (53 : Nat))).addr == nearA a) = true →
                                                      (seenK v_1 (nearA a)).length.succ.le (9223372036854775808 : Nat) ∧ (v_1.getD (↑g : Int).toNat (u.dflt (53 : Nat))).seen.length.succ.le (9223372036854775808 : Nat)) ∧
                                                  ∀ (v_4 : Bool),
                                                    v_4 =
                                                        ((v_1.getD (↑g : Int).toNat (u.dflt (53 : Nat))).addr != nearA a &&
                                                            !sameL (seenK v_3 (v_1.getD (↑g : Int).toNat (u.dflt (53 : Nat))).addr) (v_1.getD (↑g : Int).toNat (u.dflt (53 : Nat))).seen ||
                                                          (v_1.getD (↑g : Int).toNat (u.dflt (53 : Nat))).addr == nearA a && !sameL (seenK v_1 (nearA a)) (v_1.getD (↑g : Int).toNat (u.dflt (53 : Nat))).seen) →
                                                      (v_4 = true → false = true) ∧
                                                        (v_4 = false →
                                                          ∃ (g_1 : Nat),
                                                            g_1.le (someL acts).fst.length ∧
                                                              (annApart (someL acts).fst).μ g_1 < (annApart (someL acts).fst).μ g ∧
                                                                (True ∧
                                                                    v_1 = v_1 ∧
                                                                      v = v ∧
                                                                        nearA a = nearA a ∧ v_3 = v_3 ∧ v_1 = v_1 ∧ (↑v_1.length : Int) = (↑v_1.length : Int) ∧ IntKind.i64.wrap ((↑g : Int) + (1 : Int)) = (↑g_1 : Int)) ∧
                                                                  a = a ∧ b = b ∧ c = c ∧ d = d)) ∧
                                      (decide ((↑g : Int) < (↑v_1.length : Int)) = false →
                                        ((v_3.length < (4611686018427387904 : Nat) ∧ ∀ (i j : Nat), i < j → j < v_3.length → (getK v_3 i).addr < (getK v_3 j).addr) ∧
                                            ∀ (x : Known), x ∈ v_3 → x.seen.length * (24 : Nat) ≤ (140737488355328 : Nat)) ∧
                                          ∀ (v_4 : List Sight),
                                            v_4 = seenK v_3 (nearA a) →
                                              (decide ((↑v_4.length : Int) > (0 : Int)) = true →
                                                  (0 : Int) ≤ IntKind.i64.wrap ((↑v_4.length : Int) - (1 : Int)) ∧ IntKind.i64.wrap ((↑v_4.length : Int) - (1 : Int)) < (↑v_4.length : Int)) ∧
                                                (decide ((↑v_4.length : Int) > (0 : Int)) &&
                                                    ((v_4.getD (IntKind.i64.wrap ((↑v_4.length : Int) - (1 : Int))).toNat (u.dflt (35 : Nat))).src == (sightA { addr := a, src := b, who := c, later := d : Act } v).src &&
                                                      ((v_4.getD (IntKind.i64.wrap ((↑v_4.length : Int) - (1 : Int))).toNat (u.dflt (35 : Nat))).mac.m0 ==
                                                            (sightA { addr := a, src := b, who := c, later := d : Act } v).mac.m0 &&
                                                          ((v_4.getD (IntKind.i64.wrap ((↑v_4.length : Int) - (1 : Int))).toNat (u.dflt (35 : Nat))).mac.m1 ==
                                                              (sightA { addr := a, src := b, who := c, later := d : Act } v).mac.m1 &&
                                                            ((v_4.getD (IntKind.i64.wrap ((↑v_4.length : Int) - (1 : Int))).toNat (u.dflt (35 : Nat))).mac.m2 ==
                                                                (sightA { addr := a, src := b, who := c, later := d : Act } v).mac.m2 &&
                                                              ((v_4.getD (IntKind.i64.wrap ((↑v_4.length : Int) - (1 : Int))).toNat (u.dflt (35 : Nat))).mac.m3 ==
                                                                  (sightA { addr := a, src := b, who := c, later := d : Act } v).mac.m3 &&
                                                                ((v_4.getD (IntKind.i64.wrap ((↑v_4.length : Int) - (1 : Int))).toNat (u.dflt (35 : Nat))).mac.m4 ==
                                                                    (sightA { addr := a, src := b, who := c, later := d : Act } v).mac.m4 &&
                                                                  ((v_4.getD (IntKind.i64.wrap ((↑v_4.length : Int) - (1 : Int))).toNat (u.dflt (35 : Nat))).mac.m5 ==
                                                                      (sightA { addr := a, src := b, who := c, later := d : Act } v).mac.m5 &&
                                                                    true))))) &&
                                                        ((v_4.getD (IntKind.i64.wrap ((↑v_4.length : Int) - (1 : Int))).toNat (u.dflt (35 : Nat))).time ==
                                                            (sightA { addr := a, src := b, who := c, later := d : Act } v).time &&
                                                          true)))) =
                                                  true)))

def vcLNew : List Act → Int → Prop :=
  fun (acts : List Act) (n : Int) =>
  ((!true) = true → false = true) ∧
    ((!true) = false →
      (acts.length.succ.le (9223372036854775808 : Nat) ∧ ∀ (a : Act), a ∈ acts → (0 : Int) ≤ a.addr ∧ (0 : Int) ≤ a.src ∧ (0 : Int) ≤ a.later) ∧
        ∀ (v : Int),
          v = (someL acts).snd →
            ∀ (v_1 : List Known),
              v_1 = (someL acts).fst →
                ((v_1.length < (4611686018427387904 : Nat) ∧ ∀ (i j : Nat), i < j → j < v_1.length → (getK v_1 i).addr < (getK v_1 j).addr) ∧
                    ∀ (x : Known), x ∈ v_1 → x.seen.length * (24 : Nat) ≤ (140737488355328 : Nat)) ∧
                  ∀ (v_2 : List Sight),
                    v_2 = seenK v_1 (nearA n) →
                      ((0 : Int) ≤ (0 : Int) ∧ (0 : Int) ≤ mn (↑acts.length : Int) (120 : Int) ∧ mn (↑acts.length : Int) (120 : Int) ≤ (↑acts.length : Int)) ∧
                        (∃ (g : Nat),
                            g.le (headS acts (120 : Int)).length ∧
                              v_1 = v_1 ∧
                                v = v ∧
                                  nearA n = nearA n ∧
                                    v_2 = v_2 ∧
                                      List.drop (0 : Nat) (List.take (mn (↑acts.length : Int) (120 : Int)).toNat acts) = List.drop (0 : Nat) (List.take (mn (↑acts.length : Int) (120 : Int)).toNat acts) ∧
                                        (↑(List.drop (0 : Nat) (List.take (mn (↑acts.length : Int) (120 : Int)).toNat acts)).length : Int) =
                                            (↑(List.drop (0 : Nat) (List.take (mn (↑acts.length : Int) (120 : Int)).toNat acts)).length : Int) ∧
                                          (0 : Int) = (↑g : Int) ∧ (0 : Int) = (↑(cameN (nearA n) (headS acts (120 : Int)) g) : Int)) ∧
                          ∀ (g : Nat),
                            g.le (headS acts (120 : Int)).length →
                              (decide ((↑g : Int) < (↑(List.drop (0 : Nat) (List.take (mn (↑acts.length : Int) (120 : Int)).toNat acts)).length : Int)) = true →
                                  ((0 : Int) ≤ (↑g : Int) ∧ (↑g : Int) < (↑(List.drop (0 : Nat) (List.take (mn (↑acts.length : Int) (120 : Int)).toNat acts)).length : Int)) ∧
                                    ((nearA ((List.drop (0 : Nat) (List.take (mn (↑acts.length : Int) (120 : Int)).toNat acts)).getD (↑g : Int).toNat (u.dflt (28 : Nat))).addr == nearA n) = true → True) ∧
                                      ((nearA ((List.drop (0 : Nat) (List.take (mn (↑acts.length : Int) (120 : Int)).toNat acts)).getD (↑g : Int).toNat (u.dflt (28 : Nat))).addr == nearA n) = false → True) ∧
                                        ∀ (v_3 : Int),
                                          (v_3 =
                                              if (nearA ((List.drop (0 : Nat) (List.take (mn (↑acts.length : Int) (120 : Int)).toNat acts)).getD (↑g : Int).toNat (u.dflt (28 : Nat))).addr == nearA n) = true then
                                                IntKind.i64.wrap ((↑(cameN (nearA n) (headS acts (120 : Int)) g) : Int) + (1 : Int))
                                              else (↑(cameN (nearA n) (headS acts (120 : Int)) g) : Int)) →
                                            ∃ (g_1 : Nat),
                                              g_1.le (headS acts (120 : Int)).length ∧
                                                (annNew (nearA n) (headS acts (120 : Int))).μ g_1 < (annNew (nearA n) (headS acts (120 : Int))).μ g ∧
                                                  v_1 = v_1 ∧
                                                    v = v ∧
                                                      nearA n = nearA n ∧
                                                        v_2 = v_2 ∧
                                                          List.drop (0 : Nat) (List.take (mn (↑acts.length : Int) (120 : Int)).toNat acts) =
                                                              List.drop (0 : Nat) (List.take (mn (↑acts.length : Int) (120 : Int)).toNat acts) ∧
                                                            (↑(List.drop (0 : Nat) (List.take (mn (↑acts.length : Int) (120 : Int)).toNat acts)).length : Int) =
                                                                (↑(List.drop (0 : Nat) (List.take (mn (↑acts.length : Int) (120 : Int)).toNat acts)).length : Int) ∧
                                                              IntKind.i64.wrap ((↑g : Int) + (1 : Int)) = (↑g_1 : Int) ∧ v_3 = (↑(cameN (nearA n) (headS acts (120 : Int)) g_1) : Int)) ∧
                                (decide ((↑g : Int) < (↑(List.drop (0 : Nat) (List.take (mn (↑acts.length : Int) (120 : Int)).toNat acts)).length : Int)) = false →
                                  ((v_1.length < (4611686018427387904 : Nat) ∧ ∀ (i j : Nat), i < j → j < v_1.length → (getK v_1 i).addr < (getK v_1 j).addr) ∧
                                      ∀ (x : Known), x ∈ v_1 → x.seen.length * (24 : Nat) ≤ (140737488355328 : Nat)) ∧
                                    ∀ (v_3 : Bool),
                                      v_3 = lastB v_1 (nearA n) →
                                        ∀ (v_4 : Int),
                                          v_4 = lastT v_1 (nearA n) →
                                            (((↑v_2.length : Int) == mn (↑(cameN (nearA n) (headS acts (120 : Int)) g) : Int) (8 : Int) &&
                                                    v_3 == decide ((↑(cameN (nearA n) (headS acts (120 : Int)) g) : Int) > (0 : Int))) =
                                                  true →
                                                (!v_3) = false →
                                                  decide (v_4 ≤ v) = true → (0 : Int) ≤ IntKind.i64.wrap ((↑v_2.length : Int) - (1 : Int)) ∧ IntKind.i64.wrap ((↑v_2.length : Int) - (1 : Int)) < (↑v_2.length : Int)) ∧
                                              ((↑v_2.length : Int) == mn (↑(cameN (nearA n) (headS acts (120 : Int)) g) : Int) (8 : Int) &&
                                                    v_3 == decide ((↑(cameN (nearA n) (headS acts (120 : Int)) g) : Int) > (0 : Int)) &&
                                                  (!v_3 || decide (v_4 ≤ v) && v_4 == (v_2.getD (IntKind.i64.wrap ((↑v_2.length : Int) - (1 : Int))).toNat (u.dflt (35 : Nat))).time)) =
                                                true))

def vcLForget : List Act → Bool → Prop :=
  fun (acts : List Act) (odd : Bool) =>
  ((!true) = true → false = true) ∧
    ((!true) = false →
      (acts.length.succ.le (9223372036854775808 : Nat) ∧ ∀ (a : Act), a ∈ acts → (0 : Int) ≤ a.addr ∧ (0 : Int) ≤ a.src ∧ (0 : Int) ≤ a.later) ∧
        ∀ (v : List Known),
          v = (someL acts).fst →
            v.length * (32 : Nat) ≤ (140737488355328 : Nat) ∧
              ∀ (v_1 : List Known),
                v_1 = List.filter (wantK odd) v →
                  (∃ (g : Nat),
                      g.le (someL acts).fst.length ∧
                        (True ∧
                            v = v ∧
                              v = v ∧
                                (↑v.length : Int) = (↑v.length : Int) ∧
                                  (0 : Int) = (↑g : Int) ∧ (0 : Int) = (↑(List.filter (wantK odd) (List.take g (someL acts).fst)).length : Int) ∧ v_1 = List.filter (wantK odd) (someL acts).fst) ∧
                          odd = odd) ∧
                    ∀ (g : Nat),
                      g.le (someL acts).fst.length →
                        (decide ((↑g : Int) < (↑v.length : Int)) = true →
                            ((0 : Int) ≤ (↑g : Int) ∧ (↑g : Int) < (↑v.length : Int)) ∧
                              (2 : Int) ≠ (0 : Int) ∧
                                ((!((v.getD (↑g : Int).toNat (u.dflt (53 : Nat))).addr.tmod (2 : Int) == (1 : Int)) == odd) = true →
                                    (((List.filter (wantK odd) (someL acts).fst).length < (4611686018427387904 : Nat) ∧
                                          ∀ (i j : Nat),
                                            i < j →
                                              j < (List.filter (wantK odd) (someL acts).fst).length → (getK (List.filter (wantK odd) (someL acts).fst) i).addr < (getK (List.filter (wantK odd) (someL acts).fst) j).addr) ∧
                                        ∀ (x : Known), x ∈ List.filter (wantK odd) (someL acts).fst → x.seen.length * (24 : Nat) ≤ (140737488355328 : Nat)) ∧
                                      (((↑(seenK (List.filter (wantK odd) (someL acts).fst) (v.getD (↑g : Int).toNat (u.dflt (53 : Nat))).addr).length : Int) != (0 : Int)) = true → false = true) ∧
                                        (((↑(seenK (List.filter (wantK odd) (someL acts).fst) (v.getD (↑g : Int).toNat (u.dflt (53 : Nat))).addr).length : Int) != (0 : Int)) = false →
                                          ∃ (g_1 : Nat),
                                            g_1.le (someL acts).fst.length ∧
                                              (annForgetL odd (someL acts).fst).μ g_1 < (annForgetL odd (someL acts).fst).μ g ∧
                                                (True ∧
                                                    v = v ∧
                                                      v = v ∧
                                                        (↑v.length : Int) = (↑v.length : Int) ∧
                                                          IntKind.i64.wrap ((↑g : Int) + (1 : Int)) = (↑g_1 : Int) ∧
                                                            (↑(List.filter (wantK odd) (List.take g (someL acts).fst)).length : Int) = (↑(List.filter (wantK odd) (List.take g_1 (someL acts).fst)).length : Int) ∧
                                                              List.filter (wantK odd) (someL acts).fst = List.filter (wantK odd) (someL acts).fst) ∧
                                                  odd = odd)) ∧
                                  ((!((v.getD (↑g : Int).toNat (u.dflt (53 : Nat))).addr.tmod (2 : Int) == (1 : Int)) == odd) = false →
                                    (decide ((↑(List.filter (wantK odd) (List.take g (someL acts).fst)).length : Int) ≥ (↑(List.filter (wantK odd) (someL acts).fst).length : Int)) = false →
                                        (0 : Int) ≤ (↑(List.filter (wantK odd) (List.take g (someL acts).fst)).length : Int) ∧
                                          (↑(List.filter (wantK odd) (List.take g (someL acts).fst)).length : Int) < (↑(List.filter (wantK odd) (someL acts).fst).length : Int)) ∧
                                      ((decide ((↑(List.filter (wantK odd) (List.take g (someL acts).fst)).length : Int) ≥ (↑(List.filter (wantK odd) (someL acts).fst).length : Int)) ||
                                              ((List.filter (wantK odd) (someL acts).fst).getD (↑(List.filter (wantK odd) (List.take g (someL acts).fst)).length : Int).toNat (u.dflt (53 : Nat))).addr !=
                                                (v.getD (↑g : Int).toNat (u.dflt (53 : Nat))).addr) =
                                            false →
                                          (0 : Int) ≤ (↑(List.filter (wantK odd) (List.take g (someL acts).fst)).length : Int) ∧
                                            (↑(List.filter (wantK odd) (List.take g (someL acts).fst)).length : Int) < (↑(List.filter (wantK odd) (someL acts).fst).length : Int)) ∧
                                        ((decide ((↑(List.filter (wantK odd) (List.take g (someL acts).fst)).length : Int) ≥ (↑(List.filter (wantK odd) (someL acts).fst).length : Int)) ||
                                                ((List.filter (wantK odd) (someL acts).fst).getD (↑(List.filter (wantK odd) (List.take g (someL acts).fst)).length : Int).toNat (u.dflt (53 : Nat))).addr !=
                                                  (v.getD (↑g : Int).toNat (u.dflt (53 : Nat))).addr) =
                                              false →
                                            ((List.filter (wantK odd) (someL acts).fst).getD (↑(List.filter (wantK odd) (List.take g (someL acts).fst)).length : Int).toNat (u.dflt (53 : Nat))).seen.length.succ.le
                                                (9223372036854775808 : Nat) ∧
                                              (v.getD (↑g : Int).toNat (u.dflt (53 : Nat))).seen.length.succ.le (9223372036854775808 : Nat)) ∧
                                          ∀ (v_2 : Bool),
                                            v_2 =
                                                (decide ((↑(List.filter (wantK odd) (List.take g (someL acts).fst)).length : Int) ≥ (↑(List.filter (wantK odd) (someL acts).fst).length : Int)) ||
                                                    ((List.filter (wantK odd) (someL acts).fst).getD (↑(List.filter (wantK odd) (List.take g (someL acts).fst)).length : Int).toNat (u.dflt (53 : Nat))).addr !=
                                                      (v.getD (↑g : Int).toNat (u.dflt (53 : Nat))).addr ||
                                                  !sameL ((List.filter (wantK odd) (someL acts).fst).getD (↑(List.filter (wantK odd) (List.take g (someL acts).fst)).length : Int).toNat (u.dflt (53 : Nat))).seen
                                                      (v.getD (↑g : Int).toNat (u.dflt (53 : Nat))).seen) →
                                              (v_2 = true → false = true) ∧
                                                (v_2 = false →
                                                  ∃ (g_1 : Nat),
                                                    g_1.le (someL acts).fst.length ∧
                                                      (annForgetL odd (someL acts).fst).μ g_1 < (annForgetL odd (someL acts).fst).μ g ∧
                                                        (True ∧
                                                            v = v ∧
                                                              v = v ∧
                                                                (↑v.length : Int) = (↑v.length : Int) ∧
                                                                  IntKind.i64.wrap ((↑g : Int) + (1 : Int)) = (↑g_1 : Int) ∧
                                                                    IntKind.i64.wrap ((↑(List.filter (wantK odd) (List.take g (someL acts).fst)).length : Int) + (1 : Int)) =
                                                                        (↑(List.filter (wantK odd) (List.take g_1 (someL acts).fst)).length : Int) ∧
                                                                      List.filter (wantK odd) (someL acts).fst = List.filter (wantK odd) (someL acts).fst) ∧
                                                          odd = odd))) ∧
                          (decide ((↑g : Int) < (↑v.length : Int)) = false →
                            (((↑(List.filter (wantK odd) (List.take g (someL acts).fst)).length : Int) == (↑(List.filter (wantK odd) (someL acts).fst).length : Int)) = true →
                                (List.filter (wantK odd) (someL acts).fst).length < (9223372036854775808 : Nat) ∧
                                  ∀ (x : Known), x ∈ List.filter (wantK odd) (someL acts).fst → x.seen.length < (9223372036854775808 : Nat)) ∧
                              ((↑(List.filter (wantK odd) (List.take g (someL acts).fst)).length : Int) == (↑(List.filter (wantK odd) (someL acts).fst).length : Int) &&
                                  rightB (List.filter (wantK odd) (someL acts).fst)) =
                                true))


end Go.Proofs.Ytcgeccpookgoeaa.Seen
