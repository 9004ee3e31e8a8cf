/- Sightings: what the package's bodies come to (printed by wip/Vc.lean; checked by the kernel in the next text). -/
import Derived.Test.YtcgeccpookgoeaaSeenSpec
namespace Go.Proofs.Ytcgeccpookgoeaa.Seen
open Go Go.Proofs.Ytcgeccpookgoeaa.Sx

def vcNear : Int → Prop :=
  fun (n : Int) => (64 : Int) ≠ (0 : Int) ∧ IntKind.u32.wrap ((167772160 : Int) + IntKind.u32.wrap (n.tmod (64 : Int))) = nearA n

def vcStation : Int → Prop :=
  fun (n : Int) =>
  (decide (n ≥ (128 : Int)) = true → (0 : Int) = (station n).m0 ∧ (0 : Int) = (station n).m1 ∧ (0 : Int) = (station n).m2 ∧ (0 : Int) = (station n).m3 ∧ (0 : Int) = (station n).m4 ∧ (0 : Int) = (station n).m5) ∧
    (decide (n ≥ (128 : Int)) = false →
      (3 : Int) ≠ (0 : Int) ∧
        (2 : Int) = (station n).m0 ∧ (0 : Int) = (station n).m1 ∧ (0 : Int) = (station n).m2 ∧ (0 : Int) = (station n).m3 ∧ (0 : Int) = (station n).m4 ∧ IntKind.u8.wrap ((1 : Int) + n.tmod (3 : Int)) = (station n).m5)

def vcFind1 : Int → List Known → Int → Prop :=
  fun (k : Int) (ks : List Known) (a : Int) => ((0 : Int) ≤ k ∧ k < (↑ks.length : Int)) ∧ decide ((ks.getD k.toNat (u.dflt (53 : Nat))).addr ≥ a) = geK a (getK ks k.toNat)

def vcSight : Int → Int → Int → Int → Int → Prop :=
  fun (a b c d n : Int) =>
  (4 : Int) ≠ (0 : Int) ∧
    IntKind.i64.wrap (b.tmod (4 : Int)) = (sightA { addr := a, src := b, who := c, later := d : Act } n).src ∧
      (station c).m0 = (sightA { addr := a, src := b, who := c, later := d : Act } n).mac.m0 ∧
        (station c).m1 = (sightA { addr := a, src := b, who := c, later := d : Act } n).mac.m1 ∧
          (station c).m2 = (sightA { addr := a, src := b, who := c, later := d : Act } n).mac.m2 ∧
            (station c).m3 = (sightA { addr := a, src := b, who := c, later := d : Act } n).mac.m3 ∧
              (station c).m4 = (sightA { addr := a, src := b, who := c, later := d : Act } n).mac.m4 ∧
                (station c).m5 = (sightA { addr := a, src := b, who := c, later := d : Act } n).mac.m5 ∧ n = (sightA { addr := a, src := b, who := c, later := d : Act } n).time

def vcSearch : Int → List Known → Int → Prop :=
  fun (n : Int) (ks : List Known) (a : Int) =>
  (∃ (g : Nat × Nat),
      (g.fst ≤ g.snd ∧ g.snd ≤ ks.length ∧ (∀ (m : Nat), m < g.fst → geK a (getK ks m) = false) ∧ ∀ (m : Nat), g.snd ≤ m → m < ks.length → geK a (getK ks m) = true) ∧
        ((25 : Nat) = (25 : Nat) ∧ ((0 : Nat) = (0 : Nat) ∧ ks = ks) ∧ (0 : Nat) = (0 : Nat) ∧ a = a) ∧ (0 : Int) = (↑g.fst : Int) ∧ n = (↑g.snd : Int)) ∧
    ∀ (g : Nat × Nat),
      (g.fst ≤ g.snd ∧ g.snd ≤ ks.length ∧ (∀ (m : Nat), m < g.fst → geK a (getK ks m) = false) ∧ ∀ (m : Nat), g.snd ≤ m → m < ks.length → geK a (getK ks m) = true) →
        (decide ((↑g.fst : Int) < (↑g.snd : Int)) = true →
            (0 : Int) ≤ (1 : Int) ∧
              ((0 : Int) ≤ IntKind.i64.wrap (shr IntKind.u64 (IntKind.u64.wrap (IntKind.i64.wrap ((↑g.fst : Int) + (↑g.snd : Int)))) (1 : Int)) ∧
                  IntKind.i64.wrap (shr IntKind.u64 (IntKind.u64.wrap (IntKind.i64.wrap ((↑g.fst : Int) + (↑g.snd : Int)))) (1 : Int)) < (↑ks.length : Int)) ∧
                ((!geK a (getK ks (IntKind.i64.wrap (shr IntKind.u64 (IntKind.u64.wrap (IntKind.i64.wrap ((↑g.fst : Int) + (↑g.snd : Int)))) (1 : Int))).toNat)) = true → True) ∧
                  ((!geK a (getK ks (IntKind.i64.wrap (shr IntKind.u64 (IntKind.u64.wrap (IntKind.i64.wrap ((↑g.fst : Int) + (↑g.snd : Int)))) (1 : Int))).toNat)) = false → True) ∧
                    ∀ (v : Int),
                      (v =
                          if (!geK a (getK ks (IntKind.i64.wrap (shr IntKind.u64 (IntKind.u64.wrap (IntKind.i64.wrap ((↑g.fst : Int) + (↑g.snd : Int)))) (1 : Int))).toNat)) = true then
                            IntKind.i64.wrap (IntKind.i64.wrap (shr IntKind.u64 (IntKind.u64.wrap (IntKind.i64.wrap ((↑g.fst : Int) + (↑g.snd : Int)))) (1 : Int)) + (1 : Int))
                          else (↑g.fst : Int)) →
                        ∀ (v_1 : Int),
                          (v_1 =
                              if (!geK a (getK ks (IntKind.i64.wrap (shr IntKind.u64 (IntKind.u64.wrap (IntKind.i64.wrap ((↑g.fst : Int) + (↑g.snd : Int)))) (1 : Int))).toNat)) = true then (↑g.snd : Int)
                              else IntKind.i64.wrap (shr IntKind.u64 (IntKind.u64.wrap (IntKind.i64.wrap ((↑g.fst : Int) + (↑g.snd : Int)))) (1 : Int))) →
                            ∃ (g_1 : Nat × Nat),
                              (g_1.fst ≤ g_1.snd ∧ g_1.snd ≤ ks.length ∧ (∀ (m : Nat), m < g_1.fst → geK a (getK ks m) = false) ∧ ∀ (m : Nat), g_1.snd ≤ m → m < ks.length → geK a (getK ks m) = true) ∧
                                (annSearch ks a).μ g_1 < (annSearch ks a).μ g ∧
                                  ((25 : Nat) = (25 : Nat) ∧ ((0 : Nat) = (0 : Nat) ∧ ks = ks) ∧ (0 : Nat) = (0 : Nat) ∧ a = a) ∧ v = (↑g_1.fst : Int) ∧ v_1 = (↑g_1.snd : Int)) ∧
          (decide ((↑g.fst : Int) < (↑g.snd : Int)) = false → (↑g.fst : Int) = (↑(idxK ks a) : Int))

def vcFind : List Known → Int → Prop :=
  fun (ks : List Known) (a : Int) =>
  ((↑ks.length : Int) = (↑ks.length : Int) ∧ ks.length < (4611686018427387904 : Nat) ∧ ∀ (i j : Nat), i < j → j < ks.length → (getK ks i).addr < (getK ks j).addr) ∧
    (decide ((↑(idxK ks a) : Int) < (↑ks.length : Int)) = true → (0 : Int) ≤ (↑(idxK ks a) : Int) ∧ (↑(idxK ks a) : Int) < (↑ks.length : Int)) ∧
      (↑(idxK ks a) : Int) = (↑(idxK ks a) : Int) ∧ (decide ((↑(idxK ks a) : Int) < (↑ks.length : Int)) && (ks.getD (↑(idxK ks a) : Int).toNat (u.dflt (53 : Nat))).addr == a) = hasK ks a

def vcKeep : List Sight → Int → Int → Int → Int → Int → Int → Int → Int → Prop :=
  fun (ss : List Sight) (s a b c d e f t : Int) =>
  ss.length * (24 : Nat) ≤ (140737488355328 : Nat) ∧
    (ss.length + [{ src := s, mac := { m0 := a, m1 := b, m2 := c, m3 := d, m4 := e, m5 := f : Mac }, time := t : Sight }].length) * (24 : Nat) ≤ (140737488355328 : Nat) ∧
      ((0 : Int) ≤ mx (0 : Int) (IntKind.i64.wrap ((↑(ss ++ [{ src := s, mac := { m0 := a, m1 := b, m2 := c, m3 := d, m4 := e, m5 := f : Mac }, time := t : Sight }]).length : Int) - (8 : Int))) ∧
          mx (0 : Int) (IntKind.i64.wrap ((↑(ss ++ [{ src := s, mac := { m0 := a, m1 := b, m2 := c, m3 := d, m4 := e, m5 := f : Mac }, time := t : Sight }]).length : Int) - (8 : Int))) ≤
              (↑(ss ++ [{ src := s, mac := { m0 := a, m1 := b, m2 := c, m3 := d, m4 := e, m5 := f : Mac }, time := t : Sight }]).length : Int) ∧
            (↑(ss ++ [{ src := s, mac := { m0 := a, m1 := b, m2 := c, m3 := d, m4 := e, m5 := f : Mac }, time := t : Sight }]).length : Int) ≤
              (↑(ss ++ [{ src := s, mac := { m0 := a, m1 := b, m2 := c, m3 := d, m4 := e, m5 := f : Mac }, time := t : Sight }]).length : Int)) ∧
        List.take
            ((↑(ss ++ [{ src := s, mac := { m0 := a, m1 := b, m2 := c, m3 := d, m4 := e, m5 := f : Mac }, time := t : Sight }]).length : Int).toNat -
              (mx (0 : Int) (IntKind.i64.wrap ((↑(ss ++ [{ src := s, mac := { m0 := a, m1 := b, m2 := c, m3 := d, m4 := e, m5 := f : Mac }, time := t : Sight }]).length : Int) - (8 : Int)))).toNat)
            (List.drop ((0 : Nat) + (mx (0 : Int) (IntKind.i64.wrap ((↑(ss ++ [{ src := s, mac := { m0 := a, m1 := b, m2 := c, m3 := d, m4 := e, m5 := f : Mac }, time := t : Sight }]).length : Int) - (8 : Int)))).toNat)
              (ss ++ [{ src := s, mac := { m0 := a, m1 := b, m2 := c, m3 := d, m4 := e, m5 := f : Mac }, time := t : Sight }])) =
          keepL ss { src := s, mac := { m0 := a, m1 := b, m2 := c, m3 := d, m4 := e, m5 := f : Mac }, time := t : Sight }

def vcLast : List Known → Int → Prop :=
  fun (ks : List Known) (a : Int) =>
  (ks.length < (4611686018427387904 : Nat) ∧ ∀ (i j : Nat), i < j → j < ks.length → (getK ks i).addr < (getK ks j).addr) ∧
    ∀ (v : Bool),
      v = hasK ks a →
        ∀ (v_1 : Int),
          v_1 = (↑(idxK ks a) : Int) →
            ((!v) = false → (0 : Int) ≤ v_1 ∧ v_1 < (↑ks.length : Int)) ∧
              ((!v || (↑(ks.getD v_1.toNat (u.dflt (53 : Nat))).seen.length : Int) == (0 : Int)) = true → (0 : Int) = lastT ks a ∧ false = lastB ks a) ∧
                ((!v || (↑(ks.getD v_1.toNat (u.dflt (53 : Nat))).seen.length : Int) == (0 : Int)) = false →
                  ((0 : Int) ≤ v_1 ∧ v_1 < (↑ks.length : Int)) ∧
                    ((0 : Int) ≤ v_1 ∧ v_1 < (↑ks.length : Int)) ∧
                      ((0 : Int) ≤ IntKind.i64.wrap ((↑(ks.getD v_1.toNat (u.dflt (53 : Nat))).seen.length : Int) - (1 : Int)) ∧
                          IntKind.i64.wrap ((↑(ks.getD v_1.toNat (u.dflt (53 : Nat))).seen.length : Int) - (1 : Int)) < (↑(ks.getD v_1.toNat (u.dflt (53 : Nat))).seen.length : Int)) ∧
                        ((ks.getD v_1.toNat (u.dflt (53 : Nat))).seen.getD (IntKind.i64.wrap ((↑(ks.getD v_1.toNat (u.dflt (53 : Nat))).seen.length : Int) - (1 : Int))).toNat (u.dflt (35 : Nat))).time = lastT ks a ∧
                          true = lastB ks a)

def vcOf : List Known → Int → Prop :=
  fun (ks : List Known) (a : Int) =>
  (ks.length < (4611686018427387904 : Nat) ∧ ∀ (i j : Nat), i < j → j < ks.length → (getK ks i).addr < (getK ks j).addr) ∧
    (hasK ks a = true →
        ((0 : Int) ≤ (↑(idxK ks a) : Int) ∧ (↑(idxK ks a) : Int) < (↑ks.length : Int)) ∧
          (ks.getD (↑(idxK ks a) : Int).toNat (u.dflt (53 : Nat))).seen.length * (24 : Nat) ≤ (140737488355328 : Nat) ∧ (ks.getD (↑(idxK ks a) : Int).toNat (u.dflt (53 : Nat))).seen = seenK ks a) ∧
      (hasK ks a = false → seenK ks a = [])

def vcRight : List Known → Prop :=
  fun (ks : List Known) =>
  (∃ (g : Nat), (g ≤ ks.length ∧ okTo ks g = true) ∧ ks = ks ∧ ks = ks ∧ (↑ks.length : Int) = (↑ks.length : Int) ∧ (0 : Int) = (↑g : Int)) ∧
    ∀ (g : Nat),
      g ≤ ks.length ∧ okTo ks g = true →
        (decide ((↑g : Int) < (↑ks.length : Int)) = true →
            ((0 : Int) ≤ (↑g : Int) ∧ (↑g : Int) < (↑ks.length : Int)) ∧
              (decide ((↑g : Int) > (0 : Int)) = true → (0 : Int) ≤ IntKind.i64.wrap ((↑g : Int) - (1 : Int)) ∧ IntKind.i64.wrap ((↑g : Int) - (1 : Int)) < (↑ks.length : Int)) ∧
                ∀ (v : Bool),
                  v =
                      (decide ((↑g : Int) > (0 : Int)) && decide ((ks.getD (IntKind.i64.wrap ((↑g : Int) - (1 : Int))).toNat (u.dflt (53 : Nat))).addr ≥ (ks.getD (↑g : Int).toNat (u.dflt (53 : Nat))).addr) ||
                          (↑(ks.getD (↑g : Int).toNat (u.dflt (53 : Nat))).seen.length : Int) == (0 : Int) ||
                        decide ((↑(ks.getD (↑g : Int).toNat (u.dflt (53 : Nat))).seen.length : Int) > (8 : Int))) →
                    (v = true → false = rightB ks) ∧
                      (v = false →
                        (∃ (g_1 : Nat),
                            (g_1 ≤ (getK ks g).seen.length ∧ okS (getK ks g).seen g_1 = true) ∧
                              (ks = ks ∧
                                  ks = ks ∧
                                    (↑ks.length : Int) = (↑ks.length : Int) ∧
                                      (↑g : Int) = (↑g : Int) ∧
                                        True ∧
                                          (ks.getD (↑g : Int).toNat (u.dflt (53 : Nat))).seen = (ks.getD (↑g : Int).toNat (u.dflt (53 : Nat))).seen ∧
                                            (↑(ks.getD (↑g : Int).toNat (u.dflt (53 : Nat))).seen.length : Int) = (↑(ks.getD (↑g : Int).toNat (u.dflt (53 : Nat))).seen.length : Int) ∧ (0 : Int) = (↑g_1 : Int)) ∧
                                (ks.getD (↑g : Int).toNat (u.dflt (53 : Nat))).addr = (ks.getD (↑g : Int).toNat (u.dflt (53 : Nat))).addr ∧
                                  (ks.getD (↑g : Int).toNat (u.dflt (53 : Nat))).seen = (ks.getD (↑g : Int).toNat (u.dflt (53 : Nat))).seen) ∧
                          ∀ (g_1 : Nat),
                            g_1 ≤ (getK ks g).seen.length ∧ okS (getK ks g).seen g_1 = true →
                              (decide ((↑g_1 : Int) < (↑(ks.getD (↑g : Int).toNat (u.dflt (53 : Nat))).seen.length : Int)) = true →
                                  ((0 : Int) ≤ (↑g_1 : Int) ∧ (↑g_1 : Int) < (↑(ks.getD (↑g : Int).toNat (u.dflt (53 : Nat))).seen.length : Int)) ∧
                                    ((decide (((ks.getD (↑g : Int).toNat (u.dflt (53 : Nat))).seen.getD (↑g_1 : Int).toNat (u.dflt (35 : Nat))).src < (0 : Int)) ||
                                              decide (((ks.getD (↑g : Int).toNat (u.dflt (53 : Nat))).seen.getD (↑g_1 : Int).toNat (u.dflt (35 : Nat))).src ≥ (4 : Int)) ||
                                            decide (((ks.getD (↑g : Int).toNat (u.dflt (53 : Nat))).seen.getD (↑g_1 : Int).toNat (u.dflt (35 : Nat))).time < (0 : Int))) =
                                          false →
                                        decide ((↑g_1 : Int) > (0 : Int)) = true →
                                          (0 : Int) ≤ IntKind.i64.wrap ((↑g_1 : Int) - (1 : Int)) ∧ IntKind.i64.wrap ((↑g_1 : Int) - (1 : Int)) < (↑(ks.getD (↑g : Int).toNat (u.dflt (53 : Nat))).seen.length : Int)) ∧
                                      ∀ (v : Bool),
                                        v =
                                            (decide (((ks.getD (↑g : Int).toNat (u.dflt (53 : Nat))).seen.getD (↑g_1 : Int).toNat (u.dflt (35 : Nat))).src < (0 : Int)) ||
                                                  decide (((ks.getD (↑g : Int).toNat (u.dflt (53 : Nat))).seen.getD (↑g_1 : Int).toNat (u.dflt (35 : Nat))).src ≥ (4 : Int)) ||
                                                decide (((ks.getD (↑g : Int).toNat (u.dflt (53 : Nat))).seen.getD (↑g_1 : Int).toNat (u.dflt (35 : Nat))).time < (0 : Int)) ||
                                              decide ((↑g_1 : Int) > (0 : Int)) &&
                                                decide
                                                  (((ks.getD (↑g : Int).toNat (u.dflt (53 : Nat))).seen.getD (IntKind.i64.wrap ((↑g_1 : Int) - (1 : Int))).toNat (u.dflt (35 : Nat))).time >
                                                    ((ks.getD (↑g : Int).toNat (u.dflt (53 : Nat))).seen.getD (↑g_1 : Int).toNat (u.dflt (35 : Nat))).time)) →
                                          (v = true → false = rightB ks) ∧
                                            (v = false →
                                              ∃ (g_2 : Nat),
                                                (g_2 ≤ (getK ks g).seen.length ∧ okS (getK ks g).seen g_2 = true) ∧
                                                  (annRight2 ks g).μ g_2 < (annRight2 ks g).μ g_1 ∧
                                                    (ks = ks ∧
                                                        ks = ks ∧
                                                          (↑ks.length : Int) = (↑ks.length : Int) ∧
                                                            (↑g : Int) = (↑g : Int) ∧
                                                              True ∧
                                                                (ks.getD (↑g : Int).toNat (u.dflt (53 : Nat))).seen = (ks.getD (↑g : Int).toNat (u.dflt (53 : Nat))).seen ∧
                                                                  (↑(ks.getD (↑g : Int).toNat (u.dflt (53 : Nat))).seen.length : Int) = (↑(ks.getD (↑g : Int).toNat (u.dflt (53 : Nat))).seen.length : Int) ∧
                                                                    IntKind.i64.wrap ((↑g_1 : Int) + (1 : Int)) = (↑g_2 : Int)) ∧
                                                      (ks.getD (↑g : Int).toNat (u.dflt (53 : Nat))).addr = (ks.getD (↑g : Int).toNat (u.dflt (53 : Nat))).addr ∧
                                                        (ks.getD (↑g : Int).toNat (u.dflt (53 : Nat))).seen = (ks.getD (↑g : Int).toNat (u.dflt (53 : Nat))).seen)) ∧
                                (decide ((↑g_1 : Int) < (↑(ks.getD (↑g : Int).toNat (u.dflt (53 : Nat))).seen.length : Int)) = false →
                                  ∃ (g_2 : Nat),
                                    (g_2 ≤ ks.length ∧ okTo ks g_2 = true) ∧
                                      (annRight ks).μ g_2 < (annRight ks).μ g ∧ ks = ks ∧ ks = ks ∧ (↑ks.length : Int) = (↑ks.length : Int) ∧ IntKind.i64.wrap ((↑g : Int) + (1 : Int)) = (↑g_2 : Int)))) ∧
          (decide ((↑g : Int) < (↑ks.length : Int)) = false → decide ((↑ks.length : Int) ≤ (96 : Int)) = rightB ks)

def vcRightL : List Known → Prop :=
  fun (ks : List Known) =>
  (decide ((↑ks.length : Int) > (96 : Int)) = true → false = rightL ks) ∧
    (decide ((↑ks.length : Int) > (96 : Int)) = false →
      (∃ (g : Nat), (g ≤ ks.length ∧ okToL ks g = true) ∧ ks = ks ∧ ks = ks ∧ (↑ks.length : Int) = (↑ks.length : Int) ∧ (0 : Int) = (↑g : Int)) ∧
        ∀ (g : Nat),
          g ≤ ks.length ∧ okToL ks g = true →
            (decide ((↑g : Int) < (↑ks.length : Int)) = true →
                ((0 : Int) ≤ (↑g : Int) ∧ (↑g : Int) < (↑ks.length : Int)) ∧
                  (decide ((↑g : Int) > (0 : Int)) = true → (0 : Int) ≤ IntKind.i64.wrap ((↑g : Int) - (1 : Int)) ∧ IntKind.i64.wrap ((↑g : Int) - (1 : Int)) < (↑ks.length : Int)) ∧
                    ∀ (v : Bool),
                      v =
                          (decide ((↑g : Int) > (0 : Int)) && decide ((ks.getD (IntKind.i64.wrap ((↑g : Int) - (1 : Int))).toNat (u.dflt (53 : Nat))).addr ≥ (ks.getD (↑g : Int).toNat (u.dflt (53 : Nat))).addr) ||
                              decide ((↑(ks.getD (↑g : Int).toNat (u.dflt (53 : Nat))).seen.length : Int) < (1 : Int)) ||
                            decide ((↑(ks.getD (↑g : Int).toNat (u.dflt (53 : Nat))).seen.length : Int) > (8 : Int))) →
                        (v = true → false = rightL ks) ∧
                          (v = false →
                            (∃ (g_1 : Nat),
                                (g_1 ≤ (getK ks g).seen.length ∧ okSL (getK ks g).seen g_1 = true) ∧
                                  (ks = ks ∧
                                      ks = ks ∧
                                        (↑ks.length : Int) = (↑ks.length : Int) ∧
                                          (↑g : Int) = (↑g : Int) ∧
                                            True ∧
                                              (ks.getD (↑g : Int).toNat (u.dflt (53 : Nat))).seen = (ks.getD (↑g : Int).toNat (u.dflt (53 : Nat))).seen ∧
                                                (↑(ks.getD (↑g : Int).toNat (u.dflt (53 : Nat))).seen.length : Int) = (↑(ks.getD (↑g : Int).toNat (u.dflt (53 : Nat))).seen.length : Int) ∧
                                                  (0 : Int) = (↑g_1 : Int) ∧ (0 : Int) = lastL (getK ks g).seen g_1) ∧
                                    (ks.getD (↑g : Int).toNat (u.dflt (53 : Nat))).addr = (ks.getD (↑g : Int).toNat (u.dflt (53 : Nat))).addr ∧
                                      (ks.getD (↑g : Int).toNat (u.dflt (53 : Nat))).seen = (ks.getD (↑g : Int).toNat (u.dflt (53 : Nat))).seen) ∧
                              ∀ (g_1 : Nat),
                                g_1 ≤ (getK ks g).seen.length ∧ okSL (getK ks g).seen g_1 = true →
                                  (decide ((↑g_1 : Int) < (↑(ks.getD (↑g : Int).toNat (u.dflt (53 : Nat))).seen.length : Int)) = true →
                                      ((0 : Int) ≤ (↑g_1 : Int) ∧ (↑g_1 : Int) < (↑(ks.getD (↑g : Int).toNat (u.dflt (53 : Nat))).seen.length : Int)) ∧
                                        ∀ (v : Bool),
                                          v =
                                              (decide (((ks.getD (↑g : Int).toNat (u.dflt (53 : Nat))).seen.getD (↑g_1 : Int).toNat (u.dflt (35 : Nat))).src < (0 : Int)) ||
                                                  decide (((ks.getD (↑g : Int).toNat (u.dflt (53 : Nat))).seen.getD (↑g_1 : Int).toNat (u.dflt (35 : Nat))).src > (3 : Int)) ||
                                                decide (((ks.getD (↑g : Int).toNat (u.dflt (53 : Nat))).seen.getD (↑g_1 : Int).toNat (u.dflt (35 : Nat))).time < lastL (getK ks g).seen g_1)) →
                                            (v = true → false = rightL ks) ∧
                                              (v = false →
                                                ∃ (g_2 : Nat),
                                                  (g_2 ≤ (getK ks g).seen.length ∧ okSL (getK ks g).seen g_2 = true) ∧
                                                    (annRightL2 ks g).μ g_2 < (annRightL2 ks g).μ g_1 ∧
                                                      (ks = ks ∧
                                                          ks = ks ∧
                                                            (↑ks.length : Int) = (↑ks.length : Int) ∧
                                                              (↑g : Int) = (↑g : Int) ∧
                                                                True ∧
                                                                  (ks.getD (↑g : Int).toNat (u.dflt (53 : Nat))).seen = (ks.getD (↑g : Int).toNat (u.dflt (53 : Nat))).seen ∧
                                                                    (↑(ks.getD (↑g : Int).toNat (u.dflt (53 : Nat))).seen.length : Int) = (↑(ks.getD (↑g : Int).toNat (u.dflt (53 : Nat))).seen.length : Int) ∧
                                                                      IntKind.i64.wrap ((↑g_1 : Int) + (1 : Int)) = (↑g_2 : Int) ∧
                                                                        ((ks.getD (↑g : Int).toNat (u.dflt (53 : Nat))).seen.getD (↑g_1 : Int).toNat (u.dflt (35 : Nat))).time = lastL (getK ks g).seen g_2) ∧
                                                        (ks.getD (↑g : Int).toNat (u.dflt (53 : Nat))).addr = (ks.getD (↑g : Int).toNat (u.dflt (53 : Nat))).addr ∧
                                                          (ks.getD (↑g : Int).toNat (u.dflt (53 : Nat))).seen = (ks.getD (↑g : Int).toNat (u.dflt (53 : Nat))).seen)) ∧
                                    (decide ((↑g_1 : Int) < (↑(ks.getD (↑g : Int).toNat (u.dflt (53 : Nat))).seen.length : Int)) = false →
                                      ∃ (g_2 : Nat),
                                        (g_2 ≤ ks.length ∧ okToL ks g_2 = true) ∧
                                          (annRightL ks).μ g_2 < (annRightL ks).μ g ∧ ks = ks ∧ ks = ks ∧ (↑ks.length : Int) = (↑ks.length : Int) ∧ IntKind.i64.wrap ((↑g : Int) + (1 : Int)) = (↑g_2 : Int)))) ∧
              (decide ((↑g : Int) < (↑ks.length : Int)) = false → true = rightL ks))

def vcSame : List Sight → List Sight → Prop :=
  fun (xs ys : List Sight) =>
  (((↑xs.length : Int) != (↑ys.length : Int)) = true → false = sameL xs ys) ∧
    (((↑xs.length : Int) != (↑ys.length : Int)) = false →
      (∃ (g : Nat), (g ≤ xs.length ∧ xs.length = ys.length ∧ sameTo xs ys g = true) ∧ xs = xs ∧ ys = ys ∧ xs = xs ∧ (↑xs.length : Int) = (↑xs.length : Int) ∧ (0 : Int) = (↑g : Int)) ∧
        ∀ (g : Nat),
          g ≤ xs.length ∧ xs.length = ys.length ∧ sameTo xs ys g = true →
            (decide ((↑g : Int) < (↑xs.length : Int)) = true →
                ((0 : Int) ≤ (↑g : Int) ∧ (↑g : Int) < (↑xs.length : Int)) ∧
                  ((0 : Int) ≤ (↑g : Int) ∧ (↑g : Int) < (↑ys.length : Int)) ∧
                    ((!((xs.getD (↑g : Int).toNat (u.dflt (35 : Nat))).src == (ys.getD (↑g : Int).toNat (u.dflt (35 : Nat))).src &&
                              ((xs.getD (↑g : Int).toNat (u.dflt (35 : Nat))).mac.m0 == (ys.getD (↑g : Int).toNat (u.dflt (35 : Nat))).mac.m0 &&
                                  ((xs.getD (↑g : Int).toNat (u.dflt (35 : Nat))).mac.m1 == (ys.getD (↑g : Int).toNat (u.dflt (35 : Nat))).mac.m1 &&
                                    ((xs.getD (↑g : Int).toNat (u.dflt (35 : Nat))).mac.m2 == (ys.getD (↑g : Int).toNat (u.dflt (35 : Nat))).mac.m2 &&
                                      ((xs.getD (↑g : Int).toNat (u.dflt (35 : Nat))).mac.m3 == (ys.getD (↑g : Int).toNat (u.dflt (35 : Nat))).mac.m3 &&
                                        ((xs.getD (↑g : Int).toNat (u.dflt (35 : Nat))).mac.m4 == (ys.getD (↑g : Int).toNat (u.dflt (35 : Nat))).mac.m4 &&
                                          ((xs.getD (↑g : Int).toNat (u.dflt (35 : Nat))).mac.m5 == (ys.getD (↑g : Int).toNat (u.dflt (35 : Nat))).mac.m5 && true))))) &&
                                ((xs.getD (↑g : Int).toNat (u.dflt (35 : Nat))).time == (ys.getD (↑g : Int).toNat (u.dflt (35 : Nat))).time && true)))) =
                          true →
                        false = sameL xs ys) ∧
                      ((!((xs.getD (↑g : Int).toNat (u.dflt (35 : Nat))).src == (ys.getD (↑g : Int).toNat (u.dflt (35 : Nat))).src &&
                              ((xs.getD (↑g : Int).toNat (u.dflt (35 : Nat))).mac.m0 == (ys.getD (↑g : Int).toNat (u.dflt (35 : Nat))).mac.m0 &&
                                  ((xs.getD (↑g : Int).toNat (u.dflt (35 : Nat))).mac.m1 == (ys.getD (↑g : Int).toNat (u.dflt (35 : Nat))).mac.m1 &&
                                    ((xs.getD (↑g : Int).toNat (u.dflt (35 : Nat))).mac.m2 == (ys.getD (↑g : Int).toNat (u.dflt (35 : Nat))).mac.m2 &&
                                      ((xs.getD (↑g : Int).toNat (u.dflt (35 : Nat))).mac.m3 == (ys.getD (↑g : Int).toNat (u.dflt (35 : Nat))).mac.m3 &&
                                        ((xs.getD (↑g : Int).toNat (u.dflt (35 : Nat))).mac.m4 == (ys.getD (↑g : Int).toNat (u.dflt (35 : Nat))).mac.m4 &&
                                          ((xs.getD (↑g : Int).toNat (u.dflt (35 : Nat))).mac.m5 == (ys.getD (↑g : Int).toNat (u.dflt (35 : Nat))).mac.m5 && true))))) &&
                                ((xs.getD (↑g : Int).toNat (u.dflt (35 : Nat))).time == (ys.getD (↑g : Int).toNat (u.dflt (35 : Nat))).time && true)))) =
                          false →
                        ∃ (g_1 : Nat),
                          (g_1 ≤ xs.length ∧ xs.length = ys.length ∧ sameTo xs ys g_1 = true) ∧
                            (annSame xs ys).μ g_1 < (annSame xs ys).μ g ∧ xs = xs ∧ ys = ys ∧ xs = xs ∧ (↑xs.length : Int) = (↑xs.length : Int) ∧ IntKind.i64.wrap ((↑g : Int) + (1 : Int)) = (↑g_1 : Int))) ∧
              (decide ((↑g : Int) < (↑xs.length : Int)) = false → true = sameL xs ys))

def vcPut : List Known → Int → Int → Int → Int → Int → Int → Int → Int → Int → Prop :=
  fun (ks : List Known) (k s a b c d e f t : Int) =>
  (ks.length < (4611686018427387904 : Nat) ∧ ∀ (i j : Nat), i < j → j < ks.length → (getK ks i).addr < (getK ks j).addr) ∧
    ∀ (v : Bool),
      v = hasK ks k →
        ∀ (v_1 : Int),
          v_1 = (↑(idxK ks k) : Int) →
            ((decide (s < (0 : Int)) || decide (s ≥ (4 : Int))) = true →
                putL ks k { src := s, mac := { m0 := a, m1 := b, m2 := c, m3 := d, m4 := e, m5 := f : Mac }, time := t : Sight } = [] ∧
                  (12 : Int) = putE ks k { src := s, mac := { m0 := a, m1 := b, m2 := c, m3 := d, m4 := e, m5 := f : Mac }, time := t : Sight }) ∧
              ((decide (s < (0 : Int)) || decide (s ≥ (4 : Int))) = false →
                ((ks.length < (4611686018427387904 : Nat) ∧ ∀ (i j : Nat), i < j → j < ks.length → (getK ks i).addr < (getK ks j).addr) ∧ ∀ (x : Known), x ∈ ks → x.seen.length * (24 : Nat) ≤ (140737488355328 : Nat)) ∧
                  ∀ (v_2 : Int),
                    v_2 = lastT ks k →
                      (decide (t < mx (0 : Int) v_2) = true →
                          putL ks k { src := s, mac := { m0 := a, m1 := b, m2 := c, m3 := d, m4 := e, m5 := f : Mac }, time := t : Sight } = [] ∧
                            (3 : Int) = putE ks k { src := s, mac := { m0 := a, m1 := b, m2 := c, m3 := d, m4 := e, m5 := f : Mac }, time := t : Sight }) ∧
                        (decide (t < mx (0 : Int) v_2) = false →
                          ((!v && decide ((↑ks.length : Int) ≥ (96 : Int))) = true →
                              putL ks k { src := s, mac := { m0 := a, m1 := b, m2 := c, m3 := d, m4 := e, m5 := f : Mac }, time := t : Sight } = [] ∧
                                (4 : Int) = putE ks k { src := s, mac := { m0 := a, m1 := b, m2 := c, m3 := d, m4 := e, m5 := f : Mac }, time := t : Sight }) ∧
                            ((!v && decide ((↑ks.length : Int) ≥ (96 : Int))) = false →
                              ks.length * (32 : Nat) ≤ (140737488355328 : Nat) ∧
                                ∀ (v_3 : List Known),
                                  v_3 = ks →
                                    (v = true →
                                        ((0 : Int) ≤ v_1 ∧ v_1 < (↑v_3.length : Int)) ∧
                                          ((v_3.getD v_1.toNat (u.dflt (53 : Nat))).seen.length + (1 : Nat)) * (24 : Nat) ≤ (140737488355328 : Nat) ∧
                                            ((0 : Int) ≤ v_1 ∧ v_1 < (↑v_3.length : Int)) ∧
                                              v_3.set v_1.toNat
                                                    { addr := (v_3.getD v_1.toNat (u.dflt (53 : Nat))).addr,
                                                      seen := keepL (v_3.getD v_1.toNat (u.dflt (53 : Nat))).seen { src := s, mac := { m0 := a, m1 := b, m2 := c, m3 := d, m4 := e, m5 := f : Mac }, time := t : Sight } :
                                                      Known } =
                                                  putL ks k { src := s, mac := { m0 := a, m1 := b, m2 := c, m3 := d, m4 := e, m5 := f : Mac }, time := t : Sight } ∧
                                                (0 : Int) = putE ks k { src := s, mac := { m0 := a, m1 := b, m2 := c, m3 := d, m4 := e, m5 := f : Mac }, time := t : Sight }) ∧
                                      (v = false →
                                        (v_3.length + (1 : Nat)) * (32 : Nat) ≤ (140737488355328 : Nat) ∧
                                          ((0 : Int) ≤ IntKind.i64.wrap (v_1 + (1 : Int)) ∧
                                              IntKind.i64.wrap (v_1 + (1 : Int)) ≤ (↑(v_3 ++ [{ addr := (0 : Int), seen := [] : Known }]).length : Int) ∧
                                                (↑(v_3 ++ [{ addr := (0 : Int), seen := [] : Known }]).length : Int) ≤ (↑(v_3 ++ [{ addr := (0 : Int), seen := [] : Known }]).length : Int)) ∧
                                            ((0 : Int) ≤ v_1 ∧
                                                v_1 ≤ (↑(v_3 ++ [{ addr := (0 : Int), seen := [] : Known }]).length : Int) ∧
                                                  (↑(v_3 ++ [{ addr := (0 : Int), seen := [] : Known }]).length : Int) ≤ (↑(v_3 ++ [{ addr := (0 : Int), seen := [] : Known }]).length : Int)) ∧
                                              ((0 : Int) ≤ v_1 ∧
                                                  v_1 <
                                                    (↑(List.take ((0 : Nat) + (IntKind.i64.wrap (v_1 + (1 : Int))).toNat) (v_3 ++ [{ addr := (0 : Int), seen := [] : Known }]) ++
                                                              List.take ((↑(v_3 ++ [{ addr := (0 : Int), seen := [] : Known }]).length : Int).toNat - (IntKind.i64.wrap (v_1 + (1 : Int))).toNat)
                                                                (List.take ((↑(v_3 ++ [{ addr := (0 : Int), seen := [] : Known }]).length : Int).toNat - v_1.toNat)
                                                                  (List.drop ((0 : Nat) + v_1.toNat) (v_3 ++ [{ addr := (0 : Int), seen := [] : Known }]))) ++
                                                            List.drop
                                                              ((0 : Nat) + (IntKind.i64.wrap (v_1 + (1 : Int))).toNat +
                                                                min
                                                                  (List.take ((↑(v_3 ++ [{ addr := (0 : Int), seen := [] : Known }]).length : Int).toNat - v_1.toNat)
                                                                      (List.drop ((0 : Nat) + v_1.toNat) (v_3 ++ [{ addr := (0 : Int), seen := [] : Known }]))).length
                                                                  ((↑(v_3 ++ [{ addr := (0 : Int), seen := [] : Known }]).length : Int).toNat - (IntKind.i64.wrap (v_1 + (1 : Int))).toNat))
                                                              (v_3 ++ [{ addr := (0 : Int), seen := [] : Known }])).length :
                                                      Int)) ∧
                                                (List.take ((0 : Nat) + (IntKind.i64.wrap (v_1 + (1 : Int))).toNat) (v_3 ++ [{ addr := (0 : Int), seen := [] : Known }]) ++
                                                            List.take ((↑(v_3 ++ [{ addr := (0 : Int), seen := [] : Known }]).length : Int).toNat - (IntKind.i64.wrap (v_1 + (1 : Int))).toNat)
                                                              (List.take ((↑(v_3 ++ [{ addr := (0 : Int), seen := [] : Known }]).length : Int).toNat - v_1.toNat)
                                                                (List.drop ((0 : Nat) + v_1.toNat) (v_3 ++ [{ addr := (0 : Int), seen := [] : Known }]))) ++
                                                          List.drop
                                                            ((0 : Nat) + (IntKind.i64.wrap (v_1 + (1 : Int))).toNat +
                                                              min
                                                                (List.take ((↑(v_3 ++ [{ addr := (0 : Int), seen := [] : Known }]).length : Int).toNat - v_1.toNat)
                                                                    (List.drop ((0 : Nat) + v_1.toNat) (v_3 ++ [{ addr := (0 : Int), seen := [] : Known }]))).length
                                                                ((↑(v_3 ++ [{ addr := (0 : Int), seen := [] : Known }]).length : Int).toNat - (IntKind.i64.wrap (v_1 + (1 : Int))).toNat))
                                                            (v_3 ++ [{ addr := (0 : Int), seen := [] : Known }])).set
                                                      v_1.toNat { addr := k, seen := [{ src := s, mac := { m0 := a, m1 := b, m2 := c, m3 := d, m4 := e, m5 := f : Mac }, time := t : Sight }] : Known } =
                                                    putL ks k { src := s, mac := { m0 := a, m1 := b, m2 := c, m3 := d, m4 := e, m5 := f : Mac }, time := t : Sight } ∧
                                                  (0 : Int) = putE ks k { src := s, mac := { m0 := a, m1 := b, m2 := c, m3 := d, m4 := e, m5 := f : Mac }, time := t : Sight }))))


end Go.Proofs.Ytcgeccpookgoeaa.Seen
