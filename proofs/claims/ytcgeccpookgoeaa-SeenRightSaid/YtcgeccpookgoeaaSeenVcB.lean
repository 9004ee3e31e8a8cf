/- Sightings: what the laws' own pieces come to (printed by wip/Vc.lean; checked by the kernel in the next text). -/
import Derived.Test.YtcgeccpookgoeaaSeenMath
namespace Go.Proofs.Ytcgeccpookgoeaa.Seen
open Go Go.Proofs.Ytcgeccpookgoeaa.Sx

def vcAwake : Prop :=
  ((0 : Nat) ≤ (1000 : Nat) ∧ (∀ (x : Known), x ∈ [] → x.seen.length ≤ (1000 : Nat)) ∧ ∀ (i j : Nat), i < j → j < (0 : Nat) → (getK [] i).addr < (getK [] j).addr) ∧
  ((1 : Nat) ≤ (1000 : Nat) ∧
      (∀ (x : Known),
          x ∈ putL [] (5 : Int) { src := (1 : Int), mac := { m0 := (0 : Int), m1 := (0 : Int), m2 := (0 : Int), m3 := (0 : Int), m4 := (0 : Int), m5 := (0 : Int) : Mac }, time := (3 : Int) : Sight } →
            x.seen.length ≤ (1000 : Nat)) ∧
        ∀ (i j : Nat),
          i < j →
            j < (1 : Nat) →
              (getK (putL [] (5 : Int) { src := (1 : Int), mac := { m0 := (0 : Int), m1 := (0 : Int), m2 := (0 : Int), m3 := (0 : Int), m4 := (0 : Int), m5 := (0 : Int) : Mac }, time := (3 : Int) : Sight }) i).addr <
                (getK (putL [] (5 : Int) { src := (1 : Int), mac := { m0 := (0 : Int), m1 := (0 : Int), m2 := (0 : Int), m3 := (0 : Int), m4 := (0 : Int), m5 := (0 : Int) : Mac }, time := (3 : Int) : Sight }) j).addr) ∧
    (((1 : Nat) < (4611686018427387904 : Nat) ∧
          ∀ (i j : Nat),
            i < j →
              j < (1 : Nat) →
                (getK (putL [] (5 : Int) { src := (1 : Int), mac := { m0 := (0 : Int), m1 := (0 : Int), m2 := (0 : Int), m3 := (0 : Int), m4 := (0 : Int), m5 := (0 : Int) : Mac }, time := (3 : Int) : Sight }) i).addr <
                  (getK (putL [] (5 : Int) { src := (1 : Int), mac := { m0 := (0 : Int), m1 := (0 : Int), m2 := (0 : Int), m3 := (0 : Int), m4 := (0 : Int), m5 := (0 : Int) : Mac }, time := (3 : Int) : Sight })
                      j).addr) ∧
        ∀ (x : Known),
          x ∈ putL [] (5 : Int) { src := (1 : Int), mac := { m0 := (0 : Int), m1 := (0 : Int), m2 := (0 : Int), m3 := (0 : Int), m4 := (0 : Int), m5 := (0 : Int) : Mac }, time := (3 : Int) : Sight } →
            x.seen.length * (24 : Nat) ≤ (140737488355328 : Nat)) ∧
      (((0 : Int) == (0 : Int) && (3 : Int) == (3 : Int) && (3 : Int) == (3 : Int) &&
              lastB (putL [] (5 : Int) { src := (1 : Int), mac := { m0 := (0 : Int), m1 := (0 : Int), m2 := (0 : Int), m3 := (0 : Int), m4 := (0 : Int), m5 := (0 : Int) : Mac }, time := (3 : Int) : Sight }) (5 : Int)) =
            true →
          ((1 : Nat) < (4611686018427387904 : Nat) ∧
              ∀ (i j : Nat),
                i < j →
                  j < (1 : Nat) →
                    (getK (putL [] (5 : Int) { src := (1 : Int), mac := { m0 := (0 : Int), m1 := (0 : Int), m2 := (0 : Int), m3 := (0 : Int), m4 := (0 : Int), m5 := (0 : Int) : Mac }, time := (3 : Int) : Sight })
                          i).addr <
                      (getK (putL [] (5 : Int) { src := (1 : Int), mac := { m0 := (0 : Int), m1 := (0 : Int), m2 := (0 : Int), m3 := (0 : Int), m4 := (0 : Int), m5 := (0 : Int) : Mac }, time := (3 : Int) : Sight })
                          j).addr) ∧
            ∀ (x : Known),
              x ∈ putL [] (5 : Int) { src := (1 : Int), mac := { m0 := (0 : Int), m1 := (0 : Int), m2 := (0 : Int), m3 := (0 : Int), m4 := (0 : Int), m5 := (0 : Int) : Mac }, time := (3 : Int) : Sight } →
                x.seen.length * (24 : Nat) ≤ (140737488355328 : Nat)) ∧
        (((0 : Int) == (0 : Int) && (3 : Int) == (3 : Int) && (3 : Int) == (3 : Int) &&
                  lastB (putL [] (5 : Int) { src := (1 : Int), mac := { m0 := (0 : Int), m1 := (0 : Int), m2 := (0 : Int), m3 := (0 : Int), m4 := (0 : Int), m5 := (0 : Int) : Mac }, time := (3 : Int) : Sight })
                    (5 : Int) &&
                (1 : Int) == (1 : Int)) =
              true →
            (1 : Nat) < (9223372036854775808 : Nat) ∧
              ∀ (x : Known),
                x ∈ putL [] (5 : Int) { src := (1 : Int), mac := { m0 := (0 : Int), m1 := (0 : Int), m2 := (0 : Int), m3 := (0 : Int), m4 := (0 : Int), m5 := (0 : Int) : Mac }, time := (3 : Int) : Sight } →
                  x.seen.length < (9223372036854775808 : Nat)) ∧
          ((0 : Int) == (0 : Int) && (3 : Int) == (3 : Int) && (3 : Int) == (3 : Int) &&
                  lastB (putL [] (5 : Int) { src := (1 : Int), mac := { m0 := (0 : Int), m1 := (0 : Int), m2 := (0 : Int), m3 := (0 : Int), m4 := (0 : Int), m5 := (0 : Int) : Mac }, time := (3 : Int) : Sight })
                    (5 : Int) &&
                (1 : Int) == (1 : Int) &&
              rightB (putL [] (5 : Int) { src := (1 : Int), mac := { m0 := (0 : Int), m1 := (0 : Int), m2 := (0 : Int), m3 := (0 : Int), m4 := (0 : Int), m5 := (0 : Int) : Mac }, time := (3 : Int) : Sight })) =
            true

def vcSome : List Act → Prop :=
  fun (xs : List Act) =>
  ((0 : Int) ≤ (0 : Int) ∧ (0 : Int) ≤ mn (↑xs.length : Int) (120 : Int) ∧ mn (↑xs.length : Int) (120 : Int) ≤ (↑xs.length : Int)) ∧
    (∃ (g : Nat),
        g.le (headS xs (120 : Int)).length ∧
          List.drop (0 : Nat) (List.take (mn (↑xs.length : Int) (120 : Int)).toNat xs) = List.drop (0 : Nat) (List.take (mn (↑xs.length : Int) (120 : Int)).toNat xs) ∧
            (↑(List.drop (0 : Nat) (List.take (mn (↑xs.length : Int) (120 : Int)).toNat xs)).length : Int) = (↑(List.drop (0 : Nat) (List.take (mn (↑xs.length : Int) (120 : Int)).toNat xs)).length : Int) ∧
              (0 : Int) = (↑g : Int) ∧ (someAt (headS xs (120 : Int)) g).fst = [] ∧ (0 : Int) = (someAt (headS xs (120 : Int)) g).snd) ∧
      ∀ (g : Nat),
        g.le (headS xs (120 : Int)).length →
          (decide ((↑g : Int) < (↑(List.drop (0 : Nat) (List.take (mn (↑xs.length : Int) (120 : Int)).toNat xs)).length : Int)) = true →
              ((0 : Int) ≤ (↑g : Int) ∧ (↑g : Int) < (↑(List.drop (0 : Nat) (List.take (mn (↑xs.length : Int) (120 : Int)).toNat xs)).length : Int)) ∧
                (8 : Int) ≠ (0 : Int) ∧
                  ∀ (v : Int),
                    v =
                        IntKind.i64.wrap
                          ((someAt (headS xs (120 : Int)) g).snd +
                            IntKind.i64.wrap (((List.drop (0 : Nat) (List.take (mn (↑xs.length : Int) (120 : Int)).toNat xs)).getD (↑g : Int).toNat (u.dflt (28 : Nat))).later.tmod (8 : Int))) →
                      ((someAt (headS xs (120 : Int)) g).fst.length ≤ (1000 : Nat) ∧
                          (∀ (x : Known), x ∈ (someAt (headS xs (120 : Int)) g).fst → x.seen.length ≤ (1000 : Nat)) ∧
                            ∀ (i j : Nat), i < j → j < (someAt (headS xs (120 : Int)) g).fst.length → (getK (someAt (headS xs (120 : Int)) g).fst i).addr < (getK (someAt (headS xs (120 : Int)) g).fst j).addr) ∧
                        ((putE (someAt (headS xs (120 : Int)) g).fst (nearA ((List.drop (0 : Nat) (List.take (mn (↑xs.length : Int) (120 : Int)).toNat xs)).getD (↑g : Int).toNat (u.dflt (28 : Nat))).addr)
                                  {
                                    src :=
                                      (sightA
                                          { addr := ((List.drop (0 : Nat) (List.take (mn (↑xs.length : Int) (120 : Int)).toNat xs)).getD (↑g : Int).toNat (u.dflt (28 : Nat))).addr,
                                            src := ((List.drop (0 : Nat) (List.take (mn (↑xs.length : Int) (120 : Int)).toNat xs)).getD (↑g : Int).toNat (u.dflt (28 : Nat))).src,
                                            who := ((List.drop (0 : Nat) (List.take (mn (↑xs.length : Int) (120 : Int)).toNat xs)).getD (↑g : Int).toNat (u.dflt (28 : Nat))).who,
                                            later := ((List.drop (0 : Nat) (List.take (mn (↑xs.length : Int) (120 : Int)).toNat xs)).getD (↑g : Int).toNat (u.dflt (28 : Nat))).later : Act }
                                          v).src,
                                    mac :=
                                      {
                                        m0 :=
                                          (sightA
                                                { addr := ((List.drop (0 : Nat) (List.take (mn (↑xs.length : Int) (120 : Int)).toNat xs)).getD (↑g : Int).toNat (u.dflt (28 : Nat))).addr,
                                                  src := ((List.drop (0 : Nat) (List.take (mn (↑xs.length : Int) (120 : Int)).toNat xs)).getD (↑g : Int).toNat (u.dflt (28 : Nat))).src,
                                                  who := ((List.drop (0 : Nat) (List.take (mn (↑xs.length : Int) (120 : Int)).toNat xs)).getD (↑g : Int).toNat (u.dflt (28 : Nat))).who,
                                                  later := ((List.drop (0 : Nat) (List.take (mn (↑xs.length : Int) (120 : Int)).toNat xs)).getD (↑g : Int).toNat (u.dflt (28 : Nat))).later : Act }
                                                v).mac.m0,
                                        m1 :=
                                          (sightA
                                                { addr := ((List.drop (0 : Nat) (List.take (mn (↑xs.length : Int) (120 : Int)).toNat xs)).getD (↑g : Int).toNat (u.dflt (28 : Nat))).addr,
                                                  src := ((List.drop (0 : Nat) (List.take (mn (↑xs.length : Int) (120 : Int)).toNat xs)).getD (↑g : Int).toNat (u.dflt (28 : Nat))).src,
                                                  who := ((List.drop (0 : Nat) (List.take (mn (↑xs.length : Int) (120 : Int)).toNat xs)).getD (↑g : Int).toNat (u.dflt (28 : Nat))).who,
                                                  later := ((List.drop (0 : Nat) (List.take (mn (↑xs.length : Int) (120 : Int)).toNat xs)).getD (↑g : Int).toNat (u.dflt (28 : Nat))).later : Act }
                                                v).mac.m1,
                                        m2 :=
                                          (sightA
                                                { addr := ((List.drop (0 : Nat) (List.take (mn (↑xs.length : Int) (120 : Int)).toNat xs)).getD (↑g : Int).toNat (u.dflt (28 : Nat))).addr,
                                                  src := ((List.drop (0 : Nat) (List.take (mn (↑xs.length : Int) (120 : Int)).toNat xs)).getD (↑g : Int).toNat (u.dflt (28 : Nat))).src,
                                                  who := ((List.drop (0 : Nat) (List.take (mn (↑xs.length : Int) (120 : Int)).toNat xs)).getD (↑g : Int).toNat (u.dflt (28 : Nat))).who,
                                                  later := ((List.drop (0 : Nat) (List.take (mn (↑xs.length : Int) (120 : Int)).toNat xs)).getD (↑g : Int).toNat (u.dflt (28 : Nat))).later : Act }
                                                v).mac.m2,
                                        m3 :=
                                          (sightA
                                                { addr := ((List.drop (0 : Nat) (List.take (mn (↑xs.length : Int) (120 : Int)).toNat xs)).getD (↑g : Int).toNat (u.dflt (28 : Nat))).addr,
                                                  src := ((List.drop (0 : Nat) (List.take (mn (↑xs.length : Int) (120 : Int)).toNat xs)).getD (↑g : Int).toNat (u.dflt (28 : Nat))).src,
                                                  who := ((List.drop (0 : Nat) (List.take (mn (↑xs.length : Int) (120 : Int)).toNat xs)).getD (↑g : Int).toNat (u.dflt (28 : Nat))).who,
                                                  later := ((List.drop (0 : Nat) (List.take (mn (↑xs.length : Int) (120 : Int)).toNat xs)).getD (↑g : Int).toNat (u.dflt (28 : Nat))).later : Act }
                                                v).mac.m3,
                                        m4 :=
                                          (sightA
                                                { addr := ((List.drop (0 : Nat) (List.take (mn (↑xs.length : Int) (120 : Int)).toNat xs)).getD (↑g : Int).toNat (u.dflt (28 : Nat))).addr,
                                                  src := ((List.drop (0 : Nat) (List.take (mn (↑xs.length : Int) (120 : Int)).toNat xs)).getD (↑g : Int).toNat (u.dflt (28 : Nat))).src,
                                                  who := ((List.drop (0 : Nat) (List.take (mn (↑xs.length : Int) (120 : Int)).toNat xs)).getD (↑g : Int).toNat (u.dflt (28 : Nat))).who,
                                                  later := ((List.drop (0 : Nat) (List.take (mn (↑xs.length : Int) (120 : Int)).toNat xs)).getD (↑g : Int).toNat (u.dflt (28 : Nat))).later : Act }
                                                v).mac.m4,
                                        m5 :=
                                          (sightA
                                                { addr := ((List.drop (0 : Nat) (List.take (mn (↑xs.length : Int) (120 : Int)).toNat xs)).getD (↑g : Int).toNat (u.dflt (28 : Nat))).addr,
                                                  src := ((List.drop (0 : Nat) (List.take (mn (↑xs.length : Int) (120 : Int)).toNat xs)).getD (↑g : Int).toNat (u.dflt (28 : Nat))).src,
                                                  who := ((List.drop (0 : Nat) (List.take (mn (↑xs.length : Int) (120 : Int)).toNat xs)).getD (↑g : Int).toNat (u.dflt (28 : Nat))).who,
                                                  later := ((List.drop (0 : Nat) (List.take (mn (↑xs.length : Int) (120 : Int)).toNat xs)).getD (↑g : Int).toNat (u.dflt (28 : Nat))).later : Act }
                                                v).mac.m5 :
                                        Mac },
                                    time :=
                                      (sightA
                                          { addr := ((List.drop (0 : Nat) (List.take (mn (↑xs.length : Int) (120 : Int)).toNat xs)).getD (↑g : Int).toNat (u.dflt (28 : Nat))).addr,
                                            src := ((List.drop (0 : Nat) (List.take (mn (↑xs.length : Int) (120 : Int)).toNat xs)).getD (↑g : Int).toNat (u.dflt (28 : Nat))).src,
                                            who := ((List.drop (0 : Nat) (List.take (mn (↑xs.length : Int) (120 : Int)).toNat xs)).getD (↑g : Int).toNat (u.dflt (28 : Nat))).who,
                                            later := ((List.drop (0 : Nat) (List.take (mn (↑xs.length : Int) (120 : Int)).toNat xs)).getD (↑g : Int).toNat (u.dflt (28 : Nat))).later : Act }
                                          v).time :
                                    Sight } ==
                                (0 : Int)) =
                              true →
                            True) ∧
                          ((putE (someAt (headS xs (120 : Int)) g).fst (nearA ((List.drop (0 : Nat) (List.take (mn (↑xs.length : Int) (120 : Int)).toNat xs)).getD (↑g : Int).toNat (u.dflt (28 : Nat))).addr)
                                    {
                                      src :=
                                        (sightA
                                            { addr := ((List.drop (0 : Nat) (List.take (mn (↑xs.length : Int) (120 : Int)).toNat xs)).getD (↑g : Int).toNat (u.dflt (28 : Nat))).addr,
                                              src := ((List.drop (0 : Nat) (List.take (mn (↑xs.length : Int) (120 : Int)).toNat xs)).getD (↑g : Int).toNat (u.dflt (28 : Nat))).src,
                                              who := ((List.drop (0 : Nat) (List.take (mn (↑xs.length : Int) (120 : Int)).toNat xs)).getD (↑g : Int).toNat (u.dflt (28 : Nat))).who,
                                              later := ((List.drop (0 : Nat) (List.take (mn (↑xs.length : Int) (120 : Int)).toNat xs)).getD (↑g : Int).toNat (u.dflt (28 : Nat))).later : Act }
                                            v).src,
                                      mac :=
                                        {
                                          m0 :=
                                            (sightA
                                                  { addr := ((List.drop (0 : Nat) (List.take (mn (↑xs.length : Int) (120 : Int)).toNat xs)).getD (↑g : Int).toNat (u.dflt (28 : Nat))).addr,
                                                    src := ((List.drop (0 : Nat) (List.take (mn (↑xs.length : Int) (120 : Int)).toNat xs)).getD (↑g : Int).toNat (u.dflt (28 : Nat))).src,
                                                    who := ((List.drop (0 : Nat) (List.take (mn (↑xs.length : Int) (120 : Int)).toNat xs)).getD (↑g : Int).toNat (u.dflt (28 : Nat))).who,
                                                    later := ((List.drop (0 : Nat) (List.take (mn (↑xs.length : Int) (120 : Int)).toNat xs)).getD (↑g : Int).toNat (u.dflt (28 : Nat))).later : Act }
                                                  v).mac.m0,
                                          m1 :=
                                            (sightA
                                                  { addr := ((List.drop (0 : Nat) (List.take (mn (↑xs.length : Int) (120 : Int)).toNat xs)).getD (↑g : Int).toNat (u.dflt (28 : Nat))).addr,
                                                    src := ((List.drop (0 : Nat) (List.take (mn (↑xs.length : Int) (120 : Int)).toNat xs)).getD (↑g : Int).toNat (u.dflt (28 : Nat))).src,
                                                    who := ((List.drop (0 : Nat) (List.take (mn (↑xs.length : Int) (120 : Int)).toNat xs)).getD (↑g : Int).toNat (u.dflt (28 : Nat))).who,
                                                    later := ((List.drop (0 : Nat) (List.take (mn (↑xs.length : Int) (120 : Int)).toNat xs)).getD (↑g : Int).toNat (u.dflt (28 : Nat))).later : Act }
                                                  v).mac.m1,
                                          m2 :=
                                            (sightA
                                                  { addr := ((List.drop (0 : Nat) (List.take (mn (↑xs.length : Int) (120 : Int)).toNat xs)).getD (↑g : Int).toNat (u.dflt (28 : Nat))).addr,
                                                    src := ((List.drop (0 : Nat) (List.take (mn (↑xs.length : Int) (120 : Int)).toNat xs)).getD (↑g : Int).toNat (u.dflt (28 : Nat))).src,
                                                    who := ((List.drop (0 : Nat) (List.take (mn (↑xs.length : Int) (120 : Int)).toNat xs)).getD (↑g : Int).toNat (u.dflt (28 : Nat))).who,
                                                    later := ((List.drop (0 : Nat) (List.take (mn (↑xs.length : Int) (120 : Int)).toNat xs)).getD (↑g : Int).toNat (u.dflt (28 : Nat))).later : Act }
                                                  v).mac.m2,
                                          m3 :=
                                            (sightA
                                                  { addr := ((List.drop (0 : Nat) (List.take (mn (↑xs.length : Int) (120 : Int)).toNat xs)).getD (↑g : Int).toNat (u.dflt (28 : Nat))).addr,
                                                    src := ((List.drop (0 : Nat) (List.take (mn (↑xs.length : Int) (120 : Int)).toNat xs)).getD (↑g : Int).toNat (u.dflt (28 : Nat))).src,
                                                    who := ((List.drop (0 : Nat) (List.take (mn (↑xs.length : Int) (120 : Int)).toNat xs)).getD (↑g : Int).toNat (u.dflt (28 : Nat))).who,
                                                    later := ((List.drop (0 : Nat) (List.take (mn (↑xs.length : Int) (120 : Int)).toNat xs)).getD (↑g : Int).toNat (u.dflt (28 : Nat))).later : Act }
                                                  v).mac.m3,
                                          m4 :=
                                            (sightA
                                                  { addr := ((List.drop (0 : Nat) (List.take (mn (↑xs.length : Int) (120 : Int)).toNat xs)).getD (↑g : Int).toNat (u.dflt (28 : Nat))).addr,
                                                    src := ((List.drop (0 : Nat) (List.take (mn (↑xs.length : Int) (120 : Int)).toNat xs)).getD (↑g : Int).toNat (u.dflt (28 : Nat))).src,
                                                    who := ((List.drop (0 : Nat) (List.take (mn (↑xs.length : Int) (120 : Int)).toNat xs)).getD (↑g : Int).toNat (u.dflt (28 : Nat))).who,
                                                    later := ((List.drop (0 : Nat) (List.take (mn (↑xs.length : Int) (120 : Int)).toNat xs)).getD (↑g : Int).toNat (u.dflt (28 : Nat))).later : Act }
                                                  v).mac.m4,
                                          m5 :=
                                            (sightA
                                                  { addr := ((List.drop (0 : Nat) (List.take (mn (↑xs.length : Int) (120 : Int)).toNat xs)).getD (↑g : Int).toNat (u.dflt (28 : Nat))).addr,
                                                    src := ((List.drop (0 : Nat) (List.take (mn (↑xs.length : Int) (120 : Int)).toNat xs)).getD (↑g : Int).toNat (u.dflt (28 : Nat))).src,
                                                    who := ((List.drop (0 : Nat) (List.take (mn (↑xs.length : Int) (120 : Int)).toNat xs)).getD (↑g : Int).toNat (u.dflt (28 : Nat))).who,
                                                    later := ((List.drop (0 : Nat) (List.take (mn (↑xs.length : Int) (120 : Int)).toNat xs)).getD (↑g : Int).toNat (u.dflt (28 : Nat))).later : Act }
                                                  v).mac.m5 :
                                          Mac },
                                      time :=
                                        (sightA
                                            { addr := ((List.drop (0 : Nat) (List.take (mn (↑xs.length : Int) (120 : Int)).toNat xs)).getD (↑g : Int).toNat (u.dflt (28 : Nat))).addr,
                                              src := ((List.drop (0 : Nat) (List.take (mn (↑xs.length : Int) (120 : Int)).toNat xs)).getD (↑g : Int).toNat (u.dflt (28 : Nat))).src,
                                              who := ((List.drop (0 : Nat) (List.take (mn (↑xs.length : Int) (120 : Int)).toNat xs)).getD (↑g : Int).toNat (u.dflt (28 : Nat))).who,
                                              later := ((List.drop (0 : Nat) (List.take (mn (↑xs.length : Int) (120 : Int)).toNat xs)).getD (↑g : Int).toNat (u.dflt (28 : Nat))).later : Act }
                                            v).time :
                                      Sight } ==
                                  (0 : Int)) =
                                false →
                              True) ∧
                            ∀ (v_1 : List Known),
                              (v_1 =
                                  if
                                      (putE (someAt (headS xs (120 : Int)) g).fst (nearA ((List.drop (0 : Nat) (List.take (mn (↑xs.length : Int) (120 : Int)).toNat xs)).getD (↑g : Int).toNat (u.dflt (28 : Nat))).addr)
                                            {
                                              src :=
                                                (sightA
                                                    { addr := ((List.drop (0 : Nat) (List.take (mn (↑xs.length : Int) (120 : Int)).toNat xs)).getD (↑g : Int).toNat (u.dflt (28 : Nat))).addr,
                                                      src := ((List.drop (0 : Nat) (List.take (mn (↑xs.length : Int) (120 : Int)).toNat xs)).getD (↑g : Int).toNat (u.dflt (28 : Nat))).src,
                                                      who := ((List.drop (0 : Nat) (List.take (mn (↑xs.length : Int) (120 : Int)).toNat xs)).getD (↑g : Int).toNat (u.dflt (28 : Nat))).who,
                                                      later := ((List.drop (0 : Nat) (List.take (mn (↑xs.length : Int) (120 : Int)).toNat xs)).getD (↑g : Int).toNat (u.dflt (28 : Nat))).later : Act }
                                                    v).src,
                                              mac :=
                                                {
                                                  m0 :=
                                                    (sightA
                                                          { addr := ((List.drop (0 : Nat) (List.take (mn (↑xs.length : Int) (120 : Int)).toNat xs)).getD (↑g : Int).toNat (u.dflt (28 : Nat))).addr,
                                                            src := ((List.drop (0 : Nat) (List.take (mn (↑xs.length : Int) (120 : Int)).toNat xs)).getD (↑g : Int).toNat (u.dflt (28 : Nat))).src,
                                                            who := ((List.drop (0 : Nat) (List.take (mn (↑xs.length : Int) (120 : Int)).toNat xs)).getD (↑g : Int).toNat (u.dflt (28 : Nat))).who,
                                                            later := ((List.drop (0 : Nat) (List.take (mn (↑xs.length : Int) (120 : Int)).toNat xs)).getD (↑g : Int).toNat (u.dflt (28 : Nat))).later : Act }
                                                          v).mac.m0,
                                                  m1 :=
                                                    (sightA
                                                          { addr := ((List.drop (0 : Nat) (List.take (mn (↑xs.length : Int) (120 : Int)).toNat xs)).getD (↑g : Int).toNat (u.dflt (28 : Nat))).addr,
                                                            src := ((List.drop (0 : Nat) (List.take (mn (↑xs.length : Int) (120 : Int)).toNat xs)).getD (↑g : Int).toNat (u.dflt (28 : Nat))).src,
                                                            who := ((List.drop (0 : Nat) (List.take (mn (↑xs.length : Int) (120 : Int)).toNat xs)).getD (↑g : Int).toNat (u.dflt (28 : Nat))).who,
                                                            later := ((List.drop (0 : Nat) (List.take (mn (↑xs.length : Int) (120 : Int)).toNat xs)).getD (↑g : Int).toNat (u.dflt (28 : Nat))).later : Act }
                                                          v).mac.m1,
                                                  m2 :=
                                                    (sightA
                                                          { addr := ((List.drop (0 : Nat) (List.take (mn (↑xs.length : Int) (120 : Int)).toNat xs)).getD (↑g : Int).toNat (u.dflt (28 : Nat))).addr,
                                                            src := ((List.drop (0 : Nat) (List.take (mn (↑xs.length : Int) (120 : Int)).toNat xs)).getD (↑g : Int).toNat (u.dflt (28 : Nat))).src,
                                                            who := ((List.drop (0 : Nat) (List.take (mn (↑xs.length : Int) (120 : Int)).toNat xs)).getD (↑g : Int).toNat (u.dflt (28 : Nat))).who,
                                                            later := ((List.drop (0 : Nat) (List.take (mn (↑xs.length : Int) (120 : Int)).toNat xs)).getD (↑g : Int).toNat (u.dflt (28 : Nat))).later : Act }
                                                          v).mac.m2,
                                                  m3 :=
                                                    (sightA
                                                          { addr := ((List.drop (0 : Nat) (List.take (mn (↑xs.length : Int) (120 : Int)).toNat xs)).getD (↑g : Int).toNat (u.dflt (28 : Nat))).addr,
                                                            src := ((List.drop (0 : Nat) (List.take (mn (↑xs.length : Int) (120 : Int)).toNat xs)).getD (↑g : Int).toNat (u.dflt (28 : Nat))).src,
                                                            who := ((List.drop (0 : Nat) (List.take (mn (↑xs.length : Int) (120 : Int)).toNat xs)).getD (↑g : Int).toNat (u.dflt (28 : Nat))).who,
                                                            later := ((List.drop (0 : Nat) (List.take (mn (↑xs.length : Int) (120 : Int)).toNat xs)).getD (↑g : Int).toNat (u.dflt (28 : Nat))).later : Act }
                                                          v).mac.m3,
                                                  m4 :=
                                                    (sightA
                                                          { addr := ((List.drop (0 : Nat) (List.take (mn (↑xs.length : Int) (120 : Int)).toNat xs)).getD (↑g : Int).toNat (u.dflt (28 : Nat))).addr,
                                                            src := ((List.drop (0 : Nat) (List.take (mn (↑xs.length : Int) (120 : Int)).toNat xs)).getD (↑g : Int).toNat (u.dflt (28 : Nat))).src,
                                                            who := ((List.drop (0 : Nat) (List.take (mn (↑xs.length : Int) (120 : Int)).toNat xs)).getD (↑g : Int).toNat (u.dflt (28 : Nat))).who,
                                                            later := ((List.drop (0 : Nat) (List.take (mn (↑xs.length : Int) (120 : Int)).toNat xs)).getD (↑g : Int).toNat (u.dflt (28 : Nat))).later : Act }
                                                          v).mac.m4,
                                                  m5 :=
                                                    (sightA
                                                          { addr := ((List.drop (0 : Nat) (List.take (mn (↑xs.length : Int) (120 : Int)).toNat xs)).getD (↑g : Int).toNat (u.dflt (28 : Nat))).addr,
                                                            src := ((List.drop (0 : Nat) (List.take (mn (↑xs.length : Int) (120 : Int)).toNat xs)).getD (↑g : Int).toNat (u.dflt (28 : Nat))).src,
                                                            who := ((List.drop (0 : Nat) (List.take (mn (↑xs.length : Int) (120 : Int)).toNat xs)).getD (↑g : Int).toNat (u.dflt (28 : Nat))).who,
                                                            later := ((List.drop (0 : Nat) (List.take (mn (↑xs.length : Int) (120 : Int)).toNat xs)).getD (↑g : Int).toNat (u.dflt (28 : Nat))).later : Act }
                                                          v).mac.m5 :
                                                  Mac },
                                              time :=
                                                (sightA
                                                    { addr := ((List.drop (0 : Nat) (List.take (mn (↑xs.length : Int) (120 : Int)).toNat xs)).getD (↑g : Int).toNat (u.dflt (28 : Nat))).addr,
                                                      src := ((List.drop (0 : Nat) (List.take (mn (↑xs.length : Int) (120 : Int)).toNat xs)).getD (↑g : Int).toNat (u.dflt (28 : Nat))).src,
                                                      who := ((List.drop (0 : Nat) (List.take (mn (↑xs.length : Int) (120 : Int)).toNat xs)).getD (↑g : Int).toNat (u.dflt (28 : Nat))).who,
                                                      later := ((List.drop (0 : Nat) (List.take (mn (↑xs.length : Int) (120 : Int)).toNat xs)).getD (↑g : Int).toNat (u.dflt (28 : Nat))).later : Act }
                                                    v).time :
                                              Sight } ==
                                          (0 : Int)) =
                                        true then
                                    putL (someAt (headS xs (120 : Int)) g).fst (nearA ((List.drop (0 : Nat) (List.take (mn (↑xs.length : Int) (120 : Int)).toNat xs)).getD (↑g : Int).toNat (u.dflt (28 : Nat))).addr)
                                      {
                                        src :=
                                          (sightA
                                              { addr := ((List.drop (0 : Nat) (List.take (mn (↑xs.length : Int) (120 : Int)).toNat xs)).getD (↑g : Int).toNat (u.dflt (28 : Nat))).addr,
                                                src := ((List.drop (0 : Nat) (List.take (mn (↑xs.length : Int) (120 : Int)).toNat xs)).getD (↑g : Int).toNat (u.dflt (28 : Nat))).src,
                                                who := ((List.drop (0 : Nat) (List.take (mn (↑xs.length : Int) (120 : Int)).toNat xs)).getD (↑g : Int).toNat (u.dflt (28 : Nat))).who,
                                                later := ((List.drop (0 : Nat) (List.take (mn (↑xs.length : Int) (120 : Int)).toNat xs)).getD (↑g : Int).toNat (u.dflt (28 : Nat))).later : Act }
                                              v).src,
                                        mac :=
                                          {
                                            m0 :=
                                              (sightA
                                                    { addr := ((List.drop (0 : Nat) (List.take (mn (↑xs.length : Int) (120 : Int)).toNat xs)).getD (↑g : Int).toNat (u.dflt (28 : Nat))).addr,
                                                      src := ((List.drop (0 : Nat) (List.take (mn (↑xs.length : Int) (120 : Int)).toNat xs)).getD (↑g : Int).toNat (u.dflt (28 : Nat))).src,
                                                      who := ((List.drop (0 : Nat) (List.take (mn (↑xs.length : Int) (120 : Int)).toNat xs)).getD (↑g : Int).toNat (u.dflt (28 : Nat))).who,
                                                      later := ((List.drop (0 : Nat) (List.take (mn (↑xs.length : Int) (120 : Int)).toNat xs)).getD (↑g : Int).toNat (u.dflt (28 : Nat))).later : Act }
                                                    v).mac.m0,
                                            m1 :=
                                              (sightA
                                                    { addr := ((List.drop (0 : Nat) (List.take (mn (↑xs.length : Int) (120 : Int)).toNat xs)).getD (↑g : Int).toNat (u.dflt (28 : Nat))).addr,
                                                      src := ((List.drop (0 : Nat) (List.take (mn (↑xs.length : Int) (120 : Int)).toNat xs)).getD (↑g : Int).toNat (u.dflt (28 : Nat))).src,
                                                      who := ((List.drop (0 : Nat) (List.take (mn (↑xs.length : Int) (120 : Int)).toNat xs)).getD (↑g : Int).toNat (u.dflt (28 : Nat))).who,
                                                      later := ((List.drop (0 : Nat) (List.take (mn (↑xs.length : Int) (120 : Int)).toNat xs)).getD (↑g : Int).toNat (u.dflt (28 : Nat))).later : Act }
                                                    v).mac.m1,
                                            m2 :=
                                              (sightA
                                                    { addr := ((List.drop (0 : Nat) (List.take (mn (↑xs.length : Int) (120 : Int)).toNat xs)).getD (↑g : Int).toNat (u.dflt (28 : Nat))).addr,
                                                      src := ((List.drop (0 : Nat) (List.take (mn (↑xs.length : Int) (120 : Int)).toNat xs)).getD (↑g : Int).toNat (u.dflt (28 : Nat))).src,
                                                      who := ((List.drop (0 : Nat) (List.take (mn (↑xs.length : Int) (120 : Int)).toNat xs)).getD (↑g : Int).toNat (u.dflt (28 : Nat))).who,
                                                      later := ((List.drop (0 : Nat) (List.take (mn (↑xs.length : Int) (120 : Int)).toNat xs)).getD (↑g : Int).toNat (u.dflt (28 : Nat))).later : Act }
                                                    v).mac.m2,
                                            m3 :=
                                              (sightA
                                                    { addr := ((List.drop (0 : Nat) (List.take (mn (↑xs.length : Int) (120 : Int)).toNat xs)).getD (↑g : Int).toNat (u.dflt (28 : Nat))).addr,
                                                      src := ((List.drop (0 : Nat) (List.take (mn (↑xs.length : Int) (120 : Int)).toNat xs)).getD (↑g : Int).toNat (u.dflt (28 : Nat))).src,
                                                      who := ((List.drop (0 : Nat) (List.take (mn (↑xs.length : Int) (120 : Int)).toNat xs)).getD (↑g : Int).toNat (u.dflt (28 : Nat))).who,
                                                      later := ((List.drop (0 : Nat) (List.take (mn (↑xs.length : Int) (120 : Int)).toNat xs)).getD (↑g : Int).toNat (u.dflt (28 : Nat))).later : Act }
                                                    v).mac.m3,
                                            m4 :=
                                              (sightA
                                                    { addr := ((List.drop (0 : Nat) (List.take (mn (↑xs.length : Int) (120 : Int)).toNat xs)).getD (↑g : Int).toNat (u.dflt (28 : Nat))).addr,
                                                      src := ((List.drop (0 : Nat) (List.take (mn (↑xs.length : Int) (120 : Int)).toNat xs)).getD (↑g : Int).toNat (u.dflt (28 : Nat))).src,
                                                      who := ((List.drop (0 : Nat) (List.take (mn (↑xs.length : Int) (120 : Int)).toNat xs)).getD (↑g : Int).toNat (u.dflt (28 : Nat))).who,
                                                      later := ((List.drop (0 : Nat) (List.take (mn (↑xs.length : Int) (120 : Int)).toNat xs)).getD (↑g : Int).toNat (u.dflt (28 : Nat))).later : Act }
                                                    v).mac.m4,
                                            m5 :=
                                              (sightA
                                                    { addr := ((List.drop (0 : Nat) (List.take (mn (↑xs.length : Int) (120 : Int)).toNat xs)).getD (↑g : Int).toNat (u.dflt (28 : Nat))).addr,
                                                      src := ((List.drop (0 : Nat) (List.take (mn (↑xs.length : Int) (120 : Int)).toNat xs)).getD (↑g : Int).toNat (u.dflt (28 : Nat))).src,
                                                      who := ((List.drop (0 : Nat) (List.take (mn (↑xs.length : Int) (120 : Int)).toNat xs)).getD (↑g : Int).toNat (u.dflt (28 : Nat))).who,
                                                      later := ((List.drop (0 : Nat) (List.take (mn (↑xs.length : Int) (120 : Int)).toNat xs)).getD (↑g : Int).toNat (u.dflt (28 : Nat))).later : Act }
                                                    v).mac.m5 :
                                            Mac },
                                        time :=
                                          (sightA
                                              { addr := ((List.drop (0 : Nat) (List.take (mn (↑xs.length : Int) (120 : Int)).toNat xs)).getD (↑g : Int).toNat (u.dflt (28 : Nat))).addr,
                                                src := ((List.drop (0 : Nat) (List.take (mn (↑xs.length : Int) (120 : Int)).toNat xs)).getD (↑g : Int).toNat (u.dflt (28 : Nat))).src,
                                                who := ((List.drop (0 : Nat) (List.take (mn (↑xs.length : Int) (120 : Int)).toNat xs)).getD (↑g : Int).toNat (u.dflt (28 : Nat))).who,
                                                later := ((List.drop (0 : Nat) (List.take (mn (↑xs.length : Int) (120 : Int)).toNat xs)).getD (↑g : Int).toNat (u.dflt (28 : Nat))).later : Act }
                                              v).time :
                                        Sight }
                                  else (someAt (headS xs (120 : Int)) g).fst) →
                                ∃ (g_1 : Nat),
                                  g_1.le (headS xs (120 : Int)).length ∧
                                    (annSome (headS xs (120 : Int))).μ g_1 < (annSome (headS xs (120 : Int))).μ g ∧
                                      List.drop (0 : Nat) (List.take (mn (↑xs.length : Int) (120 : Int)).toNat xs) = List.drop (0 : Nat) (List.take (mn (↑xs.length : Int) (120 : Int)).toNat xs) ∧
                                        (↑(List.drop (0 : Nat) (List.take (mn (↑xs.length : Int) (120 : Int)).toNat xs)).length : Int) =
                                            (↑(List.drop (0 : Nat) (List.take (mn (↑xs.length : Int) (120 : Int)).toNat xs)).length : Int) ∧
                                          IntKind.i64.wrap ((↑g : Int) + (1 : Int)) = (↑g_1 : Int) ∧ v_1 = (someAt (headS xs (120 : Int)) g_1).fst ∧ v = (someAt (headS xs (120 : Int)) g_1).snd) ∧
            (decide ((↑g : Int) < (↑(List.drop (0 : Nat) (List.take (mn (↑xs.length : Int) (120 : Int)).toNat xs)).length : Int)) = false →
              (someAt (headS xs (120 : Int)) g).fst = (someL xs).fst ∧ (someAt (headS xs (120 : Int)) g).snd = (someL xs).snd)


end Go.Proofs.Ytcgeccpookgoeaa.Seen
