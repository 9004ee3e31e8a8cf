/- Tries: what the laws TrieOrder and TrieTake ask (printed by wip/Vc.lean; checked by the kernel in the next text). -/
import Derived.Test.YtndacggailoogaaTrieSpecC
namespace Go.Proofs.Ytndacggailoogaa.Tri
open Go Go.Proofs.Ytndacggailoogaa.Sx

def vcLOrder : List Act → Prop :=
  fun (xs : List Act) =>
  ((!true) = true → false = true) ∧
    ((!true) = false →
      ((0 : Int) ≤ (0 : Int) ∧ (0 : Int) ≤ mn (↑xs.length : Int) (60 : Int) ∧ mn (↑xs.length : Int) (60 : Int) ≤ (↑xs.length : Int)) ∧
        (∃ (g : Nat × Tr × Tr),
            (g.fst ≤ (headA xs (60 : Int)).length ∧ OrdI (headA xs (60 : Int)) g.fst g.snd.fst g.snd.snd) ∧
              (List.drop (0 : Nat) (List.take (mn (↑xs.length : Int) (60 : Int)).toNat xs) = List.drop (0 : Nat) (List.take (mn (↑xs.length : Int) (60 : Int)).toNat xs) ∧
                  some (0 : Nat) = some (0 : Nat) ∧
                    some (0 : Nat) = some (0 : Nat) ∧
                      (↑(List.drop (0 : Nat) (List.take (mn (↑xs.length : Int) (60 : Int)).toNat xs)).length : Int) = (↑(List.drop (0 : Nat) (List.take (mn (↑xs.length : Int) (60 : Int)).toNat xs)).length : Int) ∧
                        (0 : Int) = (↑g.fst : Int)) ∧
                ((0 : Int) = g.snd.fst.n ∧ [nd0] = g.snd.fst.ns) ∧ (0 : Int) = g.snd.snd.n ∧ [nd0] = g.snd.snd.ns) ∧
          ∀ (g : Nat × Tr × Tr),
            g.fst ≤ (headA xs (60 : Int)).length ∧ OrdI (headA xs (60 : Int)) g.fst g.snd.fst g.snd.snd →
              (decide ((↑g.fst : Int) < (↑(List.drop (0 : Nat) (List.take (mn (↑xs.length : Int) (60 : Int)).toNat xs)).length : Int)) = true →
                  ((0 : Int) ≤ (↑g.fst : Int) ∧ (↑g.fst : Int) < (↑(List.drop (0 : Nat) (List.take (mn (↑xs.length : Int) (60 : Int)).toNat xs)).length : Int)) ∧
                    (0 : Int) ≤ ((List.drop (0 : Nat) (List.take (mn (↑xs.length : Int) (60 : Int)).toNat xs)).getD (↑g.fst : Int).toNat (u.dflt (42 : Nat))).bits ∧
                      ((1 : Nat) ≤ g.snd.fst.ns.length ∧ ∀ (j b i : Nat), kidN (getN g.snd.fst.ns j) b = some i → i < g.snd.fst.ns.length) ∧
                        ((0 : Int) ≤ IntKind.i64.wrap (IntKind.i64.wrap ((↑(List.drop (0 : Nat) (List.take (mn (↑xs.length : Int) (60 : Int)).toNat xs)).length : Int) - (1 : Int)) - (↑g.fst : Int)) ∧
                            IntKind.i64.wrap (IntKind.i64.wrap ((↑(List.drop (0 : Nat) (List.take (mn (↑xs.length : Int) (60 : Int)).toNat xs)).length : Int) - (1 : Int)) - (↑g.fst : Int)) <
                              (↑(List.drop (0 : Nat) (List.take (mn (↑xs.length : Int) (60 : Int)).toNat xs)).length : Int)) ∧
                          (0 : Int) ≤
                              ((List.drop (0 : Nat) (List.take (mn (↑xs.length : Int) (60 : Int)).toNat xs)).getD
                                  (IntKind.i64.wrap (IntKind.i64.wrap ((↑(List.drop (0 : Nat) (List.take (mn (↑xs.length : Int) (60 : Int)).toNat xs)).length : Int) - (1 : Int)) - (↑g.fst : Int))).toNat
                                  (u.dflt (42 : Nat))).bits ∧
                            ((1 : Nat) ≤ g.snd.snd.ns.length ∧ ∀ (j b i : Nat), kidN (getN g.snd.snd.ns j) b = some i → i < g.snd.snd.ns.length) ∧
                              ∃ (g_1 : Nat × Tr × Tr),
                                (g_1.fst ≤ (headA xs (60 : Int)).length ∧ OrdI (headA xs (60 : Int)) g_1.fst g_1.snd.fst g_1.snd.snd) ∧
                                  (annOrd xs).μ g_1 < (annOrd xs).μ g ∧
                                    (List.drop (0 : Nat) (List.take (mn (↑xs.length : Int) (60 : Int)).toNat xs) = List.drop (0 : Nat) (List.take (mn (↑xs.length : Int) (60 : Int)).toNat xs) ∧
                                        some (0 : Nat) = some (0 : Nat) ∧
                                          some (0 : Nat) = some (0 : Nat) ∧
                                            (↑(List.drop (0 : Nat) (List.take (mn (↑xs.length : Int) (60 : Int)).toNat xs)).length : Int) =
                                                (↑(List.drop (0 : Nat) (List.take (mn (↑xs.length : Int) (60 : Int)).toNat xs)).length : Int) ∧
                                              IntKind.i64.wrap ((↑g.fst : Int) + (1 : Int)) = (↑g_1.fst : Int)) ∧
                                      ((putM g.snd.fst.n g.snd.fst.ns
                                                (actB
                                                    { op := ((List.drop (0 : Nat) (List.take (mn (↑xs.length : Int) (60 : Int)).toNat xs)).getD (↑g.fst : Int).toNat (u.dflt (42 : Nat))).op,
                                                      addr := ((List.drop (0 : Nat) (List.take (mn (↑xs.length : Int) (60 : Int)).toNat xs)).getD (↑g.fst : Int).toNat (u.dflt (42 : Nat))).addr,
                                                      bits := ((List.drop (0 : Nat) (List.take (mn (↑xs.length : Int) (60 : Int)).toNat xs)).getD (↑g.fst : Int).toNat (u.dflt (42 : Nat))).bits,
                                                      raw := ((List.drop (0 : Nat) (List.take (mn (↑xs.length : Int) (60 : Int)).toNat xs)).getD (↑g.fst : Int).toNat (u.dflt (42 : Nat))).raw,
                                                      any :=
                                                        { base := ((List.drop (0 : Nat) (List.take (mn (↑xs.length : Int) (60 : Int)).toNat xs)).getD (↑g.fst : Int).toNat (u.dflt (42 : Nat))).any.base,
                                                          bits := ((List.drop (0 : Nat) (List.take (mn (↑xs.length : Int) (60 : Int)).toNat xs)).getD (↑g.fst : Int).toNat (u.dflt (42 : Nat))).any.bits : Blk } :
                                                      Act }).base
                                                (actB
                                                    { op := ((List.drop (0 : Nat) (List.take (mn (↑xs.length : Int) (60 : Int)).toNat xs)).getD (↑g.fst : Int).toNat (u.dflt (42 : Nat))).op,
                                                      addr := ((List.drop (0 : Nat) (List.take (mn (↑xs.length : Int) (60 : Int)).toNat xs)).getD (↑g.fst : Int).toNat (u.dflt (42 : Nat))).addr,
                                                      bits := ((List.drop (0 : Nat) (List.take (mn (↑xs.length : Int) (60 : Int)).toNat xs)).getD (↑g.fst : Int).toNat (u.dflt (42 : Nat))).bits,
                                                      raw := ((List.drop (0 : Nat) (List.take (mn (↑xs.length : Int) (60 : Int)).toNat xs)).getD (↑g.fst : Int).toNat (u.dflt (42 : Nat))).raw,
                                                      any :=
                                                        { base := ((List.drop (0 : Nat) (List.take (mn (↑xs.length : Int) (60 : Int)).toNat xs)).getD (↑g.fst : Int).toNat (u.dflt (42 : Nat))).any.base,
                                                          bits := ((List.drop (0 : Nat) (List.take (mn (↑xs.length : Int) (60 : Int)).toNat xs)).getD (↑g.fst : Int).toNat (u.dflt (42 : Nat))).any.bits : Blk } :
                                                      Act }).bits).fst =
                                            g_1.snd.fst.n ∧
                                          (putM g.snd.fst.n g.snd.fst.ns
                                                (actB
                                                    { op := ((List.drop (0 : Nat) (List.take (mn (↑xs.length : Int) (60 : Int)).toNat xs)).getD (↑g.fst : Int).toNat (u.dflt (42 : Nat))).op,
                                                      addr := ((List.drop (0 : Nat) (List.take (mn (↑xs.length : Int) (60 : Int)).toNat xs)).getD (↑g.fst : Int).toNat (u.dflt (42 : Nat))).addr,
                                                      bits := ((List.drop (0 : Nat) (List.take (mn (↑xs.length : Int) (60 : Int)).toNat xs)).getD (↑g.fst : Int).toNat (u.dflt (42 : Nat))).bits,
                                                      raw := ((List.drop (0 : Nat) (List.take (mn (↑xs.length : Int) (60 : Int)).toNat xs)).getD (↑g.fst : Int).toNat (u.dflt (42 : Nat))).raw,
                                                      any :=
                                                        { base := ((List.drop (0 : Nat) (List.take (mn (↑xs.length : Int) (60 : Int)).toNat xs)).getD (↑g.fst : Int).toNat (u.dflt (42 : Nat))).any.base,
                                                          bits := ((List.drop (0 : Nat) (List.take (mn (↑xs.length : Int) (60 : Int)).toNat xs)).getD (↑g.fst : Int).toNat (u.dflt (42 : Nat))).any.bits : Blk } :
                                                      Act }).base
                                                (actB
                                                    { op := ((List.drop (0 : Nat) (List.take (mn (↑xs.length : Int) (60 : Int)).toNat xs)).getD (↑g.fst : Int).toNat (u.dflt (42 : Nat))).op,
                                                      addr := ((List.drop (0 : Nat) (List.take (mn (↑xs.length : Int) (60 : Int)).toNat xs)).getD (↑g.fst : Int).toNat (u.dflt (42 : Nat))).addr,
                                                      bits := ((List.drop (0 : Nat) (List.take (mn (↑xs.length : Int) (60 : Int)).toNat xs)).getD (↑g.fst : Int).toNat (u.dflt (42 : Nat))).bits,
                                                      raw := ((List.drop (0 : Nat) (List.take (mn (↑xs.length : Int) (60 : Int)).toNat xs)).getD (↑g.fst : Int).toNat (u.dflt (42 : Nat))).raw,
                                                      any :=
                                                        { base := ((List.drop (0 : Nat) (List.take (mn (↑xs.length : Int) (60 : Int)).toNat xs)).getD (↑g.fst : Int).toNat (u.dflt (42 : Nat))).any.base,
                                                          bits := ((List.drop (0 : Nat) (List.take (mn (↑xs.length : Int) (60 : Int)).toNat xs)).getD (↑g.fst : Int).toNat (u.dflt (42 : Nat))).any.bits : Blk } :
                                                      Act }).bits).snd =
                                            g_1.snd.fst.ns) ∧
                                        (putM g.snd.snd.n g.snd.snd.ns
                                                (actB
                                                    {
                                                      op :=
                                                        ((List.drop (0 : Nat) (List.take (mn (↑xs.length : Int) (60 : Int)).toNat xs)).getD
                                                            (IntKind.i64.wrap
                                                                (IntKind.i64.wrap ((↑(List.drop (0 : Nat) (List.take (mn (↑xs.length : Int) (60 : Int)).toNat xs)).length : Int) - (1 : Int)) - (↑g.fst : Int))).toNat
                                                            (u.dflt (42 : Nat))).op,
                                                      addr :=
                                                        ((List.drop (0 : Nat) (List.take (mn (↑xs.length : Int) (60 : Int)).toNat xs)).getD
                                                            (IntKind.i64.wrap
                                                                (IntKind.i64.wrap ((↑(List.drop (0 : Nat) (List.take (mn (↑xs.length : Int) (60 : Int)).toNat xs)).length : Int) - (1 : Int)) - (↑g.fst : Int))).toNat
                                                            (u.dflt (42 : Nat))).addr,
                                                      bits :=
                                                        ((List.drop (0 : Nat) (List.take (mn (↑xs.length : Int) (60 : Int)).toNat xs)).getD
                                                            (IntKind.i64.wrap
                                                                (IntKind.i64.wrap ((↑(List.drop (0 : Nat) (List.take (mn (↑xs.length : Int) (60 : Int)).toNat xs)).length : Int) - (1 : Int)) - (↑g.fst : Int))).toNat
                                                            (u.dflt (42 : Nat))).bits,
                                                      raw :=
                                                        ((List.drop (0 : Nat) (List.take (mn (↑xs.length : Int) (60 : Int)).toNat xs)).getD
                                                            (IntKind.i64.wrap
                                                                (IntKind.i64.wrap ((↑(List.drop (0 : Nat) (List.take (mn (↑xs.length : Int) (60 : Int)).toNat xs)).length : Int) - (1 : Int)) - (↑g.fst : Int))).toNat
                                                            (u.dflt (42 : Nat))).raw,
                                                      any :=
                                                        {
                                                          base :=
                                                            ((List.drop (0 : Nat) (List.take (mn (↑xs.length : Int) (60 : Int)).toNat xs)).getD
                                                                  (IntKind.i64.wrap
                                                                      (IntKind.i64.wrap ((↑(List.drop (0 : Nat) (List.take (mn (↑xs.length : Int) (60 : Int)).toNat xs)).length : Int) - (1 : Int)) - (↑g.fst : Int))).toNat
                                                                  (u.dflt (42 : Nat))).any.base,
                                                          bits :=
                                                            ((List.drop (0 : Nat) (List.take (mn (↑xs.length : Int) (60 : Int)).toNat xs)).getD
                                                                  (IntKind.i64.wrap
                                                                      (IntKind.i64.wrap ((↑(List.drop (0 : Nat) (List.take (mn (↑xs.length : Int) (60 : Int)).toNat xs)).length : Int) - (1 : Int)) - (↑g.fst : Int))).toNat
                                                                  (u.dflt (42 : Nat))).any.bits :
                                                          Blk } :
                                                      Act }).base
                                                (actB
                                                    {
                                                      op :=
                                                        ((List.drop (0 : Nat) (List.take (mn (↑xs.length : Int) (60 : Int)).toNat xs)).getD
                                                            (IntKind.i64.wrap
                                                                (IntKind.i64.wrap ((↑(List.drop (0 : Nat) (List.take (mn (↑xs.length : Int) (60 : Int)).toNat xs)).length : Int) - (1 : Int)) - (↑g.fst : Int))).toNat
                                                            (u.dflt (42 : Nat))).op,
                                                      addr :=
                                                        ((List.drop (0 : Nat) (List.take (mn (↑xs.length : Int) (60 : Int)).toNat xs)).getD
                                                            (IntKind.i64.wrap
                                                                (IntKind.i64.wrap ((↑(List.drop (0 : Nat) (List.take (mn (↑xs.length : Int) (60 : Int)).toNat xs)).length : Int) - (1 : Int)) - (↑g.fst : Int))).toNat
                                                            (u.dflt (42 : Nat))).addr,
                                                      bits :=
                                                        ((List.drop (0 : Nat) (List.take (mn (↑xs.length : Int) (60 : Int)).toNat xs)).getD
                                                            (IntKind.i64.wrap
                                                                (IntKind.i64.wrap ((↑(List.drop (0 : Nat) (List.take (mn (↑xs.length : Int) (60 : Int)).toNat xs)).length : Int) - (1 : Int)) - (↑g.fst : Int))).toNat
                                                            (u.dflt (42 : Nat))).bits,
                                                      raw :=
                                                        ((List.drop (0 : Nat) (List.take (mn (↑xs.length : Int) (60 : Int)).toNat xs)).getD
                                                            (IntKind.i64.wrap
                                                                (IntKind.i64.wrap ((↑(List.drop (0 : Nat) (List.take (mn (↑xs.length : Int) (60 : Int)).toNat xs)).length : Int) - (1 : Int)) - (↑g.fst : Int))).toNat
                                                            (u.dflt (42 : Nat))).raw,
                                                      any :=
                                                        {
                                                          base :=
                                                            ((List.drop (0 : Nat) (List.take (mn (↑xs.length : Int) (60 : Int)).toNat xs)).getD
                                                                  (IntKind.i64.wrap
                                                                      (IntKind.i64.wrap ((↑(List.drop (0 : Nat) (List.take (mn (↑xs.length : Int) (60 : Int)).toNat xs)).length : Int) - (1 : Int)) - (↑g.fst : Int))).toNat
                                                                  (u.dflt (42 : Nat))).any.base,
                                                          bits :=
                                                            ((List.drop (0 : Nat) (List.take (mn (↑xs.length : Int) (60 : Int)).toNat xs)).getD
                                                                  (IntKind.i64.wrap
                                                                      (IntKind.i64.wrap ((↑(List.drop (0 : Nat) (List.take (mn (↑xs.length : Int) (60 : Int)).toNat xs)).length : Int) - (1 : Int)) - (↑g.fst : Int))).toNat
                                                                  (u.dflt (42 : Nat))).any.bits :
                                                          Blk } :
                                                      Act }).bits).fst =
                                            g_1.snd.snd.n ∧
                                          (putM g.snd.snd.n g.snd.snd.ns
                                                (actB
                                                    {
                                                      op :=
                                                        ((List.drop (0 : Nat) (List.take (mn (↑xs.length : Int) (60 : Int)).toNat xs)).getD
                                                            (IntKind.i64.wrap
                                                                (IntKind.i64.wrap ((↑(List.drop (0 : Nat) (List.take (mn (↑xs.length : Int) (60 : Int)).toNat xs)).length : Int) - (1 : Int)) - (↑g.fst : Int))).toNat
                                                            (u.dflt (42 : Nat))).op,
                                                      addr :=
                                                        ((List.drop (0 : Nat) (List.take (mn (↑xs.length : Int) (60 : Int)).toNat xs)).getD
                                                            (IntKind.i64.wrap
                                                                (IntKind.i64.wrap ((↑(List.drop (0 : Nat) (List.take (mn (↑xs.length : Int) (60 : Int)).toNat xs)).length : Int) - (1 : Int)) - (↑g.fst : Int))).toNat
                                                            (u.dflt (42 : Nat))).addr,
                                                      bits :=
                                                        ((List.drop (0 : Nat) (List.take (mn (↑xs.length : Int) (60 : Int)).toNat xs)).getD
                                                            (IntKind.i64.wrap
                                                                (IntKind.i64.wrap ((↑(List.drop (0 : Nat) (List.take (mn (↑xs.length : Int) (60 : Int)).toNat xs)).length : Int) - (1 : Int)) - (↑g.fst : Int))).toNat
                                                            (u.dflt (42 : Nat))).bits,
                                                      raw :=
                                                        ((List.drop (0 : Nat) (List.take (mn (↑xs.length : Int) (60 : Int)).toNat xs)).getD
                                                            (IntKind.i64.wrap
                                                                (IntKind.i64.wrap ((↑(List.drop (0 : Nat) (List.take (mn (↑xs.length : Int) (60 : Int)).toNat xs)).length : Int) - (1 : Int)) - (↑g.fst : Int))).toNat
                                                            (u.dflt (42 : Nat))).raw,
                                                      any :=
                                                        {
                                                          base :=
                                                            ((List.drop (0 : Nat) (List.take (mn (↑xs.length : Int) (60 : Int)).toNat xs)).getD
                                                                  (IntKind.i64.wrap
                                                                      (IntKind.i64.wrap ((↑(List.drop (0 : Nat) (List.take (mn (↑xs.length : Int) (60 : Int)).toNat xs)).length : Int) - (1 : Int)) - (↑g.fst : Int))).toNat
                                                                  (u.dflt (42 : Nat))).any.base,
                                                          bits :=
                                                            ((List.drop (0 : Nat) (List.take (mn (↑xs.length : Int) (60 : Int)).toNat xs)).getD
                                                                  (IntKind.i64.wrap
                                                                      (IntKind.i64.wrap ((↑(List.drop (0 : Nat) (List.take (mn (↑xs.length : Int) (60 : Int)).toNat xs)).length : Int) - (1 : Int)) - (↑g.fst : Int))).toNat
                                                                  (u.dflt (42 : Nat))).any.bits :
                                                          Blk } :
                                                      Act }).base
                                                (actB
                                                    {
                                                      op :=
                                                        ((List.drop (0 : Nat) (List.take (mn (↑xs.length : Int) (60 : Int)).toNat xs)).getD
                                                            (IntKind.i64.wrap
                                                                (IntKind.i64.wrap ((↑(List.drop (0 : Nat) (List.take (mn (↑xs.length : Int) (60 : Int)).toNat xs)).length : Int) - (1 : Int)) - (↑g.fst : Int))).toNat
                                                            (u.dflt (42 : Nat))).op,
                                                      addr :=
                                                        ((List.drop (0 : Nat) (List.take (mn (↑xs.length : Int) (60 : Int)).toNat xs)).getD
                                                            (IntKind.i64.wrap
                                                                (IntKind.i64.wrap ((↑(List.drop (0 : Nat) (List.take (mn (↑xs.length : Int) (60 : Int)).toNat xs)).length : Int) - (1 : Int)) - (↑g.fst : Int))).toNat
                                                            (u.dflt (42 : Nat))).addr,
                                                      bits :=
                                                        ((List.drop (0 : Nat) (List.take (mn (↑xs.length : Int) (60 : Int)).toNat xs)).getD
                                                            (IntKind.i64.wrap
                                                                (IntKind.i64.wrap ((↑(List.drop (0 : Nat) (List.take (mn (↑xs.length : Int) (60 : Int)).toNat xs)).length : Int) - (1 : Int)) - (↑g.fst : Int))).toNat
                                                            (u.dflt (42 : Nat))).bits,
                                                      raw :=
                                                        ((List.drop (0 : Nat) (List.take (mn (↑xs.length : Int) (60 : Int)).toNat xs)).getD
                                                            (IntKind.i64.wrap
                                                                (IntKind.i64.wrap ((↑(List.drop (0 : Nat) (List.take (mn (↑xs.length : Int) (60 : Int)).toNat xs)).length : Int) - (1 : Int)) - (↑g.fst : Int))).toNat
                                                            (u.dflt (42 : Nat))).raw,
                                                      any :=
                                                        {
                                                          base :=
                                                            ((List.drop (0 : Nat) (List.take (mn (↑xs.length : Int) (60 : Int)).toNat xs)).getD
                                                                  (IntKind.i64.wrap
                                                                      (IntKind.i64.wrap ((↑(List.drop (0 : Nat) (List.take (mn (↑xs.length : Int) (60 : Int)).toNat xs)).length : Int) - (1 : Int)) - (↑g.fst : Int))).toNat
                                                                  (u.dflt (42 : Nat))).any.base,
                                                          bits :=
                                                            ((List.drop (0 : Nat) (List.take (mn (↑xs.length : Int) (60 : Int)).toNat xs)).getD
                                                                  (IntKind.i64.wrap
                                                                      (IntKind.i64.wrap ((↑(List.drop (0 : Nat) (List.take (mn (↑xs.length : Int) (60 : Int)).toNat xs)).length : Int) - (1 : Int)) - (↑g.fst : Int))).toNat
                                                                  (u.dflt (42 : Nat))).any.bits :
                                                          Blk } :
                                                      Act }).bits).snd =
                                            g_1.snd.snd.ns) ∧
                (decide ((↑g.fst : Int) < (↑(List.drop (0 : Nat) (List.take (mn (↑xs.length : Int) (60 : Int)).toNat xs)).length : Int)) = false →
                  lenB (allM g.snd.fst.ns) ≤ (1000000000000 : Nat) ∧
                    lenB (allM g.snd.snd.ns) ≤ (1000000000000 : Nat) ∧
                      (((↑(allM g.snd.fst.ns).length : Int) != (↑(allM g.snd.snd.ns).length : Int) || g.snd.fst.n != (↑(allM g.snd.fst.ns).length : Int)) = true → false = true) ∧
                        (((↑(allM g.snd.fst.ns).length : Int) != (↑(allM g.snd.snd.ns).length : Int) || g.snd.fst.n != (↑(allM g.snd.fst.ns).length : Int)) = false →
                          (∃ (g_1 : Nat),
                              g_1.le (1000000000000 : Nat) ∧
                                (True ∧ True ∧ (↑(allM g.snd.fst.ns).length : Int) = (↑(allM g.snd.fst.ns).length : Int) ∧ (0 : Int) = (↑g_1 : Int)) ∧
                                  allM g.snd.fst.ns = allM g.snd.fst.ns ∧ allM g.snd.snd.ns = allM g.snd.snd.ns) ∧
                            ∀ (g_1 : Nat),
                              g_1.le (1000000000000 : Nat) →
                                (decide ((↑g_1 : Int) < (↑(allM g.snd.fst.ns).length : Int)) = true →
                                    ((0 : Int) ≤ (↑g_1 : Int) ∧ (↑g_1 : Int) < (↑(allM g.snd.fst.ns).length : Int)) ∧
                                      ((0 : Int) ≤ (↑g_1 : Int) ∧ (↑g_1 : Int) < (↑(allM g.snd.snd.ns).length : Int)) ∧
                                        ((!(((allM g.snd.fst.ns).getD (↑g_1 : Int).toNat (u.dflt (26 : Nat))).base == ((allM g.snd.snd.ns).getD (↑g_1 : Int).toNat (u.dflt (26 : Nat))).base &&
                                                  (((allM g.snd.fst.ns).getD (↑g_1 : Int).toNat (u.dflt (26 : Nat))).bits == ((allM g.snd.snd.ns).getD (↑g_1 : Int).toNat (u.dflt (26 : Nat))).bits && true))) =
                                              true →
                                            false = true) ∧
                                          ((!(((allM g.snd.fst.ns).getD (↑g_1 : Int).toNat (u.dflt (26 : Nat))).base == ((allM g.snd.snd.ns).getD (↑g_1 : Int).toNat (u.dflt (26 : Nat))).base &&
                                                  (((allM g.snd.fst.ns).getD (↑g_1 : Int).toNat (u.dflt (26 : Nat))).bits == ((allM g.snd.snd.ns).getD (↑g_1 : Int).toNat (u.dflt (26 : Nat))).bits && true))) =
                                              false →
                                            ∃ (g_2 : Nat),
                                              g_2.le (1000000000000 : Nat) ∧
                                                annSame.μ g_2 < annSame.μ g_1 ∧
                                                  (True ∧ True ∧ (↑(allM g.snd.fst.ns).length : Int) = (↑(allM g.snd.fst.ns).length : Int) ∧ IntKind.i64.wrap ((↑g_1 : Int) + (1 : Int)) = (↑g_2 : Int)) ∧
                                                    allM g.snd.fst.ns = allM g.snd.fst.ns ∧ allM g.snd.snd.ns = allM g.snd.snd.ns)) ∧
                                  (decide ((↑g_1 : Int) < (↑(allM g.snd.fst.ns).length : Int)) = false → true = true))))

def vcLTake : List Act → Prop :=
  fun (xs : List Act) =>
  ((!true) = true → false = true) ∧
    ((!true) = false →
      ((0 : Int) ≤ (0 : Int) ∧ (0 : Int) ≤ mn (↑xs.length : Int) (60 : Int) ∧ mn (↑xs.length : Int) (60 : Int) ≤ (↑xs.length : Int)) ∧
        (∃ (g : Nat × Tr),
            (g.fst ≤ (headA xs (60 : Int)).length ∧ TrI g.fst g.snd) ∧
              (some (0 : Nat) = some (0 : Nat) ∧
                  List.drop (0 : Nat) (List.take (mn (↑xs.length : Int) (60 : Int)).toNat xs) = List.drop (0 : Nat) (List.take (mn (↑xs.length : Int) (60 : Int)).toNat xs) ∧
                    (↑(List.drop (0 : Nat) (List.take (mn (↑xs.length : Int) (60 : Int)).toNat xs)).length : Int) = (↑(List.drop (0 : Nat) (List.take (mn (↑xs.length : Int) (60 : Int)).toNat xs)).length : Int) ∧
                      True ∧ (0 : Int) = (↑g.fst : Int)) ∧
                ((0 : Int) = g.snd.n ∧ [nd0] = g.snd.ns) ∧ g.snd.all = []) ∧
          ∀ (g : Nat × Tr),
            g.fst ≤ (headA xs (60 : Int)).length ∧ TrI g.fst g.snd →
              (decide ((↑g.fst : Int) < (↑(List.drop (0 : Nat) (List.take (mn (↑xs.length : Int) (60 : Int)).toNat xs)).length : Int)) = true →
                  ((0 : Int) ≤ (↑g.fst : Int) ∧ (↑g.fst : Int) < (↑(List.drop (0 : Nat) (List.take (mn (↑xs.length : Int) (60 : Int)).toNat xs)).length : Int)) ∧
                    (0 : Int) ≤ ((List.drop (0 : Nat) (List.take (mn (↑xs.length : Int) (60 : Int)).toNat xs)).getD (↑g.fst : Int).toNat (u.dflt (42 : Nat))).bits ∧
                      ((1 : Nat) ≤ g.snd.ns.length ∧ ∀ (j b i : Nat), kidN (getN g.snd.ns j) b = some i → i < g.snd.ns.length) ∧
                        ((putE g.snd.ns
                                  (actB
                                      { op := ((List.drop (0 : Nat) (List.take (mn (↑xs.length : Int) (60 : Int)).toNat xs)).getD (↑g.fst : Int).toNat (u.dflt (42 : Nat))).op,
                                        addr := ((List.drop (0 : Nat) (List.take (mn (↑xs.length : Int) (60 : Int)).toNat xs)).getD (↑g.fst : Int).toNat (u.dflt (42 : Nat))).addr,
                                        bits := ((List.drop (0 : Nat) (List.take (mn (↑xs.length : Int) (60 : Int)).toNat xs)).getD (↑g.fst : Int).toNat (u.dflt (42 : Nat))).bits,
                                        raw := ((List.drop (0 : Nat) (List.take (mn (↑xs.length : Int) (60 : Int)).toNat xs)).getD (↑g.fst : Int).toNat (u.dflt (42 : Nat))).raw,
                                        any :=
                                          { base := ((List.drop (0 : Nat) (List.take (mn (↑xs.length : Int) (60 : Int)).toNat xs)).getD (↑g.fst : Int).toNat (u.dflt (42 : Nat))).any.base,
                                            bits := ((List.drop (0 : Nat) (List.take (mn (↑xs.length : Int) (60 : Int)).toNat xs)).getD (↑g.fst : Int).toNat (u.dflt (42 : Nat))).any.bits : Blk } :
                                        Act }).base
                                  (actB
                                      { op := ((List.drop (0 : Nat) (List.take (mn (↑xs.length : Int) (60 : Int)).toNat xs)).getD (↑g.fst : Int).toNat (u.dflt (42 : Nat))).op,
                                        addr := ((List.drop (0 : Nat) (List.take (mn (↑xs.length : Int) (60 : Int)).toNat xs)).getD (↑g.fst : Int).toNat (u.dflt (42 : Nat))).addr,
                                        bits := ((List.drop (0 : Nat) (List.take (mn (↑xs.length : Int) (60 : Int)).toNat xs)).getD (↑g.fst : Int).toNat (u.dflt (42 : Nat))).bits,
                                        raw := ((List.drop (0 : Nat) (List.take (mn (↑xs.length : Int) (60 : Int)).toNat xs)).getD (↑g.fst : Int).toNat (u.dflt (42 : Nat))).raw,
                                        any :=
                                          { base := ((List.drop (0 : Nat) (List.take (mn (↑xs.length : Int) (60 : Int)).toNat xs)).getD (↑g.fst : Int).toNat (u.dflt (42 : Nat))).any.base,
                                            bits := ((List.drop (0 : Nat) (List.take (mn (↑xs.length : Int) (60 : Int)).toNat xs)).getD (↑g.fst : Int).toNat (u.dflt (42 : Nat))).any.bits : Blk } :
                                        Act }).bits ==
                                (0 : Int)) =
                              true →
                            (0 : Int) ≤ ((List.drop (0 : Nat) (List.take (mn (↑xs.length : Int) (60 : Int)).toNat xs)).getD (↑g.fst : Int).toNat (u.dflt (42 : Nat))).bits ∧
                              (g.snd.all.length +
                                      [{
                                            base :=
                                              (actB
                                                  { op := ((List.drop (0 : Nat) (List.take (mn (↑xs.length : Int) (60 : Int)).toNat xs)).getD (↑g.fst : Int).toNat (u.dflt (42 : Nat))).op,
                                                    addr := ((List.drop (0 : Nat) (List.take (mn (↑xs.length : Int) (60 : Int)).toNat xs)).getD (↑g.fst : Int).toNat (u.dflt (42 : Nat))).addr,
                                                    bits := ((List.drop (0 : Nat) (List.take (mn (↑xs.length : Int) (60 : Int)).toNat xs)).getD (↑g.fst : Int).toNat (u.dflt (42 : Nat))).bits,
                                                    raw := ((List.drop (0 : Nat) (List.take (mn (↑xs.length : Int) (60 : Int)).toNat xs)).getD (↑g.fst : Int).toNat (u.dflt (42 : Nat))).raw,
                                                    any :=
                                                      { base := ((List.drop (0 : Nat) (List.take (mn (↑xs.length : Int) (60 : Int)).toNat xs)).getD (↑g.fst : Int).toNat (u.dflt (42 : Nat))).any.base,
                                                        bits := ((List.drop (0 : Nat) (List.take (mn (↑xs.length : Int) (60 : Int)).toNat xs)).getD (↑g.fst : Int).toNat (u.dflt (42 : Nat))).any.bits : Blk } :
                                                    Act }).base,
                                            bits :=
                                              (actB
                                                  { op := ((List.drop (0 : Nat) (List.take (mn (↑xs.length : Int) (60 : Int)).toNat xs)).getD (↑g.fst : Int).toNat (u.dflt (42 : Nat))).op,
                                                    addr := ((List.drop (0 : Nat) (List.take (mn (↑xs.length : Int) (60 : Int)).toNat xs)).getD (↑g.fst : Int).toNat (u.dflt (42 : Nat))).addr,
                                                    bits := ((List.drop (0 : Nat) (List.take (mn (↑xs.length : Int) (60 : Int)).toNat xs)).getD (↑g.fst : Int).toNat (u.dflt (42 : Nat))).bits,
                                                    raw := ((List.drop (0 : Nat) (List.take (mn (↑xs.length : Int) (60 : Int)).toNat xs)).getD (↑g.fst : Int).toNat (u.dflt (42 : Nat))).raw,
                                                    any :=
                                                      { base := ((List.drop (0 : Nat) (List.take (mn (↑xs.length : Int) (60 : Int)).toNat xs)).getD (↑g.fst : Int).toNat (u.dflt (42 : Nat))).any.base,
                                                        bits := ((List.drop (0 : Nat) (List.take (mn (↑xs.length : Int) (60 : Int)).toNat xs)).getD (↑g.fst : Int).toNat (u.dflt (42 : Nat))).any.bits : Blk } :
                                                    Act }).bits :
                                            Blk }].length) *
                                    (16 : Nat) ≤
                                  (140737488355328 : Nat) ∧
                                ∃ (g_1 : Nat × Tr),
                                  (g_1.fst ≤ (headA xs (60 : Int)).length ∧ TrI g_1.fst g_1.snd) ∧
                                    (annTk xs).μ g_1 < (annTk xs).μ g ∧
                                      (some (0 : Nat) = some (0 : Nat) ∧
                                          List.drop (0 : Nat) (List.take (mn (↑xs.length : Int) (60 : Int)).toNat xs) = List.drop (0 : Nat) (List.take (mn (↑xs.length : Int) (60 : Int)).toNat xs) ∧
                                            (↑(List.drop (0 : Nat) (List.take (mn (↑xs.length : Int) (60 : Int)).toNat xs)).length : Int) =
                                                (↑(List.drop (0 : Nat) (List.take (mn (↑xs.length : Int) (60 : Int)).toNat xs)).length : Int) ∧
                                              True ∧ IntKind.i64.wrap ((↑g.fst : Int) + (1 : Int)) = (↑g_1.fst : Int)) ∧
                                        ((putM g.snd.n g.snd.ns
                                                  (actB
                                                      { op := ((List.drop (0 : Nat) (List.take (mn (↑xs.length : Int) (60 : Int)).toNat xs)).getD (↑g.fst : Int).toNat (u.dflt (42 : Nat))).op,
                                                        addr := ((List.drop (0 : Nat) (List.take (mn (↑xs.length : Int) (60 : Int)).toNat xs)).getD (↑g.fst : Int).toNat (u.dflt (42 : Nat))).addr,
                                                        bits := ((List.drop (0 : Nat) (List.take (mn (↑xs.length : Int) (60 : Int)).toNat xs)).getD (↑g.fst : Int).toNat (u.dflt (42 : Nat))).bits,
                                                        raw := ((List.drop (0 : Nat) (List.take (mn (↑xs.length : Int) (60 : Int)).toNat xs)).getD (↑g.fst : Int).toNat (u.dflt (42 : Nat))).raw,
                                                        any :=
                                                          { base := ((List.drop (0 : Nat) (List.take (mn (↑xs.length : Int) (60 : Int)).toNat xs)).getD (↑g.fst : Int).toNat (u.dflt (42 : Nat))).any.base,
                                                            bits := ((List.drop (0 : Nat) (List.take (mn (↑xs.length : Int) (60 : Int)).toNat xs)).getD (↑g.fst : Int).toNat (u.dflt (42 : Nat))).any.bits : Blk } :
                                                        Act }).base
                                                  (actB
                                                      { op := ((List.drop (0 : Nat) (List.take (mn (↑xs.length : Int) (60 : Int)).toNat xs)).getD (↑g.fst : Int).toNat (u.dflt (42 : Nat))).op,
                                                        addr := ((List.drop (0 : Nat) (List.take (mn (↑xs.length : Int) (60 : Int)).toNat xs)).getD (↑g.fst : Int).toNat (u.dflt (42 : Nat))).addr,
                                                        bits := ((List.drop (0 : Nat) (List.take (mn (↑xs.length : Int) (60 : Int)).toNat xs)).getD (↑g.fst : Int).toNat (u.dflt (42 : Nat))).bits,
                                                        raw := ((List.drop (0 : Nat) (List.take (mn (↑xs.length : Int) (60 : Int)).toNat xs)).getD (↑g.fst : Int).toNat (u.dflt (42 : Nat))).raw,
                                                        any :=
                                                          { base := ((List.drop (0 : Nat) (List.take (mn (↑xs.length : Int) (60 : Int)).toNat xs)).getD (↑g.fst : Int).toNat (u.dflt (42 : Nat))).any.base,
                                                            bits := ((List.drop (0 : Nat) (List.take (mn (↑xs.length : Int) (60 : Int)).toNat xs)).getD (↑g.fst : Int).toNat (u.dflt (42 : Nat))).any.bits : Blk } :
                                                        Act }).bits).fst =
                                              g_1.snd.n ∧
                                            (putM g.snd.n g.snd.ns
                                                  (actB
                                                      { op := ((List.drop (0 : Nat) (List.take (mn (↑xs.length : Int) (60 : Int)).toNat xs)).getD (↑g.fst : Int).toNat (u.dflt (42 : Nat))).op,
                                                        addr := ((List.drop (0 : Nat) (List.take (mn (↑xs.length : Int) (60 : Int)).toNat xs)).getD (↑g.fst : Int).toNat (u.dflt (42 : Nat))).addr,
                                                        bits := ((List.drop (0 : Nat) (List.take (mn (↑xs.length : Int) (60 : Int)).toNat xs)).getD (↑g.fst : Int).toNat (u.dflt (42 : Nat))).bits,
                                                        raw := ((List.drop (0 : Nat) (List.take (mn (↑xs.length : Int) (60 : Int)).toNat xs)).getD (↑g.fst : Int).toNat (u.dflt (42 : Nat))).raw,
                                                        any :=
                                                          { base := ((List.drop (0 : Nat) (List.take (mn (↑xs.length : Int) (60 : Int)).toNat xs)).getD (↑g.fst : Int).toNat (u.dflt (42 : Nat))).any.base,
                                                            bits := ((List.drop (0 : Nat) (List.take (mn (↑xs.length : Int) (60 : Int)).toNat xs)).getD (↑g.fst : Int).toNat (u.dflt (42 : Nat))).any.bits : Blk } :
                                                        Act }).base
                                                  (actB
                                                      { op := ((List.drop (0 : Nat) (List.take (mn (↑xs.length : Int) (60 : Int)).toNat xs)).getD (↑g.fst : Int).toNat (u.dflt (42 : Nat))).op,
                                                        addr := ((List.drop (0 : Nat) (List.take (mn (↑xs.length : Int) (60 : Int)).toNat xs)).getD (↑g.fst : Int).toNat (u.dflt (42 : Nat))).addr,
                                                        bits := ((List.drop (0 : Nat) (List.take (mn (↑xs.length : Int) (60 : Int)).toNat xs)).getD (↑g.fst : Int).toNat (u.dflt (42 : Nat))).bits,
                                                        raw := ((List.drop (0 : Nat) (List.take (mn (↑xs.length : Int) (60 : Int)).toNat xs)).getD (↑g.fst : Int).toNat (u.dflt (42 : Nat))).raw,
                                                        any :=
                                                          { base := ((List.drop (0 : Nat) (List.take (mn (↑xs.length : Int) (60 : Int)).toNat xs)).getD (↑g.fst : Int).toNat (u.dflt (42 : Nat))).any.base,
                                                            bits := ((List.drop (0 : Nat) (List.take (mn (↑xs.length : Int) (60 : Int)).toNat xs)).getD (↑g.fst : Int).toNat (u.dflt (42 : Nat))).any.bits : Blk } :
                                                        Act }).bits).snd =
                                              g_1.snd.ns) ∧
                                          g.snd.all ++
                                              [{
                                                  base :=
                                                    (actB
                                                        { op := ((List.drop (0 : Nat) (List.take (mn (↑xs.length : Int) (60 : Int)).toNat xs)).getD (↑g.fst : Int).toNat (u.dflt (42 : Nat))).op,
                                                          addr := ((List.drop (0 : Nat) (List.take (mn (↑xs.length : Int) (60 : Int)).toNat xs)).getD (↑g.fst : Int).toNat (u.dflt (42 : Nat))).addr,
                                                          bits := ((List.drop (0 : Nat) (List.take (mn (↑xs.length : Int) (60 : Int)).toNat xs)).getD (↑g.fst : Int).toNat (u.dflt (42 : Nat))).bits,
                                                          raw := ((List.drop (0 : Nat) (List.take (mn (↑xs.length : Int) (60 : Int)).toNat xs)).getD (↑g.fst : Int).toNat (u.dflt (42 : Nat))).raw,
                                                          any :=
                                                            { base := ((List.drop (0 : Nat) (List.take (mn (↑xs.length : Int) (60 : Int)).toNat xs)).getD (↑g.fst : Int).toNat (u.dflt (42 : Nat))).any.base,
                                                              bits := ((List.drop (0 : Nat) (List.take (mn (↑xs.length : Int) (60 : Int)).toNat xs)).getD (↑g.fst : Int).toNat (u.dflt (42 : Nat))).any.bits : Blk } :
                                                          Act }).base,
                                                  bits :=
                                                    (actB
                                                        { op := ((List.drop (0 : Nat) (List.take (mn (↑xs.length : Int) (60 : Int)).toNat xs)).getD (↑g.fst : Int).toNat (u.dflt (42 : Nat))).op,
                                                          addr := ((List.drop (0 : Nat) (List.take (mn (↑xs.length : Int) (60 : Int)).toNat xs)).getD (↑g.fst : Int).toNat (u.dflt (42 : Nat))).addr,
                                                          bits := ((List.drop (0 : Nat) (List.take (mn (↑xs.length : Int) (60 : Int)).toNat xs)).getD (↑g.fst : Int).toNat (u.dflt (42 : Nat))).bits,
                                                          raw := ((List.drop (0 : Nat) (List.take (mn (↑xs.length : Int) (60 : Int)).toNat xs)).getD (↑g.fst : Int).toNat (u.dflt (42 : Nat))).raw,
                                                          any :=
                                                            { base := ((List.drop (0 : Nat) (List.take (mn (↑xs.length : Int) (60 : Int)).toNat xs)).getD (↑g.fst : Int).toNat (u.dflt (42 : Nat))).any.base,
                                                              bits := ((List.drop (0 : Nat) (List.take (mn (↑xs.length : Int) (60 : Int)).toNat xs)).getD (↑g.fst : Int).toNat (u.dflt (42 : Nat))).any.bits : Blk } :
                                                          Act }).bits :
                                                  Blk }] =
                                            g_1.snd.all) ∧
                          ((putE g.snd.ns
                                  (actB
                                      { op := ((List.drop (0 : Nat) (List.take (mn (↑xs.length : Int) (60 : Int)).toNat xs)).getD (↑g.fst : Int).toNat (u.dflt (42 : Nat))).op,
                                        addr := ((List.drop (0 : Nat) (List.take (mn (↑xs.length : Int) (60 : Int)).toNat xs)).getD (↑g.fst : Int).toNat (u.dflt (42 : Nat))).addr,
                                        bits := ((List.drop (0 : Nat) (List.take (mn (↑xs.length : Int) (60 : Int)).toNat xs)).getD (↑g.fst : Int).toNat (u.dflt (42 : Nat))).bits,
                                        raw := ((List.drop (0 : Nat) (List.take (mn (↑xs.length : Int) (60 : Int)).toNat xs)).getD (↑g.fst : Int).toNat (u.dflt (42 : Nat))).raw,
                                        any :=
                                          { base := ((List.drop (0 : Nat) (List.take (mn (↑xs.length : Int) (60 : Int)).toNat xs)).getD (↑g.fst : Int).toNat (u.dflt (42 : Nat))).any.base,
                                            bits := ((List.drop (0 : Nat) (List.take (mn (↑xs.length : Int) (60 : Int)).toNat xs)).getD (↑g.fst : Int).toNat (u.dflt (42 : Nat))).any.bits : Blk } :
                                        Act }).base
                                  (actB
                                      { op := ((List.drop (0 : Nat) (List.take (mn (↑xs.length : Int) (60 : Int)).toNat xs)).getD (↑g.fst : Int).toNat (u.dflt (42 : Nat))).op,
                                        addr := ((List.drop (0 : Nat) (List.take (mn (↑xs.length : Int) (60 : Int)).toNat xs)).getD (↑g.fst : Int).toNat (u.dflt (42 : Nat))).addr,
                                        bits := ((List.drop (0 : Nat) (List.take (mn (↑xs.length : Int) (60 : Int)).toNat xs)).getD (↑g.fst : Int).toNat (u.dflt (42 : Nat))).bits,
                                        raw := ((List.drop (0 : Nat) (List.take (mn (↑xs.length : Int) (60 : Int)).toNat xs)).getD (↑g.fst : Int).toNat (u.dflt (42 : Nat))).raw,
                                        any :=
                                          { base := ((List.drop (0 : Nat) (List.take (mn (↑xs.length : Int) (60 : Int)).toNat xs)).getD (↑g.fst : Int).toNat (u.dflt (42 : Nat))).any.base,
                                            bits := ((List.drop (0 : Nat) (List.take (mn (↑xs.length : Int) (60 : Int)).toNat xs)).getD (↑g.fst : Int).toNat (u.dflt (42 : Nat))).any.bits : Blk } :
                                        Act }).bits ==
                                (0 : Int)) =
                              false →
                            ∃ (g_1 : Nat × Tr),
                              (g_1.fst ≤ (headA xs (60 : Int)).length ∧ TrI g_1.fst g_1.snd) ∧
                                (annTk xs).μ g_1 < (annTk xs).μ g ∧
                                  (some (0 : Nat) = some (0 : Nat) ∧
                                      List.drop (0 : Nat) (List.take (mn (↑xs.length : Int) (60 : Int)).toNat xs) = List.drop (0 : Nat) (List.take (mn (↑xs.length : Int) (60 : Int)).toNat xs) ∧
                                        (↑(List.drop (0 : Nat) (List.take (mn (↑xs.length : Int) (60 : Int)).toNat xs)).length : Int) =
                                            (↑(List.drop (0 : Nat) (List.take (mn (↑xs.length : Int) (60 : Int)).toNat xs)).length : Int) ∧
                                          True ∧ IntKind.i64.wrap ((↑g.fst : Int) + (1 : Int)) = (↑g_1.fst : Int)) ∧
                                    ((putM g.snd.n g.snd.ns
                                              (actB
                                                  { op := ((List.drop (0 : Nat) (List.take (mn (↑xs.length : Int) (60 : Int)).toNat xs)).getD (↑g.fst : Int).toNat (u.dflt (42 : Nat))).op,
                                                    addr := ((List.drop (0 : Nat) (List.take (mn (↑xs.length : Int) (60 : Int)).toNat xs)).getD (↑g.fst : Int).toNat (u.dflt (42 : Nat))).addr,
                                                    bits := ((List.drop (0 : Nat) (List.take (mn (↑xs.length : Int) (60 : Int)).toNat xs)).getD (↑g.fst : Int).toNat (u.dflt (42 : Nat))).bits,
                                                    raw := ((List.drop (0 : Nat) (List.take (mn (↑xs.length : Int) (60 : Int)).toNat xs)).getD (↑g.fst : Int).toNat (u.dflt (42 : Nat))).raw,
                                                    any :=
                                                      { base := ((List.drop (0 : Nat) (List.take (mn (↑xs.length : Int) (60 : Int)).toNat xs)).getD (↑g.fst : Int).toNat (u.dflt (42 : Nat))).any.base,
                                                        bits := ((List.drop (0 : Nat) (List.take (mn (↑xs.length : Int) (60 : Int)).toNat xs)).getD (↑g.fst : Int).toNat (u.dflt (42 : Nat))).any.bits : Blk } :
                                                    Act }).base
                                              (actB
                                                  { op := ((List.drop (0 : Nat) (List.take (mn (↑xs.length : Int) (60 : Int)).toNat xs)).getD (↑g.fst : Int).toNat (u.dflt (42 : Nat))).op,
                                                    addr := ((List.drop (0 : Nat) (List.take (mn (↑xs.length : Int) (60 : Int)).toNat xs)).getD (↑g.fst : Int).toNat (u.dflt (42 : Nat))).addr,
                                                    bits := ((List.drop (0 : Nat) (List.take (mn (↑xs.length : Int) (60 : Int)).toNat xs)).getD (↑g.fst : Int).toNat (u.dflt (42 : Nat))).bits,
                                                    raw := ((List.drop (0 : Nat) (List.take (mn (↑xs.length : Int) (60 : Int)).toNat xs)).getD (↑g.fst : Int).toNat (u.dflt (42 : Nat))).raw,
                                                    any :=
                                                      { base := ((List.drop (0 : Nat) (List.take (mn (↑xs.length : Int) (60 : Int)).toNat xs)).getD (↑g.fst : Int).toNat (u.dflt (42 : Nat))).any.base,
                                                        bits := ((List.drop (0 : Nat) (List.take (mn (↑xs.length : Int) (60 : Int)).toNat xs)).getD (↑g.fst : Int).toNat (u.dflt (42 : Nat))).any.bits : Blk } :
                                                    Act }).bits).fst =
                                          g_1.snd.n ∧
                                        (putM g.snd.n g.snd.ns
                                              (actB
                                                  { op := ((List.drop (0 : Nat) (List.take (mn (↑xs.length : Int) (60 : Int)).toNat xs)).getD (↑g.fst : Int).toNat (u.dflt (42 : Nat))).op,
                                                    addr := ((List.drop (0 : Nat) (List.take (mn (↑xs.length : Int) (60 : Int)).toNat xs)).getD (↑g.fst : Int).toNat (u.dflt (42 : Nat))).addr,
                                                    bits := ((List.drop (0 : Nat) (List.take (mn (↑xs.length : Int) (60 : Int)).toNat xs)).getD (↑g.fst : Int).toNat (u.dflt (42 : Nat))).bits,
                                                    raw := ((List.drop (0 : Nat) (List.take (mn (↑xs.length : Int) (60 : Int)).toNat xs)).getD (↑g.fst : Int).toNat (u.dflt (42 : Nat))).raw,
                                                    any :=
                                                      { base := ((List.drop (0 : Nat) (List.take (mn (↑xs.length : Int) (60 : Int)).toNat xs)).getD (↑g.fst : Int).toNat (u.dflt (42 : Nat))).any.base,
                                                        bits := ((List.drop (0 : Nat) (List.take (mn (↑xs.length : Int) (60 : Int)).toNat xs)).getD (↑g.fst : Int).toNat (u.dflt (42 : Nat))).any.bits : Blk } :
                                                    Act }).base
                                              (actB
                                                  { op := ((List.drop (0 : Nat) (List.take (mn (↑xs.length : Int) (60 : Int)).toNat xs)).getD (↑g.fst : Int).toNat (u.dflt (42 : Nat))).op,
                                                    addr := ((List.drop (0 : Nat) (List.take (mn (↑xs.length : Int) (60 : Int)).toNat xs)).getD (↑g.fst : Int).toNat (u.dflt (42 : Nat))).addr,
                                                    bits := ((List.drop (0 : Nat) (List.take (mn (↑xs.length : Int) (60 : Int)).toNat xs)).getD (↑g.fst : Int).toNat (u.dflt (42 : Nat))).bits,
                                                    raw := ((List.drop (0 : Nat) (List.take (mn (↑xs.length : Int) (60 : Int)).toNat xs)).getD (↑g.fst : Int).toNat (u.dflt (42 : Nat))).raw,
                                                    any :=
                                                      { base := ((List.drop (0 : Nat) (List.take (mn (↑xs.length : Int) (60 : Int)).toNat xs)).getD (↑g.fst : Int).toNat (u.dflt (42 : Nat))).any.base,
                                                        bits := ((List.drop (0 : Nat) (List.take (mn (↑xs.length : Int) (60 : Int)).toNat xs)).getD (↑g.fst : Int).toNat (u.dflt (42 : Nat))).any.bits : Blk } :
                                                    Act }).bits).snd =
                                          g_1.snd.ns) ∧
                                      g.snd.all = g_1.snd.all)) ∧
                (decide ((↑g.fst : Int) < (↑(List.drop (0 : Nat) (List.take (mn (↑xs.length : Int) (60 : Int)).toNat xs)).length : Int)) = false →
                  (∃ (g_1 : Nat × Tr),
                      DownI g_1.fst g_1.snd ∧
                        (some (0 : Nat) = some (0 : Nat) ∧ True ∧ (↑g.snd.all.length : Int) = (↑g_1.snd.all.length : Int) ∧ (0 : Int) = (↑g_1.fst : Int)) ∧
                          (g.snd.n = g_1.snd.n ∧ g.snd.ns = g_1.snd.ns) ∧ g.snd.all = g_1.snd.all) ∧
                    ∀ (g : Nat × Tr),
                      DownI g.fst g.snd →
                        (decide ((↑g.fst : Int) < (↑g.snd.all.length : Int)) = true →
                            ((g.snd.n != IntKind.i64.wrap ((↑g.snd.all.length : Int) - (↑g.fst : Int))) = false →
                                (0 : Int) ≤ IntKind.i64.wrap (IntKind.i64.wrap ((↑g.snd.all.length : Int) - (1 : Int)) - (↑g.fst : Int)) ∧
                                  IntKind.i64.wrap (IntKind.i64.wrap ((↑g.snd.all.length : Int) - (1 : Int)) - (↑g.fst : Int)) < (↑g.snd.all.length : Int)) ∧
                              ((g.snd.n != IntKind.i64.wrap ((↑g.snd.all.length : Int) - (↑g.fst : Int))) = true → false = true) ∧
                                ((g.snd.n != IntKind.i64.wrap ((↑g.snd.all.length : Int) - (↑g.fst : Int))) = false →
                                  ((takeE g.snd.ns (g.snd.all.getD (IntKind.i64.wrap (IntKind.i64.wrap ((↑g.snd.all.length : Int) - (1 : Int)) - (↑g.fst : Int))).toNat (u.dflt (26 : Nat))).base
                                            (g.snd.all.getD (IntKind.i64.wrap (IntKind.i64.wrap ((↑g.snd.all.length : Int) - (1 : Int)) - (↑g.fst : Int))).toNat (u.dflt (26 : Nat))).bits !=
                                          (0 : Int)) =
                                        false →
                                      (0 : Int) ≤ IntKind.i64.wrap (IntKind.i64.wrap ((↑g.snd.all.length : Int) - (1 : Int)) - (↑g.fst : Int)) ∧
                                        IntKind.i64.wrap (IntKind.i64.wrap ((↑g.snd.all.length : Int) - (1 : Int)) - (↑g.fst : Int)) < (↑g.snd.all.length : Int)) ∧
                                    ((takeE g.snd.ns (g.snd.all.getD (IntKind.i64.wrap (IntKind.i64.wrap ((↑g.snd.all.length : Int) - (1 : Int)) - (↑g.fst : Int))).toNat (u.dflt (26 : Nat))).base
                                              (g.snd.all.getD (IntKind.i64.wrap (IntKind.i64.wrap ((↑g.snd.all.length : Int) - (1 : Int)) - (↑g.fst : Int))).toNat (u.dflt (26 : Nat))).bits !=
                                            (0 : Int)) =
                                          true →
                                        false = true) ∧
                                      ((takeE g.snd.ns (g.snd.all.getD (IntKind.i64.wrap (IntKind.i64.wrap ((↑g.snd.all.length : Int) - (1 : Int)) - (↑g.fst : Int))).toNat (u.dflt (26 : Nat))).base
                                              (g.snd.all.getD (IntKind.i64.wrap (IntKind.i64.wrap ((↑g.snd.all.length : Int) - (1 : Int)) - (↑g.fst : Int))).toNat (u.dflt (26 : Nat))).bits !=
                                            (0 : Int)) =
                                          false →
                                        ((takeE
                                                  (takeM g.snd.n g.snd.ns (g.snd.all.getD (IntKind.i64.wrap (IntKind.i64.wrap ((↑g.snd.all.length : Int) - (1 : Int)) - (↑g.fst : Int))).toNat (u.dflt (26 : Nat))).base
                                                      (g.snd.all.getD (IntKind.i64.wrap (IntKind.i64.wrap ((↑g.snd.all.length : Int) - (1 : Int)) - (↑g.fst : Int))).toNat (u.dflt (26 : Nat))).bits).snd
                                                  (g.snd.all.getD (IntKind.i64.wrap (IntKind.i64.wrap ((↑g.snd.all.length : Int) - (1 : Int)) - (↑g.fst : Int))).toNat (u.dflt (26 : Nat))).base
                                                  (g.snd.all.getD (IntKind.i64.wrap (IntKind.i64.wrap ((↑g.snd.all.length : Int) - (1 : Int)) - (↑g.fst : Int))).toNat (u.dflt (26 : Nat))).bits !=
                                                (7 : Int)) =
                                              true →
                                            false = true) ∧
                                          ((takeE
                                                  (takeM g.snd.n g.snd.ns (g.snd.all.getD (IntKind.i64.wrap (IntKind.i64.wrap ((↑g.snd.all.length : Int) - (1 : Int)) - (↑g.fst : Int))).toNat (u.dflt (26 : Nat))).base
                                                      (g.snd.all.getD (IntKind.i64.wrap (IntKind.i64.wrap ((↑g.snd.all.length : Int) - (1 : Int)) - (↑g.fst : Int))).toNat (u.dflt (26 : Nat))).bits).snd
                                                  (g.snd.all.getD (IntKind.i64.wrap (IntKind.i64.wrap ((↑g.snd.all.length : Int) - (1 : Int)) - (↑g.fst : Int))).toNat (u.dflt (26 : Nat))).base
                                                  (g.snd.all.getD (IntKind.i64.wrap (IntKind.i64.wrap ((↑g.snd.all.length : Int) - (1 : Int)) - (↑g.fst : Int))).toNat (u.dflt (26 : Nat))).bits !=
                                                (7 : Int)) =
                                              false →
                                            ∃ (g_1 : Nat × Tr),
                                              DownI g_1.fst g_1.snd ∧
                                                annDown.μ g_1 < annDown.μ g ∧
                                                  (some (0 : Nat) = some (0 : Nat) ∧ True ∧ (↑g.snd.all.length : Int) = (↑g_1.snd.all.length : Int) ∧ IntKind.i64.wrap ((↑g.fst : Int) + (1 : Int)) = (↑g_1.fst : Int)) ∧
                                                    ((takeM
                                                              (takeM g.snd.n g.snd.ns
                                                                  (g.snd.all.getD (IntKind.i64.wrap (IntKind.i64.wrap ((↑g.snd.all.length : Int) - (1 : Int)) - (↑g.fst : Int))).toNat (u.dflt (26 : Nat))).base
                                                                  (g.snd.all.getD (IntKind.i64.wrap (IntKind.i64.wrap ((↑g.snd.all.length : Int) - (1 : Int)) - (↑g.fst : Int))).toNat (u.dflt (26 : Nat))).bits).fst
                                                              (takeM g.snd.n g.snd.ns
                                                                  (g.snd.all.getD (IntKind.i64.wrap (IntKind.i64.wrap ((↑g.snd.all.length : Int) - (1 : Int)) - (↑g.fst : Int))).toNat (u.dflt (26 : Nat))).base
                                                                  (g.snd.all.getD (IntKind.i64.wrap (IntKind.i64.wrap ((↑g.snd.all.length : Int) - (1 : Int)) - (↑g.fst : Int))).toNat (u.dflt (26 : Nat))).bits).snd
                                                              (g.snd.all.getD (IntKind.i64.wrap (IntKind.i64.wrap ((↑g.snd.all.length : Int) - (1 : Int)) - (↑g.fst : Int))).toNat (u.dflt (26 : Nat))).base
                                                              (g.snd.all.getD (IntKind.i64.wrap (IntKind.i64.wrap ((↑g.snd.all.length : Int) - (1 : Int)) - (↑g.fst : Int))).toNat (u.dflt (26 : Nat))).bits).fst =
                                                          g_1.snd.n ∧
                                                        (takeM
                                                              (takeM g.snd.n g.snd.ns
                                                                  (g.snd.all.getD (IntKind.i64.wrap (IntKind.i64.wrap ((↑g.snd.all.length : Int) - (1 : Int)) - (↑g.fst : Int))).toNat (u.dflt (26 : Nat))).base
                                                                  (g.snd.all.getD (IntKind.i64.wrap (IntKind.i64.wrap ((↑g.snd.all.length : Int) - (1 : Int)) - (↑g.fst : Int))).toNat (u.dflt (26 : Nat))).bits).fst
                                                              (takeM g.snd.n g.snd.ns
                                                                  (g.snd.all.getD (IntKind.i64.wrap (IntKind.i64.wrap ((↑g.snd.all.length : Int) - (1 : Int)) - (↑g.fst : Int))).toNat (u.dflt (26 : Nat))).base
                                                                  (g.snd.all.getD (IntKind.i64.wrap (IntKind.i64.wrap ((↑g.snd.all.length : Int) - (1 : Int)) - (↑g.fst : Int))).toNat (u.dflt (26 : Nat))).bits).snd
                                                              (g.snd.all.getD (IntKind.i64.wrap (IntKind.i64.wrap ((↑g.snd.all.length : Int) - (1 : Int)) - (↑g.fst : Int))).toNat (u.dflt (26 : Nat))).base
                                                              (g.snd.all.getD (IntKind.i64.wrap (IntKind.i64.wrap ((↑g.snd.all.length : Int) - (1 : Int)) - (↑g.fst : Int))).toNat (u.dflt (26 : Nat))).bits).snd =
                                                          g_1.snd.ns) ∧
                                                      g.snd.all = g_1.snd.all)))) ∧
                          (decide ((↑g.fst : Int) < (↑g.snd.all.length : Int)) = false →
                            ((g.snd.n == (0 : Int)) = true →
                                lenB (allM g.snd.ns) ≤ (1000000000000 : Nat) ∧
                                  ((↑(allM g.snd.ns).length : Int) == (0 : Int) && !(lonB g.snd.ns (167772160 : Int) && makeB (lonK g.snd.ns (167772160 : Int))) && !overM g.snd.ns (0 : Int) (0 : Int)) = true) ∧
                              ((g.snd.n == (0 : Int)) = false → false = true))))


end Go.Proofs.Ytndacggailoogaa.Tri
