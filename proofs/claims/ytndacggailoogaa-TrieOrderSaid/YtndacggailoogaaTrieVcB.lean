/- Tries: what the walk over all asks (printed by wip/Vc.lean; checked by the kernel in the next text). -/
import Derived.Test.YtndacggailoogaaTrieSpec
namespace Go.Proofs.Ytndacggailoogaa.Tri
open Go Go.Proofs.Ytndacggailoogaa.Sx

def vcVisitN : Nat → Nat → Int → List Nd → Option Nat → Int → Int → Prop :=
  fun (d d1 : Nat) (n : Int) (ns : List Nd) (z : Option Nat) (base bits : Int) =>
  z.isSome = true ∧
    ((ns.getD (z.getD (0 : Nat)) nd0).is = true →
        [{ base := base, bits := bits : Blk }].length * (16 : Nat) ≤ (140737488355328 : Nat) ∧
          ((!halfB base bits) = true → True ∧ ((n = n ∧ ns = ns) ∧ True ∧ True ∧ [{ base := base, bits := bits : Blk }] = allN ns d1 (z.getD (0 : Nat)) base bits) ∧ ns.length ≤ ns.length ∧ True) ∧
            ((!halfB base bits) = false →
              z.isSome = true ∧
                ((0 : Int) ≤ (0 : Int) ∧ (0 : Int) < (2 : Int)) ∧
                  nat_lit 0 < (2 : Nat) ∧
                    ((kidN (ns.getD (z.getD (0 : Nat)) nd0) (nat_lit 0)).isSome = true →
                        z.isSome = true ∧
                          ((0 : Int) ≤ (0 : Int) ∧ (0 : Int) < (2 : Int)) ∧
                            nat_lit 0 < (2 : Nat) ∧
                              ((kidN (ns.getD (z.getD (0 : Nat)) nd0) (nat_lit 0)).isSome = true ∧
                                  ((32 : Int) - if halfB base bits = true then halfN bits else (0 : Int)).toNat < d ∧
                                    ((0 : Int) ≤ if halfB base bits = true then halfN bits else (0 : Int)) ∧
                                      lenB [{ base := base, bits := bits : Blk }] +
                                          lenB
                                            (allN ns d ((kidN (ns.getD (z.getD (0 : Nat)) nd0) (nat_lit 0)).getD (0 : Nat)) (if halfB base bits = true then base else (0 : Int))
                                              (if halfB base bits = true then halfN bits else (0 : Int))) ≤
                                        (1000000000000 : Nat)) ∧
                                z.isSome = true ∧
                                  ((0 : Int) ≤ (1 : Int) ∧ (1 : Int) < (2 : Int)) ∧
                                    nat_lit 1 < (2 : Nat) ∧
                                      ((kidN (ns.getD (z.getD (0 : Nat)) nd0) (nat_lit 1)).isSome = true →
                                          z.isSome = true ∧
                                            ((0 : Int) ≤ (1 : Int) ∧ (1 : Int) < (2 : Int)) ∧
                                              nat_lit 1 < (2 : Nat) ∧
                                                ((kidN (ns.getD (z.getD (0 : Nat)) nd0) (nat_lit 1)).isSome = true ∧
                                                    ((32 : Int) - if halfB base bits = true then halfN bits else (0 : Int)).toNat < d ∧
                                                      ((0 : Int) ≤ if halfB base bits = true then halfN bits else (0 : Int)) ∧
                                                        lenB
                                                              (appB [{ base := base, bits := bits : Blk }]
                                                                (allN ns d ((kidN (ns.getD (z.getD (0 : Nat)) nd0) (nat_lit 0)).getD (0 : Nat)) (if halfB base bits = true then base else (0 : Int))
                                                                  (if halfB base bits = true then halfN bits else (0 : Int)))) +
                                                            lenB
                                                              (allN ns d ((kidN (ns.getD (z.getD (0 : Nat)) nd0) (nat_lit 1)).getD (0 : Nat)) (if halfB base bits = true then highA base bits else (0 : Int))
                                                                (if halfB base bits = true then halfN bits else (0 : Int))) ≤
                                                          (1000000000000 : Nat)) ∧
                                                  True ∧
                                                    ((n = n ∧ ns = ns) ∧
                                                        True ∧
                                                          True ∧
                                                            appB
                                                                (appB [{ base := base, bits := bits : Blk }]
                                                                  (allN ns d ((kidN (ns.getD (z.getD (0 : Nat)) nd0) (nat_lit 0)).getD (0 : Nat)) (if halfB base bits = true then base else (0 : Int))
                                                                    (if halfB base bits = true then halfN bits else (0 : Int))))
                                                                (allN ns d ((kidN (ns.getD (z.getD (0 : Nat)) nd0) (nat_lit 1)).getD (0 : Nat)) (if halfB base bits = true then highA base bits else (0 : Int))
                                                                  (if halfB base bits = true then halfN bits else (0 : Int))) =
                                                              allN ns d1 (z.getD (0 : Nat)) base bits) ∧
                                                      ns.length ≤ ns.length ∧ True) ∧
                                        ((kidN (ns.getD (z.getD (0 : Nat)) nd0) (nat_lit 1)).isSome = false →
                                          True ∧
                                            ((n = n ∧ ns = ns) ∧
                                                True ∧
                                                  True ∧
                                                    appB [{ base := base, bits := bits : Blk }]
                                                        (allN ns d ((kidN (ns.getD (z.getD (0 : Nat)) nd0) (nat_lit 0)).getD (0 : Nat)) (if halfB base bits = true then base else (0 : Int))
                                                          (if halfB base bits = true then halfN bits else (0 : Int))) =
                                                      allN ns d1 (z.getD (0 : Nat)) base bits) ∧
                                              ns.length ≤ ns.length ∧ True)) ∧
                      ((kidN (ns.getD (z.getD (0 : Nat)) nd0) (nat_lit 0)).isSome = false →
                        z.isSome = true ∧
                          ((0 : Int) ≤ (1 : Int) ∧ (1 : Int) < (2 : Int)) ∧
                            nat_lit 1 < (2 : Nat) ∧
                              ((kidN (ns.getD (z.getD (0 : Nat)) nd0) (nat_lit 1)).isSome = true →
                                  z.isSome = true ∧
                                    ((0 : Int) ≤ (1 : Int) ∧ (1 : Int) < (2 : Int)) ∧
                                      nat_lit 1 < (2 : Nat) ∧
                                        ((kidN (ns.getD (z.getD (0 : Nat)) nd0) (nat_lit 1)).isSome = true ∧
                                            ((32 : Int) - if halfB base bits = true then halfN bits else (0 : Int)).toNat < d ∧
                                              ((0 : Int) ≤ if halfB base bits = true then halfN bits else (0 : Int)) ∧
                                                lenB [{ base := base, bits := bits : Blk }] +
                                                    lenB
                                                      (allN ns d ((kidN (ns.getD (z.getD (0 : Nat)) nd0) (nat_lit 1)).getD (0 : Nat)) (if halfB base bits = true then highA base bits else (0 : Int))
                                                        (if halfB base bits = true then halfN bits else (0 : Int))) ≤
                                                  (1000000000000 : Nat)) ∧
                                          True ∧
                                            ((n = n ∧ ns = ns) ∧
                                                True ∧
                                                  True ∧
                                                    appB [{ base := base, bits := bits : Blk }]
                                                        (allN ns d ((kidN (ns.getD (z.getD (0 : Nat)) nd0) (nat_lit 1)).getD (0 : Nat)) (if halfB base bits = true then highA base bits else (0 : Int))
                                                          (if halfB base bits = true then halfN bits else (0 : Int))) =
                                                      allN ns d1 (z.getD (0 : Nat)) base bits) ∧
                                              ns.length ≤ ns.length ∧ True) ∧
                                ((kidN (ns.getD (z.getD (0 : Nat)) nd0) (nat_lit 1)).isSome = false →
                                  True ∧ ((n = n ∧ ns = ns) ∧ True ∧ True ∧ [{ base := base, bits := bits : Blk }] = allN ns d1 (z.getD (0 : Nat)) base bits) ∧ ns.length ≤ ns.length ∧ True)))) ∧
      ((ns.getD (z.getD (0 : Nat)) nd0).is = false →
        ((!halfB base bits) = true → True ∧ ((n = n ∧ ns = ns) ∧ True ∧ True ∧ allN ns d1 (z.getD (0 : Nat)) base bits = []) ∧ ns.length ≤ ns.length ∧ True) ∧
          ((!halfB base bits) = false →
            z.isSome = true ∧
              ((0 : Int) ≤ (0 : Int) ∧ (0 : Int) < (2 : Int)) ∧
                nat_lit 0 < (2 : Nat) ∧
                  ((kidN (ns.getD (z.getD (0 : Nat)) nd0) (nat_lit 0)).isSome = true →
                      z.isSome = true ∧
                        ((0 : Int) ≤ (0 : Int) ∧ (0 : Int) < (2 : Int)) ∧
                          nat_lit 0 < (2 : Nat) ∧
                            ((kidN (ns.getD (z.getD (0 : Nat)) nd0) (nat_lit 0)).isSome = true ∧
                                ((32 : Int) - if halfB base bits = true then halfN bits else (0 : Int)).toNat < d ∧
                                  ((0 : Int) ≤ if halfB base bits = true then halfN bits else (0 : Int)) ∧
                                    lenB
                                        (allN ns d ((kidN (ns.getD (z.getD (0 : Nat)) nd0) (nat_lit 0)).getD (0 : Nat)) (if halfB base bits = true then base else (0 : Int))
                                          (if halfB base bits = true then halfN bits else (0 : Int))) ≤
                                      (1000000000000 : Nat)) ∧
                              z.isSome = true ∧
                                ((0 : Int) ≤ (1 : Int) ∧ (1 : Int) < (2 : Int)) ∧
                                  nat_lit 1 < (2 : Nat) ∧
                                    ((kidN (ns.getD (z.getD (0 : Nat)) nd0) (nat_lit 1)).isSome = true →
                                        z.isSome = true ∧
                                          ((0 : Int) ≤ (1 : Int) ∧ (1 : Int) < (2 : Int)) ∧
                                            nat_lit 1 < (2 : Nat) ∧
                                              ((kidN (ns.getD (z.getD (0 : Nat)) nd0) (nat_lit 1)).isSome = true ∧
                                                  ((32 : Int) - if halfB base bits = true then halfN bits else (0 : Int)).toNat < d ∧
                                                    ((0 : Int) ≤ if halfB base bits = true then halfN bits else (0 : Int)) ∧
                                                      lenB
                                                            (allN ns d ((kidN (ns.getD (z.getD (0 : Nat)) nd0) (nat_lit 0)).getD (0 : Nat)) (if halfB base bits = true then base else (0 : Int))
                                                              (if halfB base bits = true then halfN bits else (0 : Int))) +
                                                          lenB
                                                            (allN ns d ((kidN (ns.getD (z.getD (0 : Nat)) nd0) (nat_lit 1)).getD (0 : Nat)) (if halfB base bits = true then highA base bits else (0 : Int))
                                                              (if halfB base bits = true then halfN bits else (0 : Int))) ≤
                                                        (1000000000000 : Nat)) ∧
                                                True ∧
                                                  ((n = n ∧ ns = ns) ∧
                                                      True ∧
                                                        True ∧
                                                          appB
                                                              (allN ns d ((kidN (ns.getD (z.getD (0 : Nat)) nd0) (nat_lit 0)).getD (0 : Nat)) (if halfB base bits = true then base else (0 : Int))
                                                                (if halfB base bits = true then halfN bits else (0 : Int)))
                                                              (allN ns d ((kidN (ns.getD (z.getD (0 : Nat)) nd0) (nat_lit 1)).getD (0 : Nat)) (if halfB base bits = true then highA base bits else (0 : Int))
                                                                (if halfB base bits = true then halfN bits else (0 : Int))) =
                                                            allN ns d1 (z.getD (0 : Nat)) base bits) ∧
                                                    ns.length ≤ ns.length ∧ True) ∧
                                      ((kidN (ns.getD (z.getD (0 : Nat)) nd0) (nat_lit 1)).isSome = false →
                                        True ∧
                                          ((n = n ∧ ns = ns) ∧
                                              True ∧
                                                True ∧
                                                  allN ns d ((kidN (ns.getD (z.getD (0 : Nat)) nd0) (nat_lit 0)).getD (0 : Nat)) (if halfB base bits = true then base else (0 : Int))
                                                      (if halfB base bits = true then halfN bits else (0 : Int)) =
                                                    allN ns d1 (z.getD (0 : Nat)) base bits) ∧
                                            ns.length ≤ ns.length ∧ True)) ∧
                    ((kidN (ns.getD (z.getD (0 : Nat)) nd0) (nat_lit 0)).isSome = false →
                      z.isSome = true ∧
                        ((0 : Int) ≤ (1 : Int) ∧ (1 : Int) < (2 : Int)) ∧
                          nat_lit 1 < (2 : Nat) ∧
                            ((kidN (ns.getD (z.getD (0 : Nat)) nd0) (nat_lit 1)).isSome = true →
                                z.isSome = true ∧
                                  ((0 : Int) ≤ (1 : Int) ∧ (1 : Int) < (2 : Int)) ∧
                                    nat_lit 1 < (2 : Nat) ∧
                                      ((kidN (ns.getD (z.getD (0 : Nat)) nd0) (nat_lit 1)).isSome = true ∧
                                          ((32 : Int) - if halfB base bits = true then halfN bits else (0 : Int)).toNat < d ∧
                                            ((0 : Int) ≤ if halfB base bits = true then halfN bits else (0 : Int)) ∧
                                              lenB
                                                  (allN ns d ((kidN (ns.getD (z.getD (0 : Nat)) nd0) (nat_lit 1)).getD (0 : Nat)) (if halfB base bits = true then highA base bits else (0 : Int))
                                                    (if halfB base bits = true then halfN bits else (0 : Int))) ≤
                                                (1000000000000 : Nat)) ∧
                                        True ∧
                                          ((n = n ∧ ns = ns) ∧
                                              True ∧
                                                True ∧
                                                  allN ns d ((kidN (ns.getD (z.getD (0 : Nat)) nd0) (nat_lit 1)).getD (0 : Nat)) (if halfB base bits = true then highA base bits else (0 : Int))
                                                      (if halfB base bits = true then halfN bits else (0 : Int)) =
                                                    allN ns d1 (z.getD (0 : Nat)) base bits) ∧
                                            ns.length ≤ ns.length ∧ True) ∧
                              ((kidN (ns.getD (z.getD (0 : Nat)) nd0) (nat_lit 1)).isSome = false →
                                True ∧ ((n = n ∧ ns = ns) ∧ True ∧ True ∧ allN ns d1 (z.getD (0 : Nat)) base bits = []) ∧ ns.length ≤ ns.length ∧ True))))

def vcVisitR : Nat → Nat → Int → List Nd → Option Nat → Int → Int → List Blk → Prop :=
  fun (d d1 : Nat) (n : Int) (ns : List Nd) (z : Option Nat) (base bits : Int) (xs : List Blk) =>
  z.isSome = true ∧
    ((ns.getD (z.getD (0 : Nat)) nd0).is = true →
        (xs.length + [{ base := base, bits := bits : Blk }].length) * (16 : Nat) ≤ (140737488355328 : Nat) ∧
          ((!halfB base bits) = true → True ∧ ((n = n ∧ ns = ns) ∧ True ∧ True ∧ True ∧ xs ++ [{ base := base, bits := bits : Blk }] = appB xs (allN ns d1 (z.getD (0 : Nat)) base bits)) ∧ ns.length ≤ ns.length ∧ True) ∧
            ((!halfB base bits) = false →
              z.isSome = true ∧
                ((0 : Int) ≤ (0 : Int) ∧ (0 : Int) < (2 : Int)) ∧
                  nat_lit 0 < (2 : Nat) ∧
                    ((kidN (ns.getD (z.getD (0 : Nat)) nd0) (nat_lit 0)).isSome = true →
                        z.isSome = true ∧
                          ((0 : Int) ≤ (0 : Int) ∧ (0 : Int) < (2 : Int)) ∧
                            nat_lit 0 < (2 : Nat) ∧
                              ((kidN (ns.getD (z.getD (0 : Nat)) nd0) (nat_lit 0)).isSome = true ∧
                                  ((32 : Int) - if halfB base bits = true then halfN bits else (0 : Int)).toNat < d ∧
                                    ((0 : Int) ≤ if halfB base bits = true then halfN bits else (0 : Int)) ∧
                                      lenB (xs ++ [{ base := base, bits := bits : Blk }]) +
                                          lenB
                                            (allN ns d ((kidN (ns.getD (z.getD (0 : Nat)) nd0) (nat_lit 0)).getD (0 : Nat)) (if halfB base bits = true then base else (0 : Int))
                                              (if halfB base bits = true then halfN bits else (0 : Int))) ≤
                                        (1000000000000 : Nat)) ∧
                                z.isSome = true ∧
                                  ((0 : Int) ≤ (1 : Int) ∧ (1 : Int) < (2 : Int)) ∧
                                    nat_lit 1 < (2 : Nat) ∧
                                      ((kidN (ns.getD (z.getD (0 : Nat)) nd0) (nat_lit 1)).isSome = true →
                                          z.isSome = true ∧
                                            ((0 : Int) ≤ (1 : Int) ∧ (1 : Int) < (2 : Int)) ∧
                                              nat_lit 1 < (2 : Nat) ∧
                                                ((kidN (ns.getD (z.getD (0 : Nat)) nd0) (nat_lit 1)).isSome = true ∧
                                                    ((32 : Int) - if halfB base bits = true then halfN bits else (0 : Int)).toNat < d ∧
                                                      ((0 : Int) ≤ if halfB base bits = true then halfN bits else (0 : Int)) ∧
                                                        lenB
                                                              (appB (xs ++ [{ base := base, bits := bits : Blk }])
                                                                (allN ns d ((kidN (ns.getD (z.getD (0 : Nat)) nd0) (nat_lit 0)).getD (0 : Nat)) (if halfB base bits = true then base else (0 : Int))
                                                                  (if halfB base bits = true then halfN bits else (0 : Int)))) +
                                                            lenB
                                                              (allN ns d ((kidN (ns.getD (z.getD (0 : Nat)) nd0) (nat_lit 1)).getD (0 : Nat)) (if halfB base bits = true then highA base bits else (0 : Int))
                                                                (if halfB base bits = true then halfN bits else (0 : Int))) ≤
                                                          (1000000000000 : Nat)) ∧
                                                  True ∧
                                                    ((n = n ∧ ns = ns) ∧
                                                        True ∧
                                                          True ∧
                                                            True ∧
                                                              appB
                                                                  (appB (xs ++ [{ base := base, bits := bits : Blk }])
                                                                    (allN ns d ((kidN (ns.getD (z.getD (0 : Nat)) nd0) (nat_lit 0)).getD (0 : Nat)) (if halfB base bits = true then base else (0 : Int))
                                                                      (if halfB base bits = true then halfN bits else (0 : Int))))
                                                                  (allN ns d ((kidN (ns.getD (z.getD (0 : Nat)) nd0) (nat_lit 1)).getD (0 : Nat)) (if halfB base bits = true then highA base bits else (0 : Int))
                                                                    (if halfB base bits = true then halfN bits else (0 : Int))) =
                                                                appB xs (allN ns d1 (z.getD (0 : Nat)) base bits)) ∧
                                                      ns.length ≤ ns.length ∧ True) ∧
                                        ((kidN (ns.getD (z.getD (0 : Nat)) nd0) (nat_lit 1)).isSome = false →
                                          True ∧
                                            ((n = n ∧ ns = ns) ∧
                                                True ∧
                                                  True ∧
                                                    True ∧
                                                      appB (xs ++ [{ base := base, bits := bits : Blk }])
                                                          (allN ns d ((kidN (ns.getD (z.getD (0 : Nat)) nd0) (nat_lit 0)).getD (0 : Nat)) (if halfB base bits = true then base else (0 : Int))
                                                            (if halfB base bits = true then halfN bits else (0 : Int))) =
                                                        appB xs (allN ns d1 (z.getD (0 : Nat)) base bits)) ∧
                                              ns.length ≤ ns.length ∧ True)) ∧
                      ((kidN (ns.getD (z.getD (0 : Nat)) nd0) (nat_lit 0)).isSome = false →
                        z.isSome = true ∧
                          ((0 : Int) ≤ (1 : Int) ∧ (1 : Int) < (2 : Int)) ∧
                            nat_lit 1 < (2 : Nat) ∧
                              ((kidN (ns.getD (z.getD (0 : Nat)) nd0) (nat_lit 1)).isSome = true →
                                  z.isSome = true ∧
                                    ((0 : Int) ≤ (1 : Int) ∧ (1 : Int) < (2 : Int)) ∧
                                      nat_lit 1 < (2 : Nat) ∧
                                        ((kidN (ns.getD (z.getD (0 : Nat)) nd0) (nat_lit 1)).isSome = true ∧
                                            ((32 : Int) - if halfB base bits = true then halfN bits else (0 : Int)).toNat < d ∧
                                              ((0 : Int) ≤ if halfB base bits = true then halfN bits else (0 : Int)) ∧
                                                lenB (xs ++ [{ base := base, bits := bits : Blk }]) +
                                                    lenB
                                                      (allN ns d ((kidN (ns.getD (z.getD (0 : Nat)) nd0) (nat_lit 1)).getD (0 : Nat)) (if halfB base bits = true then highA base bits else (0 : Int))
                                                        (if halfB base bits = true then halfN bits else (0 : Int))) ≤
                                                  (1000000000000 : Nat)) ∧
                                          True ∧
                                            ((n = n ∧ ns = ns) ∧
                                                True ∧
                                                  True ∧
                                                    True ∧
                                                      appB (xs ++ [{ base := base, bits := bits : Blk }])
                                                          (allN ns d ((kidN (ns.getD (z.getD (0 : Nat)) nd0) (nat_lit 1)).getD (0 : Nat)) (if halfB base bits = true then highA base bits else (0 : Int))
                                                            (if halfB base bits = true then halfN bits else (0 : Int))) =
                                                        appB xs (allN ns d1 (z.getD (0 : Nat)) base bits)) ∧
                                              ns.length ≤ ns.length ∧ True) ∧
                                ((kidN (ns.getD (z.getD (0 : Nat)) nd0) (nat_lit 1)).isSome = false →
                                  True ∧ ((n = n ∧ ns = ns) ∧ True ∧ True ∧ True ∧ xs ++ [{ base := base, bits := bits : Blk }] = appB xs (allN ns d1 (z.getD (0 : Nat)) base bits)) ∧ ns.length ≤ ns.length ∧ True)))) ∧
      ((ns.getD (z.getD (0 : Nat)) nd0).is = false →
        ((!halfB base bits) = true → True ∧ ((n = n ∧ ns = ns) ∧ True ∧ True ∧ True ∧ xs = appB xs (allN ns d1 (z.getD (0 : Nat)) base bits)) ∧ ns.length ≤ ns.length ∧ True) ∧
          ((!halfB base bits) = false →
            z.isSome = true ∧
              ((0 : Int) ≤ (0 : Int) ∧ (0 : Int) < (2 : Int)) ∧
                nat_lit 0 < (2 : Nat) ∧
                  ((kidN (ns.getD (z.getD (0 : Nat)) nd0) (nat_lit 0)).isSome = true →
                      z.isSome = true ∧
                        ((0 : Int) ≤ (0 : Int) ∧ (0 : Int) < (2 : Int)) ∧
                          nat_lit 0 < (2 : Nat) ∧
                            ((kidN (ns.getD (z.getD (0 : Nat)) nd0) (nat_lit 0)).isSome = true ∧
                                ((32 : Int) - if halfB base bits = true then halfN bits else (0 : Int)).toNat < d ∧
                                  ((0 : Int) ≤ if halfB base bits = true then halfN bits else (0 : Int)) ∧
                                    lenB xs +
                                        lenB
                                          (allN ns d ((kidN (ns.getD (z.getD (0 : Nat)) nd0) (nat_lit 0)).getD (0 : Nat)) (if halfB base bits = true then base else (0 : Int))
                                            (if halfB base bits = true then halfN bits else (0 : Int))) ≤
                                      (1000000000000 : Nat)) ∧
                              z.isSome = true ∧
                                ((0 : Int) ≤ (1 : Int) ∧ (1 : Int) < (2 : Int)) ∧
                                  nat_lit 1 < (2 : Nat) ∧
                                    ((kidN (ns.getD (z.getD (0 : Nat)) nd0) (nat_lit 1)).isSome = true →
                                        z.isSome = true ∧
                                          ((0 : Int) ≤ (1 : Int) ∧ (1 : Int) < (2 : Int)) ∧
                                            nat_lit 1 < (2 : Nat) ∧
                                              ((kidN (ns.getD (z.getD (0 : Nat)) nd0) (nat_lit 1)).isSome = true ∧
                                                  ((32 : Int) - if halfB base bits = true then halfN bits else (0 : Int)).toNat < d ∧
                                                    ((0 : Int) ≤ if halfB base bits = true then halfN bits else (0 : Int)) ∧
                                                      lenB
                                                            (appB xs
                                                              (allN ns d ((kidN (ns.getD (z.getD (0 : Nat)) nd0) (nat_lit 0)).getD (0 : Nat)) (if halfB base bits = true then base else (0 : Int))
                                                                (if halfB base bits = true then halfN bits else (0 : Int)))) +
                                                          lenB
                                                            (allN ns d ((kidN (ns.getD (z.getD (0 : Nat)) nd0) (nat_lit 1)).getD (0 : Nat)) (if halfB base bits = true then highA base bits else (0 : Int))
                                                              (if halfB base bits = true then halfN bits else (0 : Int))) ≤
                                                        (1000000000000 : Nat)) ∧
                                                True ∧
                                                  ((n = n ∧ ns = ns) ∧
                                                      True ∧
                                                        True ∧
                                                          True ∧
                                                            appB
                                                                (appB xs
                                                                  (allN ns d ((kidN (ns.getD (z.getD (0 : Nat)) nd0) (nat_lit 0)).getD (0 : Nat)) (if halfB base bits = true then base else (0 : Int))
                                                                    (if halfB base bits = true then halfN bits else (0 : Int))))
                                                                (allN ns d ((kidN (ns.getD (z.getD (0 : Nat)) nd0) (nat_lit 1)).getD (0 : Nat)) (if halfB base bits = true then highA base bits else (0 : Int))
                                                                  (if halfB base bits = true then halfN bits else (0 : Int))) =
                                                              appB xs (allN ns d1 (z.getD (0 : Nat)) base bits)) ∧
                                                    ns.length ≤ ns.length ∧ True) ∧
                                      ((kidN (ns.getD (z.getD (0 : Nat)) nd0) (nat_lit 1)).isSome = false →
                                        True ∧
                                          ((n = n ∧ ns = ns) ∧
                                              True ∧
                                                True ∧
                                                  True ∧
                                                    appB xs
                                                        (allN ns d ((kidN (ns.getD (z.getD (0 : Nat)) nd0) (nat_lit 0)).getD (0 : Nat)) (if halfB base bits = true then base else (0 : Int))
                                                          (if halfB base bits = true then halfN bits else (0 : Int))) =
                                                      appB xs (allN ns d1 (z.getD (0 : Nat)) base bits)) ∧
                                            ns.length ≤ ns.length ∧ True)) ∧
                    ((kidN (ns.getD (z.getD (0 : Nat)) nd0) (nat_lit 0)).isSome = false →
                      z.isSome = true ∧
                        ((0 : Int) ≤ (1 : Int) ∧ (1 : Int) < (2 : Int)) ∧
                          nat_lit 1 < (2 : Nat) ∧
                            ((kidN (ns.getD (z.getD (0 : Nat)) nd0) (nat_lit 1)).isSome = true →
                                z.isSome = true ∧
                                  ((0 : Int) ≤ (1 : Int) ∧ (1 : Int) < (2 : Int)) ∧
                                    nat_lit 1 < (2 : Nat) ∧
                                      ((kidN (ns.getD (z.getD (0 : Nat)) nd0) (nat_lit 1)).isSome = true ∧
                                          ((32 : Int) - if halfB base bits = true then halfN bits else (0 : Int)).toNat < d ∧
                                            ((0 : Int) ≤ if halfB base bits = true then halfN bits else (0 : Int)) ∧
                                              lenB xs +
                                                  lenB
                                                    (allN ns d ((kidN (ns.getD (z.getD (0 : Nat)) nd0) (nat_lit 1)).getD (0 : Nat)) (if halfB base bits = true then highA base bits else (0 : Int))
                                                      (if halfB base bits = true then halfN bits else (0 : Int))) ≤
                                                (1000000000000 : Nat)) ∧
                                        True ∧
                                          ((n = n ∧ ns = ns) ∧
                                              True ∧
                                                True ∧
                                                  True ∧
                                                    appB xs
                                                        (allN ns d ((kidN (ns.getD (z.getD (0 : Nat)) nd0) (nat_lit 1)).getD (0 : Nat)) (if halfB base bits = true then highA base bits else (0 : Int))
                                                          (if halfB base bits = true then halfN bits else (0 : Int))) =
                                                      appB xs (allN ns d1 (z.getD (0 : Nat)) base bits)) ∧
                                            ns.length ≤ ns.length ∧ True) ∧
                              ((kidN (ns.getD (z.getD (0 : Nat)) nd0) (nat_lit 1)).isSome = false →
                                True ∧ ((n = n ∧ ns = ns) ∧ True ∧ True ∧ True ∧ xs = appB xs (allN ns d1 (z.getD (0 : Nat)) base bits)) ∧ ns.length ≤ ns.length ∧ True))))

def vcAll : Int → List Nd → Prop :=
  fun (n : Int) (ns : List Nd) =>
  (some (0 : Nat)).isSome = true ∧
    ((some (0 : Nat)).isSome = true ∧ (32 : Nat) < (33 : Nat) ∧ (0 : Int) ≤ (0 : Int) ∧ lenB (allN ns (33 : Nat) (0 : Nat) (0 : Int) (0 : Int)) ≤ (1000000000000 : Nat)) ∧
      True ∧ ((n = n ∧ ns = ns) ∧ allN ns (33 : Nat) (0 : Nat) (0 : Int) (0 : Int) = allM ns) ∧ ns.length ≤ ns.length ∧ True


end Go.Proofs.Ytndacggailoogaa.Tri
