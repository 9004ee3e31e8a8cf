/- Sums of bytes: what the bodies come to (printed by wip/Vc.lean; checked by the kernel in the next text). -/
import Derived.Test.YtacafjapnppacaaSumSpec
namespace Go.Proofs.Ytacafjapnppacaa.Sum
open Go Go.Proofs.Ytacafjapnppacaa.Sx
def vc10 : List Int → Prop :=
  fun (xs : List Int) =>
  (∃ (g : Nat), g.le xs.length ∧ xs = xs ∧ (↑xs.length : Int) = (↑xs.length : Int) ∧ (0 : Int) = (↑g : Int) ∧ (4294967295 : Int) = foldA (List.take g xs)) ∧
    ∀ (g : Nat),
      g.le xs.length →
        (decide ((↑g : Int) < (↑xs.length : Int)) = true →
            ((0 : Int) ≤ (↑g : Int) ∧ (↑g : Int) < (↑xs.length : Int)) ∧
              (decide ((0 : Int) < (8 : Int)) = true →
                  (0 : Int) ≤ (1 : Int) ∧
                    ((bitsI BinOp.and IntKind.u32 (bitsI BinOp.xor IntKind.u32 (foldA (List.take g xs)) (IntKind.u32.wrap (xs.getD (↑g : Int).toNat (u.dflt (5 : Nat))))) (1 : Int) == (1 : Int)) = true → True) ∧
                      ((bitsI BinOp.and IntKind.u32 (bitsI BinOp.xor IntKind.u32 (foldA (List.take g xs)) (IntKind.u32.wrap (xs.getD (↑g : Int).toNat (u.dflt (5 : Nat))))) (1 : Int) == (1 : Int)) = false → True) ∧
                        ∀ (v : Int),
                          (v =
                              if (bitsI BinOp.and IntKind.u32 (bitsI BinOp.xor IntKind.u32 (foldA (List.take g xs)) (IntKind.u32.wrap (xs.getD (↑g : Int).toNat (u.dflt (5 : Nat))))) (1 : Int) == (1 : Int)) = true then
                                bitsI BinOp.xor IntKind.u32 (shr IntKind.u32 (bitsI BinOp.xor IntKind.u32 (foldA (List.take g xs)) (IntKind.u32.wrap (xs.getD (↑g : Int).toNat (u.dflt (5 : Nat))))) (1 : Int))
                                  (2197175160 : Int)
                              else shr IntKind.u32 (bitsI BinOp.xor IntKind.u32 (foldA (List.take g xs)) (IntKind.u32.wrap (xs.getD (↑g : Int).toNat (u.dflt (5 : Nat))))) (1 : Int)) →
                            (decide ((1 : Int) < (8 : Int)) = true →
                                (0 : Int) ≤ (1 : Int) ∧
                                  ((bitsI BinOp.and IntKind.u32 v (1 : Int) == (1 : Int)) = true → True) ∧
                                    ((bitsI BinOp.and IntKind.u32 v (1 : Int) == (1 : Int)) = false → True) ∧
                                      ∀ (v_1 : Int),
                                        (v_1 =
                                            if (bitsI BinOp.and IntKind.u32 v (1 : Int) == (1 : Int)) = true then bitsI BinOp.xor IntKind.u32 (shr IntKind.u32 v (1 : Int)) (2197175160 : Int)
                                            else shr IntKind.u32 v (1 : Int)) →
                                          (decide ((2 : Int) < (8 : Int)) = true →
                                              (0 : Int) ≤ (1 : Int) ∧
                                                ((bitsI BinOp.and IntKind.u32 v_1 (1 : Int) == (1 : Int)) = true → True) ∧
                                                  ((bitsI BinOp.and IntKind.u32 v_1 (1 : Int) == (1 : Int)) = false → True) ∧
                                                    ∀ (v : Int),
                                                      (v =
                                                          if (bitsI BinOp.and IntKind.u32 v_1 (1 : Int) == (1 : Int)) = true then bitsI BinOp.xor IntKind.u32 (shr IntKind.u32 v_1 (1 : Int)) (2197175160 : Int)
                                                          else shr IntKind.u32 v_1 (1 : Int)) →
                                                        (decide ((3 : Int) < (8 : Int)) = true →
                                                            (0 : Int) ≤ (1 : Int) ∧
                                                              ((bitsI BinOp.and IntKind.u32 v (1 : Int) == (1 : Int)) = true → True) ∧
                                                                ((bitsI BinOp.and IntKind.u32 v (1 : Int) == (1 : Int)) = false → True) ∧
                                                                  ∀ (v_2 : Int),
                                                                    (v_2 =
                                                                        if (bitsI BinOp.and IntKind.u32 v (1 : Int) == (1 : Int)) = true then bitsI BinOp.xor IntKind.u32 (shr IntKind.u32 v (1 : Int)) (2197175160 : Int)
                                                                        else shr IntKind.u32 v (1 : Int)) →
                                                                      (decide ((4 : Int) < (8 : Int)) = true →
                                                                          (0 : Int) ≤ (1 : Int) ∧
                                                                            ((bitsI BinOp.and IntKind.u32 v_2 (1 : Int) == (1 : Int)) = true → True) ∧
                                                                              ((bitsI BinOp.and IntKind.u32 v_2 (1 : Int) == (1 : Int)) = false → True) ∧
                                                                                ∀ (v : Int),
                                                                                  (v =
                                                                                      if (bitsI BinOp.and IntKind.u32 v_2 (1 : Int) == (1 : Int)) = true then
                                                                                        bitsI BinOp.xor IntKind.u32 (shr IntKind.u32 v_2 (1 : Int)) (2197175160 : Int)
                                                                                      else shr IntKind.u32 v_2 (1 : Int)) →
                                                                                    (decide ((5 : Int) < (8 : Int)) = true →
                                                                                        (0 : Int) ≤ (1 : Int) ∧
                                                                                          ((bitsI BinOp.and IntKind.u32 v (1 : Int) == (1 : Int)) = true → True) ∧
                                                                                            ((bitsI BinOp.and IntKind.u32 v (1 : Int) == (1 : Int)) = false → True) ∧
                                                                                              ∀ (v_3 : Int),
                                                                                                (v_3 =
                                                                                                    if (bitsI BinOp.and IntKind.u32 v (1 : Int) == (1 : Int)) = true then
                                                                                                      bitsI BinOp.xor IntKind.u32 (shr IntKind.u32 v (1 : Int)) (2197175160 : Int)
                                                                                                    else shr IntKind.u32 v (1 : Int)) →
                                                                                                  (decide ((6 : Int) < (8 : Int)) = true →
                                                                                                      (0 : Int) ≤ (1 : Int) ∧
                                                                                                        ((bitsI BinOp.and IntKind.u32 v_3 (1 : Int) == (1 : Int)) = true → True) ∧
                                                                                                          ((bitsI BinOp.and IntKind.u32 v_3 (1 : Int) == (1 : Int)) = false → True) ∧
                                                                                                            ∀ (v : Int),
                                                                                                              (v =
                                                                                                                  if (bitsI BinOp.and IntKind.u32 v_3 (1 : Int) == (1 : Int)) = true then
                                                                                                                    bitsI BinOp.xor IntKind.u32 (shr IntKind.u32 v_3 (1 : Int)) (2197175160 : Int)
                                                                                                                  else shr IntKind.u32 v_3 (1 : Int)) →
                                                                                                                (decide ((7 : Int) < (8 : Int)) = true →
                                                                                                                    (0 : Int) ≤ (1 : Int) ∧
                                                                                                                      ((bitsI BinOp.and IntKind.u32 v (1 : Int) == (1 : Int)) = true → True) ∧
                                                                                                                        ((bitsI BinOp.and IntKind.u32 v (1 : Int) == (1 : Int)) = false → True) ∧
                                                                                                                          ∀ (v_4 : Int),
                                                                                                                            (v_4 =
                                                                                                                                if (bitsI BinOp.and IntKind.u32 v (1 : Int) == (1 : Int)) = true then
                                                                                                                                  bitsI BinOp.xor IntKind.u32 (shr IntKind.u32 v (1 : Int)) (2197175160 : Int)
                                                                                                                                else shr IntKind.u32 v (1 : Int)) →
                                                                                                                              (decide ((8 : Int) < (8 : Int)) = true →
                                                                                                                                  (0 : Int) ≤ (1 : Int) ∧
                                                                                                                                    ((bitsI BinOp.and IntKind.u32 v_4 (1 : Int) == (1 : Int)) = true → True) ∧
                                                                                                                                      ((bitsI BinOp.and IntKind.u32 v_4 (1 : Int) == (1 : Int)) = false → True) ∧
                                                                                                                                        ∀ (v : Int),
                                                                                                                                          (v =
                                                                                                                                              if (bitsI BinOp.and IntKind.u32 v_4 (1 : Int) == (1 : Int)) = true then
                                                                                                                                                bitsI BinOp.xor IntKind.u32 (shr IntKind.u32 v_4 (1 : Int))
                                                                                                                                                  (2197175160 : Int)
                                                                                                                                              else shr IntKind.u32 v_4 (1 : Int)) →
                                                                                                                                            False) ∧
                                                                                                                                (decide ((8 : Int) < (8 : Int)) = false →
                                                                                                                                  ∃ (g_1 : Nat),
                                                                                                                                    g_1.le xs.length ∧
                                                                                                                                      (ann10 xs).μ g_1 < (ann10 xs).μ g ∧
                                                                                                                                        xs = xs ∧
                                                                                                                                          (↑xs.length : Int) = (↑xs.length : Int) ∧
                                                                                                                                            IntKind.i64.wrap ((↑g : Int) + (1 : Int)) = (↑g_1 : Int) ∧
                                                                                                                                              v_4 = foldA (List.take g_1 xs))) ∧
                                                                                                                  (decide ((7 : Int) < (8 : Int)) = false →
                                                                                                                    ∃ (g_1 : Nat),
                                                                                                                      g_1.le xs.length ∧
                                                                                                                        (ann10 xs).μ g_1 < (ann10 xs).μ g ∧
                                                                                                                          xs = xs ∧
                                                                                                                            (↑xs.length : Int) = (↑xs.length : Int) ∧
                                                                                                                              IntKind.i64.wrap ((↑g : Int) + (1 : Int)) = (↑g_1 : Int) ∧ v = foldA (List.take g_1 xs))) ∧
                                                                                                    (decide ((6 : Int) < (8 : Int)) = false →
                                                                                                      ∃ (g_1 : Nat),
                                                                                                        g_1.le xs.length ∧
                                                                                                          (ann10 xs).μ g_1 < (ann10 xs).μ g ∧
                                                                                                            xs = xs ∧
                                                                                                              (↑xs.length : Int) = (↑xs.length : Int) ∧
                                                                                                                IntKind.i64.wrap ((↑g : Int) + (1 : Int)) = (↑g_1 : Int) ∧ v_3 = foldA (List.take g_1 xs))) ∧
                                                                                      (decide ((5 : Int) < (8 : Int)) = false →
                                                                                        ∃ (g_1 : Nat),
                                                                                          g_1.le xs.length ∧
                                                                                            (ann10 xs).μ g_1 < (ann10 xs).μ g ∧
                                                                                              xs = xs ∧
                                                                                                (↑xs.length : Int) = (↑xs.length : Int) ∧
                                                                                                  IntKind.i64.wrap ((↑g : Int) + (1 : Int)) = (↑g_1 : Int) ∧ v = foldA (List.take g_1 xs))) ∧
                                                                        (decide ((4 : Int) < (8 : Int)) = false →
                                                                          ∃ (g_1 : Nat),
                                                                            g_1.le xs.length ∧
                                                                              (ann10 xs).μ g_1 < (ann10 xs).μ g ∧
                                                                                xs = xs ∧
                                                                                  (↑xs.length : Int) = (↑xs.length : Int) ∧ IntKind.i64.wrap ((↑g : Int) + (1 : Int)) = (↑g_1 : Int) ∧ v_2 = foldA (List.take g_1 xs))) ∧
                                                          (decide ((3 : Int) < (8 : Int)) = false →
                                                            ∃ (g_1 : Nat),
                                                              g_1.le xs.length ∧
                                                                (ann10 xs).μ g_1 < (ann10 xs).μ g ∧
                                                                  xs = xs ∧ (↑xs.length : Int) = (↑xs.length : Int) ∧ IntKind.i64.wrap ((↑g : Int) + (1 : Int)) = (↑g_1 : Int) ∧ v = foldA (List.take g_1 xs))) ∧
                                            (decide ((2 : Int) < (8 : Int)) = false →
                                              ∃ (g_1 : Nat),
                                                g_1.le xs.length ∧
                                                  (ann10 xs).μ g_1 < (ann10 xs).μ g ∧
                                                    xs = xs ∧ (↑xs.length : Int) = (↑xs.length : Int) ∧ IntKind.i64.wrap ((↑g : Int) + (1 : Int)) = (↑g_1 : Int) ∧ v_1 = foldA (List.take g_1 xs))) ∧
                              (decide ((1 : Int) < (8 : Int)) = false →
                                ∃ (g_1 : Nat),
                                  g_1.le xs.length ∧
                                    (ann10 xs).μ g_1 < (ann10 xs).μ g ∧ xs = xs ∧ (↑xs.length : Int) = (↑xs.length : Int) ∧ IntKind.i64.wrap ((↑g : Int) + (1 : Int)) = (↑g_1 : Int) ∧ v = foldA (List.take g_1 xs))) ∧
                (decide ((0 : Int) < (8 : Int)) = false →
                  ∃ (g_1 : Nat),
                    g_1.le xs.length ∧
                      (ann10 xs).μ g_1 < (ann10 xs).μ g ∧
                        xs = xs ∧
                          (↑xs.length : Int) = (↑xs.length : Int) ∧
                            IntKind.i64.wrap ((↑g : Int) + (1 : Int)) = (↑g_1 : Int) ∧
                              bitsI BinOp.xor IntKind.u32 (foldA (List.take g xs)) (IntKind.u32.wrap (xs.getD (↑g : Int).toNat (u.dflt (5 : Nat)))) = foldA (List.take g_1 xs))) ∧
          (decide ((↑g : Int) < (↑xs.length : Int)) = false → bitsI BinOp.xor IntKind.u32 (4294967295 : Int) (foldA (List.take g xs)) = notU (foldA xs))

def vc11 : List Int → Prop :=
  fun (xs : List Int) =>
  (∃ (g : Nat), g.le xs.length ∧ xs = xs ∧ (↑xs.length : Int) = (↑xs.length : Int) ∧ (0 : Int) = (↑g : Int) ∧ (4294967295 : Int) = foldB (List.take g xs)) ∧
    ∀ (g : Nat),
      g.le xs.length →
        (decide ((↑g : Int) < (↑xs.length : Int)) = true →
            ((0 : Int) ≤ (↑g : Int) ∧ (↑g : Int) < (↑xs.length : Int)) ∧
              (decide ((0 : Int) < (8 : Int)) = true →
                  (2 : Int) ≠ (0 : Int) ∧
                    (((bitsI BinOp.and IntKind.u32 (bitsI BinOp.xor IntKind.u32 (foldB (List.take g xs)) (IntKind.u32.wrap (xs.getD (↑g : Int).toNat (u.dflt (5 : Nat))))) (255 : Int)).tmod (2 : Int) == (1 : Int)) =
                          true →
                        (2 : Int) = (0 : Int) → False) ∧
                      (((bitsI BinOp.and IntKind.u32 (bitsI BinOp.xor IntKind.u32 (foldB (List.take g xs)) (IntKind.u32.wrap (xs.getD (↑g : Int).toNat (u.dflt (5 : Nat))))) (255 : Int)).tmod (2 : Int) == (1 : Int)) =
                            false →
                          (2 : Int) = (0 : Int) → False) ∧
                        ∀ (v : Int),
                          (v =
                              if
                                  ((bitsI BinOp.and IntKind.u32 (bitsI BinOp.xor IntKind.u32 (foldB (List.take g xs)) (IntKind.u32.wrap (xs.getD (↑g : Int).toNat (u.dflt (5 : Nat))))) (255 : Int)).tmod (2 : Int) ==
                                      (1 : Int)) =
                                    true then
                                bitsI BinOp.xor IntKind.u32
                                  (IntKind.u32.wrap
                                    ((bitsI BinOp.and IntKind.u32 (bitsI BinOp.xor IntKind.u32 (foldB (List.take g xs)) (IntKind.u32.wrap (xs.getD (↑g : Int).toNat (u.dflt (5 : Nat))))) (255 : Int)).tdiv (2 : Int)))
                                  (2197175160 : Int)
                              else
                                IntKind.u32.wrap
                                  ((bitsI BinOp.and IntKind.u32 (bitsI BinOp.xor IntKind.u32 (foldB (List.take g xs)) (IntKind.u32.wrap (xs.getD (↑g : Int).toNat (u.dflt (5 : Nat))))) (255 : Int)).tdiv (2 : Int))) →
                            (decide ((1 : Int) < (8 : Int)) = true →
                                (2 : Int) ≠ (0 : Int) ∧
                                  ((v.tmod (2 : Int) == (1 : Int)) = true → (2 : Int) = (0 : Int) → False) ∧
                                    ((v.tmod (2 : Int) == (1 : Int)) = false → (2 : Int) = (0 : Int) → False) ∧
                                      ∀ (v_1 : Int),
                                        (v_1 =
                                            if (v.tmod (2 : Int) == (1 : Int)) = true then bitsI BinOp.xor IntKind.u32 (IntKind.u32.wrap (v.tdiv (2 : Int))) (2197175160 : Int) else IntKind.u32.wrap (v.tdiv (2 : Int))) →
                                          (decide ((2 : Int) < (8 : Int)) = true →
                                              (2 : Int) ≠ (0 : Int) ∧
                                                ((v_1.tmod (2 : Int) == (1 : Int)) = true → (2 : Int) = (0 : Int) → False) ∧
                                                  ((v_1.tmod (2 : Int) == (1 : Int)) = false → (2 : Int) = (0 : Int) → False) ∧
                                                    ∀ (v : Int),
                                                      (v =
                                                          if (v_1.tmod (2 : Int) == (1 : Int)) = true then bitsI BinOp.xor IntKind.u32 (IntKind.u32.wrap (v_1.tdiv (2 : Int))) (2197175160 : Int)
                                                          else IntKind.u32.wrap (v_1.tdiv (2 : Int))) →
                                                        (decide ((3 : Int) < (8 : Int)) = true →
                                                            (2 : Int) ≠ (0 : Int) ∧
                                                              ((v.tmod (2 : Int) == (1 : Int)) = true → (2 : Int) = (0 : Int) → False) ∧
                                                                ((v.tmod (2 : Int) == (1 : Int)) = false → (2 : Int) = (0 : Int) → False) ∧
                                                                  ∀ (v_2 : Int),
                                                                    (v_2 =
                                                                        if (v.tmod (2 : Int) == (1 : Int)) = true then bitsI BinOp.xor IntKind.u32 (IntKind.u32.wrap (v.tdiv (2 : Int))) (2197175160 : Int)
                                                                        else IntKind.u32.wrap (v.tdiv (2 : Int))) →
                                                                      (decide ((4 : Int) < (8 : Int)) = true →
                                                                          (2 : Int) ≠ (0 : Int) ∧
                                                                            ((v_2.tmod (2 : Int) == (1 : Int)) = true → (2 : Int) = (0 : Int) → False) ∧
                                                                              ((v_2.tmod (2 : Int) == (1 : Int)) = false → (2 : Int) = (0 : Int) → False) ∧
                                                                                ∀ (v : Int),
                                                                                  (v =
                                                                                      if (v_2.tmod (2 : Int) == (1 : Int)) = true then
                                                                                        bitsI BinOp.xor IntKind.u32 (IntKind.u32.wrap (v_2.tdiv (2 : Int))) (2197175160 : Int)
                                                                                      else IntKind.u32.wrap (v_2.tdiv (2 : Int))) →
                                                                                    (decide ((5 : Int) < (8 : Int)) = true →
                                                                                        (2 : Int) ≠ (0 : Int) ∧
                                                                                          ((v.tmod (2 : Int) == (1 : Int)) = true → (2 : Int) = (0 : Int) → False) ∧
                                                                                            ((v.tmod (2 : Int) == (1 : Int)) = false → (2 : Int) = (0 : Int) → False) ∧
                                                                                              ∀ (v_3 : Int),
                                                                                                (v_3 =
                                                                                                    if (v.tmod (2 : Int) == (1 : Int)) = true then
                                                                                                      bitsI BinOp.xor IntKind.u32 (IntKind.u32.wrap (v.tdiv (2 : Int))) (2197175160 : Int)
                                                                                                    else IntKind.u32.wrap (v.tdiv (2 : Int))) →
                                                                                                  (decide ((6 : Int) < (8 : Int)) = true →
                                                                                                      (2 : Int) ≠ (0 : Int) ∧
                                                                                                        ((v_3.tmod (2 : Int) == (1 : Int)) = true → (2 : Int) = (0 : Int) → False) ∧
                                                                                                          ((v_3.tmod (2 : Int) == (1 : Int)) = false → (2 : Int) = (0 : Int) → False) ∧
                                                                                                            ∀ (v : Int),
                                                                                                              (v =
                                                                                                                  if (v_3.tmod (2 : Int) == (1 : Int)) = true then
                                                                                                                    bitsI BinOp.xor IntKind.u32 (IntKind.u32.wrap (v_3.tdiv (2 : Int))) (2197175160 : Int)
                                                                                                                  else IntKind.u32.wrap (v_3.tdiv (2 : Int))) →
                                                                                                                (decide ((7 : Int) < (8 : Int)) = true →
                                                                                                                    (2 : Int) ≠ (0 : Int) ∧
                                                                                                                      ((v.tmod (2 : Int) == (1 : Int)) = true → (2 : Int) = (0 : Int) → False) ∧
                                                                                                                        ((v.tmod (2 : Int) == (1 : Int)) = false → (2 : Int) = (0 : Int) → False) ∧
                                                                                                                          ∀ (v_4 : Int),
                                                                                                                            (v_4 =
                                                                                                                                if (v.tmod (2 : Int) == (1 : Int)) = true then
                                                                                                                                  bitsI BinOp.xor IntKind.u32 (IntKind.u32.wrap (v.tdiv (2 : Int))) (2197175160 : Int)
                                                                                                                                else IntKind.u32.wrap (v.tdiv (2 : Int))) →
                                                                                                                              (decide ((8 : Int) < (8 : Int)) = true →
                                                                                                                                  (2 : Int) ≠ (0 : Int) ∧
                                                                                                                                    ((v_4.tmod (2 : Int) == (1 : Int)) = true → (2 : Int) = (0 : Int) → False) ∧
                                                                                                                                      ((v_4.tmod (2 : Int) == (1 : Int)) = false → (2 : Int) = (0 : Int) → False) ∧
                                                                                                                                        ∀ (v : Int),
                                                                                                                                          (v =
                                                                                                                                              if (v_4.tmod (2 : Int) == (1 : Int)) = true then
                                                                                                                                                bitsI BinOp.xor IntKind.u32 (IntKind.u32.wrap (v_4.tdiv (2 : Int)))
                                                                                                                                                  (2197175160 : Int)
                                                                                                                                              else IntKind.u32.wrap (v_4.tdiv (2 : Int))) →
                                                                                                                                            False) ∧
                                                                                                                                (decide ((8 : Int) < (8 : Int)) = false →
                                                                                                                                  (0 : Int) ≤ (8 : Int) ∧
                                                                                                                                    ∃ (g_1 : Nat),
                                                                                                                                      g_1.le xs.length ∧
                                                                                                                                        (ann11 xs).μ g_1 < (ann11 xs).μ g ∧
                                                                                                                                          xs = xs ∧
                                                                                                                                            (↑xs.length : Int) = (↑xs.length : Int) ∧
                                                                                                                                              IntKind.i64.wrap ((↑g : Int) + (1 : Int)) = (↑g_1 : Int) ∧
                                                                                                                                                bitsI BinOp.xor IntKind.u32 v_4
                                                                                                                                                    (shr IntKind.u32 (foldB (List.take g xs)) (8 : Int)) =
                                                                                                                                                  foldB (List.take g_1 xs))) ∧
                                                                                                                  (decide ((7 : Int) < (8 : Int)) = false →
                                                                                                                    (0 : Int) ≤ (8 : Int) ∧
                                                                                                                      ∃ (g_1 : Nat),
                                                                                                                        g_1.le xs.length ∧
                                                                                                                          (ann11 xs).μ g_1 < (ann11 xs).μ g ∧
                                                                                                                            xs = xs ∧
                                                                                                                              (↑xs.length : Int) = (↑xs.length : Int) ∧
                                                                                                                                IntKind.i64.wrap ((↑g : Int) + (1 : Int)) = (↑g_1 : Int) ∧
                                                                                                                                  bitsI BinOp.xor IntKind.u32 v (shr IntKind.u32 (foldB (List.take g xs)) (8 : Int)) =
                                                                                                                                    foldB (List.take g_1 xs))) ∧
                                                                                                    (decide ((6 : Int) < (8 : Int)) = false →
                                                                                                      (0 : Int) ≤ (8 : Int) ∧
                                                                                                        ∃ (g_1 : Nat),
                                                                                                          g_1.le xs.length ∧
                                                                                                            (ann11 xs).μ g_1 < (ann11 xs).μ g ∧
                                                                                                              xs = xs ∧
                                                                                                                (↑xs.length : Int) = (↑xs.length : Int) ∧
                                                                                                                  IntKind.i64.wrap ((↑g : Int) + (1 : Int)) = (↑g_1 : Int) ∧
                                                                                                                    bitsI BinOp.xor IntKind.u32 v_3 (shr IntKind.u32 (foldB (List.take g xs)) (8 : Int)) =
                                                                                                                      foldB (List.take g_1 xs))) ∧
                                                                                      (decide ((5 : Int) < (8 : Int)) = false →
                                                                                        (0 : Int) ≤ (8 : Int) ∧
                                                                                          ∃ (g_1 : Nat),
                                                                                            g_1.le xs.length ∧
                                                                                              (ann11 xs).μ g_1 < (ann11 xs).μ g ∧
                                                                                                xs = xs ∧
                                                                                                  (↑xs.length : Int) = (↑xs.length : Int) ∧
                                                                                                    IntKind.i64.wrap ((↑g : Int) + (1 : Int)) = (↑g_1 : Int) ∧
                                                                                                      bitsI BinOp.xor IntKind.u32 v (shr IntKind.u32 (foldB (List.take g xs)) (8 : Int)) = foldB (List.take g_1 xs))) ∧
                                                                        (decide ((4 : Int) < (8 : Int)) = false →
                                                                          (0 : Int) ≤ (8 : Int) ∧
                                                                            ∃ (g_1 : Nat),
                                                                              g_1.le xs.length ∧
                                                                                (ann11 xs).μ g_1 < (ann11 xs).μ g ∧
                                                                                  xs = xs ∧
                                                                                    (↑xs.length : Int) = (↑xs.length : Int) ∧
                                                                                      IntKind.i64.wrap ((↑g : Int) + (1 : Int)) = (↑g_1 : Int) ∧
                                                                                        bitsI BinOp.xor IntKind.u32 v_2 (shr IntKind.u32 (foldB (List.take g xs)) (8 : Int)) = foldB (List.take g_1 xs))) ∧
                                                          (decide ((3 : Int) < (8 : Int)) = false →
                                                            (0 : Int) ≤ (8 : Int) ∧
                                                              ∃ (g_1 : Nat),
                                                                g_1.le xs.length ∧
                                                                  (ann11 xs).μ g_1 < (ann11 xs).μ g ∧
                                                                    xs = xs ∧
                                                                      (↑xs.length : Int) = (↑xs.length : Int) ∧
                                                                        IntKind.i64.wrap ((↑g : Int) + (1 : Int)) = (↑g_1 : Int) ∧
                                                                          bitsI BinOp.xor IntKind.u32 v (shr IntKind.u32 (foldB (List.take g xs)) (8 : Int)) = foldB (List.take g_1 xs))) ∧
                                            (decide ((2 : Int) < (8 : Int)) = false →
                                              (0 : Int) ≤ (8 : Int) ∧
                                                ∃ (g_1 : Nat),
                                                  g_1.le xs.length ∧
                                                    (ann11 xs).μ g_1 < (ann11 xs).μ g ∧
                                                      xs = xs ∧
                                                        (↑xs.length : Int) = (↑xs.length : Int) ∧
                                                          IntKind.i64.wrap ((↑g : Int) + (1 : Int)) = (↑g_1 : Int) ∧
                                                            bitsI BinOp.xor IntKind.u32 v_1 (shr IntKind.u32 (foldB (List.take g xs)) (8 : Int)) = foldB (List.take g_1 xs))) ∧
                              (decide ((1 : Int) < (8 : Int)) = false →
                                (0 : Int) ≤ (8 : Int) ∧
                                  ∃ (g_1 : Nat),
                                    g_1.le xs.length ∧
                                      (ann11 xs).μ g_1 < (ann11 xs).μ g ∧
                                        xs = xs ∧
                                          (↑xs.length : Int) = (↑xs.length : Int) ∧
                                            IntKind.i64.wrap ((↑g : Int) + (1 : Int)) = (↑g_1 : Int) ∧ bitsI BinOp.xor IntKind.u32 v (shr IntKind.u32 (foldB (List.take g xs)) (8 : Int)) = foldB (List.take g_1 xs))) ∧
                (decide ((0 : Int) < (8 : Int)) = false →
                  (0 : Int) ≤ (8 : Int) ∧
                    ∃ (g_1 : Nat),
                      g_1.le xs.length ∧
                        (ann11 xs).μ g_1 < (ann11 xs).μ g ∧
                          xs = xs ∧
                            (↑xs.length : Int) = (↑xs.length : Int) ∧
                              IntKind.i64.wrap ((↑g : Int) + (1 : Int)) = (↑g_1 : Int) ∧
                                bitsI BinOp.xor IntKind.u32
                                    (bitsI BinOp.and IntKind.u32 (bitsI BinOp.xor IntKind.u32 (foldB (List.take g xs)) (IntKind.u32.wrap (xs.getD (↑g : Int).toNat (u.dflt (5 : Nat))))) (255 : Int))
                                    (shr IntKind.u32 (foldB (List.take g xs)) (8 : Int)) =
                                  foldB (List.take g_1 xs))) ∧
          (decide ((↑g : Int) < (↑xs.length : Int)) = false → bitsI BinOp.xor IntKind.u32 (foldB (List.take g xs)) (4294967295 : Int) = bitsI BinOp.xor IntKind.u32 (foldB xs) (4294967295 : Int))

end Go.Proofs.Ytacafjapnppacaa.Sum
