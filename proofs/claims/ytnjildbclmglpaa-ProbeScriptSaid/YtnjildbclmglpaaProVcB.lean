/- Questions that wait: what finding one, and copying them, comes to (printed by wip/Vc.lean; checked by the kernel in the next text). -/
import Derived.Test.YtnjildbclmglpaaProSpecB
namespace Go.Proofs.Ytnjildbclmglpaa.Pro
open Go Go.Proofs.Ytnjildbclmglpaa.Sx

def vcIndexR : Int → Int → Int → Int → Int → List Prb → Prop :=
  fun (f g h i j : Int) (xs : List Prb) =>
  (∃ (g_1 : Nat),
      (g_1 ≤ xs.length ∧ (List.take g_1 xs).any (sameA { addr := f, id := g, num := h, sent := i, tries := j : Prb }) = false) ∧
        xs = xs ∧ ((24 : Nat) = (24 : Nat) ∧ (0 : Nat) = (0 : Nat) ∧ f = f ∧ g = g ∧ h = h ∧ i = i ∧ j = j) ∧ xs = xs ∧ (↑xs.length : Int) = (↑xs.length : Int) ∧ (0 : Int) = (↑g_1 : Int)) ∧
    ∀ (g_1 : Nat),
      g_1 ≤ xs.length ∧ (List.take g_1 xs).any (sameA { addr := f, id := g, num := h, sent := i, tries := j : Prb }) = false →
        (decide ((↑g_1 : Int) < (↑xs.length : Int)) = true →
            ((0 : Int) ≤ (↑g_1 : Int) ∧ (↑g_1 : Int) < (↑xs.length : Int)) ∧
              (sameA { addr := f, id := g, num := h, sent := i, tries := j : Prb }
                      { addr := (xs.getD (↑g_1 : Int).toNat (u.dflt (29 : Nat))).addr, id := (xs.getD (↑g_1 : Int).toNat (u.dflt (29 : Nat))).id, num := (xs.getD (↑g_1 : Int).toNat (u.dflt (29 : Nat))).num,
                        sent := (xs.getD (↑g_1 : Int).toNat (u.dflt (29 : Nat))).sent, tries := (xs.getD (↑g_1 : Int).toNat (u.dflt (29 : Nat))).tries : Prb } =
                    true →
                  (↑g_1 : Int) = firstI (sameA { addr := f, id := g, num := h, sent := i, tries := j : Prb }) xs) ∧
                (sameA { addr := f, id := g, num := h, sent := i, tries := j : Prb }
                      { addr := (xs.getD (↑g_1 : Int).toNat (u.dflt (29 : Nat))).addr, id := (xs.getD (↑g_1 : Int).toNat (u.dflt (29 : Nat))).id, num := (xs.getD (↑g_1 : Int).toNat (u.dflt (29 : Nat))).num,
                        sent := (xs.getD (↑g_1 : Int).toNat (u.dflt (29 : Nat))).sent, tries := (xs.getD (↑g_1 : Int).toNat (u.dflt (29 : Nat))).tries : Prb } =
                    false →
                  ∃ (g_2 : Nat),
                    (g_2 ≤ xs.length ∧ (List.take g_2 xs).any (sameA { addr := f, id := g, num := h, sent := i, tries := j : Prb }) = false) ∧
                      (annIndex (sameA { addr := f, id := g, num := h, sent := i, tries := j : Prb }) xs).μ g_2 < (annIndex (sameA { addr := f, id := g, num := h, sent := i, tries := j : Prb }) xs).μ g_1 ∧
                        xs = xs ∧
                          ((24 : Nat) = (24 : Nat) ∧ (0 : Nat) = (0 : Nat) ∧ f = f ∧ g = g ∧ h = h ∧ i = i ∧ j = j) ∧
                            xs = xs ∧ (↑xs.length : Int) = (↑xs.length : Int) ∧ IntKind.i64.wrap ((↑g_1 : Int) + (1 : Int)) = (↑g_2 : Int))) ∧
          (decide ((↑g_1 : Int) < (↑xs.length : Int)) = false → (-1 : Int) = firstI (sameA { addr := f, id := g, num := h, sent := i, tries := j : Prb }) xs)

def vcIndexP : Int → Int → Int → Int → Int → List Prb → Prop :=
  fun (f g h i j : Int) (xs : List Prb) =>
  (∃ (g_1 : Nat),
      (g_1 ≤ xs.length ∧ (List.take g_1 xs).any (sameA { addr := f, id := g, num := h, sent := i, tries := j : Prb }) = false) ∧
        xs = xs ∧ ((30 : Nat) = (30 : Nat) ∧ (0 : Nat) = (0 : Nat) ∧ f = f ∧ g = g ∧ h = h ∧ i = i ∧ j = j) ∧ xs = xs ∧ (↑xs.length : Int) = (↑xs.length : Int) ∧ (0 : Int) = (↑g_1 : Int)) ∧
    ∀ (g_1 : Nat),
      g_1 ≤ xs.length ∧ (List.take g_1 xs).any (sameA { addr := f, id := g, num := h, sent := i, tries := j : Prb }) = false →
        (decide ((↑g_1 : Int) < (↑xs.length : Int)) = true →
            ((0 : Int) ≤ (↑g_1 : Int) ∧ (↑g_1 : Int) < (↑xs.length : Int)) ∧
              (sameA { addr := f, id := g, num := h, sent := i, tries := j : Prb }
                      { addr := (xs.getD (↑g_1 : Int).toNat (u.dflt (29 : Nat))).addr, id := (xs.getD (↑g_1 : Int).toNat (u.dflt (29 : Nat))).id, num := (xs.getD (↑g_1 : Int).toNat (u.dflt (29 : Nat))).num,
                        sent := (xs.getD (↑g_1 : Int).toNat (u.dflt (29 : Nat))).sent, tries := (xs.getD (↑g_1 : Int).toNat (u.dflt (29 : Nat))).tries : Prb } =
                    true →
                  (↑g_1 : Int) = firstI (sameA { addr := f, id := g, num := h, sent := i, tries := j : Prb }) xs) ∧
                (sameA { addr := f, id := g, num := h, sent := i, tries := j : Prb }
                      { addr := (xs.getD (↑g_1 : Int).toNat (u.dflt (29 : Nat))).addr, id := (xs.getD (↑g_1 : Int).toNat (u.dflt (29 : Nat))).id, num := (xs.getD (↑g_1 : Int).toNat (u.dflt (29 : Nat))).num,
                        sent := (xs.getD (↑g_1 : Int).toNat (u.dflt (29 : Nat))).sent, tries := (xs.getD (↑g_1 : Int).toNat (u.dflt (29 : Nat))).tries : Prb } =
                    false →
                  ∃ (g_2 : Nat),
                    (g_2 ≤ xs.length ∧ (List.take g_2 xs).any (sameA { addr := f, id := g, num := h, sent := i, tries := j : Prb }) = false) ∧
                      (annIndex (sameA { addr := f, id := g, num := h, sent := i, tries := j : Prb }) xs).μ g_2 < (annIndex (sameA { addr := f, id := g, num := h, sent := i, tries := j : Prb }) xs).μ g_1 ∧
                        xs = xs ∧
                          ((30 : Nat) = (30 : Nat) ∧ (0 : Nat) = (0 : Nat) ∧ f = f ∧ g = g ∧ h = h ∧ i = i ∧ j = j) ∧
                            xs = xs ∧ (↑xs.length : Int) = (↑xs.length : Int) ∧ IntKind.i64.wrap ((↑g_1 : Int) + (1 : Int)) = (↑g_2 : Int))) ∧
          (decide ((↑g_1 : Int) < (↑xs.length : Int)) = false → (-1 : Int) = firstI (sameA { addr := f, id := g, num := h, sent := i, tries := j : Prb }) xs)

def vcIndexM : Bool → Int → Int → Int → Int → Int → Int → Int → Int → Int → Int → List Prb → Prop :=
  fun (an : Bool) (f t m0 m1 m2 m3 m4 m5 i s : Int) (xs : List Prb) =>
  (∃ (g : Nat),
      (g ≤ xs.length ∧ (List.take g xs).any (ansTo an f i s) = false) ∧
        xs = xs ∧
          ((27 : Nat) = (27 : Nat) ∧ (0 : Nat) = (0 : Nat) ∧ an = an ∧ f = f ∧ t = t ∧ m0 = m0 ∧ m1 = m1 ∧ m2 = m2 ∧ m3 = m3 ∧ m4 = m4 ∧ m5 = m5 ∧ i = i ∧ s = s) ∧
            xs = xs ∧ (↑xs.length : Int) = (↑xs.length : Int) ∧ (0 : Int) = (↑g : Int)) ∧
    ∀ (g : Nat),
      g ≤ xs.length ∧ (List.take g xs).any (ansTo an f i s) = false →
        (decide ((↑g : Int) < (↑xs.length : Int)) = true →
            ((0 : Int) ≤ (↑g : Int) ∧ (↑g : Int) < (↑xs.length : Int)) ∧
              (ansTo an f i s
                      { addr := (xs.getD (↑g : Int).toNat (u.dflt (29 : Nat))).addr, id := (xs.getD (↑g : Int).toNat (u.dflt (29 : Nat))).id, num := (xs.getD (↑g : Int).toNat (u.dflt (29 : Nat))).num,
                        sent := (xs.getD (↑g : Int).toNat (u.dflt (29 : Nat))).sent, tries := (xs.getD (↑g : Int).toNat (u.dflt (29 : Nat))).tries : Prb } =
                    true →
                  (↑g : Int) = firstI (ansTo an f i s) xs) ∧
                (ansTo an f i s
                      { addr := (xs.getD (↑g : Int).toNat (u.dflt (29 : Nat))).addr, id := (xs.getD (↑g : Int).toNat (u.dflt (29 : Nat))).id, num := (xs.getD (↑g : Int).toNat (u.dflt (29 : Nat))).num,
                        sent := (xs.getD (↑g : Int).toNat (u.dflt (29 : Nat))).sent, tries := (xs.getD (↑g : Int).toNat (u.dflt (29 : Nat))).tries : Prb } =
                    false →
                  ∃ (g_1 : Nat),
                    (g_1 ≤ xs.length ∧ (List.take g_1 xs).any (ansTo an f i s) = false) ∧
                      (annIndex (ansTo an f i s) xs).μ g_1 < (annIndex (ansTo an f i s) xs).μ g ∧
                        xs = xs ∧
                          ((27 : Nat) = (27 : Nat) ∧ (0 : Nat) = (0 : Nat) ∧ an = an ∧ f = f ∧ t = t ∧ m0 = m0 ∧ m1 = m1 ∧ m2 = m2 ∧ m3 = m3 ∧ m4 = m4 ∧ m5 = m5 ∧ i = i ∧ s = s) ∧
                            xs = xs ∧ (↑xs.length : Int) = (↑xs.length : Int) ∧ IntKind.i64.wrap ((↑g : Int) + (1 : Int)) = (↑g_1 : Int))) ∧
          (decide ((↑g : Int) < (↑xs.length : Int)) = false → (-1 : Int) = firstI (ansTo an f i s) xs)

def vcCloneN : Bool → List Prb → Prop :=
  fun (q : Bool) (xs : List Prb) => (q = true → True ∧ xs = [] ∧ True) ∧ (q = false → ((0 : Nat) + xs.length) * (40 : Nat) ≤ (140737488355328 : Nat) ∧ True ∧ [] ++ xs = xs ∧ True)


end Go.Proofs.Ytnjildbclmglpaa.Pro
