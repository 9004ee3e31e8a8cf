/- Cases: what the bodies of the package come to (printed by wip/Vc.lean; checked by the kernel in the next text). -/
import Derived.Test.YtlamlmihojodfaaCasSpec
namespace Go.Proofs.Ytlamlmihojodfaa.Cas
open Go Go.Proofs.Ytlamlmihojodfaa.Sx

def vcClamp : Int → Prop :=
  fun (n : Int) => mx (0 : Int) (mn n (1099511627776 : Int)) = clampT n

def vcNear : Int → Prop :=
  fun (n : Int) => (64 : Int) ≠ (0 : Int) ∧ IntKind.u32.wrap ((167772160 : Int) + IntKind.u32.wrap (n.tmod (64 : Int))) = nearA n

def vcChoice : Int → Int → Int → Int → Int → Int → Int → Int → Int → Prop :=
  fun (c0 c1 c2 c3 c4 c5 c6 c7 c8 : Int) =>
  (30 : Int) ≠ (0 : Int) ∧
    (60 : Int) ≠ (0 : Int) ∧
      (6 : Int) ≠ (0 : Int) ∧
        (20 : Int) ≠ (0 : Int) ∧
          (9 : Int) ≠ (0 : Int) ∧
            (6 : Int) ≠ (0 : Int) ∧
              (4 : Int) ≠ (0 : Int) ∧
                (40 : Int) ≠ (0 : Int) ∧
                  (50 : Int) ≠ (0 : Int) ∧
                    IntKind.i64.wrap ((1 : Int) + IntKind.i64.wrap (c0.tmod (30 : Int))) = fc (30 : Int) c0 ∧
                      IntKind.i64.wrap (IntKind.i64.wrap ((1 : Int) + IntKind.i64.wrap (c0.tmod (30 : Int))) + IntKind.i64.wrap (c1.tmod (60 : Int))) = IntKind.i64.wrap (fc (30 : Int) c0 + fz (60 : Int) c1) ∧
                        IntKind.i64.wrap ((1 : Int) + IntKind.i64.wrap (c2.tmod (6 : Int))) = fc (6 : Int) c2 ∧
                          IntKind.i64.wrap ((1 : Int) + IntKind.i64.wrap (c3.tmod (20 : Int))) = fc (20 : Int) c3 ∧
                            IntKind.i64.wrap ((1 : Int) + IntKind.i64.wrap (c4.tmod (9 : Int))) = fc (9 : Int) c4 ∧
                              IntKind.i64.wrap ((1 : Int) + IntKind.i64.wrap (c5.tmod (6 : Int))) = fc (6 : Int) c5 ∧
                                IntKind.i64.wrap (c6.tmod (4 : Int)) = fz (4 : Int) c6 ∧
                                  IntKind.i64.wrap ((1 : Int) + IntKind.i64.wrap (c7.tmod (40 : Int))) = fc (40 : Int) c7 ∧ IntKind.i64.wrap (c8.tmod (50 : Int)) = fz (50 : Int) c8

def vcOpen : Int → Int → Int → Int → Prop :=
  fun (x y z s : Int) => (s == (0 : Int) || s == (1 : Int)) = openC { addr := x, raised := y, ended := z, stage := s : Cse }

def vcOpenL : Int → Int → Int → Int → Prop :=
  fun (x y z s : Int) => (s == (0 : Int) || s == (1 : Int)) = openC { addr := x, raised := y, ended := z, stage := s : Cse }

def vcQuietL : Int → Int → Int → Int → Int → Int → Int → Int → Int → Int → Int → Int → Int → Int → Prop :=
  fun (c0 c1 c2 c3 c4 c5 c6 c7 c8 x y z s now : Int) => (s == (2 : Int) && decide (z ≤ now) && decide (IntKind.i64.wrap (now - z) < c8)) = quietL c8 now { addr := x, raised := y, ended := z, stage := s : Cse }

def vcSince : Int → Int → Prop :=
  fun (a b : Int) => IntKind.i64.wrap (clampT a - clampT b) = since a b

def vcFind1 : Int → Int → Int → Int → Int → Prop :=
  fun (x y z s a : Int) => (x == a && openC { addr := x, raised := y, ended := z, stage := s : Cse }) = hitF a { addr := x, raised := y, ended := z, stage := s : Cse }

def vcWithin : Int → Int → Int → Prop :=
  fun (a b n : Int) => (decide (since a b ≥ (0 : Int)) && decide (since a b < n)) = within a b n

def vcQuiet1 : Int → Int → Int → Int → Int → Int → Int → Int → Int → Int → Int → Int → Int → Int → Int → Prop :=
  fun (x y z s a now c0 c1 c2 c3 c4 c5 c6 c7 c8 : Int) => (x == a && s == (2 : Int) && within now z c8) = hitQ c8 now a { addr := x, raised := y, ended := z, stage := s : Cse }

def vcIndexF : Int → List Cse → Prop :=
  fun (a : Int) (xs : List Cse) =>
  (∃ (g : Nat),
      (g ≤ xs.length ∧ (List.take g xs).any (hitF a) = false) ∧ xs = xs ∧ ((29 : Nat) = (29 : Nat) ∧ (0 : Nat) = (0 : Nat) ∧ a = a) ∧ xs = xs ∧ (↑xs.length : Int) = (↑xs.length : Int) ∧ (0 : Int) = (↑g : Int)) ∧
    ∀ (g : Nat),
      g ≤ xs.length ∧ (List.take g xs).any (hitF a) = false →
        (decide ((↑g : Int) < (↑xs.length : Int)) = true →
            ((0 : Int) ≤ (↑g : Int) ∧ (↑g : Int) < (↑xs.length : Int)) ∧
              (hitF a
                      { addr := (xs.getD (↑g : Int).toNat (u.dflt (30 : Nat))).addr, raised := (xs.getD (↑g : Int).toNat (u.dflt (30 : Nat))).raised, ended := (xs.getD (↑g : Int).toNat (u.dflt (30 : Nat))).ended,
                        stage := (xs.getD (↑g : Int).toNat (u.dflt (30 : Nat))).stage : Cse } =
                    true →
                  (↑g : Int) = firstI (hitF a) xs) ∧
                (hitF a
                      { addr := (xs.getD (↑g : Int).toNat (u.dflt (30 : Nat))).addr, raised := (xs.getD (↑g : Int).toNat (u.dflt (30 : Nat))).raised, ended := (xs.getD (↑g : Int).toNat (u.dflt (30 : Nat))).ended,
                        stage := (xs.getD (↑g : Int).toNat (u.dflt (30 : Nat))).stage : Cse } =
                    false →
                  ∃ (g_1 : Nat),
                    (g_1 ≤ xs.length ∧ (List.take g_1 xs).any (hitF a) = false) ∧
                      (annIndex (hitF a) xs).μ g_1 < (annIndex (hitF a) xs).μ g ∧
                        xs = xs ∧ ((29 : Nat) = (29 : Nat) ∧ (0 : Nat) = (0 : Nat) ∧ a = a) ∧ xs = xs ∧ (↑xs.length : Int) = (↑xs.length : Int) ∧ IntKind.i64.wrap ((↑g : Int) + (1 : Int)) = (↑g_1 : Int))) ∧
          (decide ((↑g : Int) < (↑xs.length : Int)) = false → (-1 : Int) = firstI (hitF a) xs)

def vcIndexQ : Int → Int → Int → Int → Int → Int → Int → Int → Int → Int → Int → List Cse → Prop :=
  fun (a now c0 c1 c2 c3 c4 c5 c6 c7 c8 : Int) (xs : List Cse) =>
  (∃ (g : Nat),
      (g ≤ xs.length ∧ (List.take g xs).any (hitQ c8 now a) = false) ∧
        xs = xs ∧
          ((39 : Nat) = (39 : Nat) ∧
              ((0 : Nat) = (0 : Nat) ∧ a = a) ∧ ((0 : Nat) = (0 : Nat) ∧ now = now) ∧ (0 : Nat) = (0 : Nat) ∧ c0 = c0 ∧ c1 = c1 ∧ c2 = c2 ∧ c3 = c3 ∧ c4 = c4 ∧ c5 = c5 ∧ c6 = c6 ∧ c7 = c7 ∧ c8 = c8) ∧
            xs = xs ∧ (↑xs.length : Int) = (↑xs.length : Int) ∧ (0 : Int) = (↑g : Int)) ∧
    ∀ (g : Nat),
      g ≤ xs.length ∧ (List.take g xs).any (hitQ c8 now a) = false →
        (decide ((↑g : Int) < (↑xs.length : Int)) = true →
            ((0 : Int) ≤ (↑g : Int) ∧ (↑g : Int) < (↑xs.length : Int)) ∧
              (hitQ c8 now a
                      { addr := (xs.getD (↑g : Int).toNat (u.dflt (30 : Nat))).addr, raised := (xs.getD (↑g : Int).toNat (u.dflt (30 : Nat))).raised, ended := (xs.getD (↑g : Int).toNat (u.dflt (30 : Nat))).ended,
                        stage := (xs.getD (↑g : Int).toNat (u.dflt (30 : Nat))).stage : Cse } =
                    true →
                  (↑g : Int) = firstI (hitQ c8 now a) xs) ∧
                (hitQ c8 now a
                      { addr := (xs.getD (↑g : Int).toNat (u.dflt (30 : Nat))).addr, raised := (xs.getD (↑g : Int).toNat (u.dflt (30 : Nat))).raised, ended := (xs.getD (↑g : Int).toNat (u.dflt (30 : Nat))).ended,
                        stage := (xs.getD (↑g : Int).toNat (u.dflt (30 : Nat))).stage : Cse } =
                    false →
                  ∃ (g_1 : Nat),
                    (g_1 ≤ xs.length ∧ (List.take g_1 xs).any (hitQ c8 now a) = false) ∧
                      (annIndex (hitQ c8 now a) xs).μ g_1 < (annIndex (hitQ c8 now a) xs).μ g ∧
                        xs = xs ∧
                          ((39 : Nat) = (39 : Nat) ∧
                              ((0 : Nat) = (0 : Nat) ∧ a = a) ∧ ((0 : Nat) = (0 : Nat) ∧ now = now) ∧ (0 : Nat) = (0 : Nat) ∧ c0 = c0 ∧ c1 = c1 ∧ c2 = c2 ∧ c3 = c3 ∧ c4 = c4 ∧ c5 = c5 ∧ c6 = c6 ∧ c7 = c7 ∧ c8 = c8) ∧
                            xs = xs ∧ (↑xs.length : Int) = (↑xs.length : Int) ∧ IntKind.i64.wrap ((↑g : Int) + (1 : Int)) = (↑g_1 : Int))) ∧
          (decide ((↑g : Int) < (↑xs.length : Int)) = false → (-1 : Int) = firstI (hitQ c8 now a) xs)

def vcContQ : Int → Int → Int → Int → Int → Int → Int → Int → Int → Int → Int → List Cse → Prop :=
  fun (a now c0 c1 c2 c3 c4 c5 c6 c7 c8 : Int) (xs : List Cse) => xs.length.succ.le (9223372036854775808 : Nat) ∧ decide (firstI (hitQ c8 now a) xs ≥ (0 : Int)) = xs.any (hitQ c8 now a)

def vcCloneN : Bool → List Cse → Prop :=
  fun (q : Bool) (xs : List Cse) => (q = true → True ∧ xs = [] ∧ True) ∧ (q = false → ((0 : Nat) + xs.length) * (32 : Nat) ≤ (140737488355328 : Nat) ∧ True ∧ [] ++ xs = xs ∧ True)

def vcDelete : List Cse → Int → Int → Prop :=
  fun (xs : List Cse) (i j : Int) =>
  ((0 : Int) ≤ i ∧ i ≤ j ∧ j ≤ (↑xs.length : Int) ∧ (↑xs.length : Int) ≤ (↑xs.length : Int)) ∧
    ((i == j) = true → False ∧ xs = cutAt xs i.toNat ++ [zeroC] ∧ (cutAt xs i.toNat ++ [zeroC]).length = xs.length ∧ True) ∧
      ((i == j) = false →
        ((0 : Int) ≤ (0 : Int) ∧ (0 : Int) ≤ i ∧ i ≤ (↑xs.length : Int)) ∧
          ((0 : Int) ≤ j ∧ j ≤ (↑xs.length : Int) ∧ (↑xs.length : Int) ≤ (↑xs.length : Int)) ∧
            i.toNat - (0 : Nat) + (List.take ((↑xs.length : Int).toNat - j.toNat) (List.drop ((0 : Nat) + j.toNat) xs)).length ≤ xs.length ∧
              ((0 : Int) ≤ (↑(i.toNat - (0 : Nat) + (List.take ((↑xs.length : Int).toNat - j.toNat) (List.drop ((0 : Nat) + j.toNat) xs)).length) : Int) ∧
                  (↑(i.toNat - (0 : Nat) + (List.take ((↑xs.length : Int).toNat - j.toNat) (List.drop ((0 : Nat) + j.toNat) xs)).length) : Int) ≤ (↑xs.length : Int) ∧
                    (↑xs.length : Int) ≤
                      (↑((List.take (i.toNat - (0 : Nat)) xs ++ List.take ((↑xs.length : Int).toNat - j.toNat) (List.drop ((0 : Nat) + j.toNat) xs) ++
                                List.drop (i.toNat - (0 : Nat) + (List.take ((↑xs.length : Int).toNat - j.toNat) (List.drop ((0 : Nat) + j.toNat) xs)).length) xs).length -
                            (0 : Nat)) :
                        Int)) ∧
                ((0 : Nat) = (0 : Nat) ∧ i.toNat - (0 : Nat) + (List.take ((↑xs.length : Int).toNat - j.toNat) (List.drop ((0 : Nat) + j.toNat) xs)).length = xs.length - (1 : Nat)) ∧
                  List.take ((0 : Nat) + (↑(i.toNat - (0 : Nat) + (List.take ((↑xs.length : Int).toNat - j.toNat) (List.drop ((0 : Nat) + j.toNat) xs)).length) : Int).toNat)
                            (List.take (i.toNat - (0 : Nat)) xs ++ List.take ((↑xs.length : Int).toNat - j.toNat) (List.drop ((0 : Nat) + j.toNat) xs) ++
                              List.drop (i.toNat - (0 : Nat) + (List.take ((↑xs.length : Int).toNat - j.toNat) (List.drop ((0 : Nat) + j.toNat) xs)).length) xs) ++
                          List.replicate ((↑xs.length : Int).toNat - (↑(i.toNat - (0 : Nat) + (List.take ((↑xs.length : Int).toNat - j.toNat) (List.drop ((0 : Nat) + j.toNat) xs)).length) : Int).toNat)
                            { addr := (0 : Int), raised := (0 : Int), ended := (0 : Int), stage := (0 : Int) : Cse } ++
                        List.drop
                          ((0 : Nat) + (↑(i.toNat - (0 : Nat) + (List.take ((↑xs.length : Int).toNat - j.toNat) (List.drop ((0 : Nat) + j.toNat) xs)).length) : Int).toNat +
                            ((↑xs.length : Int).toNat - (↑(i.toNat - (0 : Nat) + (List.take ((↑xs.length : Int).toNat - j.toNat) (List.drop ((0 : Nat) + j.toNat) xs)).length) : Int).toNat))
                          (List.take (i.toNat - (0 : Nat)) xs ++ List.take ((↑xs.length : Int).toNat - j.toNat) (List.drop ((0 : Nat) + j.toNat) xs) ++
                            List.drop (i.toNat - (0 : Nat) + (List.take ((↑xs.length : Int).toNat - j.toNat) (List.drop ((0 : Nat) + j.toNat) xs)).length) xs) =
                      cutAt xs i.toNat ++ [zeroC] ∧
                    (cutAt xs i.toNat ++ [zeroC]).length = xs.length ∧ True)

def vcFind : List Cse → Int → Prop :=
  fun (xs : List Cse) (a : Int) => xs.length.succ.le (9223372036854775808 : Nat) ∧ firstI (hitF a) xs = firstI (hitF a) xs

def vcQuiet : Int → Int → Int → Int → Int → Int → Int → Int → Int → List Cse → Int → Int → Prop :=
  fun (c0 c1 c2 c3 c4 c5 c6 c7 c8 : Int) (xs : List Cse) (a now : Int) => xs.length.succ.le (9223372036854775808 : Nat) ∧ xs.any (hitQ c8 now a) = xs.any (hitQ c8 now a)

def vcSpare : Int → Int → Int → Int → Int → Int → Int → Int → Int → List Cse → Int → Prop :=
  fun (c0 c1 c2 c3 c4 c5 c6 c7 c8 : Int) (xs : List Cse) (now : Int) =>
  (∃ (g : Nat),
      g.le xs.length ∧
        (xs = xs ∧ now = now ∧ True ∧ xs = xs ∧ (↑xs.length : Int) = (↑xs.length : Int) ∧ (0 : Int) = (↑g : Int) ∧ (-1 : Int) = spareAt c8 now xs g) ∧
          c0 = c0 ∧ c1 = c1 ∧ c2 = c2 ∧ c3 = c3 ∧ c4 = c4 ∧ c5 = c5 ∧ c6 = c6 ∧ c7 = c7 ∧ c8 = c8) ∧
    ∀ (g : Nat),
      g.le xs.length →
        (decide ((↑g : Int) < (↑xs.length : Int)) = true →
            ((0 : Int) ≤ (↑g : Int) ∧ (↑g : Int) < (↑xs.length : Int)) ∧
              ((openC
                        { addr := (xs.getD (↑g : Int).toNat (u.dflt (30 : Nat))).addr, raised := (xs.getD (↑g : Int).toNat (u.dflt (30 : Nat))).raised, ended := (xs.getD (↑g : Int).toNat (u.dflt (30 : Nat))).ended,
                          stage := (xs.getD (↑g : Int).toNat (u.dflt (30 : Nat))).stage : Cse } ||
                      (xs.getD (↑g : Int).toNat (u.dflt (30 : Nat))).stage == (2 : Int) && within now (xs.getD (↑g : Int).toNat (u.dflt (30 : Nat))).ended c8) =
                    true →
                  ∃ (g_1 : Nat),
                    g_1.le xs.length ∧
                      (annSpare c8 now xs).μ g_1 < (annSpare c8 now xs).μ g ∧
                        (xs = xs ∧ now = now ∧ True ∧ xs = xs ∧ (↑xs.length : Int) = (↑xs.length : Int) ∧ IntKind.i64.wrap ((↑g : Int) + (1 : Int)) = (↑g_1 : Int) ∧ spareAt c8 now xs g = spareAt c8 now xs g_1) ∧
                          c0 = c0 ∧ c1 = c1 ∧ c2 = c2 ∧ c3 = c3 ∧ c4 = c4 ∧ c5 = c5 ∧ c6 = c6 ∧ c7 = c7 ∧ c8 = c8) ∧
                ((openC
                        { addr := (xs.getD (↑g : Int).toNat (u.dflt (30 : Nat))).addr, raised := (xs.getD (↑g : Int).toNat (u.dflt (30 : Nat))).raised, ended := (xs.getD (↑g : Int).toNat (u.dflt (30 : Nat))).ended,
                          stage := (xs.getD (↑g : Int).toNat (u.dflt (30 : Nat))).stage : Cse } ||
                      (xs.getD (↑g : Int).toNat (u.dflt (30 : Nat))).stage == (2 : Int) && within now (xs.getD (↑g : Int).toNat (u.dflt (30 : Nat))).ended c8) =
                    false →
                  (decide (spareAt c8 now xs g < (0 : Int)) = false → (0 : Int) ≤ spareAt c8 now xs g ∧ spareAt c8 now xs g < (↑xs.length : Int)) ∧
                    ((decide (spareAt c8 now xs g < (0 : Int)) || decide ((xs.getD (↑g : Int).toNat (u.dflt (30 : Nat))).ended < (xs.getD (spareAt c8 now xs g).toNat (u.dflt (30 : Nat))).ended)) = true → True) ∧
                      ((decide (spareAt c8 now xs g < (0 : Int)) || decide ((xs.getD (↑g : Int).toNat (u.dflt (30 : Nat))).ended < (xs.getD (spareAt c8 now xs g).toNat (u.dflt (30 : Nat))).ended)) = false → True) ∧
                        ∀ (v : Int),
                          (v =
                              if (decide (spareAt c8 now xs g < (0 : Int)) || decide ((xs.getD (↑g : Int).toNat (u.dflt (30 : Nat))).ended < (xs.getD (spareAt c8 now xs g).toNat (u.dflt (30 : Nat))).ended)) = true then
                                (↑g : Int)
                              else spareAt c8 now xs g) →
                            ∃ (g_1 : Nat),
                              g_1.le xs.length ∧
                                (annSpare c8 now xs).μ g_1 < (annSpare c8 now xs).μ g ∧
                                  (xs = xs ∧ now = now ∧ True ∧ xs = xs ∧ (↑xs.length : Int) = (↑xs.length : Int) ∧ IntKind.i64.wrap ((↑g : Int) + (1 : Int)) = (↑g_1 : Int) ∧ v = spareAt c8 now xs g_1) ∧
                                    c0 = c0 ∧ c1 = c1 ∧ c2 = c2 ∧ c3 = c3 ∧ c4 = c4 ∧ c5 = c5 ∧ c6 = c6 ∧ c7 = c7 ∧ c8 = c8)) ∧
          (decide ((↑g : Int) < (↑xs.length : Int)) = false → spareAt c8 now xs g = spareI c8 now xs)

def vcNext : List Cse → Int → Int → Int → Int → Prop :=
  fun (xs : List Cse) (a fr to now : Int) =>
  xs.length.succ.le (9223372036854775808 : Nat) ∧
    (decide (firstI (hitF a) xs < (0 : Int)) = true → nextL xs a fr to now = [] ∧ (7 : Int) = nextE xs a fr) ∧
      (decide (firstI (hitF a) xs < (0 : Int)) = false →
        ((0 : Int) ≤ firstI (hitF a) xs ∧ firstI (hitF a) xs < (↑xs.length : Int)) ∧
          (((xs.getD (firstI (hitF a) xs).toNat (u.dflt (30 : Nat))).stage != fr) = true → nextL xs a fr to now = [] ∧ (8 : Int) = nextE xs a fr) ∧
            (((xs.getD (firstI (hitF a) xs).toNat (u.dflt (30 : Nat))).stage != fr) = false →
              (xs.length * (32 : Nat)).le (140737488355328 : Nat) ∧
                ((0 : Int) ≤ firstI (hitF a) xs ∧ firstI (hitF a) xs < (↑xs.length : Int)) ∧
                  ((0 : Int) ≤ firstI (hitF a) xs ∧
                      firstI (hitF a) xs <
                        (↑(xs.set (firstI (hitF a) xs).toNat
                                { addr := (xs.getD (firstI (hitF a) xs).toNat (u.dflt (30 : Nat))).addr, raised := (xs.getD (firstI (hitF a) xs).toNat (u.dflt (30 : Nat))).raised,
                                  ended := (xs.getD (firstI (hitF a) xs).toNat (u.dflt (30 : Nat))).ended, stage := to : Cse }).length :
                          Int)) ∧
                    ((!openC
                              {
                                addr :=
                                  ((xs.set (firstI (hitF a) xs).toNat
                                          { addr := (xs.getD (firstI (hitF a) xs).toNat (u.dflt (30 : Nat))).addr, raised := (xs.getD (firstI (hitF a) xs).toNat (u.dflt (30 : Nat))).raised,
                                            ended := (xs.getD (firstI (hitF a) xs).toNat (u.dflt (30 : Nat))).ended, stage := to : Cse }).getD
                                      (firstI (hitF a) xs).toNat (u.dflt (30 : Nat))).addr,
                                raised :=
                                  ((xs.set (firstI (hitF a) xs).toNat
                                          { addr := (xs.getD (firstI (hitF a) xs).toNat (u.dflt (30 : Nat))).addr, raised := (xs.getD (firstI (hitF a) xs).toNat (u.dflt (30 : Nat))).raised,
                                            ended := (xs.getD (firstI (hitF a) xs).toNat (u.dflt (30 : Nat))).ended, stage := to : Cse }).getD
                                      (firstI (hitF a) xs).toNat (u.dflt (30 : Nat))).raised,
                                ended :=
                                  ((xs.set (firstI (hitF a) xs).toNat
                                          { addr := (xs.getD (firstI (hitF a) xs).toNat (u.dflt (30 : Nat))).addr, raised := (xs.getD (firstI (hitF a) xs).toNat (u.dflt (30 : Nat))).raised,
                                            ended := (xs.getD (firstI (hitF a) xs).toNat (u.dflt (30 : Nat))).ended, stage := to : Cse }).getD
                                      (firstI (hitF a) xs).toNat (u.dflt (30 : Nat))).ended,
                                stage :=
                                  ((xs.set (firstI (hitF a) xs).toNat
                                          { addr := (xs.getD (firstI (hitF a) xs).toNat (u.dflt (30 : Nat))).addr, raised := (xs.getD (firstI (hitF a) xs).toNat (u.dflt (30 : Nat))).raised,
                                            ended := (xs.getD (firstI (hitF a) xs).toNat (u.dflt (30 : Nat))).ended, stage := to : Cse }).getD
                                      (firstI (hitF a) xs).toNat (u.dflt (30 : Nat))).stage :
                                Cse }) =
                          true →
                        ((0 : Int) ≤ firstI (hitF a) xs ∧
                            firstI (hitF a) xs <
                              (↑(xs.set (firstI (hitF a) xs).toNat
                                      { addr := (xs.getD (firstI (hitF a) xs).toNat (u.dflt (30 : Nat))).addr, raised := (xs.getD (firstI (hitF a) xs).toNat (u.dflt (30 : Nat))).raised,
                                        ended := (xs.getD (firstI (hitF a) xs).toNat (u.dflt (30 : Nat))).ended, stage := to : Cse }).length :
                                Int)) ∧
                          (xs.set (firstI (hitF a) xs).toNat
                                    { addr := (xs.getD (firstI (hitF a) xs).toNat (u.dflt (30 : Nat))).addr, raised := (xs.getD (firstI (hitF a) xs).toNat (u.dflt (30 : Nat))).raised,
                                      ended := (xs.getD (firstI (hitF a) xs).toNat (u.dflt (30 : Nat))).ended, stage := to : Cse }).set
                                (firstI (hitF a) xs).toNat
                                {
                                  addr :=
                                    ((xs.set (firstI (hitF a) xs).toNat
                                            { addr := (xs.getD (firstI (hitF a) xs).toNat (u.dflt (30 : Nat))).addr, raised := (xs.getD (firstI (hitF a) xs).toNat (u.dflt (30 : Nat))).raised,
                                              ended := (xs.getD (firstI (hitF a) xs).toNat (u.dflt (30 : Nat))).ended, stage := to : Cse }).getD
                                        (firstI (hitF a) xs).toNat (u.dflt (30 : Nat))).addr,
                                  raised :=
                                    ((xs.set (firstI (hitF a) xs).toNat
                                            { addr := (xs.getD (firstI (hitF a) xs).toNat (u.dflt (30 : Nat))).addr, raised := (xs.getD (firstI (hitF a) xs).toNat (u.dflt (30 : Nat))).raised,
                                              ended := (xs.getD (firstI (hitF a) xs).toNat (u.dflt (30 : Nat))).ended, stage := to : Cse }).getD
                                        (firstI (hitF a) xs).toNat (u.dflt (30 : Nat))).raised,
                                  ended := clampT now,
                                  stage :=
                                    ((xs.set (firstI (hitF a) xs).toNat
                                            { addr := (xs.getD (firstI (hitF a) xs).toNat (u.dflt (30 : Nat))).addr, raised := (xs.getD (firstI (hitF a) xs).toNat (u.dflt (30 : Nat))).raised,
                                              ended := (xs.getD (firstI (hitF a) xs).toNat (u.dflt (30 : Nat))).ended, stage := to : Cse }).getD
                                        (firstI (hitF a) xs).toNat (u.dflt (30 : Nat))).stage :
                                  Cse } =
                              nextL xs a fr to now ∧
                            (0 : Int) = nextE xs a fr) ∧
                      ((!openC
                              {
                                addr :=
                                  ((xs.set (firstI (hitF a) xs).toNat
                                          { addr := (xs.getD (firstI (hitF a) xs).toNat (u.dflt (30 : Nat))).addr, raised := (xs.getD (firstI (hitF a) xs).toNat (u.dflt (30 : Nat))).raised,
                                            ended := (xs.getD (firstI (hitF a) xs).toNat (u.dflt (30 : Nat))).ended, stage := to : Cse }).getD
                                      (firstI (hitF a) xs).toNat (u.dflt (30 : Nat))).addr,
                                raised :=
                                  ((xs.set (firstI (hitF a) xs).toNat
                                          { addr := (xs.getD (firstI (hitF a) xs).toNat (u.dflt (30 : Nat))).addr, raised := (xs.getD (firstI (hitF a) xs).toNat (u.dflt (30 : Nat))).raised,
                                            ended := (xs.getD (firstI (hitF a) xs).toNat (u.dflt (30 : Nat))).ended, stage := to : Cse }).getD
                                      (firstI (hitF a) xs).toNat (u.dflt (30 : Nat))).raised,
                                ended :=
                                  ((xs.set (firstI (hitF a) xs).toNat
                                          { addr := (xs.getD (firstI (hitF a) xs).toNat (u.dflt (30 : Nat))).addr, raised := (xs.getD (firstI (hitF a) xs).toNat (u.dflt (30 : Nat))).raised,
                                            ended := (xs.getD (firstI (hitF a) xs).toNat (u.dflt (30 : Nat))).ended, stage := to : Cse }).getD
                                      (firstI (hitF a) xs).toNat (u.dflt (30 : Nat))).ended,
                                stage :=
                                  ((xs.set (firstI (hitF a) xs).toNat
                                          { addr := (xs.getD (firstI (hitF a) xs).toNat (u.dflt (30 : Nat))).addr, raised := (xs.getD (firstI (hitF a) xs).toNat (u.dflt (30 : Nat))).raised,
                                            ended := (xs.getD (firstI (hitF a) xs).toNat (u.dflt (30 : Nat))).ended, stage := to : Cse }).getD
                                      (firstI (hitF a) xs).toNat (u.dflt (30 : Nat))).stage :
                                Cse }) =
                          false →
                        xs.set (firstI (hitF a) xs).toNat
                              { addr := (xs.getD (firstI (hitF a) xs).toNat (u.dflt (30 : Nat))).addr, raised := (xs.getD (firstI (hitF a) xs).toNat (u.dflt (30 : Nat))).raised,
                                ended := (xs.getD (firstI (hitF a) xs).toNat (u.dflt (30 : Nat))).ended, stage := to : Cse } =
                            nextL xs a fr to now ∧
                          (0 : Int) = nextE xs a fr)))

def vcRight : List Cse → Prop :=
  fun (xs : List Cse) =>
  (∃ (g : Nat), (g ≤ xs.length ∧ okTo xs g = true) ∧ xs = xs ∧ xs = xs ∧ (↑xs.length : Int) = (↑xs.length : Int) ∧ (0 : Int) = (↑g : Int)) ∧
    ∀ (g : Nat),
      g ≤ xs.length ∧ okTo xs g = true →
        (decide ((↑g : Int) < (↑xs.length : Int)) = true →
            ((0 : Int) ≤ (↑g : Int) ∧ (↑g : Int) < (↑xs.length : Int)) ∧
              ((decide ((xs.getD (↑g : Int).toNat (u.dflt (30 : Nat))).stage < (0 : Int)) || decide ((xs.getD (↑g : Int).toNat (u.dflt (30 : Nat))).stage > (5 : Int)) ||
                        (xs.getD (↑g : Int).toNat (u.dflt (30 : Nat))).raised != clampT (xs.getD (↑g : Int).toNat (u.dflt (30 : Nat))).raised ||
                      (xs.getD (↑g : Int).toNat (u.dflt (30 : Nat))).ended != clampT (xs.getD (↑g : Int).toNat (u.dflt (30 : Nat))).ended) =
                    false →
                  openC
                        { addr := (xs.getD (↑g : Int).toNat (u.dflt (30 : Nat))).addr, raised := (xs.getD (↑g : Int).toNat (u.dflt (30 : Nat))).raised, ended := (xs.getD (↑g : Int).toNat (u.dflt (30 : Nat))).ended,
                          stage := (xs.getD (↑g : Int).toNat (u.dflt (30 : Nat))).stage : Cse } =
                      true →
                    ((xs.getD (↑g : Int).toNat (u.dflt (30 : Nat))).ended != (0 : Int)) = false → xs.length.succ.le (9223372036854775808 : Nat)) ∧
                ((decide ((xs.getD (↑g : Int).toNat (u.dflt (30 : Nat))).stage < (0 : Int)) || decide ((xs.getD (↑g : Int).toNat (u.dflt (30 : Nat))).stage > (5 : Int)) ||
                              (xs.getD (↑g : Int).toNat (u.dflt (30 : Nat))).raised != clampT (xs.getD (↑g : Int).toNat (u.dflt (30 : Nat))).raised ||
                            (xs.getD (↑g : Int).toNat (u.dflt (30 : Nat))).ended != clampT (xs.getD (↑g : Int).toNat (u.dflt (30 : Nat))).ended ||
                          openC
                              { addr := (xs.getD (↑g : Int).toNat (u.dflt (30 : Nat))).addr, raised := (xs.getD (↑g : Int).toNat (u.dflt (30 : Nat))).raised, ended := (xs.getD (↑g : Int).toNat (u.dflt (30 : Nat))).ended,
                                stage := (xs.getD (↑g : Int).toNat (u.dflt (30 : Nat))).stage : Cse } &&
                            ((xs.getD (↑g : Int).toNat (u.dflt (30 : Nat))).ended != (0 : Int) || firstI (hitF (xs.getD (↑g : Int).toNat (u.dflt (30 : Nat))).addr) xs != (↑g : Int)) ||
                        !openC
                              { addr := (xs.getD (↑g : Int).toNat (u.dflt (30 : Nat))).addr, raised := (xs.getD (↑g : Int).toNat (u.dflt (30 : Nat))).raised, ended := (xs.getD (↑g : Int).toNat (u.dflt (30 : Nat))).ended,
                                stage := (xs.getD (↑g : Int).toNat (u.dflt (30 : Nat))).stage : Cse } &&
                          decide ((xs.getD (↑g : Int).toNat (u.dflt (30 : Nat))).ended < (xs.getD (↑g : Int).toNat (u.dflt (30 : Nat))).raised)) =
                      true →
                    false = rightB xs) ∧
                  ((decide ((xs.getD (↑g : Int).toNat (u.dflt (30 : Nat))).stage < (0 : Int)) || decide ((xs.getD (↑g : Int).toNat (u.dflt (30 : Nat))).stage > (5 : Int)) ||
                              (xs.getD (↑g : Int).toNat (u.dflt (30 : Nat))).raised != clampT (xs.getD (↑g : Int).toNat (u.dflt (30 : Nat))).raised ||
                            (xs.getD (↑g : Int).toNat (u.dflt (30 : Nat))).ended != clampT (xs.getD (↑g : Int).toNat (u.dflt (30 : Nat))).ended ||
                          openC
                              { addr := (xs.getD (↑g : Int).toNat (u.dflt (30 : Nat))).addr, raised := (xs.getD (↑g : Int).toNat (u.dflt (30 : Nat))).raised, ended := (xs.getD (↑g : Int).toNat (u.dflt (30 : Nat))).ended,
                                stage := (xs.getD (↑g : Int).toNat (u.dflt (30 : Nat))).stage : Cse } &&
                            ((xs.getD (↑g : Int).toNat (u.dflt (30 : Nat))).ended != (0 : Int) || firstI (hitF (xs.getD (↑g : Int).toNat (u.dflt (30 : Nat))).addr) xs != (↑g : Int)) ||
                        !openC
                              { addr := (xs.getD (↑g : Int).toNat (u.dflt (30 : Nat))).addr, raised := (xs.getD (↑g : Int).toNat (u.dflt (30 : Nat))).raised, ended := (xs.getD (↑g : Int).toNat (u.dflt (30 : Nat))).ended,
                                stage := (xs.getD (↑g : Int).toNat (u.dflt (30 : Nat))).stage : Cse } &&
                          decide ((xs.getD (↑g : Int).toNat (u.dflt (30 : Nat))).ended < (xs.getD (↑g : Int).toNat (u.dflt (30 : Nat))).raised)) =
                      false →
                    ∃ (g_1 : Nat),
                      (g_1 ≤ xs.length ∧ okTo xs g_1 = true) ∧
                        (annRight xs).μ g_1 < (annRight xs).μ g ∧ xs = xs ∧ xs = xs ∧ (↑xs.length : Int) = (↑xs.length : Int) ∧ IntKind.i64.wrap ((↑g : Int) + (1 : Int)) = (↑g_1 : Int))) ∧
          (decide ((↑g : Int) < (↑xs.length : Int)) = false → decide ((↑xs.length : Int) ≤ (16 : Int)) = rightB xs)

def vcSame : List Cse → List Cse → Prop :=
  fun (xs ys : List Cse) =>
  (((↑xs.length : Int) != (↑ys.length : Int)) = true → false = sameL xs ys) ∧
    (((↑xs.length : Int) != (↑ys.length : Int)) = false →
      (∃ (g : Nat), (g ≤ xs.length ∧ xs.length = ys.length ∧ sameTo xs ys g = true) ∧ xs = xs ∧ ys = ys ∧ xs = xs ∧ (↑xs.length : Int) = (↑xs.length : Int) ∧ (0 : Int) = (↑g : Int)) ∧
        ∀ (g : Nat),
          g ≤ xs.length ∧ xs.length = ys.length ∧ sameTo xs ys g = true →
            (decide ((↑g : Int) < (↑xs.length : Int)) = true →
                ((0 : Int) ≤ (↑g : Int) ∧ (↑g : Int) < (↑xs.length : Int)) ∧
                  ((0 : Int) ≤ (↑g : Int) ∧ (↑g : Int) < (↑ys.length : Int)) ∧
                    ((!((xs.getD (↑g : Int).toNat (u.dflt (30 : Nat))).addr == (ys.getD (↑g : Int).toNat (u.dflt (30 : Nat))).addr &&
                              ((xs.getD (↑g : Int).toNat (u.dflt (30 : Nat))).raised == (ys.getD (↑g : Int).toNat (u.dflt (30 : Nat))).raised &&
                                ((xs.getD (↑g : Int).toNat (u.dflt (30 : Nat))).ended == (ys.getD (↑g : Int).toNat (u.dflt (30 : Nat))).ended &&
                                  ((xs.getD (↑g : Int).toNat (u.dflt (30 : Nat))).stage == (ys.getD (↑g : Int).toNat (u.dflt (30 : Nat))).stage && true))))) =
                          true →
                        false = sameL xs ys) ∧
                      ((!((xs.getD (↑g : Int).toNat (u.dflt (30 : Nat))).addr == (ys.getD (↑g : Int).toNat (u.dflt (30 : Nat))).addr &&
                              ((xs.getD (↑g : Int).toNat (u.dflt (30 : Nat))).raised == (ys.getD (↑g : Int).toNat (u.dflt (30 : Nat))).raised &&
                                ((xs.getD (↑g : Int).toNat (u.dflt (30 : Nat))).ended == (ys.getD (↑g : Int).toNat (u.dflt (30 : Nat))).ended &&
                                  ((xs.getD (↑g : Int).toNat (u.dflt (30 : Nat))).stage == (ys.getD (↑g : Int).toNat (u.dflt (30 : Nat))).stage && true))))) =
                          false →
                        ∃ (g_1 : Nat),
                          (g_1 ≤ xs.length ∧ xs.length = ys.length ∧ sameTo xs ys g_1 = true) ∧
                            (annSame xs ys).μ g_1 < (annSame xs ys).μ g ∧ xs = xs ∧ ys = ys ∧ xs = xs ∧ (↑xs.length : Int) = (↑xs.length : Int) ∧ IntKind.i64.wrap ((↑g : Int) + (1 : Int)) = (↑g_1 : Int))) ∧
              (decide ((↑g : Int) < (↑xs.length : Int)) = false → true = sameL xs ys))


end Go.Proofs.Ytlamlmihojodfaa.Cas
