/- Cases: what the deeds and the law's own way come to (printed by wip/Vc.lean; checked by the kernel in the next text). -/
import Derived.Test.YtlamlmihojodfaaCasSpec
namespace Go.Proofs.Ytlamlmihojodfaa.Cas
open Go Go.Proofs.Ytlamlmihojodfaa.Sx

def vcRaise : Int → Int → Int → Int → Int → Int → Int → Int → Int → List Cse → Int → Int → Prop :=
  fun (c0 c1 c2 c3 c4 c5 c6 c7 c8 : Int) (xs : List Cse) (a now : Int) =>
  xs.length.succ.le (9223372036854775808 : Nat) ∧
    (decide (firstI (hitF a) xs ≥ (0 : Int)) = true → raiseL c8 xs a now = [] ∧ (6 : Int) = raiseE c8 xs a now) ∧
      (decide (firstI (hitF a) xs ≥ (0 : Int)) = false →
        xs.length.succ.le (9223372036854775808 : Nat) ∧
          (xs.any (hitQ c8 now a) = true → raiseL c8 xs a now = [] ∧ (8 : Int) = raiseE c8 xs a now) ∧
            (xs.any (hitQ c8 now a) = false →
              (xs.length * (32 : Nat)).le (140737488355328 : Nat) ∧
                (decide ((↑xs.length : Int) ≥ (16 : Int)) = true →
                    xs.length.succ.le (9223372036854775808 : Nat) ∧
                      (decide (spareI c8 now xs < (0 : Int)) = true → raiseL c8 xs a now = [] ∧ (4 : Int) = raiseE c8 xs a now) ∧
                        (decide (spareI c8 now xs < (0 : Int)) = false →
                          (IntKind.i64.wrap (spareI c8 now xs + (1 : Int)) = spareI c8 now xs + (1 : Int) ∧ (0 : Int) ≤ spareI c8 now xs ∧ spareI c8 now xs < (↑xs.length : Int) ∧ xs.length ≤ (1000000 : Nat)) ∧
                            (xs.length - (1 : Nat) + [{ addr := a, raised := clampT now, ended := (0 : Int), stage := (0 : Int) : Cse }].length) * (32 : Nat) ≤ (140737488355328 : Nat) ∧
                              List.take (xs.length - (1 : Nat)) (cutAt xs (spareI c8 now xs).toNat ++ [zeroC]) ++ [{ addr := a, raised := clampT now, ended := (0 : Int), stage := (0 : Int) : Cse }] = raiseL c8 xs a now ∧
                                (0 : Int) = raiseE c8 xs a now)) ∧
                  (decide ((↑xs.length : Int) ≥ (16 : Int)) = false →
                    (xs.length + [{ addr := a, raised := clampT now, ended := (0 : Int), stage := (0 : Int) : Cse }].length) * (32 : Nat) ≤ (140737488355328 : Nat) ∧
                      xs ++ [{ addr := a, raised := clampT now, ended := (0 : Int), stage := (0 : Int) : Cse }] = raiseL c8 xs a now ∧ (0 : Int) = raiseE c8 xs a now)))

def vcApprove : List Cse → Int → Int → Prop :=
  fun (xs : List Cse) (a now : Int) => xs.length.le (1000000 : Nat) ∧ nextL xs a (0 : Int) (1 : Int) now = nextL xs a (0 : Int) (1 : Int) now ∧ nextE xs a (0 : Int) = nextE xs a (0 : Int)

def vcReject : List Cse → Int → Int → Prop :=
  fun (xs : List Cse) (a now : Int) => xs.length.le (1000000 : Nat) ∧ nextL xs a (0 : Int) (2 : Int) now = nextL xs a (0 : Int) (2 : Int) now ∧ nextE xs a (0 : Int) = nextE xs a (0 : Int)

def vcDone : List Cse → Int → Int → Prop :=
  fun (xs : List Cse) (a now : Int) => xs.length.le (1000000 : Nat) ∧ nextL xs a (1 : Int) (5 : Int) now = nextL xs a (1 : Int) (5 : Int) now ∧ nextE xs a (1 : Int) = nextE xs a (1 : Int)

def vcCancel : List Cse → Int → Int → Prop :=
  fun (xs : List Cse) (a now : Int) =>
  xs.length.succ.le (9223372036854775808 : Nat) ∧
    (decide (firstI (hitF a) xs < (0 : Int)) = true → cancelL xs a now = [] ∧ (7 : Int) = cancelE xs a) ∧
      (decide (firstI (hitF a) xs < (0 : Int)) = false →
        ((0 : Int) ≤ firstI (hitF a) xs ∧ firstI (hitF a) xs < (↑xs.length : Int)) ∧
          xs.length.le (1000000 : Nat) ∧
            nextL xs a (xs.getD (firstI (hitF a) xs).toNat (u.dflt (30 : Nat))).stage (4 : Int) now = cancelL xs a now ∧ nextE xs a (xs.getD (firstI (hitF a) xs).toNat (u.dflt (30 : Nat))).stage = cancelE xs a)

def vcTick : Int → Int → Int → Int → Int → Int → Int → Int → Int → List Cse → Int → Prop :=
  fun (c0 c1 c2 c3 c4 c5 c6 c7 c8 : Int) (xs : List Cse) (now : Int) =>
  (xs.length * (32 : Nat)).le (140737488355328 : Nat) ∧
    (∃ (g : Nat),
        g.le xs.length ∧
          (now = now ∧ True ∧ (↑xs.length : Int) = (↑xs.length : Int) ∧ (0 : Int) = (↑g : Int) ∧ True ∧ True) ∧
            (c0 = c0 ∧ c1 = c1 ∧ c2 = c2 ∧ c3 = c3 ∧ c4 = c4 ∧ c5 = c5 ∧ c6 = c6 ∧ c7 = c7 ∧ c8 = c8) ∧ xs = tickAt c7 now xs g) ∧
      ∀ (g : Nat),
        g.le xs.length →
          (decide ((↑g : Int) < (↑xs.length : Int)) = true →
              ((0 : Int) ≤ (↑g : Int) ∧ (↑g : Int) < (↑(tickAt c7 now xs g).length : Int)) ∧
                ((((tickAt c7 now xs g).getD (↑g : Int).toNat (u.dflt (30 : Nat))).stage == (0 : Int) && decide (since now ((tickAt c7 now xs g).getD (↑g : Int).toNat (u.dflt (30 : Nat))).raised ≥ c7)) = true →
                    ((0 : Int) ≤ (↑g : Int) ∧ (↑g : Int) < (↑(tickAt c7 now xs g).length : Int)) ∧
                      ((0 : Int) ≤ (↑g : Int) ∧
                          (↑g : Int) <
                            (↑((tickAt c7 now xs g).set (↑g : Int).toNat
                                    { addr := ((tickAt c7 now xs g).getD (↑g : Int).toNat (u.dflt (30 : Nat))).addr, raised := ((tickAt c7 now xs g).getD (↑g : Int).toNat (u.dflt (30 : Nat))).raised,
                                      ended := ((tickAt c7 now xs g).getD (↑g : Int).toNat (u.dflt (30 : Nat))).ended, stage := (3 : Int) : Cse }).length :
                              Int)) ∧
                        ∃ (g_1 : Nat),
                          g_1.le xs.length ∧
                            (annTick c7 now xs).μ g_1 < (annTick c7 now xs).μ g ∧
                              (now = now ∧ True ∧ (↑xs.length : Int) = (↑xs.length : Int) ∧ IntKind.i64.wrap ((↑g : Int) + (1 : Int)) = (↑g_1 : Int) ∧ True ∧ True) ∧
                                (c0 = c0 ∧ c1 = c1 ∧ c2 = c2 ∧ c3 = c3 ∧ c4 = c4 ∧ c5 = c5 ∧ c6 = c6 ∧ c7 = c7 ∧ c8 = c8) ∧
                                  ((tickAt c7 now xs g).set (↑g : Int).toNat
                                          { addr := ((tickAt c7 now xs g).getD (↑g : Int).toNat (u.dflt (30 : Nat))).addr, raised := ((tickAt c7 now xs g).getD (↑g : Int).toNat (u.dflt (30 : Nat))).raised,
                                            ended := ((tickAt c7 now xs g).getD (↑g : Int).toNat (u.dflt (30 : Nat))).ended, stage := (3 : Int) : Cse }).set
                                      (↑g : Int).toNat
                                      {
                                        addr :=
                                          (((tickAt c7 now xs g).set (↑g : Int).toNat
                                                  { addr := ((tickAt c7 now xs g).getD (↑g : Int).toNat (u.dflt (30 : Nat))).addr, raised := ((tickAt c7 now xs g).getD (↑g : Int).toNat (u.dflt (30 : Nat))).raised,
                                                    ended := ((tickAt c7 now xs g).getD (↑g : Int).toNat (u.dflt (30 : Nat))).ended, stage := (3 : Int) : Cse }).getD
                                              (↑g : Int).toNat (u.dflt (30 : Nat))).addr,
                                        raised :=
                                          (((tickAt c7 now xs g).set (↑g : Int).toNat
                                                  { addr := ((tickAt c7 now xs g).getD (↑g : Int).toNat (u.dflt (30 : Nat))).addr, raised := ((tickAt c7 now xs g).getD (↑g : Int).toNat (u.dflt (30 : Nat))).raised,
                                                    ended := ((tickAt c7 now xs g).getD (↑g : Int).toNat (u.dflt (30 : Nat))).ended, stage := (3 : Int) : Cse }).getD
                                              (↑g : Int).toNat (u.dflt (30 : Nat))).raised,
                                        ended := clampT now,
                                        stage :=
                                          (((tickAt c7 now xs g).set (↑g : Int).toNat
                                                  { addr := ((tickAt c7 now xs g).getD (↑g : Int).toNat (u.dflt (30 : Nat))).addr, raised := ((tickAt c7 now xs g).getD (↑g : Int).toNat (u.dflt (30 : Nat))).raised,
                                                    ended := ((tickAt c7 now xs g).getD (↑g : Int).toNat (u.dflt (30 : Nat))).ended, stage := (3 : Int) : Cse }).getD
                                              (↑g : Int).toNat (u.dflt (30 : Nat))).stage :
                                        Cse } =
                                    tickAt c7 now xs g_1) ∧
                  ((((tickAt c7 now xs g).getD (↑g : Int).toNat (u.dflt (30 : Nat))).stage == (0 : Int) && decide (since now ((tickAt c7 now xs g).getD (↑g : Int).toNat (u.dflt (30 : Nat))).raised ≥ c7)) = false →
                    ∃ (g_1 : Nat),
                      g_1.le xs.length ∧
                        (annTick c7 now xs).μ g_1 < (annTick c7 now xs).μ g ∧
                          (now = now ∧ True ∧ (↑xs.length : Int) = (↑xs.length : Int) ∧ IntKind.i64.wrap ((↑g : Int) + (1 : Int)) = (↑g_1 : Int) ∧ True ∧ True) ∧
                            (c0 = c0 ∧ c1 = c1 ∧ c2 = c2 ∧ c3 = c3 ∧ c4 = c4 ∧ c5 = c5 ∧ c6 = c6 ∧ c7 = c7 ∧ c8 = c8) ∧ tickAt c7 now xs g = tickAt c7 now xs g_1)) ∧
            (decide ((↑g : Int) < (↑xs.length : Int)) = false → tickAt c7 now xs g = tickL c7 now xs)

def vcDo : Int → Int → Int → Int → Int → Int → Int → Int → Int → List Cse → Int → Int → Int → Int → Prop :=
  fun (c0 c1 c2 c3 c4 c5 c6 c7 c8 : Int) (xs : List Cse) (o a n now : Int) =>
  (8 : Int) ≠ (0 : Int) ∧
    ((o.tmod (8 : Int) == (0 : Int)) = true → True) ∧
      ((o.tmod (8 : Int) == (0 : Int)) = false → True) ∧
        ∀ (v : Bool),
          (v = if (o.tmod (8 : Int) == (0 : Int)) = true then o.tmod (8 : Int) == (0 : Int) else o.tmod (8 : Int) == (1 : Int)) →
            (v = true → xs.length.le (1000000 : Nat) ∧ raiseL c8 xs (nearA a) now = doL c8 xs { op := o, addr := a, n := n : Act } now ∧ raiseE c8 xs (nearA a) now = doE c8 xs { op := o, addr := a, n := n : Act } now) ∧
              (v = false →
                ((o.tmod (8 : Int) == (2 : Int)) = true →
                    xs.length.le (1000000 : Nat) ∧
                      nextL xs (nearA a) (0 : Int) (1 : Int) now = doL c8 xs { op := o, addr := a, n := n : Act } now ∧ nextE xs (nearA a) (0 : Int) = doE c8 xs { op := o, addr := a, n := n : Act } now) ∧
                  ((o.tmod (8 : Int) == (2 : Int)) = false →
                    ((o.tmod (8 : Int) == (3 : Int)) = true →
                        xs.length.le (1000000 : Nat) ∧
                          nextL xs (nearA a) (0 : Int) (2 : Int) now = doL c8 xs { op := o, addr := a, n := n : Act } now ∧ nextE xs (nearA a) (0 : Int) = doE c8 xs { op := o, addr := a, n := n : Act } now) ∧
                      ((o.tmod (8 : Int) == (3 : Int)) = false →
                        ((o.tmod (8 : Int) == (4 : Int)) = true →
                            xs.length.le (1000000 : Nat) ∧
                              nextL xs (nearA a) (1 : Int) (5 : Int) now = doL c8 xs { op := o, addr := a, n := n : Act } now ∧ nextE xs (nearA a) (1 : Int) = doE c8 xs { op := o, addr := a, n := n : Act } now) ∧
                          ((o.tmod (8 : Int) == (4 : Int)) = false →
                            ((o.tmod (8 : Int) == (5 : Int)) = true →
                                xs.length.le (1000000 : Nat) ∧ cancelL xs (nearA a) now = doL c8 xs { op := o, addr := a, n := n : Act } now ∧ cancelE xs (nearA a) = doE c8 xs { op := o, addr := a, n := n : Act } now) ∧
                              ((o.tmod (8 : Int) == (5 : Int)) = false → xs = doL c8 xs { op := o, addr := a, n := n : Act } now ∧ (0 : Int) = doE c8 xs { op := o, addr := a, n := n : Act } now)))))

def vcModel : Int → Int → Int → Int → Int → Int → Int → Int → Int → List Cse → Int → Int → Int → Int → Prop :=
  fun (c0 c1 c2 c3 c4 c5 c6 c7 c8 : Int) (xs : List Cse) (o a n now : Int) =>
  (∃ (g : Nat),
      g.le xs.length ∧
        (xs = xs ∧ now = now ∧ True ∧ True ∧ nearA a = nearA a ∧ xs = xs ∧ (↑xs.length : Int) = (↑xs.length : Int) ∧ (0 : Int) = (↑g : Int) ∧ (-1 : Int) = atTo (nearA a) xs g ∧ false = stillTo c8 now (nearA a) xs g) ∧
          (c0 = c0 ∧ c1 = c1 ∧ c2 = c2 ∧ c3 = c3 ∧ c4 = c4 ∧ c5 = c5 ∧ c6 = c6 ∧ c7 = c7 ∧ c8 = c8) ∧ o = o ∧ a = a ∧ n = n) ∧
    ∀ (g : Nat),
      g.le xs.length →
        (decide ((↑g : Int) < (↑xs.length : Int)) = true →
            ((0 : Int) ≤ (↑g : Int) ∧ (↑g : Int) < (↑xs.length : Int)) ∧
              (((xs.getD (↑g : Int).toNat (u.dflt (30 : Nat))).addr == nearA a &&
                        openC
                          { addr := (xs.getD (↑g : Int).toNat (u.dflt (30 : Nat))).addr, raised := (xs.getD (↑g : Int).toNat (u.dflt (30 : Nat))).raised, ended := (xs.getD (↑g : Int).toNat (u.dflt (30 : Nat))).ended,
                            stage := (xs.getD (↑g : Int).toNat (u.dflt (30 : Nat))).stage : Cse } &&
                      decide (atTo (nearA a) xs g < (0 : Int))) =
                    true →
                  True) ∧
                (((xs.getD (↑g : Int).toNat (u.dflt (30 : Nat))).addr == nearA a &&
                          openC
                            { addr := (xs.getD (↑g : Int).toNat (u.dflt (30 : Nat))).addr, raised := (xs.getD (↑g : Int).toNat (u.dflt (30 : Nat))).raised, ended := (xs.getD (↑g : Int).toNat (u.dflt (30 : Nat))).ended,
                              stage := (xs.getD (↑g : Int).toNat (u.dflt (30 : Nat))).stage : Cse } &&
                        decide (atTo (nearA a) xs g < (0 : Int))) =
                      false →
                    True) ∧
                  ∀ (v : Int),
                    (v =
                        if
                            ((xs.getD (↑g : Int).toNat (u.dflt (30 : Nat))).addr == nearA a &&
                                  openC
                                    { addr := (xs.getD (↑g : Int).toNat (u.dflt (30 : Nat))).addr, raised := (xs.getD (↑g : Int).toNat (u.dflt (30 : Nat))).raised,
                                      ended := (xs.getD (↑g : Int).toNat (u.dflt (30 : Nat))).ended, stage := (xs.getD (↑g : Int).toNat (u.dflt (30 : Nat))).stage : Cse } &&
                                decide (atTo (nearA a) xs g < (0 : Int))) =
                              true then
                          (↑g : Int)
                        else atTo (nearA a) xs g) →
                      ∃ (g_1 : Nat),
                        g_1.le xs.length ∧
                          (annModel c8 now (nearA a) xs).μ g_1 < (annModel c8 now (nearA a) xs).μ g ∧
                            (xs = xs ∧
                                now = now ∧
                                  True ∧
                                    True ∧
                                      nearA a = nearA a ∧
                                        xs = xs ∧
                                          (↑xs.length : Int) = (↑xs.length : Int) ∧
                                            IntKind.i64.wrap ((↑g : Int) + (1 : Int)) = (↑g_1 : Int) ∧
                                              v = atTo (nearA a) xs g_1 ∧
                                                (stillTo c8 now (nearA a) xs g ||
                                                    (xs.getD (↑g : Int).toNat (u.dflt (30 : Nat))).addr == nearA a &&
                                                      quietL c8 now
                                                        { addr := (xs.getD (↑g : Int).toNat (u.dflt (30 : Nat))).addr, raised := (xs.getD (↑g : Int).toNat (u.dflt (30 : Nat))).raised,
                                                          ended := (xs.getD (↑g : Int).toNat (u.dflt (30 : Nat))).ended, stage := (xs.getD (↑g : Int).toNat (u.dflt (30 : Nat))).stage : Cse }) =
                                                  stillTo c8 now (nearA a) xs g_1) ∧
                              (c0 = c0 ∧ c1 = c1 ∧ c2 = c2 ∧ c3 = c3 ∧ c4 = c4 ∧ c5 = c5 ∧ c6 = c6 ∧ c7 = c7 ∧ c8 = c8) ∧ o = o ∧ a = a ∧ n = n) ∧
          (decide ((↑g : Int) < (↑xs.length : Int)) = false →
            xs.length * (32 : Nat) ≤ (140737488355328 : Nat) ∧
              (8 : Int) ≠ (0 : Int) ∧
                (decide (o.tmod (8 : Int) < (2 : Int)) = true →
                    (decide (atTo (nearA a) xs g ≥ (0 : Int)) = true → modL c8 xs { op := o, addr := a, n := n : Act } now = [] ∧ (6 : Int) = modE c8 xs { op := o, addr := a, n := n : Act } now) ∧
                      (decide (atTo (nearA a) xs g ≥ (0 : Int)) = false →
                        (stillTo c8 now (nearA a) xs g = true → modL c8 xs { op := o, addr := a, n := n : Act } now = [] ∧ (8 : Int) = modE c8 xs { op := o, addr := a, n := n : Act } now) ∧
                          (stillTo c8 now (nearA a) xs g = false →
                            (decide ((↑xs.length : Int) ≥ (16 : Int)) = true →
                                (∃ (g : Nat),
                                    g.le xs.length ∧
                                      (now = now ∧ True ∧ nearA a = nearA a ∧ (↑xs.length : Int) = (↑xs.length : Int) ∧ (0 : Int) = (↑g : Int) ∧ (-1 : Int) = goneTo c8 now xs g ∧ True ∧ True) ∧
                                        (c0 = c0 ∧ c1 = c1 ∧ c2 = c2 ∧ c3 = c3 ∧ c4 = c4 ∧ c5 = c5 ∧ c6 = c6 ∧ c7 = c7 ∧ c8 = c8) ∧ xs = xs) ∧
                                  ∀ (g : Nat),
                                    g.le xs.length →
                                      (decide ((↑g : Int) < (↑xs.length : Int)) = true →
                                          ((0 : Int) ≤ (↑g : Int) ∧ (↑g : Int) < (↑xs.length : Int)) ∧
                                            ((!openC
                                                        { addr := (xs.getD (↑g : Int).toNat (u.dflt (30 : Nat))).addr, raised := (xs.getD (↑g : Int).toNat (u.dflt (30 : Nat))).raised,
                                                          ended := (xs.getD (↑g : Int).toNat (u.dflt (30 : Nat))).ended, stage := (xs.getD (↑g : Int).toNat (u.dflt (30 : Nat))).stage : Cse } &&
                                                    !quietL c8 now
                                                        { addr := (xs.getD (↑g : Int).toNat (u.dflt (30 : Nat))).addr, raised := (xs.getD (↑g : Int).toNat (u.dflt (30 : Nat))).raised,
                                                          ended := (xs.getD (↑g : Int).toNat (u.dflt (30 : Nat))).ended, stage := (xs.getD (↑g : Int).toNat (u.dflt (30 : Nat))).stage : Cse }) =
                                                  true →
                                                decide (goneTo c8 now xs g < (0 : Int)) = false → (0 : Int) ≤ goneTo c8 now xs g ∧ goneTo c8 now xs g < (↑xs.length : Int)) ∧
                                              ((!openC
                                                            { addr := (xs.getD (↑g : Int).toNat (u.dflt (30 : Nat))).addr, raised := (xs.getD (↑g : Int).toNat (u.dflt (30 : Nat))).raised,
                                                              ended := (xs.getD (↑g : Int).toNat (u.dflt (30 : Nat))).ended, stage := (xs.getD (↑g : Int).toNat (u.dflt (30 : Nat))).stage : Cse } &&
                                                        !quietL c8 now
                                                            { addr := (xs.getD (↑g : Int).toNat (u.dflt (30 : Nat))).addr, raised := (xs.getD (↑g : Int).toNat (u.dflt (30 : Nat))).raised,
                                                              ended := (xs.getD (↑g : Int).toNat (u.dflt (30 : Nat))).ended, stage := (xs.getD (↑g : Int).toNat (u.dflt (30 : Nat))).stage : Cse } &&
                                                      (decide (goneTo c8 now xs g < (0 : Int)) ||
                                                        decide ((xs.getD (↑g : Int).toNat (u.dflt (30 : Nat))).ended < (xs.getD (goneTo c8 now xs g).toNat (u.dflt (30 : Nat))).ended))) =
                                                    true →
                                                  True) ∧
                                                ((!openC
                                                              { addr := (xs.getD (↑g : Int).toNat (u.dflt (30 : Nat))).addr, raised := (xs.getD (↑g : Int).toNat (u.dflt (30 : Nat))).raised,
                                                                ended := (xs.getD (↑g : Int).toNat (u.dflt (30 : Nat))).ended, stage := (xs.getD (↑g : Int).toNat (u.dflt (30 : Nat))).stage : Cse } &&
                                                          !quietL c8 now
                                                              { addr := (xs.getD (↑g : Int).toNat (u.dflt (30 : Nat))).addr, raised := (xs.getD (↑g : Int).toNat (u.dflt (30 : Nat))).raised,
                                                                ended := (xs.getD (↑g : Int).toNat (u.dflt (30 : Nat))).ended, stage := (xs.getD (↑g : Int).toNat (u.dflt (30 : Nat))).stage : Cse } &&
                                                        (decide (goneTo c8 now xs g < (0 : Int)) ||
                                                          decide ((xs.getD (↑g : Int).toNat (u.dflt (30 : Nat))).ended < (xs.getD (goneTo c8 now xs g).toNat (u.dflt (30 : Nat))).ended))) =
                                                      false →
                                                    True) ∧
                                                  ∀ (v : Int),
                                                    (v =
                                                        if
                                                            (!openC
                                                                      { addr := (xs.getD (↑g : Int).toNat (u.dflt (30 : Nat))).addr, raised := (xs.getD (↑g : Int).toNat (u.dflt (30 : Nat))).raised,
                                                                        ended := (xs.getD (↑g : Int).toNat (u.dflt (30 : Nat))).ended, stage := (xs.getD (↑g : Int).toNat (u.dflt (30 : Nat))).stage : Cse } &&
                                                                  !quietL c8 now
                                                                      { addr := (xs.getD (↑g : Int).toNat (u.dflt (30 : Nat))).addr, raised := (xs.getD (↑g : Int).toNat (u.dflt (30 : Nat))).raised,
                                                                        ended := (xs.getD (↑g : Int).toNat (u.dflt (30 : Nat))).ended, stage := (xs.getD (↑g : Int).toNat (u.dflt (30 : Nat))).stage : Cse } &&
                                                                (decide (goneTo c8 now xs g < (0 : Int)) ||
                                                                  decide ((xs.getD (↑g : Int).toNat (u.dflt (30 : Nat))).ended < (xs.getD (goneTo c8 now xs g).toNat (u.dflt (30 : Nat))).ended))) =
                                                              true then
                                                          (↑g : Int)
                                                        else goneTo c8 now xs g) →
                                                      ∃ (g_1 : Nat),
                                                        g_1.le xs.length ∧
                                                          (annModel2 c8 now xs).μ g_1 < (annModel2 c8 now xs).μ g ∧
                                                            (now = now ∧
                                                                True ∧
                                                                  nearA a = nearA a ∧
                                                                    (↑xs.length : Int) = (↑xs.length : Int) ∧ IntKind.i64.wrap ((↑g : Int) + (1 : Int)) = (↑g_1 : Int) ∧ v = goneTo c8 now xs g_1 ∧ True ∧ True) ∧
                                                              (c0 = c0 ∧ c1 = c1 ∧ c2 = c2 ∧ c3 = c3 ∧ c4 = c4 ∧ c5 = c5 ∧ c6 = c6 ∧ c7 = c7 ∧ c8 = c8) ∧ xs = xs) ∧
                                        (decide ((↑g : Int) < (↑xs.length : Int)) = false →
                                          (decide (goneTo c8 now xs g < (0 : Int)) = true → modL c8 xs { op := o, addr := a, n := n : Act } now = [] ∧ (4 : Int) = modE c8 xs { op := o, addr := a, n := n : Act } now) ∧
                                            (decide (goneTo c8 now xs g < (0 : Int)) = false →
                                              ((0 : Int) ≤ (0 : Int) ∧ (0 : Int) ≤ goneTo c8 now xs g ∧ goneTo c8 now xs g ≤ (↑xs.length : Int)) ∧
                                                ((0 : Int) ≤ IntKind.i64.wrap (goneTo c8 now xs g + (1 : Int)) ∧
                                                    IntKind.i64.wrap (goneTo c8 now xs g + (1 : Int)) ≤ (↑xs.length : Int) ∧ (↑xs.length : Int) ≤ (↑xs.length : Int)) ∧
                                                  (goneTo c8 now xs g).toNat - (0 : Nat) +
                                                        (List.take ((↑xs.length : Int).toNat - (IntKind.i64.wrap (goneTo c8 now xs g + (1 : Int))).toNat)
                                                            (List.drop ((0 : Nat) + (IntKind.i64.wrap (goneTo c8 now xs g + (1 : Int))).toNat) xs)).length ≤
                                                      xs.length ∧
                                                    ((goneTo c8 now xs g).toNat - (0 : Nat) +
                                                              (List.take ((↑xs.length : Int).toNat - (IntKind.i64.wrap (goneTo c8 now xs g + (1 : Int))).toNat)
                                                                  (List.drop ((0 : Nat) + (IntKind.i64.wrap (goneTo c8 now xs g + (1 : Int))).toNat) xs)).length +
                                                            [{ addr := nearA a, raised := now, ended := (0 : Int), stage := (0 : Int) : Cse }].length) *
                                                          (32 : Nat) ≤
                                                        (140737488355328 : Nat) ∧
                                                      List.take
                                                              ((goneTo c8 now xs g).toNat - (0 : Nat) +
                                                                (List.take ((↑xs.length : Int).toNat - (IntKind.i64.wrap (goneTo c8 now xs g + (1 : Int))).toNat)
                                                                    (List.drop ((0 : Nat) + (IntKind.i64.wrap (goneTo c8 now xs g + (1 : Int))).toNat) xs)).length)
                                                              (List.take ((goneTo c8 now xs g).toNat - (0 : Nat)) xs ++
                                                                  List.take ((↑xs.length : Int).toNat - (IntKind.i64.wrap (goneTo c8 now xs g + (1 : Int))).toNat)
                                                                    (List.drop ((0 : Nat) + (IntKind.i64.wrap (goneTo c8 now xs g + (1 : Int))).toNat) xs) ++
                                                                List.drop
                                                                  ((goneTo c8 now xs g).toNat - (0 : Nat) +
                                                                    (List.take ((↑xs.length : Int).toNat - (IntKind.i64.wrap (goneTo c8 now xs g + (1 : Int))).toNat)
                                                                        (List.drop ((0 : Nat) + (IntKind.i64.wrap (goneTo c8 now xs g + (1 : Int))).toNat) xs)).length)
                                                                  xs) ++
                                                            [{ addr := nearA a, raised := now, ended := (0 : Int), stage := (0 : Int) : Cse }] =
                                                          modL c8 xs { op := o, addr := a, n := n : Act } now ∧
                                                        (0 : Int) = modE c8 xs { op := o, addr := a, n := n : Act } now))) ∧
                              (decide ((↑xs.length : Int) ≥ (16 : Int)) = false →
                                (xs.length + [{ addr := nearA a, raised := now, ended := (0 : Int), stage := (0 : Int) : Cse }].length) * (32 : Nat) ≤ (140737488355328 : Nat) ∧
                                  xs ++ [{ addr := nearA a, raised := now, ended := (0 : Int), stage := (0 : Int) : Cse }] = modL c8 xs { op := o, addr := a, n := n : Act } now ∧
                                    (0 : Int) = modE c8 xs { op := o, addr := a, n := n : Act } now)))) ∧
                  (decide (o.tmod (8 : Int) < (2 : Int)) = false →
                    (decide (atTo (nearA a) xs g < (0 : Int)) = true → modL c8 xs { op := o, addr := a, n := n : Act } now = [] ∧ (7 : Int) = modE c8 xs { op := o, addr := a, n := n : Act } now) ∧
                      (decide (atTo (nearA a) xs g < (0 : Int)) = false →
                        (decide (o.tmod (8 : Int) < (4 : Int)) = true → (0 : Int) ≤ atTo (nearA a) xs g ∧ atTo (nearA a) xs g < (↑xs.length : Int)) ∧
                          ((decide (o.tmod (8 : Int) < (4 : Int)) && (xs.getD (atTo (nearA a) xs g).toNat (u.dflt (30 : Nat))).stage != (0 : Int)) = false →
                              (o.tmod (8 : Int) == (4 : Int)) = true → (0 : Int) ≤ atTo (nearA a) xs g ∧ atTo (nearA a) xs g < (↑xs.length : Int)) ∧
                            ((decide (o.tmod (8 : Int) < (4 : Int)) && (xs.getD (atTo (nearA a) xs g).toNat (u.dflt (30 : Nat))).stage != (0 : Int) ||
                                    o.tmod (8 : Int) == (4 : Int) && (xs.getD (atTo (nearA a) xs g).toNat (u.dflt (30 : Nat))).stage != (1 : Int)) =
                                  true →
                                modL c8 xs { op := o, addr := a, n := n : Act } now = [] ∧ (8 : Int) = modE c8 xs { op := o, addr := a, n := n : Act } now) ∧
                              ((decide (o.tmod (8 : Int) < (4 : Int)) && (xs.getD (atTo (nearA a) xs g).toNat (u.dflt (30 : Nat))).stage != (0 : Int) ||
                                    o.tmod (8 : Int) == (4 : Int) && (xs.getD (atTo (nearA a) xs g).toNat (u.dflt (30 : Nat))).stage != (1 : Int)) =
                                  false →
                                ((0 : Int) ≤ o.tmod (8 : Int) ∧ o.tmod (8 : Int) < (6 : Int)) ∧
                                  ((0 : Int) ≤ atTo (nearA a) xs g ∧ atTo (nearA a) xs g < (↑xs.length : Int)) ∧
                                    (decide (o.tmod (8 : Int) > (2 : Int)) = true →
                                        ((0 : Int) ≤ atTo (nearA a) xs g ∧
                                            atTo (nearA a) xs g <
                                              (↑(xs.set (atTo (nearA a) xs g).toNat
                                                      { addr := (xs.getD (atTo (nearA a) xs g).toNat (u.dflt (30 : Nat))).addr, raised := (xs.getD (atTo (nearA a) xs g).toNat (u.dflt (30 : Nat))).raised,
                                                        ended := (xs.getD (atTo (nearA a) xs g).toNat (u.dflt (30 : Nat))).ended,
                                                        stage := [(0 : Int), (0 : Int), (1 : Int), (2 : Int), (5 : Int), (4 : Int)].getD (o.tmod (8 : Int)).toNat (u.dflt (28 : Nat)) : Cse }).length :
                                                Int)) ∧
                                          (xs.set (atTo (nearA a) xs g).toNat
                                                    { addr := (xs.getD (atTo (nearA a) xs g).toNat (u.dflt (30 : Nat))).addr, raised := (xs.getD (atTo (nearA a) xs g).toNat (u.dflt (30 : Nat))).raised,
                                                      ended := (xs.getD (atTo (nearA a) xs g).toNat (u.dflt (30 : Nat))).ended,
                                                      stage := [(0 : Int), (0 : Int), (1 : Int), (2 : Int), (5 : Int), (4 : Int)].getD (o.tmod (8 : Int)).toNat (u.dflt (28 : Nat)) : Cse }).set
                                                (atTo (nearA a) xs g).toNat
                                                {
                                                  addr :=
                                                    ((xs.set (atTo (nearA a) xs g).toNat
                                                            { addr := (xs.getD (atTo (nearA a) xs g).toNat (u.dflt (30 : Nat))).addr, raised := (xs.getD (atTo (nearA a) xs g).toNat (u.dflt (30 : Nat))).raised,
                                                              ended := (xs.getD (atTo (nearA a) xs g).toNat (u.dflt (30 : Nat))).ended,
                                                              stage := [(0 : Int), (0 : Int), (1 : Int), (2 : Int), (5 : Int), (4 : Int)].getD (o.tmod (8 : Int)).toNat (u.dflt (28 : Nat)) : Cse }).getD
                                                        (atTo (nearA a) xs g).toNat (u.dflt (30 : Nat))).addr,
                                                  raised :=
                                                    ((xs.set (atTo (nearA a) xs g).toNat
                                                            { addr := (xs.getD (atTo (nearA a) xs g).toNat (u.dflt (30 : Nat))).addr, raised := (xs.getD (atTo (nearA a) xs g).toNat (u.dflt (30 : Nat))).raised,
                                                              ended := (xs.getD (atTo (nearA a) xs g).toNat (u.dflt (30 : Nat))).ended,
                                                              stage := [(0 : Int), (0 : Int), (1 : Int), (2 : Int), (5 : Int), (4 : Int)].getD (o.tmod (8 : Int)).toNat (u.dflt (28 : Nat)) : Cse }).getD
                                                        (atTo (nearA a) xs g).toNat (u.dflt (30 : Nat))).raised,
                                                  ended := now,
                                                  stage :=
                                                    ((xs.set (atTo (nearA a) xs g).toNat
                                                            { addr := (xs.getD (atTo (nearA a) xs g).toNat (u.dflt (30 : Nat))).addr, raised := (xs.getD (atTo (nearA a) xs g).toNat (u.dflt (30 : Nat))).raised,
                                                              ended := (xs.getD (atTo (nearA a) xs g).toNat (u.dflt (30 : Nat))).ended,
                                                              stage := [(0 : Int), (0 : Int), (1 : Int), (2 : Int), (5 : Int), (4 : Int)].getD (o.tmod (8 : Int)).toNat (u.dflt (28 : Nat)) : Cse }).getD
                                                        (atTo (nearA a) xs g).toNat (u.dflt (30 : Nat))).stage :
                                                  Cse } =
                                              modL c8 xs { op := o, addr := a, n := n : Act } now ∧
                                            (0 : Int) = modE c8 xs { op := o, addr := a, n := n : Act } now) ∧
                                      (decide (o.tmod (8 : Int) > (2 : Int)) = false →
                                        xs.set (atTo (nearA a) xs g).toNat
                                              { addr := (xs.getD (atTo (nearA a) xs g).toNat (u.dflt (30 : Nat))).addr, raised := (xs.getD (atTo (nearA a) xs g).toNat (u.dflt (30 : Nat))).raised,
                                                ended := (xs.getD (atTo (nearA a) xs g).toNat (u.dflt (30 : Nat))).ended,
                                                stage := [(0 : Int), (0 : Int), (1 : Int), (2 : Int), (5 : Int), (4 : Int)].getD (o.tmod (8 : Int)).toNat (u.dflt (28 : Nat)) : Cse } =
                                            modL c8 xs { op := o, addr := a, n := n : Act } now ∧
                                          (0 : Int) = modE c8 xs { op := o, addr := a, n := n : Act } now)))))

def vcAwake : Prop :=
  Nat.le (0 : Nat) (1000000 : Nat) ∧
  Nat.le (1 : Nat) (1000000 : Nat) ∧
    Nat.le (1 : Nat) (1000000 : Nat) ∧
      Nat.le (1 : Nat) (1000000 : Nat) ∧
        (((0 : Int) == (0 : Int) && (0 : Int) == (0 : Int) && (8 : Int) == (8 : Int) && (0 : Int) == (0 : Int) && (1 : Int) == (1 : Int)) = true → (0 : Int) ≤ (0 : Int) ∧ (0 : Int) < (1 : Int)) ∧
          (((0 : Int) == (0 : Int) && (0 : Int) == (0 : Int) && (8 : Int) == (8 : Int) && (0 : Int) == (0 : Int) && (1 : Int) == (1 : Int) && (3 : Int) == (3 : Int)) = true →
              Nat.le (2 : Nat) (9223372036854775808 : Nat)) ∧
            ((0 : Int) == (0 : Int) && (0 : Int) == (0 : Int) && (8 : Int) == (8 : Int) && (0 : Int) == (0 : Int) && (1 : Int) == (1 : Int) && (3 : Int) == (3 : Int) &&
                rightB (nextL (raiseL (9 : Int) [] (5 : Int) (2 : Int)) (5 : Int) (0 : Int) (2 : Int) (3 : Int))) =
              true

def vcSome : Int → Int → Int → Int → Int → Int → Int → Int → Int → List Act → Prop :=
  fun (c0 c1 c2 c3 c4 c5 c6 c7 c8 : Int) (xs : List Act) =>
  ((0 : Int) ≤ (0 : Int) ∧ (0 : Int) ≤ mn (↑xs.length : Int) (80 : Int) ∧ mn (↑xs.length : Int) (80 : Int) ≤ (↑xs.length : Int)) ∧
    (∃ (g : Nat),
        g.le (headS xs (80 : Int)).length ∧
          (True ∧
              List.drop (0 : Nat) (List.take (mn (↑xs.length : Int) (80 : Int)).toNat xs) = List.drop (0 : Nat) (List.take (mn (↑xs.length : Int) (80 : Int)).toNat xs) ∧
                (↑(List.drop (0 : Nat) (List.take (mn (↑xs.length : Int) (80 : Int)).toNat xs)).length : Int) = (↑(List.drop (0 : Nat) (List.take (mn (↑xs.length : Int) (80 : Int)).toNat xs)).length : Int) ∧
                  (0 : Int) = (↑g : Int) ∧ (someAt c7 c8 (headS xs (80 : Int)) g).fst = [] ∧ (0 : Int) = (someAt c7 c8 (headS xs (80 : Int)) g).snd) ∧
            c0 = c0 ∧ c1 = c1 ∧ c2 = c2 ∧ c3 = c3 ∧ c4 = c4 ∧ c5 = c5 ∧ c6 = c6 ∧ c7 = c7 ∧ c8 = c8) ∧
      ∀ (g : Nat),
        g.le (headS xs (80 : Int)).length →
          (decide ((↑g : Int) < (↑(List.drop (0 : Nat) (List.take (mn (↑xs.length : Int) (80 : Int)).toNat xs)).length : Int)) = true →
              ((0 : Int) ≤ (↑g : Int) ∧ (↑g : Int) < (↑(List.drop (0 : Nat) (List.take (mn (↑xs.length : Int) (80 : Int)).toNat xs)).length : Int)) ∧
                (someAt c7 c8 (headS xs (80 : Int)) g).fst.length.le (1000000 : Nat) ∧
                  ((doE c8 (someAt c7 c8 (headS xs (80 : Int)) g).fst
                            { op := ((List.drop (0 : Nat) (List.take (mn (↑xs.length : Int) (80 : Int)).toNat xs)).getD (↑g : Int).toNat (u.dflt (46 : Nat))).op,
                              addr := ((List.drop (0 : Nat) (List.take (mn (↑xs.length : Int) (80 : Int)).toNat xs)).getD (↑g : Int).toNat (u.dflt (46 : Nat))).addr,
                              n := ((List.drop (0 : Nat) (List.take (mn (↑xs.length : Int) (80 : Int)).toNat xs)).getD (↑g : Int).toNat (u.dflt (46 : Nat))).n : Act }
                            (someAt c7 c8 (headS xs (80 : Int)) g).snd ==
                          (0 : Int)) =
                        true →
                      True) ∧
                    ((doE c8 (someAt c7 c8 (headS xs (80 : Int)) g).fst
                              { op := ((List.drop (0 : Nat) (List.take (mn (↑xs.length : Int) (80 : Int)).toNat xs)).getD (↑g : Int).toNat (u.dflt (46 : Nat))).op,
                                addr := ((List.drop (0 : Nat) (List.take (mn (↑xs.length : Int) (80 : Int)).toNat xs)).getD (↑g : Int).toNat (u.dflt (46 : Nat))).addr,
                                n := ((List.drop (0 : Nat) (List.take (mn (↑xs.length : Int) (80 : Int)).toNat xs)).getD (↑g : Int).toNat (u.dflt (46 : Nat))).n : Act }
                              (someAt c7 c8 (headS xs (80 : Int)) g).snd ==
                            (0 : Int)) =
                          false →
                        True) ∧
                      ∀ (v : List Cse),
                        (v =
                            if
                                (doE c8 (someAt c7 c8 (headS xs (80 : Int)) g).fst
                                      { op := ((List.drop (0 : Nat) (List.take (mn (↑xs.length : Int) (80 : Int)).toNat xs)).getD (↑g : Int).toNat (u.dflt (46 : Nat))).op,
                                        addr := ((List.drop (0 : Nat) (List.take (mn (↑xs.length : Int) (80 : Int)).toNat xs)).getD (↑g : Int).toNat (u.dflt (46 : Nat))).addr,
                                        n := ((List.drop (0 : Nat) (List.take (mn (↑xs.length : Int) (80 : Int)).toNat xs)).getD (↑g : Int).toNat (u.dflt (46 : Nat))).n : Act }
                                      (someAt c7 c8 (headS xs (80 : Int)) g).snd ==
                                    (0 : Int)) =
                                  true then
                              doL c8 (someAt c7 c8 (headS xs (80 : Int)) g).fst
                                { op := ((List.drop (0 : Nat) (List.take (mn (↑xs.length : Int) (80 : Int)).toNat xs)).getD (↑g : Int).toNat (u.dflt (46 : Nat))).op,
                                  addr := ((List.drop (0 : Nat) (List.take (mn (↑xs.length : Int) (80 : Int)).toNat xs)).getD (↑g : Int).toNat (u.dflt (46 : Nat))).addr,
                                  n := ((List.drop (0 : Nat) (List.take (mn (↑xs.length : Int) (80 : Int)).toNat xs)).getD (↑g : Int).toNat (u.dflt (46 : Nat))).n : Act }
                                (someAt c7 c8 (headS xs (80 : Int)) g).snd
                            else (someAt c7 c8 (headS xs (80 : Int)) g).fst) →
                          (8 : Int) ≠ (0 : Int) ∧
                            (decide (((List.drop (0 : Nat) (List.take (mn (↑xs.length : Int) (80 : Int)).toNat xs)).getD (↑g : Int).toNat (u.dflt (46 : Nat))).op.tmod (8 : Int) > (5 : Int)) = true →
                                (10 : Int) ≠ (0 : Int) ∧ v.length.le (1000000 : Nat)) ∧
                              (decide (((List.drop (0 : Nat) (List.take (mn (↑xs.length : Int) (80 : Int)).toNat xs)).getD (↑g : Int).toNat (u.dflt (46 : Nat))).op.tmod (8 : Int) > (5 : Int)) = false → True) ∧
                                ∀ (v_1 : Int),
                                  (v_1 =
                                      if decide (((List.drop (0 : Nat) (List.take (mn (↑xs.length : Int) (80 : Int)).toNat xs)).getD (↑g : Int).toNat (u.dflt (46 : Nat))).op.tmod (8 : Int) > (5 : Int)) = true then
                                        IntKind.i64.wrap
                                          ((someAt c7 c8 (headS xs (80 : Int)) g).snd +
                                            IntKind.i64.wrap (((List.drop (0 : Nat) (List.take (mn (↑xs.length : Int) (80 : Int)).toNat xs)).getD (↑g : Int).toNat (u.dflt (46 : Nat))).n.tmod (10 : Int)))
                                      else (someAt c7 c8 (headS xs (80 : Int)) g).snd) →
                                    ∀ (v_2 : List Cse),
                                      (v_2 =
                                          if decide (((List.drop (0 : Nat) (List.take (mn (↑xs.length : Int) (80 : Int)).toNat xs)).getD (↑g : Int).toNat (u.dflt (46 : Nat))).op.tmod (8 : Int) > (5 : Int)) = true then
                                            tickL c7
                                              (IntKind.i64.wrap
                                                ((someAt c7 c8 (headS xs (80 : Int)) g).snd +
                                                  IntKind.i64.wrap (((List.drop (0 : Nat) (List.take (mn (↑xs.length : Int) (80 : Int)).toNat xs)).getD (↑g : Int).toNat (u.dflt (46 : Nat))).n.tmod (10 : Int))))
                                              v
                                          else v) →
                                        ∃ (g_1 : Nat),
                                          g_1.le (headS xs (80 : Int)).length ∧
                                            (annSome c7 c8 (headS xs (80 : Int))).μ g_1 < (annSome c7 c8 (headS xs (80 : Int))).μ g ∧
                                              (True ∧
                                                  List.drop (0 : Nat) (List.take (mn (↑xs.length : Int) (80 : Int)).toNat xs) = List.drop (0 : Nat) (List.take (mn (↑xs.length : Int) (80 : Int)).toNat xs) ∧
                                                    (↑(List.drop (0 : Nat) (List.take (mn (↑xs.length : Int) (80 : Int)).toNat xs)).length : Int) =
                                                        (↑(List.drop (0 : Nat) (List.take (mn (↑xs.length : Int) (80 : Int)).toNat xs)).length : Int) ∧
                                                      IntKind.i64.wrap ((↑g : Int) + (1 : Int)) = (↑g_1 : Int) ∧ v_2 = (someAt c7 c8 (headS xs (80 : Int)) g_1).fst ∧ v_1 = (someAt c7 c8 (headS xs (80 : Int)) g_1).snd) ∧
                                                c0 = c0 ∧ c1 = c1 ∧ c2 = c2 ∧ c3 = c3 ∧ c4 = c4 ∧ c5 = c5 ∧ c6 = c6 ∧ c7 = c7 ∧ c8 = c8) ∧
            (decide ((↑g : Int) < (↑(List.drop (0 : Nat) (List.take (mn (↑xs.length : Int) (80 : Int)).toNat xs)).length : Int)) = false →
              (someAt c7 c8 (headS xs (80 : Int)) g).fst = (someL c7 c8 xs).fst ∧ (someAt c7 c8 (headS xs (80 : Int)) g).snd = (someL c7 c8 xs).snd)


end Go.Proofs.Ytlamlmihojodfaa.Cas
