/- Sums of bytes: what more bodies come to (printed by wip/Vc.lean; checked by the kernel in the next text). -/
import Derived.Test.YtacafjapnppacaaSumWalk
namespace Go.Proofs.Ytacafjapnppacaa.Sum
open Go Go.Proofs.Ytacafjapnppacaa.Sx
def vc12 : List Int → Prop :=
  fun (xs : List Int) =>
  (∃ (g : Nat), g.le xs.length ∧ xs = xs ∧ (↑xs.length : Int) = (↑xs.length : Int) ∧ (0 : Int) = (↑g : Int) ∧ (0 : Int) = wAt xs g) ∧
    ∀ (g : Nat),
      g.le xs.length →
        (decide ((↑g : Int) < (↑xs.length : Int)) = true →
            ((0 : Int) ≤ (↑g : Int) ∧ (↑g : Int) < (↑xs.length : Int)) ∧
              (2 : Int) ≠ (0 : Int) ∧
                (0 : Int) ≤ IntKind.i64.wrap ((8 : Int) * IntKind.i64.wrap ((1 : Int) - (↑g : Int).tmod (2 : Int))) ∧
                  (0 : Int) ≤ (16 : Int) ∧
                    ∃ (g_1 : Nat),
                      g_1.le xs.length ∧
                        (ann12 xs).μ g_1 < (ann12 xs).μ g ∧
                          xs = xs ∧
                            (↑xs.length : Int) = (↑xs.length : Int) ∧
                              IntKind.i64.wrap ((↑g : Int) + (1 : Int)) = (↑g_1 : Int) ∧
                                IntKind.u32.wrap
                                    (bitsI BinOp.and IntKind.u32
                                        (IntKind.u32.wrap
                                          (wAt xs g +
                                            shl IntKind.u32 (IntKind.u32.wrap (xs.getD (↑g : Int).toNat (u.dflt (5 : Nat)))) (IntKind.i64.wrap ((8 : Int) * IntKind.i64.wrap ((1 : Int) - (↑g : Int).tmod (2 : Int))))))
                                        (65535 : Int) +
                                      shr IntKind.u32
                                        (IntKind.u32.wrap
                                          (wAt xs g +
                                            shl IntKind.u32 (IntKind.u32.wrap (xs.getD (↑g : Int).toNat (u.dflt (5 : Nat)))) (IntKind.i64.wrap ((8 : Int) * IntKind.i64.wrap ((1 : Int) - (↑g : Int).tmod (2 : Int))))))
                                        (16 : Int)) =
                                  wAt xs g_1) ∧
          (decide ((↑g : Int) < (↑xs.length : Int)) = false → bitsI BinOp.xor IntKind.u16 (65535 : Int) (IntKind.u16.wrap (wAt xs g)) = notW (IntKind.u16.wrap (wAt xs xs.length)))

def vc13 : List Int → Prop :=
  fun (xs : List Int) =>
  (∃ (g : Nat), g.le xs.length ∧ xs = xs ∧ (↑xs.length : Int) = (↑xs.length : Int) ∧ (0 : Int) = (↑g : Int) ∧ (0 : Int) = vAt xs g) ∧
    ∀ (g : Nat),
      g.le xs.length →
        (decide ((↑g : Int) < (↑xs.length : Int)) = true →
            (2 : Int) ≠ (0 : Int) ∧
              (((↑g : Int).tmod (2 : Int) == (0 : Int)) = true → (0 : Int) ≤ (↑g : Int) ∧ (↑g : Int) < (↑xs.length : Int)) ∧
                (((↑g : Int).tmod (2 : Int) == (0 : Int)) = false → (0 : Int) ≤ (↑g : Int) ∧ (↑g : Int) < (↑xs.length : Int)) ∧
                  ∀ (v : Int),
                    (v =
                        if ((↑g : Int).tmod (2 : Int) == (0 : Int)) = true then IntKind.i64.wrap (vAt xs g + IntKind.i64.wrap ((256 : Int) * IntKind.i64.wrap (xs.getD (↑g : Int).toNat (u.dflt (5 : Nat)))))
                        else IntKind.i64.wrap (vAt xs g + IntKind.i64.wrap (xs.getD (↑g : Int).toNat (u.dflt (5 : Nat))))) →
                      (decide (v > (65535 : Int)) = true → True) ∧
                        (decide (v > (65535 : Int)) = false → True) ∧
                          ∀ (v_1 : Int),
                            (v_1 = if decide (v > (65535 : Int)) = true then IntKind.i64.wrap (v - (65535 : Int)) else v) →
                              ∃ (g_1 : Nat),
                                g_1.le xs.length ∧ (ann13 xs).μ g_1 < (ann13 xs).μ g ∧ xs = xs ∧ (↑xs.length : Int) = (↑xs.length : Int) ∧ IntKind.i64.wrap ((↑g : Int) + (1 : Int)) = (↑g_1 : Int) ∧ v_1 = vAt xs g_1) ∧
          (decide ((↑g : Int) < (↑xs.length : Int)) = false → IntKind.u16.wrap (IntKind.i64.wrap ((65535 : Int) - vAt xs g)) = IntKind.u16.wrap (IntKind.i64.wrap ((65535 : Int) - vAt xs xs.length)))

def vc14 : List Int → Prop :=
  fun (xs : List Int) => xs.length.succ.le (9223372036854775808 : Nat) ∧ (notW (IntKind.u16.wrap (wAt xs xs.length)) == (0 : Int)) = (notW (IntKind.u16.wrap (wAt xs xs.length)) == (0 : Int))

def vc9 : Prop :=
  (0 : Nat) < (9 : Nat) ∧ Nat.le (10 : Nat) (9223372036854775808 : Nat) ∧
  (((3808858755 : Int) == (3808858755 : Int)) = true → Nat.le (9 : Nat) (9223372036854775808 : Nat) ∧ ((8717 : Int) == (8717 : Int)) = true) ∧ (((3808858755 : Int) == (3808858755 : Int)) = false → false = true)

def vc3 : List Int → Prop :=
  fun (xs : List Int) =>
  ((!true) = true → false = true) ∧
    ((!true) = false → xs.length.succ.le (9223372036854775808 : Nat) ∧ xs.length.succ.le (9223372036854775808 : Nat) ∧ (notU (foldA xs) == bitsI BinOp.xor IntKind.u32 (foldB xs) (4294967295 : Int)) = true)

def vc6 : List Int → Prop :=
  fun (xs : List Int) =>
  ((!true) = true → false = true) ∧
    ((!true) = false →
      xs.length.succ.le (9223372036854775808 : Nat) ∧
        xs.length.succ.le (9223372036854775808 : Nat) ∧
          ((notW (IntKind.u16.wrap (wAt xs xs.length)) == IntKind.u16.wrap (IntKind.i64.wrap ((65535 : Int) - vAt xs xs.length))) = true → xs.length.succ.le (9223372036854775808 : Nat)) ∧
            ((notW (IntKind.u16.wrap (wAt xs xs.length)) == IntKind.u16.wrap (IntKind.i64.wrap ((65535 : Int) - vAt xs xs.length))) = true → xs.length.succ.le (9223372036854775808 : Nat)) ∧
              (notW (IntKind.u16.wrap (wAt xs xs.length)) == IntKind.u16.wrap (IntKind.i64.wrap ((65535 : Int) - vAt xs xs.length)) &&
                  (notW (IntKind.u16.wrap (wAt xs xs.length)) == (0 : Int)) == (IntKind.u16.wrap (IntKind.i64.wrap ((65535 : Int) - vAt xs xs.length)) == (0 : Int))) =
                true)

end Go.Proofs.Ytacafjapnppacaa.Sum
