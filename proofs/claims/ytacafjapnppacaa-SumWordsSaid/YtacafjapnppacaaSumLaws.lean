/- Sums of bytes: the law SumCheck, by the bodies' contracts. -/
import Derived.Test.YtacafjapnppacaaSumWalkB
import Derived.Test.YtacafjapnppacaaSumMath
namespace Go.Proofs.Ytacafjapnppacaa.Sum
open Go Go.Proofs.Ytacafjapnppacaa.Sx

def bytesOk (xs : List Int) : Prop := lenOk xs ∧ ∀ c ∈ xs, 0 ≤ c ∧ c < 256
def sp3 : Sx.Spec A
  | [.csl 5 xs] => some (some (bytesOk xs), .bool true)
  | _ => none
theorem body3 (xs : List Int) (hb : bytesOk xs) : BodyOk Try.prog u tab2 [] Try.f3 [.csl 5 xs] (.bool true) := by
  constructor
  have e : bodyW Try.prog u tab2 (drawW Try.prog u tab2) (loopsBy []) Try.f3 [.csl 5 xs] (.bool true) = vc3 xs := by kernel_rfl
  rw [e]
  unfold vc3
  refine ⟨fun h => absurd h (by decide), fun _ => ⟨hb.1, hb.1, ?_⟩⟩
  rw [check_same xs hb.2]
  simp
theorem ok3 : FnOk Try.prog u 3 sp3 := by
  refine fn_ok Try.prog u tab2 mo laws2 Try.func3 ?_
  intro xs c y h hc
  unfold sp3 at h
  split at h
  · cases h
    rename_i zs
    exact ⟨by kernel_rfl, [], body3 zs hc⟩
  · cases h
end Go.Proofs.Ytacafjapnppacaa.Sum
