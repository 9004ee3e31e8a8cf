/- Sums of bytes: the law SumWords, by the bodies' contracts. -/
import Derived.Test.YtacafjapnppacaaSumLaws
import Derived.Test.YtacafjapnppacaaSumMathB
namespace Go.Proofs.Ytacafjapnppacaa.Sum
open Go Go.Proofs.Ytacafjapnppacaa.Sx

def sp6 : Sx.Spec A
  | [.csl 5 xs] => some (some (bytesOk xs), .bool true)
  | _ => none
theorem body6 (xs : List Int) (hb : bytesOk xs) : BodyOk Try.prog u tab2 [] Try.f6 [.csl 5 xs] (.bool true) := by
  constructor
  have e : bodyW Try.prog u tab2 (drawW Try.prog u tab2) (loopsBy []) Try.f6 [.csl 5 xs] (.bool true) = vc6 xs := by kernel_rfl
  rw [e]
  unfold vc6
  rw [words_eq xs hb.2]
  refine ⟨fun h => absurd h (by decide), fun _ => ⟨hb.1, hb.1, fun _ => hb.1, fun _ => hb.1, ?_⟩⟩
  simp
theorem ok6 : FnOk Try.prog u 6 sp6 := by
  refine fn_ok Try.prog u tab2 mo laws2 Try.func6 ?_
  intro xs c y h hc
  unfold sp6 at h
  split at h
  · cases h
    rename_i zs
    exact ⟨by kernel_rfl, [], body6 zs hc⟩
  · cases h
end Go.Proofs.Ytacafjapnppacaa.Sum
