/- Tries: deeds that are handed in. -/
import Derived.Test.YtndacggailoogaaTrieMany
import Derived.Test.YtndacggailoogaaTrieWalkC
import Derived.Test.YtndacggailoogaaSxR
namespace Go.Proofs.Ytndacggailoogaa.Tri
open Go Go.RowKit Go.Proofs.Ytndacggailoogaa.Sx

theorem openAct {H : Type} {enc : TypeId × Value → H} {w : World} {sp : Nat → Bool} (cs : List Value) (l : Sx.Leaves enc Try.prog w sp [.int .u8, .int .u32, .int .u8, .bool, .int .u32, .int .i64] cs) : ∃ x : A 42, actOk (x : Act) ∧ RepL Try.prog u (outer w fun _ => False) (u.enc 42 x) cs := by
  obtain ⟨o, _, rfl, wo, l1⟩ := l.int
  obtain ⟨a, _, rfl, wa, l2⟩ := l1.int
  obtain ⟨b, _, rfl, wb, l3⟩ := l2.int
  obtain ⟨r, _, rfl, l4⟩ := l3.bool
  obtain ⟨n, _, rfl, wn, l5⟩ := l4.int
  obtain ⟨m, _, rfl, _, l6⟩ := l5.int
  obtain rfl := l6.done
  exact ⟨(⟨o, a, b, r, ⟨n, m⟩⟩ : Act), ⟨u8_wf wo, u32_wf wa, (u8_wf wb).1, u32_wf wn⟩, .int _ o (.int _ a (.int _ b (.bool r (.int _ n (.int _ m .nil)))))⟩
end Go.Proofs.Ytndacggailoogaa.Tri
