/- Holders: deeds that are handed in, with what anybody says. -/
import Derived.Test.YtfpapepjobfahaaHeldOpen
namespace Go.Proofs.Ytfpapepjobfahaa.Held
open Go Go.RowKit Go.Proofs.Ytfpapepjobfahaa.Sx

theorem openAct2 {H : Type} {enc : TypeId × Value → H} {w : World} {sp : Nat → Bool} (cs : List Value) (l : Sx.Leaves enc Try.prog w sp [.bool, .int .u8, .int .u8, .int .u8, .str] cs) : ∃ x : A 58, (actOk (x : Act) ∧ strOk (x : Act).any) ∧ RepL Try.prog u (outer w fun _ => False) (u.enc 58 x) cs := by
  obtain ⟨t, _, rfl, l1⟩ := l.bool
  obtain ⟨a, _, rfl, wa, l2⟩ := l1.int
  obtain ⟨b, _, rfl, wb, l3⟩ := l2.int
  obtain ⟨c, _, rfl, _, l4⟩ := l3.int
  obtain ⟨s, _, rfl, hs, l5⟩ := l4.str
  obtain rfl := l5.done
  exact ⟨(⟨t, a, b, c, s⟩ : Act), ⟨⟨(u8_wf wa).1, (u8_wf wb).1⟩, ml hs⟩, .bool t (.int _ a (.int _ b (.int _ c (.str s .nil))))⟩
end Go.Proofs.Ytfpapepjobfahaa.Held
