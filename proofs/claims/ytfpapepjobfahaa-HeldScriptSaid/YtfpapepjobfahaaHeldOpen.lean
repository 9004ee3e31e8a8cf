/- Holders: rows that are handed in. -/
import Derived.Test.YtfpapepjobfahaaHeldWalkB
import Derived.Test.YtfpapepjobfahaaSxR
namespace Go.Proofs.Ytfpapepjobfahaa.Held
open Go Go.RowKit Go.Proofs.Ytfpapepjobfahaa.Sx

theorem ml {n : Nat} (h : n ≤ maxLen) : n < 9223372036854775808 := by
  have hml : maxLen = 9223372036854775807 := rfl
  omega
theorem openAct {H : Type} {enc : TypeId × Value → H} {w : World} {sp : Nat → Bool} (cs : List Value) (l : Sx.Leaves enc Try.prog w sp [.bool, .int .u8, .int .u8, .int .u8, .str] cs) : ∃ x : A 58, actOk (x : Act) ∧ RepL Try.prog u (outer w fun _ => False) (u.enc 58 x) cs := by
  obtain ⟨t, _, rfl, l1⟩ := l.bool
  obtain ⟨a, _, rfl, wa, l2⟩ := l1.int
  obtain ⟨b, _, rfl, wb, l3⟩ := l2.int
  obtain ⟨c, _, rfl, _, l4⟩ := l3.int
  obtain ⟨s, _, rfl, _, l5⟩ := l4.str
  obtain rfl := l5.done
  exact ⟨(⟨t, a, b, c, s⟩ : Act), ⟨(u8_wf wa).1, (u8_wf wb).1⟩, .bool t (.int _ a (.int _ b (.int _ c (.str s .nil))))⟩
theorem openHolder {H : Type} {enc : TypeId × Value → H} {w : World} {sp : Nat → Bool} (cs : List Value) (l : Sx.Leaves enc Try.prog w sp [.int .u32, .str, .int .u8, .int .u8, .int .u8, .int .u8, .int .u8, .int .u8] cs) : ∃ x : A 36, ((x : Holder).owner.size < 9223372036854775808) ∧ RepL Try.prog u (outer w fun _ => False) (u.enc 36 x) cs := by
  obtain ⟨n, _, rfl, _, l1⟩ := l.int
  obtain ⟨s, _, rfl, hs, l2⟩ := l1.str
  obtain ⟨a, _, rfl, _, l3⟩ := l2.int
  obtain ⟨b, _, rfl, _, l4⟩ := l3.int
  obtain ⟨c, _, rfl, _, l5⟩ := l4.int
  obtain ⟨d, _, rfl, _, l6⟩ := l5.int
  obtain ⟨e, _, rfl, _, l7⟩ := l6.int
  obtain ⟨f, _, rfl, _, l8⟩ := l7.int
  obtain rfl := l8.done
  exact ⟨(⟨n, s, ⟨a, b, c, d, e, f⟩⟩ : Holder), ml hs, .int _ n (.str s (.int _ a (.int _ b (.int _ c (.int _ d (.int _ e (.int _ f .nil)))))))⟩
end Go.Proofs.Ytfpapepjobfahaa.Held
