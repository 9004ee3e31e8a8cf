/- Questions that wait: rows that are handed in. -/
import Derived.Test.YtnjildbclmglpaaProSpecG
import Derived.Test.YtnjildbclmglpaaSxR
namespace Go.Proofs.Ytnjildbclmglpaa.Pro
open Go Go.RowKit Go.Proofs.Ytnjildbclmglpaa.Sx

theorem openActB {H : Type} {enc : TypeId × Value → H} {w : World} {sp : Nat → Bool} (cs : List Value) (l : Sx.Leaves enc Try.prog w sp [.int .u8, .int .u8, .int .u16, .int .u8] cs) : ∃ x : A 51, (0 ≤ (x : Act).n ∧ 0 ≤ (x : Act).num ∧ (x : Act).num < 65536) ∧ RepL Try.prog u (outer w fun _ => False) (u.enc 51 x) cs := by
  obtain ⟨a, _, rfl, _, l1⟩ := l.int
  obtain ⟨b, _, rfl, _, l2⟩ := l1.int
  obtain ⟨c, _, rfl, wc, l3⟩ := l2.int
  obtain ⟨d, _, rfl, wd, l4⟩ := l3.int
  obtain rfl := l4.done
  exact ⟨(⟨a, b, c, d⟩ : Act), ⟨(u8_wf wd).1, u16_wf wc⟩, .int _ a (.int _ b (.int _ c (.int _ d .nil)))⟩
end Go.Proofs.Ytnjildbclmglpaa.Pro
