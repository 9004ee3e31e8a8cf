/- Questions that wait: rows that are handed in. -/
import Derived.Test.YtnjildbclmglpaaProMath
import Derived.Test.YtnjildbclmglpaaSxR
namespace Go.Proofs.Ytnjildbclmglpaa.Pro
open Go Go.RowKit Go.Proofs.Ytnjildbclmglpaa.Sx

theorem openAct {H : Type} {enc : TypeId × Value → H} {w : World} {sp : Nat → Bool} (cs : List Value) (l : Sx.Leaves enc Try.prog w sp [.int .u8, .int .u8, .int .u16, .int .u8] cs) : ∃ x : A 51, (0 ≤ (x : Act).n) ∧ RepL Try.prog u (outer w fun _ => False) (u.enc 51 x) cs := by
  obtain ⟨a, _, rfl, _, l1⟩ := l.int
  obtain ⟨b, _, rfl, _, l2⟩ := l1.int
  obtain ⟨c, _, rfl, _, l3⟩ := l2.int
  obtain ⟨d, _, rfl, wd, l4⟩ := l3.int
  obtain rfl := l4.done
  exact ⟨(⟨a, b, c, d⟩ : Act), (u8_wf wd).1, .int _ a (.int _ b (.int _ c (.int _ d .nil)))⟩
theorem openProbe {H : Type} {enc : TypeId × Value → H} {w : World} {sp : Nat → Bool} (cs : List Value) (l : Sx.Leaves enc Try.prog w sp [.int .u32, .int .i64, .int .i64, .int .i64, .int .i64] cs) : ∃ x : A 29, (0 ≤ (x : Prb).addr ∧ (x : Prb).addr < 4294967296) ∧ RepL Try.prog u (outer w fun _ => False) (u.enc 29 x) cs := by
  obtain ⟨a, _, rfl, wa, l1⟩ := l.int
  obtain ⟨b, _, rfl, _, l2⟩ := l1.int
  obtain ⟨c, _, rfl, _, l3⟩ := l2.int
  obtain ⟨d, _, rfl, _, l4⟩ := l3.int
  obtain ⟨e, _, rfl, _, l5⟩ := l4.int
  obtain rfl := l5.done
  exact ⟨(⟨a, b, c, d, e⟩ : Prb), u32_wf wa, .int _ a (.int _ b (.int _ c (.int _ d (.int _ e .nil))))⟩
end Go.Proofs.Ytnjildbclmglpaa.Pro
