/- Sightings: deeds and odd numbers that are handed in. -/
import Derived.Test.YtcgeccpookgoeaaSeenOpen
namespace Go.Proofs.Ytcgeccpookgoeaa.Seen
open Go Go.RowKit Go.Proofs.Ytcgeccpookgoeaa.Sx

theorem openAct3 {H : Type} {enc : TypeId × Value → H} {w : World} {sp : Nat → Bool} (cs : List Value) (l : Sx.Leaves enc Try.prog w sp [.int .u8, .int .u8, .int .u8, .int .u8] cs) : ∃ x : A 28, (actOk (x : Act) ∧ (x : Act).addr < 256) ∧ RepL Try.prog u (outer w fun _ => False) (u.enc 28 x) cs := by
  obtain ⟨a, _, rfl, wa, l1⟩ := l.int
  obtain ⟨b, _, rfl, wb, l2⟩ := l1.int
  obtain ⟨c, _, rfl, wc, l3⟩ := l2.int
  obtain ⟨d, _, rfl, wd, l4⟩ := l3.int
  obtain rfl := l4.done
  exact ⟨(⟨a, b, c, d⟩ : Act), ⟨⟨(u8_wf wa).1, (u8_wf wb).1, (u8_wf wd).1⟩, (u8_wf wa).2⟩, .int _ a (.int _ b (.int _ c (.int _ d .nil)))⟩
theorem i8_wf {n : Int} (h : (Lit.int .i8 n).wf = true) : -128 ≤ n ∧ n < 128 := by
  have h : IntKind.i8.min ≤ n ∧ n ≤ IntKind.i8.max := by simpa [Lit.wf] using h
  have h1 : IntKind.i8.min = -128 := by decide
  have h2 : IntKind.i8.max = 127 := by decide
  rw [h1, h2] at h
  omega
def oddR (x : Int) : Prop := -128 ≤ x ∧ x < 128
theorem openI8 {H : Type} {enc : TypeId × Value → H} {w : World} {sp : Nat → Bool} (cs : List Value) (l : Sx.Leaves enc Try.prog w sp [.int .i8] cs) : ∃ x : A 37, oddR x ∧ RepL Try.prog u (outer w fun _ => False) (u.enc 37 x) cs := by
  obtain ⟨a, _, rfl, wa, l1⟩ := l.int
  obtain rfl := l1.done
  exact ⟨(a : Int), i8_wf wa, .int _ a .nil⟩
end Go.Proofs.Ytcgeccpookgoeaa.Seen
