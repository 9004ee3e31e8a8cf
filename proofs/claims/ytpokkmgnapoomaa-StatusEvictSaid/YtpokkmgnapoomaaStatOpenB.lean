/- What an address stands as: rows of sightings that are handed in, with what their numbers may be. -/
import Derived.Test.YtpokkmgnapoomaaStatOpen
import Derived.Test.YtpokkmgnapoomaaStatMathB
namespace Go.Proofs.Ytpokkmgnapoomaa.Stat
open Go Go.RowKit Go.Proofs.Ytpokkmgnapoomaa.Sx

theorem openLate {H : Type} {enc : TypeId × Value → H} {w : World} {sp : Nat → Bool} (cs : List Value) (l : Sx.Leaves enc Try.prog w sp [.int .u8, .int .u8] cs) : ∃ x : A 57, (0 ≤ (x : Seen).later) ∧ RepL Try.prog u (outer w fun _ => False) (u.enc 57 x) cs := by
  obtain ⟨a, _, rfl, _, l1⟩ := l.int
  obtain ⟨b, _, rfl, wb, l2⟩ := l1.int
  obtain rfl := l2.done
  exact ⟨(⟨a, b⟩ : Seen), (u8_wf wb).1, .int _ a (.int _ b .nil)⟩
theorem i8_wf {n : Int} (h : (Lit.int .i8 n).wf = true) : -128 ≤ n ∧ n < 128 := by
  have h : IntKind.i8.min ≤ n ∧ n ≤ IntKind.i8.max := by simpa [Lit.wf] using h
  have h1 : IntKind.i8.min = -128 := by decide
  have h2 : IntKind.i8.max = 127 := by decide
  rw [h1, h2] at h
  omega
end Go.Proofs.Ytpokkmgnapoomaa.Stat
