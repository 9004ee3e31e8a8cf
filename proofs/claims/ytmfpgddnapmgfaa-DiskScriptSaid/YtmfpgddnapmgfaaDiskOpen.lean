/- The disk: rows of deeds that are handed in. -/
import Derived.Test.YtmfpgddnapmgfaaDiskWalkD
import Derived.Test.YtmfpgddnapmgfaaSxR
namespace Go.Proofs.Ytmfpgddnapmgfaa.Dsk
open Go Go.RowKit Go.Proofs.Ytmfpgddnapmgfaa.Sx

theorem i16_wf {n : Int} (h : (Lit.int .i16 n).wf = true) : -32768 ≤ n ∧ n < 32768 := by
  have h : IntKind.i16.min ≤ n ∧ n ≤ IntKind.i16.max := by simpa [Lit.wf] using h
  have h1 : IntKind.i16.min = -32768 := by decide
  have h2 : IntKind.i16.max = 32767 := by decide
  omega
theorem openAct {H : Type} {enc : TypeId × Value → H} {w : World} {sp : Nat → Bool} (cs : List Value) (l : Sx.Leaves enc Try.prog w sp [.int .u8, .int .i16, .int .u8, .int .u64, .int .i8, .int .i8] cs) : ∃ x : A 50, ((0 ≤ (x : Act).op ∧ (x : Act).op < 256) ∧ (-32768 ≤ (x : Act).at_ ∧ (x : Act).at_ < 32768) ∧ (0 ≤ (x : Act).mask ∧ (x : Act).mask < 18446744073709551616) ∧ (-128 ≤ (x : Act).torn ∧ (x : Act).torn < 128) ∧ (-128 ≤ (x : Act).bytes ∧ (x : Act).bytes < 128)) ∧ RepL Try.prog u (outer w fun _ => False) (u.enc 50 x) cs := by
  obtain ⟨a, _, rfl, wa, l1⟩ := l.int
  obtain ⟨b, _, rfl, wb, l2⟩ := l1.int
  obtain ⟨c, _, rfl, _, l3⟩ := l2.int
  obtain ⟨d, _, rfl, wd, l4⟩ := l3.int
  obtain ⟨e, _, rfl, we, l5⟩ := l4.int
  obtain ⟨f, _, rfl, wf, l6⟩ := l5.int
  obtain rfl := l6.done
  exact ⟨(⟨a, b, c, d, e, f⟩ : Act), ⟨u8_wf wa, i16_wf wb, u64_wf wd, i8_wf we, i8_wf wf⟩, .int _ a (.int _ b (.int _ c (.int _ d (.int _ e (.int _ f .nil)))))⟩
end Go.Proofs.Ytmfpgddnapmgfaa.Dsk
