/- Cases: rows that are handed in. -/
import Derived.Test.YtlamlmihojodfaaCasWalkC
import Derived.Test.YtlamlmihojodfaaSxR
namespace Go.Proofs.Ytlamlmihojodfaa.Cas
open Go Go.RowKit Go.Proofs.Ytlamlmihojodfaa.Sx

theorem ml {n : Nat} (h : n ≤ maxLen) : n < 9223372036854775808 := by
  have hml : maxLen = 9223372036854775807 := rfl
  omega
theorem openAct {H : Type} {enc : TypeId × Value → H} {w : World} {sp : Nat → Bool} (cs : List Value) (l : Sx.Leaves enc Try.prog w sp [.int .u8, .int .u8, .int .u8] cs) : ∃ x : A 46, (0 ≤ (x : Act).op ∧ 0 ≤ (x : Act).n) ∧ RepL Try.prog u (outer w fun _ => False) (u.enc 46 x) cs := by
  obtain ⟨a, _, rfl, wa, l1⟩ := l.int
  obtain ⟨b, _, rfl, _, l2⟩ := l1.int
  obtain ⟨c, _, rfl, wc, l3⟩ := l2.int
  obtain rfl := l3.done
  exact ⟨(⟨a, b, c⟩ : Act), ⟨(u8_wf wa).1, (u8_wf wc).1⟩, .int _ a (.int _ b (.int _ c .nil))⟩
theorem openCase {H : Type} {enc : TypeId × Value → H} {w : World} {sp : Nat → Bool} (cs : List Value) (l : Sx.Leaves enc Try.prog w sp [.int .u32, .int .i64, .int .i64, .int .i64] cs) : ∃ x : A 30, True ∧ RepL Try.prog u (outer w fun _ => False) (u.enc 30 x) cs := by
  obtain ⟨a, _, rfl, _, l1⟩ := l.int
  obtain ⟨b, _, rfl, _, l2⟩ := l1.int
  obtain ⟨c, _, rfl, _, l3⟩ := l2.int
  obtain ⟨d, _, rfl, _, l4⟩ := l3.int
  obtain rfl := l4.done
  exact ⟨(⟨a, b, c, d⟩ : Cse), trivial, .int _ a (.int _ b (.int _ c (.int _ d .nil)))⟩
end Go.Proofs.Ytlamlmihojodfaa.Cas
