/- What an address stands as: rows that are handed in. -/
import Derived.Test.YtpokkmgnapoomaaStatSpec
import Derived.Test.YtpokkmgnapoomaaSxR
namespace Go.Proofs.Ytpokkmgnapoomaa.Stat
open Go Go.RowKit Go.Proofs.Ytpokkmgnapoomaa.Sx

theorem openSeen {H : Type} {enc : TypeId × Value → H} {w : World} {sp : Nat → Bool} (cs : List Value) (l : Sx.Leaves enc Try.prog w sp [.int .u8, .int .u8] cs) : ∃ x : A 57, True ∧ RepL Try.prog u (outer w fun _ => False) (u.enc 57 x) cs := by
  obtain ⟨a, _, rfl, _, l1⟩ := l.int
  obtain ⟨b, _, rfl, _, l2⟩ := l1.int
  obtain rfl := l2.done
  exact ⟨(⟨a, b⟩ : Seen), trivial, .int _ a (.int _ b .nil)⟩
theorem openSight {H : Type} {enc : TypeId × Value → H} {w : World} {sp : Nat → Bool} (cs : List Value) (l : Sx.Leaves enc Try.prog w sp [.int .i64, .int .u8, .int .u8, .int .u8, .int .u8, .int .u8, .int .u8, .int .i64] cs) : ∃ x : A 48, True ∧ RepL Try.prog u (outer w fun _ => False) (u.enc 48 x) cs := by
  obtain ⟨s, _, rfl, _, l1⟩ := l.int
  obtain ⟨a, _, rfl, _, l2⟩ := l1.int
  obtain ⟨b, _, rfl, _, l3⟩ := l2.int
  obtain ⟨c, _, rfl, _, l4⟩ := l3.int
  obtain ⟨d, _, rfl, _, l5⟩ := l4.int
  obtain ⟨e, _, rfl, _, l6⟩ := l5.int
  obtain ⟨f, _, rfl, _, l7⟩ := l6.int
  obtain ⟨t, _, rfl, _, l8⟩ := l7.int
  obtain rfl := l8.done
  exact ⟨(⟨s, ⟨a, b, c, d, e, f⟩, t⟩ : Sight), trivial, .int _ s (.int _ a (.int _ b (.int _ c (.int _ d (.int _ e (.int _ f (.int _ t .nil)))))))⟩
end Go.Proofs.Ytpokkmgnapoomaa.Stat
