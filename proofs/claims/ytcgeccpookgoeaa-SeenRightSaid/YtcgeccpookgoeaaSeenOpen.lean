/- Sightings: rows that are handed in. -/
import Derived.Test.YtcgeccpookgoeaaSeenSpec
import Derived.Test.YtcgeccpookgoeaaSxR
namespace Go.Proofs.Ytcgeccpookgoeaa.Seen
open Go Go.RowKit Go.Proofs.Ytcgeccpookgoeaa.Sx

theorem openAct {H : Type} {enc : TypeId × Value → H} {w : World} {sp : Nat → Bool} (cs : List Value) (l : Sx.Leaves enc Try.prog w sp [.int .u8, .int .u8, .int .u8, .int .u8] cs) : ∃ x : A 28, actOk (x : Act) ∧ RepL Try.prog u (outer w fun _ => False) (u.enc 28 x) cs := by
  obtain ⟨a, _, rfl, wa, l1⟩ := l.int
  obtain ⟨b, _, rfl, wb, l2⟩ := l1.int
  obtain ⟨c, _, rfl, wc, l3⟩ := l2.int
  obtain ⟨d, _, rfl, wd, l4⟩ := l3.int
  obtain rfl := l4.done
  exact ⟨(⟨a, b, c, d⟩ : Act), ⟨(u8_wf wa).1, (u8_wf wb).1, (u8_wf wd).1⟩, .int _ a (.int _ b (.int _ c (.int _ d .nil)))⟩
theorem openSight {H : Type} {enc : TypeId × Value → H} {w : World} {sp : Nat → Bool} (cs : List Value) (l : Sx.Leaves enc Try.prog w sp [.int .i64, .int .u8, .int .u8, .int .u8, .int .u8, .int .u8, .int .u8, .int .i64] cs) : ∃ x : A 35, True ∧ RepL Try.prog u (outer w fun _ => False) (u.enc 35 x) cs := by
  obtain ⟨s, _, rfl, _, l1⟩ := l.int
  obtain ⟨a, _, rfl, _, l2⟩ := l1.int
  obtain ⟨b, _, rfl, _, l3⟩ := l2.int
  obtain ⟨c, _, rfl, _, l4⟩ := l3.int
  obtain ⟨d, _, rfl, _, l5⟩ := l4.int
  obtain ⟨e, _, rfl, _, l6⟩ := l5.int
  obtain ⟨f, _, rfl, _, l7⟩ := l6.int
  obtain ⟨t, _, rfl, _, l8⟩ := l7.int
  obtain rfl := l8.done
  exact ⟨(⟨s, ⟨a, b, c, d, e, f⟩, t⟩ : Sight), trivial, .int _ s (.int _ a (.int _ b (.int _ c (.int _ d (.int _ e (.int _ f (.int _ t .nil)))))))⟩
end Go.Proofs.Ytcgeccpookgoeaa.Seen
