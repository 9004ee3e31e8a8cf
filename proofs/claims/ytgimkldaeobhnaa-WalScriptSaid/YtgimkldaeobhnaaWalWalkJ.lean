/- What is begun and appended is there, also when it is opened anew: the law's walk. -/
import Derived.Test.YtgimkldaeobhnaaWalVcK
import Derived.Test.YtgimkldaeobhnaaWalWalkH
import Derived.Test.YtgimkldaeobhnaaWalMathM
namespace Go.Proofs.Ytgimkldaeobhnaa.Dsk
open Go Go.Proofs.Ytgimkldaeobhnaa.Sx

theorem scr_half {s : Int} (h : 0 ≤ s ∧ s < 65536) : halfOf (spOf (IntKind.i64.wrap (IntKind.i64.wrap (2 * halfN s) + IntKind.i64.wrap (s.tmod 2)))) = halfN s := by
  have hh := halfN_in h
  have h1 := Int.tmod_nonneg 2 h.1
  have h2 := Int.tmod_lt_of_pos s (by decide : (0 : Int) < 2)
  rw [of_half, wrap_i64_id (n := 2 * halfN s) (by omega), wrap_i64_id (n := s.tmod 2) (by omega), wrap_i64_id (by omega)]
  unfold mx mn
  split <;> split <;> omega
set_option maxRecDepth 100000 in
set_option maxHeartbeats 8000000 in
theorem bodyLScr (s : Int) (xs : List Act) (h : actsOk xs ∧ 0 ≤ s ∧ s < 65536) : BodyOk Try.prog u tab9 [5000086, 103005, 104006, 105007, 112014, 122007, 127007, 115007] [(0, .inv (annScr s xs)), (1000086, .cut 54 (cutScr s))] Try.f4 [.int .u16 s, .csl 39 xs] (.bool true) := by
  constructor
  have eqn : bodyW Try.prog u tab9 [5000086, 103005, 104006, 105007, 112014, 122007, 127007, 115007] (drawW Try.prog u tab9) (loopsBy u [(0, .inv (annScr s xs)), (1000086, .cut 54 (cutScr s))]) Try.f4 [.int .u16 s, .csl 39 xs] (.bool true) = vcLScr s xs := by kernel_rfl
  rw [eqn]
  unfold vcLScr
  obtain ⟨hx, hs⟩ := h
  have hh := halfN_in hs
  have hx0 : xs.length < 9223372036854775808 := hx.1
  have hm : 0 ≤ mn (xs.length : Int) 60 ∧ mn (xs.length : Int) 60 ≤ (xs.length : Int) := by unfold mn; split <;> omega
  have hk := (headA_len xs 60 (by omega)).1
  refine ⟨by decide, fun v hv => ?_⟩
  obtain rfl : v = halfN s := hv
  have hhalf := scr_half hs
  refine ⟨by decide, ?_⟩
  generalize IntKind.i64.wrap (IntKind.i64.wrap (2 * halfN s) + IntKind.i64.wrap (s.tmod 2)) = n0 at *
  refine nm (spOf n0) ?_
  rw [Dk.eta]
  obtain ⟨e0, hc, cm⟩ := open_new (n := n0) (by omega)
  refine ⟨fun ht => ⟨⟨⟨(DkB.of n0).mono (by omega), DkY.of n0⟩, ht⟩, nmL (openM (spOf n0)).1 ?_⟩, fun hf => absurd e0 (by simpa using hf)⟩
  rw [Dk.eta, Lg.eta]
  clear ht e0
  have hsh := shows_rfl (l := (openM (spOf n0)).1)
  have hi0 : ScrI (halfN s) 0 (openM (spOf n0)).1 := ⟨hc.good, cm, (half_len hc.len).trans hhalf, by rw [hc.turn]; decide⟩
  have f2 := hc.turn
  have f3 := hc.recs
  have f4 := hc.next
  clear hc cm hhalf
  generalize (openM (spOf n0)).1 = l1 at *
  rw [f2, f3] at hsh
  refine ⟨fun hz => absurd hz (by decide), fun _ => ⟨⟨hi0.good.recs_ok, (by decide : 1 ≤ 1000000000)⟩, fun hb => ?_, fun _ => ⟨⟨by omega, hm.1, hm.2⟩, ⟨(0, l1), ⟨Nat.zero_le _, hi0⟩, ⟨rfl, rfl, rfl, rfl, trivial, trivial, trivial, f2.symm, f4.symm, rfl⟩, ⟨trivial, rfl, rfl, rfl, trivial, rfl⟩, ⟨trivial, trivial, rfl, rfl, rfl, rfl⟩, rfl, rfl, rfl, by rw [f3]; rfl⟩, fun g hg => ⟨fun hlt => ?_, fun _ => rfl⟩⟩⟩⟩
  · rw [show showsB l1 [{ data := #[] : ByteArray }] 1 = true from hsh] at hb
    exact absurd hb (by decide)
  clear hi0 hsh f2 f3 f4
  have hlt : (g.1 : Int) < ((headA xs 60).length : Int) := of_decide_eq_true hlt
  have hl2 : g.1 < (headA xs 60).length := by omega
  have hi := hg.2
  have hact := head_mem hx hl2
  refine ⟨⟨by omega, hlt⟩, hact, fun B hB => ?_⟩
  have hb : B.length ≤ 17000 ∧ bytesOk B := by
    rw [hB]
    exact bytesA_ok hact
  clear hB
  have hrl : (g.2.recs.map bytesOf).length ≤ 256 := recs_map_le hi.good
  refine ⟨by decide, ⟨fun h0 => ?_, fun h0 => ⟨fun _ => trivial, fun _ => trivial, fun q _ => ⟨fun hq => ?_, fun hq => ?_⟩⟩⟩, fun x i => ?_⟩
  · obtain ⟨hop, o0, oi, orr, ot, on⟩ := scr_open hi
    exact ⟨fun ht => ⟨⟨hop, ht⟩, nmL (openM g.2.d).1 ⟨((openM g.2.d).1, 0), oi, ⟨rfl, rfl, rfl, rfl, rfl, trivial, trivial, trivial, ot.symm, on.symm, rfl, rfl⟩, ⟨trivial, rfl, rfl, rfl, trivial, rfl⟩, ⟨trivial, trivial, rfl, rfl, rfl, rfl⟩, rfl, rfl, rfl, by rw [orr]⟩⟩, fun hf => absurd o0 (by simpa using hf)⟩
  · obtain ⟨b1, b2, b3, b4, b5⟩ := scr_begin hi (by omega) hb.1 hb.2
    refine ⟨b1, nmL (beginM g.2 B).1 ⟨fun c1 => ?_, fun c1 => ⟨⟨by omega, by omega⟩, fun c2 => ?_, fun c2 => ⟨⟨by omega, by omega⟩, ?_⟩⟩⟩⟩
    · have e := b3 (of_decide_eq_true c1)
      exact ⟨((beginM g.2 B).1, 12), b2, ⟨rfl, rfl, rfl, rfl, rfl, trivial, trivial, trivial, by rw [e], by rw [e], by rw [e], rfl⟩, ⟨trivial, rfl, rfl, rfl, trivial, rfl⟩, ⟨trivial, trivial, rfl, rfl, rfl, rfl⟩, rfl, rfl, rfl, by rw [e]⟩
    · have e := b4 (of_decide_eq_false c1) (of_decide_eq_true c2)
      exact ⟨((beginM g.2 B).1, 4), b2, ⟨rfl, rfl, rfl, rfl, rfl, trivial, trivial, trivial, by rw [e], by rw [e], by rw [e], rfl⟩, ⟨trivial, rfl, rfl, rfl, trivial, rfl⟩, ⟨trivial, trivial, rfl, rfl, rfl, rfl⟩, rfl, rfl, rfl, by rw [e]⟩
    · obtain ⟨e, r, t, n⟩ := b5 (of_decide_eq_false c1) (of_decide_eq_false c2)
      exact ⟨((beginM g.2 B).1, 0), b2, ⟨rfl, rfl, rfl, rfl, rfl, trivial, trivial, trivial, t.symm, n.symm, e, rfl⟩, ⟨trivial, rfl, rfl, rfl, trivial, rfl⟩, ⟨trivial, trivial, rfl, rfl, rfl, rfl⟩, rfl, rfl, rfl, by rw [r]; rfl⟩
  · obtain ⟨b1, b2, b3, b4, b5⟩ := scr_append hi hb.1 hb.2
    refine ⟨b1, nmL (appendM g.2 B).1 ⟨fun c1 => ?_, fun c1 => ⟨⟨by omega, by omega⟩, fun c2 => ?_, fun c2 => ⟨?_, ⟨by omega, by omega⟩, ?_⟩⟩⟩⟩
    · have e := b3 (of_decide_eq_true c1)
      exact ⟨((appendM g.2 B).1, 12), b2, ⟨rfl, rfl, rfl, rfl, rfl, trivial, trivial, trivial, by rw [e], by rw [e], by rw [e], rfl⟩, ⟨trivial, rfl, rfl, rfl, trivial, rfl⟩, ⟨trivial, trivial, rfl, rfl, rfl, rfl⟩, rfl, rfl, rfl, by rw [e]⟩
    · have e := b4 (of_decide_eq_false c1) (of_decide_eq_true c2)
      exact ⟨((appendM g.2 B).1, 4), b2, ⟨rfl, rfl, rfl, rfl, rfl, trivial, trivial, trivial, by rw [e], by rw [e], by rw [e], rfl⟩, ⟨trivial, rfl, rfl, rfl, trivial, rfl⟩, ⟨trivial, trivial, rfl, rfl, rfl, rfl⟩, rfl, rfl, rfl, by rw [e]⟩
    · show ((g.2.recs.map bytesOf).length + 1) * 16 ≤ 140737488355328
      omega
    · obtain ⟨e, r, t, n⟩ := b5 (of_decide_eq_false c1) (of_decide_eq_false c2)
      exact ⟨((appendM g.2 B).1, 0), b2, ⟨rfl, rfl, rfl, rfl, rfl, trivial, trivial, trivial, t.symm, n.symm, e, rfl⟩, ⟨trivial, rfl, rfl, rfl, trivial, rfl⟩, ⟨trivial, trivial, rfl, rfl, rfl, rfl⟩, rfl, rfl, rfl, by rw [r, List.map_append]; rfl⟩
  · have hr2 := recs_map_le i.good
    refine ⟨fun _ => ⟨i.good.recs_ok, by omega⟩, fun hbb => ?_, fun _ => ⟨(g.1 + 1, x.1), ⟨by show g.1 + 1 ≤ _; omega, i⟩, by show (headA xs 60).length - (g.1 + 1) < (headA xs 60).length - g.1; omega, ⟨rfl, rfl, rfl, rfl, trivial, trivial, trivial, rfl, rfl, wrap_next hlt (by omega)⟩, ⟨trivial, rfl, rfl, rfl, trivial, rfl⟩, ⟨trivial, trivial, rfl, rfl, rfl, rfl⟩, rfl, rfl, rfl, rfl⟩⟩
    rw [shows_rfl, i.half, i.good.br] at hbb
    simp at hbb
theorem okLScr : FnOk Try.prog u 4 spScrW := by
  refine fn_ok Try.prog u tab9 mo laws9 Try.func4 ?_
  intro xs c y h hc
  unfold spScrW at h
  split at h
  · cases h
    exact ⟨by kernel_rfl, _, _, bodyLScr _ _ hc⟩
  · cases h
end Go.Proofs.Ytgimkldaeobhnaa.Dsk
