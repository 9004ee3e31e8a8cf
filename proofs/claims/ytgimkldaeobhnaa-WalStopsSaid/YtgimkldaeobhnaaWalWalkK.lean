/- Wherever the disk stops, all that was told is there, and of what was in flight all, or nothing: the law's walk. -/
import Derived.Test.YtgimkldaeobhnaaWalVcL
import Derived.Test.YtgimkldaeobhnaaWalWalkH
import Derived.Test.YtgimkldaeobhnaaWalMathM
namespace Go.Proofs.Ytgimkldaeobhnaa.Dsk
open Go Go.Proofs.Ytgimkldaeobhnaa.Sx

set_option maxRecDepth 100000 in
set_option maxHeartbeats 16000000 in
theorem bodyLSto (xs : List Act) (s m t b : Int) (h : actsOk xs ∧ (0 ≤ s ∧ s < 256) ∧ (-128 ≤ t ∧ t < 128) ∧ 0 ≤ b ∧ b < 256) : BodyOk Try.prog u tab9 [5000069, 5000074, 5000091, 5000127, 5000190, 103011, 104012, 107011, 112018, 116012, 119012, 129011, 130011, 131023, 135011, 136023, 141023, 143026] [(0, .inv (annSto xs)), (1000069, .cut 53 (cutSto0 xs)), (1000074, .cut 53 (cutStoA xs)), (1000091, .cut 53 cutStoB), (1000127, .cut 13 cutStoC), (1000190, .cut 13 cutStoD)] Try.f5 [.csl 39 xs, .int .u8 s, .int .u64 m, .int .i8 t, .int .u8 b] (.bool true) := by
  constructor
  have eqn : bodyW Try.prog u tab9 [5000069, 5000074, 5000091, 5000127, 5000190, 103011, 104012, 107011, 112018, 116012, 119012, 129011, 130011, 131023, 135011, 136023, 141023, 143026] (drawW Try.prog u tab9) (loopsBy u [(0, .inv (annSto xs)), (1000069, .cut 53 (cutSto0 xs)), (1000074, .cut 53 (cutStoA xs)), (1000091, .cut 53 cutStoB), (1000127, .cut 13 cutStoC), (1000190, .cut 13 cutStoD)]) Try.f5 [.csl 39 xs, .int .u8 s, .int .u64 m, .int .i8 t, .int .u8 b] (.bool true) = vcLSto xs s m t b := by kernel_rfl
  rw [eqn]
  unfold vcLSto
  obtain ⟨hx, hs, _, hbb⟩ := h
  have hx0 : xs.length < 9223372036854775808 := hx.1
  have hm : 0 ≤ mn (xs.length : Int) 20 ∧ mn (xs.length : Int) 20 ≤ (xs.length : Int) := by unfold mn; split <;> omega
  have hk := (headA_len xs 20 (by omega)).1
  have hhalf : halfOf (spOf 60) = 30 := by rw [of_half]; decide
  refine nm (spOf 60) ?_
  rw [Dk.eta]
  obtain ⟨e0, hc, cm⟩ := open_new (n := 60) (by omega)
  refine ⟨fun ht => ⟨⟨⟨(DkB.of 60).mono (by omega), DkY.of 60⟩, ht⟩, nmL (openM (spOf 60)).1 ?_⟩, fun hf => absurd (show (openM (spOf 60)).2 = 0 from e0) (by simpa using hf)⟩
  rw [Dk.eta]
  clear ht e0
  have hi0 : StoI 0 { (openM (spOf 60)).1 with d := { (openM (spOf 60)).1.d with left := mx (-1) (IntKind.i64.wrap s), fail := (openM (spOf 60)).1.d.fail, calls := (openM (spOf 60)).1.d.calls } } := ⟨hc.good.arm _ _ _, cm.fail, (half_len hc.len).trans hhalf, by show (openM (spOf 60)).1.turn ≤ _; rw [hc.turn]; decide⟩
  have f2 := hc.turn
  have f3 := hc.recs
  clear hc cm hhalf
  refine ⟨fun hz => absurd hz (by decide), fun _ => nm { (openM (spOf 60)).1.d with left := mx (-1) (IntKind.i64.wrap s) } ⟨⟨by omega, hm.1, hm.2⟩, ⟨(0, { (openM (spOf 60)).1 with d := { (openM (spOf 60)).1.d with left := mx (-1) (IntKind.i64.wrap s), fail := (openM (spOf 60)).1.d.fail, calls := (openM (spOf 60)).1.d.calls } }), ⟨Nat.zero_le _, hi0⟩, ⟨rfl, rfl, rfl, rfl, rfl, rfl, trivial, trivial, trivial, f2.symm, rfl⟩, ⟨trivial, rfl, rfl, rfl, trivial, rfl⟩, ⟨trivial, trivial, rfl, rfl, rfl, rfl⟩, rfl, rfl, rfl, ?_⟩, fun g hg => ⟨fun hlt => ?_, fun _ => ?_⟩⟩⟩
  · show [(⟨#[]⟩ : ByteArray)] = (openM (spOf 60)).1.recs.map bytesOf
    rw [f3]
    rfl
  case refine_3 =>
    refine ⟨⟨hg.2.good.recs_ok, by have := recs_map_le hg.2.good; omega⟩, ?_⟩
    rw [shows_rfl, hg.2.good.br]
    rfl
  clear hi0 f2 f3
  have hlt : (g.1 : Int) < ((headA xs 20).length : Int) := of_decide_eq_true hlt
  have hl2 : g.1 < (headA xs 20).length := by omega
  have hi := hg.2
  have hact := head_mem hx hl2
  have hal : ((headA xs 20).getD g.1 zeroA).bytes.length < 9223372036854775808 := hact.2.1
  have hm2 : 0 ≤ mn (((headA xs 20).getD g.1 zeroA).bytes.length : Int) 300 ∧ mn (((headA xs 20).getD g.1 zeroA).bytes.length : Int) 300 ≤ (((headA xs 20).getD g.1 zeroA).bytes.length : Int) := by unfold mn; split <;> omega
  refine ⟨⟨by omega, hlt⟩, ⟨by omega, hm2.1, hm2.2⟩, fun v hv => ?_⟩
  obtain rfl : v = bK xs g.1 := hv
  have hbk := bK_ok hx hl2
  refine ⟨by decide, ⟨fun hb => ⟨hi.good.app (by omega), nmL (appendM g.2 (bK xs g.1)).1 ⟨_, sto_append hx hl2 hi, ⟨rfl, rfl, rfl, rfl, rfl, rfl, rfl, rfl, trivial, trivial, trivial, rfl, by simpa using hb, rfl⟩, ⟨trivial, rfl, rfl, rfl, trivial, rfl⟩, ⟨trivial, trivial, rfl, rfl, rfl, rfl⟩, rfl, rfl, rfl, rfl⟩⟩, fun hb => ⟨⟨g.2, 4, true, g.2.recs.map bytesOf, g.2.turn, [], 0⟩, .inl ⟨rfl, hi, rfl, rfl⟩, ⟨rfl, rfl, rfl, rfl, rfl, rfl, rfl, rfl, trivial, trivial, trivial, rfl, by simpa using hb, rfl⟩, ⟨trivial, rfl, rfl, rfl, trivial, rfl⟩, ⟨trivial, trivial, rfl, rfl, rfl, rfl⟩, rfl, rfl, rfl, rfl⟩⟩, fun g1 h1 => ⟨⟨fun e4 => ?_, fun e4 => ?_⟩, fun g2 h2 => ?_⟩⟩
  · rcases h1 with ⟨_, i1, hrs, htt⟩ | ⟨hne, _⟩
    · obtain ⟨b1, b2⟩ := sto_begin hx hl2 i1
      exact ⟨b1, nmL (beginM g1.l (bK xs g.1)).1 ⟨_, b2, ⟨rfl, rfl, rfl, rfl, rfl, rfl, rfl, rfl, trivial, trivial, trivial, htt, rfl, rfl⟩, ⟨trivial, rfl, rfl, rfl, trivial, rfl⟩, ⟨trivial, trivial, rfl, rfl, rfl, rfl⟩, rfl, rfl, rfl, hrs⟩⟩
    · exact absurd (eq_of_beq e4) hne
  · rcases h1 with ⟨h4, _⟩ | ⟨_, _, hb2⟩
    · rw [h4] at e4
      exact absurd e4 (by decide)
    · exact ⟨g1, hb2, ⟨rfl, rfl, rfl, rfl, rfl, rfl, rfl, rfl, trivial, trivial, trivial, rfl, rfl, rfl⟩, ⟨trivial, rfl, rfl, rfl, trivial, rfl⟩, ⟨trivial, trivial, rfl, rfl, rfl, rfl⟩, rfl, rfl, rfl, rfl⟩
  obtain ⟨J, hrl, htb, hmo, hne⟩ := h2
  refine ⟨fun hq => ?_, fun _ => ⟨by omega, (by show (g2.rs.length + 1) * 16 ≤ _; omega), ⟨fun hb => ?_, fun hb => ?_⟩, fun g3 J3 => ?_⟩⟩
  · rcases J.e with h | h <;> rw [h] at hq <;> exact absurd hq (by decide)
  · rw [if_pos hb] at hmo hne
    exact ⟨g2, J, ⟨rfl, rfl, rfl, rfl, rfl, rfl, rfl, trivial, trivial, trivial, rfl, rfl, trivial, by rw [hne, wrap_i64_id (by omega)]⟩, ⟨trivial, rfl, rfl, rfl, trivial, rfl⟩, ⟨trivial, trivial, rfl, rfl, rfl, rfl⟩, rfl, rfl, rfl, rfl, hmo.symm⟩
  · rw [if_neg (by rw [hb]; decide)] at hmo hne
    exact ⟨g2, J, ⟨rfl, rfl, rfl, rfl, rfl, rfl, rfl, trivial, trivial, trivial, rfl, rfl, trivial, hne.symm⟩, ⟨trivial, rfl, rfl, rfl, trivial, rfl⟩, ⟨trivial, trivial, rfl, rfl, rfl, rfl⟩, rfl, rfl, rfl, rfl, hmo.symm⟩
  clear J hrl htb hmo hne hbk hm2 hal hact
  refine ⟨fun e0 => ?_, fun e0 => ?_⟩
  · obtain ⟨i3, hr3, ht3⟩ := J3.good (eq_of_beq e0)
    exact ⟨(g.1 + 1, g3.l), ⟨(by show g.1 + 1 ≤ _; omega), i3⟩, (by show (headA xs 20).length - (g.1 + 1) < (headA xs 20).length - g.1; omega), ⟨rfl, rfl, rfl, rfl, rfl, rfl, trivial, trivial, trivial, ht3.symm, wrap_next hlt (by omega)⟩, ⟨trivial, rfl, rfl, rfl, trivial, rfl⟩, ⟨trivial, trivial, rfl, rfl, rfl, rfl⟩, rfl, rfl, rfl, hr3.symm⟩
  have h9 : g3.e = 9 := J3.e.resolve_left (by simpa using e0)
  obtain ⟨L, _, _, h30, _, _⟩ := J3.lost h9
  rw [append_broken L.br]
  dsimp only
  refine ⟨⟨⟨L.ok.b.mono (by omega), L.ok.r01, L.ok.n01⟩, (by have := L.ok.rs; omega), by omega⟩, fun hq => ?_, fun _ => ⟨L.ok.b.ok (by omega), nm (g3.l.d.restart m (IntKind.i64.wrap t) (IntKind.i64.wrap b)) ⟨by decide, nm { g3.l.d.restart m (IntKind.i64.wrap t) (IntKind.i64.wrap b) with left := mx (-1) (IntKind.i64.wrap (b.tmod 70)) } ?_⟩⟩⟩
  · rw [L.br] at hq
    exact absurd hq (by decide)
  rw [Dk.eta]
  obtain ⟨r1, r2, r3, _⟩ := L.d.reopen m (IntKind.i64.wrap t) (IntKind.i64.wrap b) (mx (-1) (IntKind.i64.wrap (b.tmod 70)))
  generalize ({ g3.l.d.restart m (IntKind.i64.wrap t) (IntKind.i64.wrap b) with left := mx (-1) (IntKind.i64.wrap (b.tmod 70)) } : Dk) = d3 at *
  refine ⟨fun ht => ?_, fun hf => ?_⟩
  · obtain ⟨a1, a2, a3, a4⟩ := r2 (eq_of_beq ht)
    have K3 := sto_found J3 h9 a1 a3 (a4.trans h30) a2
    refine ⟨⟨r1, ht⟩, nmL (openM d3).1 ⟨⟨fun hz => absurd hz (by decide), fun _ => ⟨_, K3, ⟨rfl, trivial, trivial, rfl, trivial, rfl, trivial, rfl⟩, ⟨trivial, rfl, rfl, rfl, trivial, rfl⟩, ⟨trivial, trivial, rfl, rfl, rfl, rfl⟩, rfl, rfl, rfl, rfl, rfl⟩⟩, fun g5 hK => ?_⟩⟩
    have G1 := hK.good.arm (-1) g5.l.d.fail g5.l.d.calls
    have C1 : Calm ({ g5.l with d := { g5.l.d with left := -1, fail := g5.l.d.fail, calls := g5.l.d.calls } } : Lg).d := ⟨hK.good.down, rfl, hK.fail⟩
    have H1 : halfOf ({ g5.l with d := { g5.l.d with left := -1, fail := g5.l.d.fail, calls := g5.l.d.calls } } : Lg).d = 30 := hK.half
    have T1 : ({ g5.l with d := { g5.l.d with left := -1, fail := g5.l.d.fail, calls := g5.l.d.calls } } : Lg).turn ≤ 1001 := by
      show g5.l.turn ≤ 1001
      have hbd := hK.bound
      rcases hK.shows with hq | hq <;> rw [hq.2] <;> omega
    have S1 : showsB ({ g5.l with d := { g5.l.d with left := -1, fail := g5.l.d.fail, calls := g5.l.d.calls } } : Lg) g5.rs g5.t = true ∨ showsB ({ g5.l with d := { g5.l.d with left := -1, fail := g5.l.d.fail, calls := g5.l.d.calls } } : Lg) g5.more g5.next = true := by
      rcases hK.shows with hq | hq
      · rw [← hq.1, ← hq.2]; exact .inl shows_rfl
      · rw [← hq.1, ← hq.2]; exact .inr shows_rfl
    have hlen := hK.len
    obtain ⟨N1, N2, N3, N4, N5, N6⟩ := sto_new G1 C1 H1 T1
    have R1 := G1.recs_ok
    have R0 : decide (((⟨⟨g5.l.d.kept, g5.l.d.wait, -1, g5.l.d.fail, g5.l.d.down, g5.l.d.calls⟩, g5.l.region, g5.l.turn, g5.l.next, g5.l.recs, g5.l.broken⟩ : Lg).recs.length : Int) > 0) = true := decide_eq_true (by have h0 := G1.lay.some; have : (⟨⟨g5.l.d.kept, g5.l.d.wait, -1, g5.l.d.fail, g5.l.d.down, g5.l.d.calls⟩, g5.l.region, g5.l.turn, g5.l.next, g5.l.recs, g5.l.broken⟩ : Lg).recs.length ≠ 0 := fun hz => h0 (List.eq_nil_of_length_eq_zero hz); omega)
    have tail : ∀ g4 : Lg, Good g4 → Calm g4.d → (openM g4.d).2 = 0 ∧ showsB (openM g4.d).1 (g4.recs.map bytesOf) g4.turn = true ∧ (openM g4.d).1.recs.length ≤ 1000000 ∧ ∀ b ∈ (openM g4.d).1.recs, b.length ≤ 1000000 := by
      intro g4 G4 C4
      obtain ⟨o0, oc, _⟩ := good_open G4 C4
      refine ⟨o0, ?_, oc.good.recs_ok⟩
      rw [← oc.recs, ← oc.turn]
      exact shows_rfl
    refine ⟨fun _ => ⟨R1, by omega⟩, fun _ _ => ⟨R1, by omega⟩, fun hx => ?_, fun _ => ⟨R1, by decide, G1.app (b := [110, 101, 119]) (by decide), fun he => ?_, fun he => ?_⟩⟩
    · rcases S1 with hq | hq
      · rw [hq] at hx
        simp at hx
      · rw [hq] at hx
        simp at hx
    · rcases N1 with hq | hq
      · rw [hq.1] at he
        exact absurd he (by decide)
      rw [hq]
      dsimp only
      refine ⟨by decide, N2, fun _ => N5.recs_ok, nmL (beginM (⟨⟨g5.l.d.kept, g5.l.d.wait, -1, g5.l.d.fail, g5.l.d.down, g5.l.d.calls⟩, g5.l.region, g5.l.turn, g5.l.next, g5.l.recs, g5.l.broken⟩ : Lg) [110, 101, 119]).1 ⟨⟨fun hx => ?_, fun _ => ⟨(beginM (⟨⟨g5.l.d.kept, g5.l.d.wait, -1, g5.l.d.fail, g5.l.d.down, g5.l.d.calls⟩, g5.l.region, g5.l.turn, g5.l.next, g5.l.recs, g5.l.broken⟩ : Lg) [110, 101, 119]).1, ⟨N5, N6⟩, ⟨rfl, rfl, trivial, trivial⟩, ⟨trivial, rfl, rfl, rfl, trivial, rfl⟩, ⟨trivial, trivial, rfl, rfl, rfl, rfl⟩, rfl, rfl, rfl⟩⟩, fun g4 h4 => ?_⟩⟩
      · rw [N3, N4] at hx
        exact absurd hx (by decide)
      obtain ⟨o0, os, orr⟩ := tail g4 h4.1 h4.2
      refine ⟨fun ht => ⟨⟨h4.1.open_ok, ht⟩, nmL (openM g4.d).1 ⟨fun _ => h4.1.recs_ok, fun _ => h4.1.recs_ok, fun _ => ⟨orr, by have := recs_map_le h4.1; omega⟩, ?_⟩⟩, fun hf => absurd o0 (by simpa using hf)⟩
      show (0 == 0 && showsB (openM g4.d).1 (g4.recs.map bytesOf) g4.turn && decide (((⟨⟨g5.l.d.kept, g5.l.d.wait, -1, g5.l.d.fail, g5.l.d.down, g5.l.d.calls⟩, g5.l.region, g5.l.turn, g5.l.next, g5.l.recs, g5.l.broken⟩ : Lg).recs.length : Int) > 0)) = true
      rw [os, R0]
      rfl
    · rcases N1 with hq | hq
      case inr =>
        rw [hq] at he
        exact absurd (show ((4 : Int) != 0) = false from he) (by decide)
      refine nmL (appendM (⟨⟨g5.l.d.kept, g5.l.d.wait, -1, g5.l.d.fail, g5.l.d.down, g5.l.d.calls⟩, g5.l.region, g5.l.turn, g5.l.next, g5.l.recs, g5.l.broken⟩ : Lg) [110, 101, 119]).1 ⟨⟨(appendM (⟨⟨g5.l.d.kept, g5.l.d.wait, -1, g5.l.d.fail, g5.l.d.down, g5.l.d.calls⟩, g5.l.region, g5.l.turn, g5.l.next, g5.l.recs, g5.l.broken⟩ : Lg) [110, 101, 119]).1, hq.2, ⟨rfl, rfl, trivial, trivial⟩, ⟨trivial, rfl, rfl, rfl, trivial, rfl⟩, ⟨trivial, trivial, rfl, rfl, rfl, rfl⟩, rfl, rfl, rfl⟩, fun g4 h4 => ?_⟩
      obtain ⟨o0, os, orr⟩ := tail g4 h4.1 h4.2
      refine ⟨fun ht => ⟨⟨h4.1.open_ok, ht⟩, nmL (openM g4.d).1 ⟨fun _ => h4.1.recs_ok, fun _ => h4.1.recs_ok, fun _ => ⟨orr, by have := recs_map_le h4.1; omega⟩, ?_⟩⟩, fun hf => absurd o0 (by simpa using hf)⟩
      show (0 == 0 && showsB (openM g4.d).1 (g4.recs.map bytesOf) g4.turn && decide (((⟨⟨g5.l.d.kept, g5.l.d.wait, -1, g5.l.d.fail, g5.l.d.down, g5.l.d.calls⟩, g5.l.region, g5.l.turn, g5.l.next, g5.l.recs, g5.l.broken⟩ : Lg).recs.length : Int) > 0)) = true
      rw [os, R0]
      rfl
  · have hne : (openM d3).2 ≠ 0 := by simpa using hf
    obtain ⟨a1, a2, a3⟩ := r3 hne
    obtain ⟨q1, q2, _, q4⟩ := a2.reopen (shr .u64 m 7) (IntKind.i64.wrap ((IntKind.i64.wrap t).tdiv 2)) (IntKind.i64.wrap ((IntKind.i64.wrap b).tdiv 2)) (-1)
    have q4 := q4 rfl
    have er : ({ (openM d3).1.d.restart (shr .u64 m 7) (IntKind.i64.wrap ((IntKind.i64.wrap t).tdiv 2)) (IntKind.i64.wrap ((IntKind.i64.wrap b).tdiv 2)) with left := -1 } : Dk) = (openM d3).1.d.restart (shr .u64 m 7) (IntKind.i64.wrap ((IntKind.i64.wrap t).tdiv 2)) (IntKind.i64.wrap ((IntKind.i64.wrap b).tdiv 2)) := rfl
    rw [er] at q1 q2 q4
    obtain ⟨p1, p2, p3, p4⟩ := q2 q4
    have K3 := sto_found J3 h9 p1 p3 ((p4.trans a3).trans h30) p2
    refine ⟨⟨r1, hf⟩, ⟨fun _ => ⟨fun hz => ?_, fun _ => ⟨by decide, by decide, by decide, a2.b.ok (by omega), nm ((openM d3).1.d.restart (shr .u64 m 7) (IntKind.i64.wrap ((IntKind.i64.wrap t).tdiv 2)) (IntKind.i64.wrap ((IntKind.i64.wrap b).tdiv 2))) ⟨fun ht => ⟨⟨q1, ht⟩, nmL (openM ((openM d3).1.d.restart (shr .u64 m 7) (IntKind.i64.wrap ((IntKind.i64.wrap t).tdiv 2)) (IntKind.i64.wrap ((IntKind.i64.wrap b).tdiv 2)))).1 ⟨_, K3, ⟨rfl, trivial, trivial, rfl, trivial, rfl, trivial, rfl⟩, ⟨trivial, rfl, rfl, rfl, trivial, rfl⟩, ⟨trivial, trivial, rfl, rfl, rfl, rfl⟩, rfl, rfl, rfl, rfl, rfl⟩⟩, fun hg => absurd (show (openM ((openM d3).1.d.restart (shr .u64 m 7) (IntKind.i64.wrap ((IntKind.i64.wrap t).tdiv 2)) (IntKind.i64.wrap ((IntKind.i64.wrap b).tdiv 2)))).2 = 0 from q4) (by simpa using hg)⟩⟩⟩, fun hz => absurd hz (by simpa using hne)⟩, fun g5 hK => ?_⟩
    · rw [a1] at hz
      exact absurd hz (by decide)
    have G1 := hK.good.arm (-1) g5.l.d.fail g5.l.d.calls
    have C1 : Calm ({ g5.l with d := { g5.l.d with left := -1, fail := g5.l.d.fail, calls := g5.l.d.calls } } : Lg).d := ⟨hK.good.down, rfl, hK.fail⟩
    have H1 : halfOf ({ g5.l with d := { g5.l.d with left := -1, fail := g5.l.d.fail, calls := g5.l.d.calls } } : Lg).d = 30 := hK.half
    have T1 : ({ g5.l with d := { g5.l.d with left := -1, fail := g5.l.d.fail, calls := g5.l.d.calls } } : Lg).turn ≤ 1001 := by
      show g5.l.turn ≤ 1001
      have hbd := hK.bound
      rcases hK.shows with hq | hq <;> rw [hq.2] <;> omega
    have S1 : showsB ({ g5.l with d := { g5.l.d with left := -1, fail := g5.l.d.fail, calls := g5.l.d.calls } } : Lg) g5.rs g5.t = true ∨ showsB ({ g5.l with d := { g5.l.d with left := -1, fail := g5.l.d.fail, calls := g5.l.d.calls } } : Lg) g5.more g5.next = true := by
      rcases hK.shows with hq | hq
      · rw [← hq.1, ← hq.2]; exact .inl shows_rfl
      · rw [← hq.1, ← hq.2]; exact .inr shows_rfl
    have hlen := hK.len
    obtain ⟨N1, N2, N3, N4, N5, N6⟩ := sto_new G1 C1 H1 T1
    have R1 := G1.recs_ok
    have R0 : decide (((⟨⟨g5.l.d.kept, g5.l.d.wait, -1, g5.l.d.fail, g5.l.d.down, g5.l.d.calls⟩, g5.l.region, g5.l.turn, g5.l.next, g5.l.recs, g5.l.broken⟩ : Lg).recs.length : Int) > 0) = true := decide_eq_true (by have h0 := G1.lay.some; have : (⟨⟨g5.l.d.kept, g5.l.d.wait, -1, g5.l.d.fail, g5.l.d.down, g5.l.d.calls⟩, g5.l.region, g5.l.turn, g5.l.next, g5.l.recs, g5.l.broken⟩ : Lg).recs.length ≠ 0 := fun hz => h0 (List.eq_nil_of_length_eq_zero hz); omega)
    have tail : ∀ g4 : Lg, Good g4 → Calm g4.d → (openM g4.d).2 = 0 ∧ showsB (openM g4.d).1 (g4.recs.map bytesOf) g4.turn = true ∧ (openM g4.d).1.recs.length ≤ 1000000 ∧ ∀ b ∈ (openM g4.d).1.recs, b.length ≤ 1000000 := by
      intro g4 G4 C4
      obtain ⟨o0, oc, _⟩ := good_open G4 C4
      refine ⟨o0, ?_, oc.good.recs_ok⟩
      rw [← oc.recs, ← oc.turn]
      exact shows_rfl
    refine ⟨fun _ => ⟨R1, by omega⟩, fun _ _ => ⟨R1, by omega⟩, fun hx => ?_, fun _ => ⟨R1, by decide, G1.app (b := [110, 101, 119]) (by decide), fun he => ?_, fun he => ?_⟩⟩
    · rcases S1 with hq | hq
      · rw [hq] at hx
        simp at hx
      · rw [hq] at hx
        simp at hx
    · rcases N1 with hq | hq
      · rw [hq.1] at he
        exact absurd he (by decide)
      rw [hq]
      dsimp only
      refine ⟨by decide, N2, fun _ => N5.recs_ok, nmL (beginM (⟨⟨g5.l.d.kept, g5.l.d.wait, -1, g5.l.d.fail, g5.l.d.down, g5.l.d.calls⟩, g5.l.region, g5.l.turn, g5.l.next, g5.l.recs, g5.l.broken⟩ : Lg) [110, 101, 119]).1 ⟨⟨fun hx => ?_, fun _ => ⟨(beginM (⟨⟨g5.l.d.kept, g5.l.d.wait, -1, g5.l.d.fail, g5.l.d.down, g5.l.d.calls⟩, g5.l.region, g5.l.turn, g5.l.next, g5.l.recs, g5.l.broken⟩ : Lg) [110, 101, 119]).1, ⟨N5, N6⟩, ⟨rfl, rfl, trivial, trivial⟩, ⟨trivial, rfl, rfl, rfl, trivial, rfl⟩, ⟨trivial, trivial, rfl, rfl, rfl, rfl⟩, rfl, rfl, rfl⟩⟩, fun g4 h4 => ?_⟩⟩
      · rw [N3, N4] at hx
        exact absurd hx (by decide)
      obtain ⟨o0, os, orr⟩ := tail g4 h4.1 h4.2
      refine ⟨fun ht => ⟨⟨h4.1.open_ok, ht⟩, nmL (openM g4.d).1 ⟨fun _ => h4.1.recs_ok, fun _ => h4.1.recs_ok, fun _ => ⟨orr, by have := recs_map_le h4.1; omega⟩, ?_⟩⟩, fun hf => absurd o0 (by simpa using hf)⟩
      show (0 == 0 && showsB (openM g4.d).1 (g4.recs.map bytesOf) g4.turn && decide (((⟨⟨g5.l.d.kept, g5.l.d.wait, -1, g5.l.d.fail, g5.l.d.down, g5.l.d.calls⟩, g5.l.region, g5.l.turn, g5.l.next, g5.l.recs, g5.l.broken⟩ : Lg).recs.length : Int) > 0)) = true
      rw [os, R0]
      rfl
    · rcases N1 with hq | hq
      case inr =>
        rw [hq] at he
        exact absurd (show ((4 : Int) != 0) = false from he) (by decide)
      refine nmL (appendM (⟨⟨g5.l.d.kept, g5.l.d.wait, -1, g5.l.d.fail, g5.l.d.down, g5.l.d.calls⟩, g5.l.region, g5.l.turn, g5.l.next, g5.l.recs, g5.l.broken⟩ : Lg) [110, 101, 119]).1 ⟨⟨(appendM (⟨⟨g5.l.d.kept, g5.l.d.wait, -1, g5.l.d.fail, g5.l.d.down, g5.l.d.calls⟩, g5.l.region, g5.l.turn, g5.l.next, g5.l.recs, g5.l.broken⟩ : Lg) [110, 101, 119]).1, hq.2, ⟨rfl, rfl, trivial, trivial⟩, ⟨trivial, rfl, rfl, rfl, trivial, rfl⟩, ⟨trivial, trivial, rfl, rfl, rfl, rfl⟩, rfl, rfl, rfl⟩, fun g4 h4 => ?_⟩
      obtain ⟨o0, os, orr⟩ := tail g4 h4.1 h4.2
      refine ⟨fun ht => ⟨⟨h4.1.open_ok, ht⟩, nmL (openM g4.d).1 ⟨fun _ => h4.1.recs_ok, fun _ => h4.1.recs_ok, fun _ => ⟨orr, by have := recs_map_le h4.1; omega⟩, ?_⟩⟩, fun hf => absurd o0 (by simpa using hf)⟩
      show (0 == 0 && showsB (openM g4.d).1 (g4.recs.map bytesOf) g4.turn && decide (((⟨⟨g5.l.d.kept, g5.l.d.wait, -1, g5.l.d.fail, g5.l.d.down, g5.l.d.calls⟩, g5.l.region, g5.l.turn, g5.l.next, g5.l.recs, g5.l.broken⟩ : Lg).recs.length : Int) > 0)) = true
      rw [os, R0]
      rfl
theorem okLSto : FnOk Try.prog u 5 spStopsW := by
  refine fn_ok Try.prog u tab9 mo laws9 Try.func5 ?_
  intro xs c y h hc
  unfold spStopsW at h
  split at h
  · cases h
    exact ⟨by kernel_rfl, _, _, bodyLSto _ _ _ _ _ hc⟩
  · cases h
end Go.Proofs.Ytgimkldaeobhnaa.Dsk
