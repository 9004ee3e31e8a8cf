/- Behind an error of the disk nothing is written any more: the law's walk. -/
import Derived.Test.YtgimkldaeobhnaaWalVcJ
import Derived.Test.YtgimkldaeobhnaaWalWalkH
namespace Go.Proofs.Ytgimkldaeobhnaa.Dsk
open Go Go.Proofs.Ytgimkldaeobhnaa.Sx

theorem fst_ok : bytesOk [102, 105, 114, 115, 116] := by
  intro x hx
  simp at hx
  omega
theorem fails_plain {l : Lg} {v : List Int} (g : Good l) (ho : Only 10 l.d) (hh : halfOf l.d = 20) (ht : l.turn = 1) (hr : l.recs = [[]] ++ [[102, 105, 114, 115, 116]]) (hn : l.next = 2 + 1 + ((1 : Nat) : Int)) (hv : v.length ≤ 300) (hy : bytesOk v) :
    FailsI (appendM l v) ∧ FailsI (beginM (appendM l v).1 v) ∧ begOk (appendM l v).1 v := by
  have hs : secsN v.length ≤ 5 := by unfold secsN; omega
  have hf : l.next + 1 + (secsN v.length : Int) ≤ halfOf l.d := by omega
  have hb : v.length ≤ 16384 := by omega
  have q1 : FQ l.recs l.turn := by
    rw [hr]
    exact ⟨by decide, .inr rfl⟩
  have q2 : FQ (l.recs ++ [v]) l.turn := by
    rw [hr]
    exact ⟨by show 1 ≤ 3; decide, .inr rfl⟩
  have ha := append_only g hb hf ho
  have hdk := append_dok g hb hy
  have hbk : begOk (appendM l v).1 v := ⟨hdk.b.mono (by omega), hdk.r01, by omega⟩
  have lo : (appendM l v).2 ≠ 0 → Lost (appendM l v).1 FQ := fun he => append_lost g hb hy hf he q1 q2
  have c0 : (appendM l v).2 = 0 → Came l.d (appendM l v).1 l.region l.turn (l.recs ++ [v]) (l.next + 1 + (secsN v.length : Int)) := (append_came g hb hy hf).1
  generalize appendM l v = x at *
  refine ⟨⟨hdk, fun he => (c0 he).good.br, fun he => ⟨.inl (ha.1.resolve_left he), lo he⟩⟩, ?_, hbk⟩
  by_cases he : x.2 = 0
  · have hc := c0 he
    have gx := hc.good
    have hx : x.1.turn = 1 := hc.turn.trans ht
    have hxh : halfOf x.1.d = 20 := (half_len hc.len).trans hh
    have hf2 : 2 + (secsN v.length : Int) ≤ halfOf x.1.d := by omega
    have hbo := begin_only (gx.beg (by omega)) hb hf2 ha.2
    refine ⟨begin_dok gx (by omega) hb hy, fun h0 => ((begin_good gx (by omega) hb hy hf2).1 h0).good.br, fun h0 => ⟨.inl (hbo.1.resolve_left h0), begin_lost gx (by omega) hb hy hf2 h0 ?_ ?_⟩⟩
    · rw [hc.recs]; exact q2
    · exact ⟨Nat.le_refl 1, .inl (Nat.lt_succ_self 1)⟩
  · have L := lo he
    rw [begin_broken L.br]
    exact ⟨hdk, fun h0 => absurd (show (11 : Int) = 0 from h0) (by decide), fun _ => ⟨.inr rfl, L⟩⟩
set_option maxRecDepth 100000 in
set_option maxHeartbeats 8000000 in
theorem bodyLFails (n : Int) (b : List Int) (q : Bool) (h : (lenOk (α := Int) b ∧ bytesOk b) ∧ 0 ≤ n ∧ n < 256) : BodyOk Try.prog u tab9 [5000049, 5000059, 103001, 104007, 105008, 106008, 108007, 109008, 111008, 118007, 119012] [(1000049, .cut 9 cutFailA), (1000059, .cut 9 cutFailB)] Try.f7 [.int .u8 n, .csl 5 b, .bool q] (.bool true) := by
  constructor
  have eqn : bodyW Try.prog u tab9 [5000049, 5000059, 103001, 104007, 105008, 106008, 108007, 109008, 111008, 118007, 119012] (drawW Try.prog u tab9) (loopsBy u [(1000049, .cut 9 cutFailA), (1000059, .cut 9 cutFailB)]) Try.f7 [.int .u8 n, .csl 5 b, .bool q] (.bool true) = vcLFails n b q := by kernel_rfl
  rw [eqn]
  unfold vcLFails
  obtain ⟨⟨hb0, hby⟩, hn⟩ := h
  have hb0 : b.length < 9223372036854775808 := hb0
  have hm : 0 ≤ mn (b.length : Int) 300 ∧ mn (b.length : Int) 300 ≤ (b.length : Int) := by unfold mn; split <;> omega
  have hh0 : halfOf (spOf 40) = 20 := by rw [of_half]; decide
  have hB := take_len b 300 (by omega)
  have hY := take_bytes hby (mn (b.length : Int) 300).toNat
  refine ⟨⟨by omega, hm.1, hm.2⟩, fun v hv => ?_⟩
  rw [← hv] at hB hY
  clear hv
  have hB2 : v.length ≤ 300 := by omega
  refine nm (spOf 40) ?_
  rw [Dk.eta]
  obtain ⟨e0, hc, cm⟩ := open_new (n := 40) (by omega)
  refine ⟨fun ht => ⟨⟨⟨(DkB.of 40).mono (by omega), DkY.of 40⟩, ht⟩, nmL (openM (spOf 40)).1 ?_⟩, fun hf => absurd (show (openM (spOf 40)).2 = 0 from e0) (by simpa using hf)⟩
  rw [Dk.eta, Lg.eta]
  clear ht
  have f1 : halfOf (openM (spOf 40)).1.d = 20 := (half_len hc.len).trans hh0
  have f2 := hc.turn
  have f3 := hc.recs
  have f4 := hc.next
  have g1 := hc.good
  clear hc e0
  generalize (openM (spOf 40)).1 = l1 at *
  refine ⟨fun hx => absurd hx (by decide), fun _ => ⟨by omega, g1.app (b := [102, 105, 114, 115, 116]) (by decide), nmL (appendM l1 [102, 105, 114, 115, 116]).1 ?_⟩⟩
  rw [Dk.eta]
  have fs : secsN ([102, 105, 114, 115, 116] : List Int).length = 1 := rfl
  obtain ⟨k1, cm2⟩ := append_calm (b := [102, 105, 114, 115, 116]) g1 (by decide) (by rw [fs]; omega) cm
  have hc2 := (append_came (b := [102, 105, 114, 115, 116]) g1 (by decide) fst_ok (by rw [fs]; omega)).1 k1
  have p1 : halfOf (appendM l1 [102, 105, 114, 115, 116]).1.d = 20 := (half_len hc2.len).trans f1
  have p2 := hc2.turn
  have p3 := hc2.recs
  have p4 := hc2.next
  rw [f2] at p2
  rw [f3] at p3
  rw [f4, fs] at p4
  have g2 := hc2.good
  clear hc2
  generalize appendM l1 [102, 105, 114, 115, 116] = l2 at *
  refine ⟨fun hx => ?_, fun _ => ⟨by decide, ?_⟩⟩
  · rw [k1] at hx
    exact absurd hx (by decide)
  refine nm { l2.1.d with fail := mx (-1) (IntKind.i64.wrap (n.tmod 40)) } ?_
  rw [Dk.eta]
  have g3 := g2.arm l2.1.d.left (mx (-1) (IntKind.i64.wrap (n.tmod 40))) l2.1.d.calls
  have e3 : (⟨{ l2.1.d with fail := mx (-1) (IntKind.i64.wrap (n.tmod 40)) }, l2.1.region, l2.1.turn, l2.1.next, l2.1.recs, l2.1.broken⟩ : Lg) = { l2.1 with d := { l2.1.d with left := l2.1.d.left, fail := mx (-1) (IntKind.i64.wrap (n.tmod 40)), calls := l2.1.d.calls } } := rfl
  rw [e3]
  have q0 : Only 10 ({ l2.1 with d := { l2.1.d with left := l2.1.d.left, fail := mx (-1) (IntKind.i64.wrap (n.tmod 40)), calls := l2.1.d.calls } } : Lg).d := .inr ⟨rfl, cm2.left, cm2.down⟩
  have q1 : halfOf ({ l2.1 with d := { l2.1.d with left := l2.1.d.left, fail := mx (-1) (IntKind.i64.wrap (n.tmod 40)), calls := l2.1.d.calls } } : Lg).d = 20 := p1
  have q2 : ({ l2.1 with d := { l2.1.d with left := l2.1.d.left, fail := mx (-1) (IntKind.i64.wrap (n.tmod 40)), calls := l2.1.d.calls } } : Lg).turn = 1 := p2
  have q3 : ({ l2.1 with d := { l2.1.d with left := l2.1.d.left, fail := mx (-1) (IntKind.i64.wrap (n.tmod 40)), calls := l2.1.d.calls } } : Lg).recs = [[]] ++ [[102, 105, 114, 115, 116]] := p3
  have q4 : ({ l2.1 with d := { l2.1.d with left := l2.1.d.left, fail := mx (-1) (IntKind.i64.wrap (n.tmod 40)), calls := l2.1.d.calls } } : Lg).next = 2 + 1 + ((1 : Nat) : Int) := p4
  generalize ({ l2.1 with d := { l2.1.d with left := l2.1.d.left, fail := mx (-1) (IntKind.i64.wrap (n.tmod 40)), calls := l2.1.d.calls } } : Lg) = l3 at g3 q0 q1 q2 q3 q4 ⊢
  obtain ⟨F1, F2, F3⟩ := fails_plain g3 q0 q1 q2 q3 q4 hB2 hY
  refine ⟨g3.app (by omega), nmL (appendM l3 v).1 ?_⟩
  rw [Dk.eta, Lg.eta]
  refine ⟨⟨fun _ => ⟨F3, nmL (beginM (appendM l3 v).1 v).1 ⟨beginM (appendM l3 v).1 v, F2, ⟨rfl, rfl, trivial, trivial, rfl⟩, ⟨trivial, rfl, rfl, rfl, trivial, rfl⟩, ⟨trivial, trivial, rfl, rfl, rfl, rfl⟩, rfl, rfl, rfl⟩⟩, fun _ => ⟨appendM l3 v, F1, ⟨rfl, rfl, trivial, trivial, rfl⟩, ⟨trivial, rfl, rfl, rfl, trivial, rfl⟩, ⟨trivial, trivial, rfl, rfl, rfl, rfl⟩, rfl, rfl, rfl⟩⟩, ?_⟩
  clear F1 F2 F3
  intro g hg
  refine ⟨fun h0 => ?_, fun h0 => ?_⟩
  · rw [hg.2.1 (eq_of_beq h0)]
    rfl
  have hne : g.2 ≠ 0 := by simpa using h0
  have L := (hg.2.2 hne).2
  refine ⟨⟨fun h10 => ?_, fun h10 => ⟨g, ⟨hg, hne⟩, ⟨rfl, rfl, trivial, trivial, rfl⟩, ⟨trivial, rfl, rfl, rfl, trivial, rfl⟩, ⟨trivial, trivial, rfl, rfl, rfl, rfl⟩, rfl, rfl, rfl⟩⟩, ?_⟩
  · rw [append_broken L.br]
    dsimp only
    rw [begin_broken L.br]
    dsimp only
    refine ⟨fun hb => ?_, fun _ => ⟨⟨⟨hg.1.b.mono (by omega), hg.1.r01, hg.1.n01⟩, (by have := hg.1.rs; omega), by omega⟩, fun hx => absurd hx (by decide), fun _ => ⟨⟨hg.1.b.mono (by omega), hg.1.r01, by omega⟩, fun hx => ?_, fun _ => ⟨g, ⟨hg, hne⟩, ⟨rfl, rfl, trivial, trivial, rfl⟩, ⟨trivial, rfl, rfl, rfl, trivial, rfl⟩, ⟨trivial, trivial, rfl, rfl, rfl, rfl⟩, rfl, rfl, rfl⟩⟩⟩⟩
    · rw [L.br] at hb
      exact absurd hb (by decide)
    · simp at hx
  clear hg hne L h0
  intro g hg
  have hne := hg.2
  have hg := hg.1
  obtain ⟨hee, L⟩ := hg.2.2 hne
  have hr := L.d.reopen 0 (-1) 0 (-1)
  have er : ({ g.1.d.restart 0 (-1) 0 with left := -1 } : Dk) = g.1.d.restart 0 (-1) 0 := rfl
  rw [er] at hr
  refine ⟨L.ok.b.ok (by omega), nm (g.1.d.restart 0 (-1) 0) ?_⟩
  rw [Dk.eta]
  obtain ⟨hop, hgo, _, h0⟩ := hr
  have h0 := h0 rfl
  obtain ⟨G, hq, _⟩ := hgo h0
  refine ⟨fun ht => ⟨⟨hop, ht⟩, nmL (openM (g.1.d.restart 0 (-1) 0)).1 ?_⟩, fun hf => absurd h0 (by simpa using hf)⟩
  rw [Dk.eta, Lg.eta]
  have hl1 := hq.1
  refine ⟨fun hx => absurd hx (by decide), fun _ => ⟨G.recs_ok, fun _ hx => ⟨by omega, ?_⟩, fun _ _ => ⟨by omega, ?_⟩, ?_⟩⟩
  · have hx := of_decide_eq_false hx
    omega
  · show (0 : Int) < ((openM (g.1.d.restart 0 (-1) 0)).1.recs.length : Int)
    omega
  · have h1 : (g.2 == 10 || g.2 == 11) = true := by rcases hee with hh | hh <;> rw [hh] <;> rfl
    have h2 : decide (((openM (g.1.d.restart 0 (-1) 0)).1.recs.length : Int) ≥ 1) = true := decide_eq_true (by omega)
    rw [h1, h2, Bool.true_and, Bool.true_and, Bool.or_eq_true, Bool.or_eq_true]
    refine .inl ?_
    rcases hq.2 with hh | hh
    · exact .inl (decide_eq_true (by omega))
    · refine .inr ?_
      show ((bytesOf ((openM (g.1.d.restart 0 (-1) 0)).1.recs.getD 1 [])).toList == _) = true
      rw [hh]
      exact beq_self_eq_true _
theorem okLFails : FnOk Try.prog u 7 spFailsW := by
  refine fn_ok Try.prog u tab9 mo laws9 Try.func7 ?_
  intro xs c y h hc
  unfold spFailsW at h
  split at h
  · cases h
    exact ⟨by kernel_rfl, _, _, bodyLFails _ _ _ hc⟩
  · cases h
end Go.Proofs.Ytgimkldaeobhnaa.Dsk
