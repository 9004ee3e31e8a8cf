/- Questions that wait: the laws ProbeOf, ProbeRight, ProbeEnds, ProbeTwice, by the bodies' contracts. -/
import Derived.Test.YtnjildbclmglpaaProVcE
namespace Go.Proofs.Ytnjildbclmglpaa.Pro
open Go Go.Proofs.Ytnjildbclmglpaa.Sx

theorem fz_eq {b c : Int} (hb : 0 < b ∧ b ≤ 1000) (h : 0 ≤ c) : 0 ≤ fz b c ∧ fz b c < b := by
  have h1 : 0 ≤ c % b := Int.emod_nonneg _ (by omega)
  have h2 : c % b < b := Int.emod_lt_of_pos _ (by omega)
  unfold fz
  rw [Int.tmod_eq_emod_of_nonneg h, wrap_i64_id (n := c % b) (by omega)]
  exact ⟨h1, h2⟩
theorem fc_eq {b c : Int} (hb : 0 < b ∧ b ≤ 1000) (h : 0 ≤ c) : 1 ≤ fc b c ∧ fc b c ≤ b := by
  obtain ⟨h2, h3⟩ := fz_eq hb h
  unfold fc
  rw [wrap_i64_id (by omega)]
  omega
theorem tmod_rng {a n : Int} (ha : 0 ≤ a) (hn : 0 < n) : 0 ≤ a.tmod n ∧ a.tmod n < n := by
  rw [Int.tmod_eq_emod_of_nonneg ha]
  exact ⟨Int.emod_nonneg _ (by omega), Int.emod_lt_of_pos _ hn⟩
theorem of_bad (a s now : Int) : badP (ofP a s now) = false := by
  unfold badP ofP
  simp only [Bool.or_eq_false_iff, bne_eq_false_iff_eq, decide_eq_false_iff_not]
  have h := and64 s
  refine ⟨⟨⟨⟨⟨trivial, by rw [h]; omega⟩, by rw [h]; omega⟩, (clamp_id (clamp_rng now)).symm⟩, by omega⟩, by omega⟩
theorem many_eq {w ag : Int} (h5 : 1 ≤ w ∧ w ≤ 6) (h6 : 0 ≤ ag ∧ ag < 4) : manyE w ag = w * (1 + ag) ∧ 1 ≤ manyE w ag ∧ manyE w ag ≤ 24 := by
  have hw : IntKind.i64.wrap (ag + 1) = ag + 1 := wrap_i64_id (by omega)
  unfold manyE
  rw [hw]
  have : ag = 0 ∨ ag = 1 ∨ ag = 2 ∨ ag = 3 := by omega
  rcases this with rfl | rfl | rfl | rfl <;> (rw [wrap_i64_id (by omega)]; omega)
theorem getP_mem {xs : List Prb} {k : Nat} (hk : k < xs.length) : getP xs k ∈ xs := by
  unfold getP
  rw [List.getD_eq_getElem?_getD, List.getElem?_eq_getElem hk]
  exact List.getElem_mem _
theorem any_step (q : Prb → Bool) (xs : List Prb) (j : Nat) (hj : j < xs.length) : (xs.take (j + 1)).any q = ((xs.take j).any q || q (xs.getD j zeroP)) := by
  rw [take_getD xs j hj zeroP, List.any_append, List.any_cons, List.any_nil, Bool.or_false]
theorem bodyLOf (a s now : Int) (h : u32R a) : BodyOk Try.prog u tab6 [] [] Try.f6 [.int .u32 a, .int .i64 s, .int .i64 now] (.bool true) := by
  constructor
  have eqn : bodyW Try.prog u tab6 [] (drawW Try.prog u tab6) (loopsBy u []) Try.f6 [.int .u32 a, .int .i64 s, .int .i64 now] (.bool true) = vcLOf a s now := by kernel_rfl
  rw [eqn]
  unfold vcLOf
  have hid : (ofP a s now).id = IntKind.i64.wrap (a.tmod 65536) := by
    show IntKind.i64.wrap (bitsI .and .u32 a 65535) = _
    rw [and32 a h, Int.tmod_eq_emod_of_nonneg h.1]
  refine ⟨fun h => absurd h (by decide), fun _ => ⟨by decide, fun _ => ⟨Nat.le_of_ble_eq_true rfl, ?_⟩, fun hx => ?_⟩⟩
  · have hr : rightB [ofP a s now] = true := by
      unfold rightB
      have h1 := okTo_good (xs := [ofP a s now]) (fun p hp => by rw [List.mem_singleton] at hp; rw [hp]; exact of_bad a s now) (by simp) 1 (Nat.le_refl _)
      show (okTo [ofP a s now] 1 && _) = true
      rw [h1]
      rfl
    exact hr
  · rw [hid] at hx
    simp [ofP, clampT] at hx
theorem okLOf : FnOk Try.prog u 6 spLOf := by
  refine fn_ok Try.prog u tab6 mo laws6 Try.func6 ?_
  intro xs c y h hc
  unfold spLOf at h
  split at h
  · cases h
    exact ⟨by kernel_rfl, _, _, bodyLOf _ _ _ hc⟩
  · cases h
theorem bodyLRight (raw : List Prb) (c0 c1 c2 c3 c4 c5 c6 c7 c8 : Int) (acts : List Act) (z : Int) (a b c d e : Int) (h : rightOk raw acts c6 z ⟨a, b, c, d, e⟩) : BodyOk Try.prog u tab6 [103011, 107013] [] Try.f3 [.csl 29 raw, .agg (cho c0 c1 c2 c3 c4 c5 c6 c7 c8), .csl 51 acts, .int .u8 z, .agg [.int .u32 a, .int .i64 b, .int .i64 c, .int .i64 d, .int .i64 e]] (.bool true) := by
  constructor
  have eqn : bodyW Try.prog u tab6 [103011, 107013] (drawW Try.prog u tab6) (loopsBy u []) Try.f3 [.csl 29 raw, .agg (cho c0 c1 c2 c3 c4 c5 c6 c7 c8), .csl 51 acts, .int .u8 z, .agg [.int .u32 a, .int .i64 b, .int .i64 c, .int .i64 d, .int .i64 e]] (.bool true) = vcLRight raw c0 c1 c2 c3 c4 c5 c6 c7 c8 acts z a b c d e := by kernel_rfl
  rw [eqn]
  unfold vcLRight
  obtain ⟨⟨hr1, hr2⟩, ⟨ha1, ha2, h6⟩, hz, hp⟩ := h
  have hr1 : raw.length < 9223372036854775808 := hr1
  have h6' := fz_eq (b := 4) (c := c6) (by omega) h6
  obtain ⟨hg, hn1, hn2⟩ := someL_good (c5 := fc 6 c5) (c6 := fz 4 c6) ha2 (by omega)
  have hm : 0 ≤ mn (raw.length : Int) 100 ∧ mn (raw.length : Int) 100 ≤ raw.length := by unfold mn; split <;> omega
  refine ⟨fun h => absurd h (by decide), fun _ => ⟨ha1, fun v hv => ?_⟩⟩
  rw [← hv] at hg
  have hlen := hg.len
  refine ⟨⟨by decide, hm.1, hm.2⟩, show v.length < 9223372036854775808 by omega, fun hx => ?_, fun _ => ⟨by omega, fun y hy => ?_⟩⟩
  · rw [hg.right] at hx
    exact absurd hx (by decide)
  subst hy
  have hrw : rngL (List.drop 0 (List.take (mn (raw.length : Int) 100).toNat raw)) := fun p hp => hr2 p (List.mem_of_mem_take (List.mem_of_mem_drop hp))
  have hrl : (List.drop 0 (List.take (mn (raw.length : Int) 100).toNat raw)).length < 9223372036854775808 := by rw [List.length_drop, List.length_take]; omega
  have hzz : IntKind.i64.wrap z = z := wrap_i64_id (by omega)
  rw [hzz]
  refine ⟨fun hpos => ?_, fun _ => ⟨show y.length < 9223372036854775808 by omega, show y.length < 9223372036854775808 by omega, fun _ => hrl, fun _ => hrl, ?_⟩⟩
  · have hpos : (y.length : Int) > 0 := of_decide_eq_true hpos
    have hset : rngL (y.set (z.tmod (y.length : Int)).toNat ⟨a, b, c, d, e⟩) := by
      intro q hq
      rcases List.mem_or_eq_of_mem_set hq with hq | hq
      · exact hg.rng q hq
      · rw [hq]; exact hp
    have hsl : (y.set (z.tmod (y.length : Int)).toNat (⟨a, b, c, d, e⟩ : Prb)).length < 9223372036854775808 := by rw [List.length_set]; omega
    refine ⟨by omega, tmod_rng hz.1 hpos, hsl, hsl, fun _ => hrl, fun _ => hrl, ?_⟩
    rw [right_same hset, right_same hrw]
    simp
  · rw [right_same hg.rng, right_same hrw]
    simp
theorem okLRight : FnOk Try.prog u 3 spLRight := by
  refine fn_ok Try.prog u tab6 mo laws6 Try.func3 ?_
  intro xs c y h hc
  unfold spLRight at h
  split at h
  · cases h
    exact ⟨by kernel_rfl, _, _, bodyLRight _ _ _ _ _ _ _ _ _ _ _ _ _ _ _ _ _ hc⟩
  · cases h
theorem bodyLEnds (c0 c1 c2 c3 c4 c5 c6 c7 c8 : Int) (acts : List Act) (h : endsOk acts c5 c6) : BodyOk Try.prog u tab6 [] [(0, .inv (annEnds (fc 6 c5) (fz 4 c6) acts))] Try.f4 [.agg (cho c0 c1 c2 c3 c4 c5 c6 c7 c8), .csl 51 acts] (.bool true) := by
  constructor
  have eqn : bodyW Try.prog u tab6 [] (drawW Try.prog u tab6) (loopsBy u [(0, .inv (annEnds (fc 6 c5) (fz 4 c6) acts))]) Try.f4 [.agg (cho c0 c1 c2 c3 c4 c5 c6 c7 c8), .csl 51 acts] (.bool true) = vcLEnds c0 c1 c2 c3 c4 c5 c6 c7 c8 acts := by kernel_rfl
  rw [eqn]
  unfold vcLEnds
  obtain ⟨ha1, ha2, h5, h6⟩ := h
  have h5' := fc_eq (b := 6) (c := c5) (by omega) h5
  have h6' := fz_eq (b := 4) (c := c6) (by omega) h6
  obtain ⟨hg, hn1, hn2⟩ := someL_good (c5 := fc 6 c5) (c6 := fz 4 c6) ha2 (by omega)
  have hM := many_eq h5' h6'
  have hmu : ∀ g : Nat, (g : Int) < manyE (fc 6 c5) (fz 4 c6) → (annEnds (fc 6 c5) (fz 4 c6) acts).μ (g + 1) < (annEnds (fc 6 c5) (fz 4 c6) acts).μ g := fun g hlt => show (manyE (fc 6 c5) (fz 4 c6) - ((g + 1 : Nat) : Int)).toNat < (manyE (fc 6 c5) (fz 4 c6) - (g : Int)).toNat by omega
  generalize someL (fc 6 c5) (fz 4 c6) acts = S at *
  generalize fc 6 c5 = w at *
  generalize fz 4 c6 = ag at *
  refine ⟨fun h => absurd h (by decide), fun _ => ⟨ha1, ⟨0, show ((0 : Nat) : Int) ≤ manyE w ag by omega, ⟨trivial, rfl, (Int.add_zero _).symm, rfl⟩, rfl, rfl, rfl, rfl, rfl, rfl, rfl, rfl, rfl⟩, fun g hgg => ⟨fun hc => ?_, fun hc => ?_⟩⟩⟩
  · have hlt : (g : Int) < manyE w ag := of_decide_eq_true (Bool.and_eq_true_iff.1 hc).1
    have hel := ends_len (c5 := w) (c6 := ag) (now := S.2) (ps := S.1) g
    have hl16 := hg.len
    have hnow : IntKind.i64.wrap (S.2 + (g : Int) + 1) = S.2 + ((g + 1 : Nat) : Int) := by rw [wrap_i64_id (by omega)]; omega
    rw [hnow]
    have l1 := lateL_len w ag (S.2 + ((g + 1 : Nat) : Int)) 64 (endsAt w ag S.2 S.1 g)
    have l2 : (lateL w ag (S.2 + ((g + 1 : Nat) : Int)) 64 (endsAt w ag S.2 S.1 g)).2.length ≤ (lateL w ag (S.2 + ((g + 1 : Nat) : Int)) 64 (endsAt w ag S.2 S.1 g)).1.length := (late_len w ag (S.2 + ((g + 1 : Nat) : Int)) 64 (endsAt w ag S.2 S.1 g) _).2
    refine ⟨show (endsAt w ag S.2 S.1 g).length * 40 ≤ 140737488355328 by omega, fun hx => ?_, fun _ => ⟨g + 1, show ((g + 1 : Nat) : Int) ≤ manyE w ag by omega, hmu g hlt, ⟨trivial, wrap_i64_id (by omega), rfl, rfl⟩, rfl, rfl, rfl, rfl, rfl, rfl, rfl, rfl, rfl⟩⟩
    rw [decide_eq_false (by omega), decide_eq_false (by omega)] at hx
    exact absurd hx (by decide)
  · have hgg : (g : Int) ≤ manyE w ag := hgg
    by_cases hl : (endsAt w ag S.2 S.1 g).length = 0
    · rw [hl]; rfl
    · have hlt : ¬ (g : Int) < manyE w ag := by
        intro hlt
        have h1 : decide ((g : Int) < manyE w ag) = true := decide_eq_true hlt
        have h2 : decide (((endsAt w ag S.2 S.1 g).length : Int) > 0) = true := decide_eq_true (by omega)
        have hc : (decide ((g : Int) < manyE w ag) && decide (((endsAt w ag S.2 S.1 g).length : Int) > 0)) = false := hc
        rw [h1, h2] at hc
        cases hc
      have hn := ends_nil hg h5'.1 (by omega) ⟨hn1, by omega⟩ (k := g) (by omega) (by omega)
      rw [hn] at hl
      exact absurd rfl hl
theorem okLEnds : FnOk Try.prog u 4 spLEnds := by
  refine fn_ok Try.prog u tab6 mo laws6 Try.func4 ?_
  intro xs c y h hc
  unfold spLEnds at h
  split at h
  · cases h
    exact ⟨by kernel_rfl, _, _, bodyLEnds _ _ _ _ _ _ _ _ _ _ hc⟩
  · cases h
theorem bodyLTwice (c0 c1 c2 c3 c4 c5 c6 c7 c8 : Int) (acts : List Act) (r : Int) (h : twiceOk acts c5 c6 r) : BodyOk Try.prog u tab6 [104008, 104009, 105010, 105011, 110013, 122131] [(0, .inv (annTwice (twL (fc 6 c5) (fz 4 c6) r acts).2.length)), (2, .see 56 (fun k => annTwiceI (twL (fc 6 c5) (fz 4 c6) r acts).1 (getP (twL (fc 6 c5) (fz 4 c6) r acts).2 k))), (4, .see 56 (fun k => annTwiceW (someL (fc 6 c5) (fz 4 c6) acts).1 (getP (twL (fc 6 c5) (fz 4 c6) r acts).2 k)))] Try.f5 [.agg (cho c0 c1 c2 c3 c4 c5 c6 c7 c8), .csl 51 acts, .int .u8 r] (.bool true) := by
  constructor
  have eqn : bodyW Try.prog u tab6 [104008, 104009, 105010, 105011, 110013, 122131] (drawW Try.prog u tab6) (loopsBy u [(0, .inv (annTwice (twL (fc 6 c5) (fz 4 c6) r acts).2.length)), (2, .see 56 (fun k => annTwiceI (twL (fc 6 c5) (fz 4 c6) r acts).1 (getP (twL (fc 6 c5) (fz 4 c6) r acts).2 k))), (4, .see 56 (fun k => annTwiceW (someL (fc 6 c5) (fz 4 c6) acts).1 (getP (twL (fc 6 c5) (fz 4 c6) r acts).2 k)))]) Try.f5 [.agg (cho c0 c1 c2 c3 c4 c5 c6 c7 c8), .csl 51 acts, .int .u8 r] (.bool true) = vcLTwice c0 c1 c2 c3 c4 c5 c6 c7 c8 acts r := by kernel_rfl
  rw [eqn]
  unfold vcLTwice
  obtain ⟨⟨ha1, ha2, h5, h6⟩, hr0, hr1⟩ := h
  have h5' := fc_eq (b := 6) (c := c5) (by omega) h5
  have h6' := fz_eq (b := 4) (c := c6) (by omega) h6
  obtain ⟨hg, hn1, hn2⟩ := someL_good (c5 := fc 6 c5) (c6 := fz 4 c6) ha2 (by omega)
  have hrr : IntKind.i64.wrap r = r := wrap_i64_id (by omega)
  have hnow : IntKind.i64.wrap ((someL (fc 6 c5) (fz 4 c6) acts).2 + fc 6 c5) = (someL (fc 6 c5) (fz 4 c6) acts).2 + fc 6 c5 := wrap_i64_id (by omega)
  obtain ⟨f1, f4⟩ := twice_at (c5 := fc 6 c5) (c6 := fz 4 c6) (now := IntKind.i64.wrap ((someL (fc 6 c5) (fz 4 c6) acts).2 + fc 6 c5)) (room := IntKind.i64.wrap r) (xs := (someL (fc 6 c5) (fz 4 c6) acts).1) (by rw [hrr]; exact hr0) _ (Nat.le_refl _)
  have f1 : ((twL (fc 6 c5) (fz 4 c6) r acts).2.length : Int) ≤ IntKind.i64.wrap r := f1
  have f4 : ∀ p ∈ (twL (fc 6 c5) (fz 4 c6) r acts).2, p ∈ (twL (fc 6 c5) (fz 4 c6) r acts).1 ∧ ∃ q ∈ (someL (fc 6 c5) (fz 4 c6) acts).1, p = againP (IntKind.i64.wrap ((someL (fc 6 c5) (fz 4 c6) acts).2 + fc 6 c5)) q ∧ q.tries < fz 4 c6 := f4
  have f2 : (twL (fc 6 c5) (fz 4 c6) r acts).1.length ≤ (someL (fc 6 c5) (fz 4 c6) acts).1.length := lateL_len _ _ _ _ _
  have f3 : (twL (fc 6 c5) (fz 4 c6) r acts).2.length ≤ (twL (fc 6 c5) (fz 4 c6) r acts).1.length := (late_len _ _ _ _ _ _).2
  have f5 : rightB (twL (fc 6 c5) (fz 4 c6) r acts).1 = true := (late_good (c5 := fc 6 c5) (room := IntKind.i64.wrap r) hg (by omega) ⟨show _ ≤ IntKind.i64.wrap ((someL (fc 6 c5) (fz 4 c6) acts).2 + fc 6 c5) by omega, by omega, by omega⟩).right
  have hT : twL (fc 6 c5) (fz 4 c6) r acts = lateL (fc 6 c5) (fz 4 c6) (IntKind.i64.wrap ((someL (fc 6 c5) (fz 4 c6) acts).2 + fc 6 c5)) (IntKind.i64.wrap r) (someL (fc 6 c5) (fz 4 c6) acts).1 := rfl
  have hl16 := hg.len
  refine ⟨fun h => absurd h (by decide), fun _ => ⟨ha1, fun n0 hn0 ps hps => ?_⟩⟩
  subst hn0 hps
  refine ⟨show (someL (fc 6 c5) (fz 4 c6) acts).1.length * 40 ≤ 140737488355328 by omega, fun ag hag l hl => ?_⟩
  rw [← hT] at hag hl
  subst hag hl
  generalize twL (fc 6 c5) (fz 4 c6) r acts = T at *
  generalize someL (fc 6 c5) (fz 4 c6) acts = S at *
  generalize fc 6 c5 = w at *
  generalize fz 4 c6 = a6 at *
  have hmu : ∀ {k n : Nat}, k < n → n - (k + 1) < n - k := fun h => by omega
  refine ⟨fun hx => ?_, fun _ => ⟨⟨0, Nat.zero_le _, ⟨trivial, rfl, rfl, rfl, rfl, rfl, rfl⟩, rfl, rfl, rfl, rfl, rfl, rfl, rfl, rfl, rfl⟩, fun g hgg => ⟨fun hlt => ?_, fun _ => ⟨show T.1.length < 9223372036854775808 by omega, f5⟩⟩⟩⟩
  · rw [decide_eq_false (by omega), decide_eq_false (by omega)] at hx
    exact absurd hx (by decide)
  have hlt := of_decide_eq_true hlt
  have hlt' : g < T.2.length := by omega
  refine ⟨⟨by omega, hlt⟩, fun x1 e1 x2 e2 x3 e3 x4 e4 x5 e5 => ?_⟩
  have e1 : x1 = (getP T.2 g).addr := e1
  have e2 : x2 = (getP T.2 g).id := e2
  have e3 : x3 = (getP T.2 g).num := e3
  have e4 : x4 = (getP T.2 g).sent := e4
  have e5 : x5 = (getP T.2 g).tries := e5
  subst e1 e2 e3 e4 e5
  refine ⟨⟨0, Nat.zero_le _, ⟨trivial, rfl, rfl, rfl, trivial, rfl, rfl, rfl, rfl, rfl, rfl, rfl, rfl⟩, ⟨rfl, rfl, rfl, rfl, rfl, rfl, rfl, rfl, rfl⟩, rfl, rfl, rfl, rfl, rfl⟩, fun j hj => ⟨fun hjl => ?_, fun hjg => ⟨⟨0, Nat.zero_le _, ⟨trivial, rfl, rfl, rfl, trivial, rfl, rfl, rfl, rfl, rfl, rfl, rfl, rfl⟩, ⟨rfl, rfl, rfl, rfl, rfl, rfl, rfl, rfl, rfl⟩, rfl, rfl, rfl, rfl, rfl⟩, fun i hi => ⟨fun hil => ?_, fun hig => fun o ho => ⟨fun hb => ?_, fun _ => ⟨g + 1, hlt', hmu hlt', ⟨trivial, rfl, rfl, rfl, rfl, rfl, wrap_next hlt (by omega)⟩, rfl, rfl, rfl, rfl, rfl, rfl, rfl, rfl, rfl⟩⟩⟩⟩⟩⟩
  · have hjl := of_decide_eq_true hjl
    have hjl' : j < T.1.length := by omega
    exact ⟨⟨by omega, hjl⟩, j + 1, hjl', hmu hjl', ⟨trivial, rfl, rfl, rfl, trivial, rfl, rfl, rfl, rfl, rfl, rfl, wrap_next hjl (by omega), (any_step (same5 (getP T.2 g)) T.1 j hjl').symm⟩, ⟨rfl, rfl, rfl, rfl, rfl, rfl, rfl, rfl, rfl⟩, rfl, rfl, rfl, rfl, rfl⟩
  · have hil := of_decide_eq_true hil
    have hil' : i < S.1.length := by omega
    exact ⟨⟨by omega, hil⟩, i + 1, hil', hmu hil', ⟨trivial, rfl, rfl, rfl, trivial, rfl, rfl, rfl, rfl, rfl, rfl, wrap_next hil (by omega), (any_step (wasP (getP T.2 g)) S.1 i hil').symm⟩, ⟨rfl, rfl, rfl, rfl, rfl, rfl, rfl, rfl, rfl⟩, rfl, rfl, rfl, rfl, rfl⟩
  · have hjg := of_decide_eq_false hjg
    have hig := of_decide_eq_false hig
    have hj : j ≤ T.1.length := hj
    have hi : i ≤ S.1.length := hi
    have hj' : j = T.1.length := by omega
    have hi' : i = S.1.length := by omega
    subst hj' hi'
    obtain ⟨m1, q, hq, hpq, hqt⟩ := f4 _ (getP_mem hlt')
    have b1 : (T.1.take T.1.length).any (same5 (getP T.2 g)) = true := by
      rw [List.take_length, List.any_eq_true]
      exact ⟨_, m1, same5_refl _⟩
    have hqr := hg.tries q hq
    have hw : IntKind.i64.wrap (q.tries + 1) = q.tries + 1 := wrap_i64_id (by omega)
    have b2 : (S.1.take S.1.length).any (wasP (getP T.2 g)) = true := by
      rw [List.take_length, List.any_eq_true]
      refine ⟨q, hq, ?_⟩
      rw [hpq]
      simp [wasP, againP]
    have b3 : ((getP T.2 g).sent != IntKind.i64.wrap (S.2 + w)) = false := by
      rw [hpq]
      show (clampT (IntKind.i64.wrap (S.2 + w)) != IntKind.i64.wrap (S.2 + w)) = false
      rw [clamp_id (by omega)]
      simp
    have b4 : decide ((getP T.2 g).tries > a6) = false := by
      rw [hpq]
      show decide (IntKind.i64.wrap (q.tries + 1) > a6) = false
      rw [hw]
      exact decide_eq_false (by omega)
    rw [ho, b1, b2, b3, b4] at hb
    exact absurd hb (by decide)
theorem okLTwice : FnOk Try.prog u 5 spLTwice := by
  refine fn_ok Try.prog u tab6 mo laws6 Try.func5 ?_
  intro xs c y h hc
  unfold spLTwice at h
  split at h
  · cases h
    exact ⟨by kernel_rfl, _, _, bodyLTwice _ _ _ _ _ _ _ _ _ _ _ hc⟩
  · cases h
end Go.Proofs.Ytnjildbclmglpaa.Pro
