/- Sightings: the laws SeenKeep, SeenApart, SeenNew, SeenForget, by the bodies' contracts. -/
import Derived.Test.YtcgeccpookgoeaaSeenVcC
namespace Go.Proofs.Ytcgeccpookgoeaa.Seen
open Go Go.Proofs.Ytcgeccpookgoeaa.Sx

theorem last_le {now : Int} {ks : List Known} {a : Int} (h : Good now ks) (hn : 0 ≤ now) : lastT ks a ≤ now := by
  unfold lastT
  split
  · rename_i hd
    have hd := of_decide_eq_true hd
    have hm : getS (seenK ks a) ((seenK ks a).length - 1) ∈ seenK ks a := getS_mem (by omega)
    cases hh : hasK ks a
    · rw [seen_none hh] at hd; exact absurd hd (by simp)
    · obtain ⟨x, hx, _, hxs⟩ := mem_of_has hh
      rw [hxs] at hm ⊢
      exact (h.one x hx).2.2 _ hm
  · exact hn
theorem filt_at (p : Known → Bool) {ks : List Known} {g : Nat} (hg : g < ks.length) (hp : p (getK ks g) = true) : ((ks.take g).filter p).length < (ks.filter p).length ∧ (ks.filter p).getD ((ks.take g).filter p).length zeroK = getK ks g ∧ ((ks.take (g + 1)).filter p).length = ((ks.take g).filter p).length + 1 := by
  have e : ks.filter p = (ks.take g).filter p ++ getK ks g :: (ks.drop (g + 1)).filter p := by
    have h1 : ks = ks.take g ++ ks.drop g := (List.take_append_drop g ks).symm
    have h2 : ks.drop g = getK ks g :: ks.drop (g + 1) := drop_getD ks g hg zeroK
    have h3 : (ks.drop g).filter p = getK ks g :: (ks.drop (g + 1)).filter p := by rw [h2, List.filter_cons_of_pos hp]
    rw [← h3, ← List.filter_append, List.take_append_drop]
  refine ⟨by rw [e, List.length_append, List.length_cons]; omega, ?_, ?_⟩
  · rw [e, List.getD_eq_getElem?_getD, List.getElem?_append_right (Nat.le_refl _), Nat.sub_self]
    rfl
  · rw [take_getD ks g hg zeroK, List.filter_append, List.length_append]
    have hp : p (ks.getD g zeroK) = true := hp
    rw [List.filter_cons_of_pos hp]
    rfl
theorem filt_skip (p : Known → Bool) {ks : List Known} {g : Nat} (hg : g < ks.length) (hp : p (getK ks g) = false) : (ks.take (g + 1)).filter p = (ks.take g).filter p := by
  have hp : p (ks.getD g zeroK) = false := hp
  rw [take_getD ks g hg zeroK, List.filter_append, List.filter_cons_of_neg (by rw [hp]; simp)]
  simp
theorem filt_next (p : Known → Bool) {ks : List Known} {g : Nat} (hg : g < ks.length) (hp : p (getK ks g) = true) : (ks.take (g + 1)).filter p = (ks.take g).filter p ++ [getK ks g] := by
  have hp' : p (ks.getD g zeroK) = true := hp
  rw [take_getD ks g hg zeroK, List.filter_append, List.filter_cons_of_pos hp']
  rfl
theorem bodyWant (a : Int) (odd : Bool) : BodyOk Try.prog u tab6 [] [] Try.f21 [.int .u32 a, .cptr [.bool odd] 0] (.bool (wantA odd a)) := by
  constructor
  have eqn : bodyW Try.prog u tab6 [] (drawW Try.prog u tab6) (loopsBy u []) Try.f21 [.int .u32 a, .cptr [.bool odd] 0] (.bool (wantA odd a)) = vcWant a odd := by kernel_rfl
  rw [eqn]
  exact ⟨by decide, rfl⟩
theorem okWant : FnOk Try.prog u 21 spWant := by
  refine fn_ok Try.prog u tab6 mo laws6 Try.func21 ?_
  intro xs c y h hc
  unfold spWant at h
  split at h
  · cases h
    exact ⟨by kernel_rfl, _, _, bodyWant _ _⟩
  · cases h
theorem laws7 : Laws Try.prog u tab7 := by
  refine ⟨law, clean, fun p hp => ?_⟩
  rcases List.mem_cons.1 hp with rfl | hp
  · exact okWant
  exact laws6.tab p hp
theorem bodyForget (ks : List Known) (odd : Bool) (h : ks.length * 32 ≤ 140737488355328) : BodyOkH Try.prog u tab7 [] [(0, .inv (annForget odd ks))] Try.f20 [.csl 53 ks, .fn 21 [.optr 0 0]] [.var [.bool odd]] (.orow 1) [.var [.bool odd], .row 53 (ks.filter (wantK odd))] := by
  constructor
  have eqn : bodyH Try.prog u tab7 [] (drawW Try.prog u tab7) (loopsBy u [(0, .inv (annForget odd ks))]) Try.f20 [.csl 53 ks, .fn 21 [.optr 0 0]] [.var [.bool odd]] (.orow 1) [.var [.bool odd], .row 53 (ks.filter (wantK odd))] = vcForget ks odd := by kernel_rfl
  rw [eqn]
  unfold vcForget
  refine ⟨⟨0, Nat.zero_le _, ⟨⟨rfl, trivial⟩, rfl, rfl, rfl, trivial⟩, rfl, rfl⟩, fun g hg => ⟨fun hlt => ?_, fun hge => ?_⟩⟩
  · have hlt := of_decide_eq_true hlt
    have hlt' : g < ks.length := by omega
    have hmu : (annForget odd ks).μ (g + 1) < (annForget odd ks).μ g := show ks.length - (g + 1) < ks.length - g by omega
    have hl : ((ks.take g).filter (wantK odd)).length ≤ g := Nat.le_trans (List.length_filter_le _ _) (by rw [List.length_take]; omega)
    refine ⟨⟨by omega, hlt⟩, fun hw => ⟨?_, g + 1, hlt', hmu, ⟨⟨rfl, trivial⟩, rfl, rfl, wrap_next hlt (by omega), trivial⟩, rfl, (filt_next (wantK odd) hlt' hw).symm⟩, fun hw => ⟨g + 1, hlt', hmu, ⟨⟨rfl, trivial⟩, rfl, rfl, wrap_next hlt (by omega), trivial⟩, rfl, (filt_skip (wantK odd) hlt' hw).symm⟩⟩
    show (((ks.take g).filter (wantK odd)).length + 1) * 32 ≤ 140737488355328
    omega
  · have hge := of_decide_eq_false hge
    have hg : g ≤ ks.length := hg
    have : g = ks.length := by omega
    subst this
    rw [List.take_length]
    exact ⟨trivial, ⟨rfl, rfl⟩, trivial⟩
theorem okForget : FnOkH Try.prog u 20 hForget := by
  refine fn_okH Try.prog u tab7 mo laws7 Try.func20 ?_
  intro xs os c y os2 h hc
  unfold hForget at h
  split at h
  · cases h
    exact ⟨_, _, bodyForget _ _ hc⟩
  · cases h
theorem laws8 : Laws Try.prog u tab8 := by
  refine ⟨law, clean, fun p hp => ?_⟩
  rcases List.mem_cons.1 hp with rfl | hp
  · exact okForget
  exact laws7.tab p hp
theorem bodyLKeep (ss : List Sight) (s a b c d e f t : Int) (h : lenOk ss) : BodyOk Try.prog u tab8 [103000] [] Try.f4 [.csl 35 ss, .agg [.int .i64 s, .int .u8 a, .int .u8 b, .int .u8 c, .int .u8 d, .int .u8 e, .int .u8 f, .int .i64 t]] (.bool true) := by
  constructor
  have eqn : bodyW Try.prog u tab8 [103000] (drawW Try.prog u tab8) (loopsBy u []) Try.f4 [.csl 35 ss, .agg [.int .i64 s, .int .u8 a, .int .u8 b, .int .u8 c, .int .u8 d, .int .u8 e, .int .u8 f, .int .i64 t]] (.bool true) = vcLKeep ss s a b c d e f t := by kernel_rfl
  rw [eqn]
  unfold vcLKeep
  have h : ss.length < 9223372036854775808 := h
  have hm : 0 ≤ mn (ss.length : Int) 50 ∧ mn (ss.length : Int) 50 ≤ ss.length ∧ mn (ss.length : Int) 50 ≤ 50 := by unfold mn; split <;> omega
  refine ⟨fun h => absurd h (by decide), fun _ => ⟨⟨by decide, hm.1, hm.2.1⟩, fun v hv => ?_⟩⟩
  have hvl : v.length ≤ 50 := by rw [hv, List.length_drop, List.length_take]; omega
  generalize (⟨s, ⟨a, b, c, d, e, f⟩, t⟩ : Sight) = x
  have hl : (v ++ [x]).length = v.length + 1 := by simp
  have hw : IntKind.i64.wrap (((v ++ [x]).length : Int) - 8) = ((v ++ [x]).length : Int) - 8 := wrap_i64_id (by omega)
  rw [hw]
  have hmx : 0 ≤ mx 0 (((v ++ [x]).length : Int) - 8) ∧ mx 0 (((v ++ [x]).length : Int) - 8) ≤ ((v ++ [x]).length : Int) := by unfold mx; split <;> omega
  have he : List.take ((((v ++ [x]).length : Nat) : Int).toNat - (mx 0 (((v ++ [x]).length : Int) - 8)).toNat) (List.drop (0 + (mx 0 (((v ++ [x]).length : Int) - 8)).toNat) (v ++ [x])) = keepL v x := by
    rw [Nat.zero_add, List.take_of_length_le (by rw [List.length_drop]; omega)]
    rfl
  rw [he]
  have hk := keep_len v x
  have hk2 : (keepL v x).length < 9223372036854775808 := by omega
  exact ⟨by omega, by omega, show (v.length + 1) * 24 ≤ 140737488355328 by omega, ⟨hmx.1, hmx.2, Int.le_refl _⟩, ⟨hk2, hk2⟩, same_refl _⟩
theorem okLKeep : FnOk Try.prog u 4 spLKeep := by
  refine fn_ok Try.prog u tab8 mo laws8 Try.func4 ?_
  intro xs c y h hc
  unfold spLKeep at h
  split at h
  · cases h
    exact ⟨by kernel_rfl, _, _, bodyLKeep _ _ _ _ _ _ _ _ _ hc⟩
  · cases h
theorem bodyLApart (acts : List Act) (a b c d : Int) (h : apartOk acts ⟨a, b, c, d⟩) : BodyOk Try.prog u tab8 [103005, 103006, 105008, 105009, 111068, 114012] [(0, .inv (annApart (someL acts).1))] Try.f6 [.csl 28 acts, .agg [.int .u8 a, .int .u8 b, .int .u8 c, .int .u8 d]] (.bool true) := by
  constructor
  have eqn : bodyW Try.prog u tab8 [103005, 103006, 105008, 105009, 111068, 114012] (drawW Try.prog u tab8) (loopsBy u [(0, .inv (annApart (someL acts).1))]) Try.f6 [.csl 28 acts, .agg [.int .u8 a, .int .u8 b, .int .u8 c, .int .u8 d]] (.bool true) = vcLApart acts a b c d := by kernel_rfl
  rw [eqn]
  unfold vcLApart
  obtain ⟨ha, ho⟩ := h
  obtain ⟨hg, hn, _⟩ := someL_good ha.2
  refine ⟨fun h => absurd h (by decide), fun _ => ⟨ha, fun now hnow ks hks => ?_⟩⟩
  rw [← hks, ← hnow] at hg
  rw [← hnow] at hn
  obtain ⟨p1, p2, p3⟩ := put_good (a := nearA a) (s := sightA ⟨a, b, c, d⟩ now) hg hn.1 (sight_rng ho) (Int.le_refl _) (near_rng ho.1)
  have hsl := hg.slen
  have hlen := hg.len
  refine ⟨hg.size, fun e he l hl => ?_⟩
  have he : e = putE ks (nearA a) (sightA ⟨a, b, c, d⟩ now) := he
  have hl : l = putL ks (nearA a) (sightA ⟨a, b, c, d⟩ now) := hl
  rw [p1] at he
  have hl : l = putNew ks (nearA a) (sightA ⟨a, b, c, d⟩ now) := by rw [hl]; unfold putL; rw [p1]; rfl
  rw [← hl] at p2 p3
  have hsl2 := p2.slen
  have hsort := srt_sorted hg.srt
  subst he
  rw [← hks]
  refine ⟨fun h => absurd h (by decide), fun _ => ⟨⟨0, Nat.zero_le _, ⟨trivial, rfl, rfl, rfl, rfl, rfl, rfl, rfl⟩, rfl, rfl, rfl, rfl⟩, fun g hgg => ⟨fun hlt => ?_, fun _ => ⟨hsl2, fun w hw => ?_⟩⟩⟩⟩
  · have hlt := of_decide_eq_true hlt
    have hlt' : g < ks.length := by omega
    have hm := getK_mem hlt'
    have hz := (hg.one _ hm).1
    have hsk := (seen_of_mem hsort hm).2
    have hzk : (getK ks g).seen.length < 9223372036854775808 := by omega
    have hz1 : (seenK l (getK ks g).addr).length < 9223372036854775808 := by
      rw [p3]
      split
      · rw [keep_len]; omega
      · rw [hsk]; omega
    have hz2 : (seenK ks (nearA a)).length < 9223372036854775808 := by
      cases hh : hasK ks (nearA a)
      · rw [seen_none hh]; decide
      · obtain ⟨x, hx, _, hxs⟩ := mem_of_has hh
        rw [hxs]
        have := (hg.one x hx).1
        omega
    refine ⟨⟨by omega, hlt⟩, fun _ => hsl2, fun _ => ⟨hz1, hzk⟩, fun _ _ => hsl, fun _ _ => ⟨hz2, hzk⟩, fun v hv => ?_⟩
    have hv : v = ((getK ks g).addr != nearA a && !sameL (seenK l (getK ks g).addr) (getK ks g).seen || (getK ks g).addr == nearA a && !sameL (seenK ks (nearA a)) (getK ks g).seen) := hv
    have hvf : v = false := by
      rw [hv]
      by_cases hb : (getK ks g).addr = nearA a
      · rw [← hb, hsk, same_refl]
        simp
      · rw [p3, if_neg hb, hsk, same_refl]
        simp only [Bool.not_true, Bool.and_false, Bool.false_or]
        rw [show ((getK ks g).addr == nearA a) = false by simpa using hb]
        rfl
    refine ⟨fun h => (by rw [hvf] at h; cases h), fun _ => ⟨g + 1, hlt', show ks.length - (g + 1) < ks.length - g by omega, ⟨trivial, rfl, rfl, rfl, rfl, rfl, rfl, wrap_next hlt (by omega)⟩, rfl, rfl, rfl, rfl⟩⟩
  · have hw : w = keepL (seenK ks (nearA a)) (sightA ⟨a, b, c, d⟩ now) := by rw [hw, p3, if_pos rfl]
    have hkl := keep_len (seenK ks (nearA a)) (sightA ⟨a, b, c, d⟩ now)
    have hla := keep_last (seenK ks (nearA a)) (sightA ⟨a, b, c, d⟩ now)
    rw [← hw] at hkl hla
    have hwr : IntKind.i64.wrap ((w.length : Int) - 1) = ((w.length - 1 : Nat) : Int) := by rw [wrap_i64_id (by omega)]; omega
    rw [hwr]
    refine ⟨fun _ => ⟨by omega, by omega⟩, ?_⟩
    show (decide ((w.length : Int) > 0) && same8 (getS w (w.length - 1)) (sightA ⟨a, b, c, d⟩ now)) = true
    rw [hla, same8_refl, decide_eq_true (by omega)]
    rfl
theorem okLApart : FnOk Try.prog u 6 spLApart := by
  refine fn_ok Try.prog u tab8 mo laws8 Try.func6 ?_
  intro xs c y h hc
  unfold spLApart at h
  split at h
  · cases h
    exact ⟨by kernel_rfl, _, _, bodyLApart _ _ _ _ _ hc⟩
  · cases h
theorem bodyLNew (acts : List Act) (n : Int) (h : newOk acts n) : BodyOk Try.prog u tab8 [103005, 103006, 105008, 113012, 113013] [(0, .inv (annNew (nearA n) (headS acts 120)))] Try.f7 [.csl 28 acts, .int .u8 n] (.bool true) := by
  constructor
  have eqn : bodyW Try.prog u tab8 [103005, 103006, 105008, 113012, 113013] (drawW Try.prog u tab8) (loopsBy u [(0, .inv (annNew (nearA n) (headS acts 120)))]) Try.f7 [.csl 28 acts, .int .u8 n] (.bool true) = vcLNew acts n := by kernel_rfl
  rw [eqn]
  unfold vcLNew
  obtain ⟨ha, ho⟩ := h
  obtain ⟨hg, hn, hc⟩ := someL_good ha.2
  have hal : acts.length < 9223372036854775808 := ha.1
  have hm : 0 ≤ mn (acts.length : Int) 120 ∧ mn (acts.length : Int) 120 ≤ acts.length := by unfold mn; split <;> omega
  have hh := headS_le acts 120 (by decide)
  refine ⟨fun h => absurd h (by decide), fun _ => ⟨ha, fun now hnow ks hks => ?_⟩⟩
  rw [← hks, ← hnow] at hg
  rw [← hnow] at hn
  rw [← hks] at hc
  have hc := hc (nearA n)
  have hsl := hg.slen
  have hcle : ∀ k, cameN (nearA n) (headS acts 120) k ≤ k := by
    intro k
    induction k with
    | zero => exact Nat.le_refl _
    | succ k ih => rw [cameN]; split <;> omega
  refine ⟨hsl, fun ss hss => ⟨⟨by decide, hm.1, hm.2⟩, ⟨0, Nat.zero_le _, rfl, rfl, rfl, rfl, rfl, rfl, rfl, rfl⟩, fun g hgg => ⟨fun hlt => ?_, fun hge => ⟨hsl, fun o ho2 t ht => ?_⟩⟩⟩⟩
  · have hlt : (g : Int) < ((headS acts 120).length : Int) := of_decide_eq_true hlt
    have hlt' : g < (headS acts 120).length := by omega
    have hcg := hcle g
    refine ⟨⟨by omega, hlt⟩, fun _ => trivial, fun _ => trivial, fun v hv => ⟨g + 1, hlt', show (headS acts 120).length - (g + 1) < (headS acts 120).length - g by omega, rfl, rfl, rfl, rfl, rfl, rfl, wrap_next hlt (by omega), ?_⟩⟩
    have hv : v = if (nearA (getA (headS acts 120) g).addr == nearA n) = true then IntKind.i64.wrap ((cameN (nearA n) (headS acts 120) g : Int) + 1) else (cameN (nearA n) (headS acts 120) g : Int) := hv
    rw [hv, cameN]
    split
    · rw [wrap_i64_id (by omega)]; omega
    · omega
  · have hge : ¬ (g : Int) < ((headS acts 120).length : Int) := of_decide_eq_false hge
    have hgg : g ≤ (headS acts 120).length := hgg
    have : g = (headS acts 120).length := by omega
    subst this
    rw [← hss] at hc
    generalize cameN (nearA n) (headS acts 120) (headS acts 120).length = cm at *
    have hmn : mn (cm : Int) 8 = (ss.length : Int) := by rw [hc]; unfold mn; split <;> omega
    have hlb : o = decide ((cm : Int) > 0) := by
      rw [ho2]
      unfold lastB
      rw [← hss]
      by_cases h0 : ss.length > 0
      · rw [decide_eq_true h0, decide_eq_true (by omega)]
      · rw [decide_eq_false h0, decide_eq_false (by omega)]
    have hpos : o = true → ss.length > 0 := by
      intro h
      rw [hlb] at h
      have := of_decide_eq_true h
      omega
    have hwr : ss.length > 0 → IntKind.i64.wrap ((ss.length : Int) - 1) = ((ss.length - 1 : Nat) : Int) := by
      intro h
      rw [wrap_i64_id (by omega)]; omega
    have hle : t ≤ now := by rw [ht]; exact last_le hg hn.1
    refine ⟨fun _ ho3 _ => ?_, ?_⟩
    · have h0 := hpos (by simpa using ho3)
      rw [hwr h0]
      omega
    · rw [hmn, ← hlb, show ((ss.length : Int) == (ss.length : Int)) = true from beq_self_eq_true _, show (o == o) = true from beq_self_eq_true _, decide_eq_true hle]
      cases o
      · rfl
      · have h0 := hpos rfl
        rw [hwr h0]
        have : t = (getS ss (ss.length - 1)).time := by
          rw [ht, hss]
          unfold lastT
          rw [if_pos (decide_eq_true (by rw [← hss]; exact h0))]
        show (true && true && (!true || true && (t == (getS ss (ss.length - 1)).time))) = true
        rw [this]
        simp
theorem okLNew : FnOk Try.prog u 7 spLNew := by
  refine fn_ok Try.prog u tab8 mo laws8 Try.func7 ?_
  intro xs c y h hc
  unfold spLNew at h
  split at h
  · cases h
    exact ⟨by kernel_rfl, _, _, bodyLNew _ _ hc⟩
  · cases h
theorem bodyLForget (acts : List Act) (odd : Bool) (h : actsOk acts) : BodyOk Try.prog u tab8 [103005, 104007, 112063] [(0, .inv (annForgetL odd (someL acts).1))] Try.f8 [.csl 28 acts, .bool odd] (.bool true) := by
  constructor
  have eqn : bodyW Try.prog u tab8 [103005, 104007, 112063] (drawW Try.prog u tab8) (loopsBy u [(0, .inv (annForgetL odd (someL acts).1))]) Try.f8 [.csl 28 acts, .bool odd] (.bool true) = vcLForget acts odd := by kernel_rfl
  rw [eqn]
  unfold vcLForget
  obtain ⟨hg, hn, _⟩ := someL_good h.2
  refine ⟨fun h => absurd h (by decide), fun _ => ⟨h, fun ks hks => ?_⟩⟩
  rw [← hks] at hg ⊢
  have hlen := hg.len
  have hf : Good (someL acts).2 (ks.filter (wantK odd)) := hg.sub List.filter_sublist
  have hfl := hf.len
  refine ⟨by omega, fun l hl => ?_⟩
  subst hl
  refine ⟨⟨0, Nat.zero_le _, ⟨trivial, rfl, rfl, rfl, rfl, rfl, rfl⟩, rfl⟩, fun g hgg => ⟨fun hlt => ?_, fun hge => ?_⟩⟩
  · have hlt := of_decide_eq_true hlt
    have hlt' : g < ks.length := by omega
    have hmu : (annForgetL odd ks).μ (g + 1) < (annForgetL odd ks).μ g := show ks.length - (g + 1) < ks.length - g by omega
    refine ⟨⟨by omega, hlt⟩, by decide, fun hw => ?_, fun hw => ?_⟩
    · have hw : (!wantK odd (getK ks g)) = true := hw
      have hw : wantK odd (getK ks g) = false := by simpa using hw
      have hs0 : seenK (ks.filter (wantK odd)) (getK ks g).addr = [] := by
        refine seen_of_not fun x hx hxa => ?_
        have h1 := (List.mem_filter.1 hx).2
        have h2 : wantA odd x.addr = true := h1
        rw [hxa] at h2
        have h3 : wantA odd (getK ks g).addr = false := hw
        rw [h3] at h2
        cases h2
      have hs1 : ((seenK (ks.filter (wantK odd)) (getK ks g).addr).length : Int) = 0 := by rw [hs0]; rfl
      refine ⟨hf.slen, fun hx => ?_, fun _ => ⟨g + 1, hlt', hmu, ⟨trivial, rfl, rfl, rfl, wrap_next hlt (by omega), ?_, rfl⟩, rfl⟩⟩
      · have hx : (((seenK (ks.filter (wantK odd)) (getK ks g).addr).length : Int) != 0) = true := hx
        rw [hs1] at hx
        exact absurd hx (by decide)
      · rw [filt_skip (wantK odd) hlt' hw]
    · have hw : (!wantK odd (getK ks g)) = false := hw
      have hw : wantK odd (getK ks g) = true := by simpa using hw
      obtain ⟨f1, f2, f3⟩ := filt_at (wantK odd) hlt' hw
      have hz := (hg.one _ (getK_mem hlt')).1
      have hz1 : ((ks.filter (wantK odd)).getD ((ks.take g).filter (wantK odd)).length zeroK).seen.length < 9223372036854775808 := by rw [f2]; omega
      have hz2 : (getK ks g).seen.length < 9223372036854775808 := by omega
      refine ⟨fun _ => ⟨by omega, by omega⟩, fun _ => ⟨by omega, by omega⟩, fun _ => ⟨hz1, hz2⟩, fun v hv => ?_⟩
      have hv : v = (decide ((((ks.take g).filter (wantK odd)).length : Int) ≥ ((ks.filter (wantK odd)).length : Int)) || ((ks.filter (wantK odd)).getD ((ks.take g).filter (wantK odd)).length zeroK).addr != (getK ks g).addr || !sameL ((ks.filter (wantK odd)).getD ((ks.take g).filter (wantK odd)).length zeroK).seen (getK ks g).seen) := hv
      have hvf : v = false := by
        rw [hv, f2, same_refl, decide_eq_false (by omega)]
        simp
      refine ⟨fun h => (by rw [hvf] at h; cases h), fun _ => ⟨g + 1, hlt', hmu, ⟨trivial, rfl, rfl, rfl, wrap_next hlt (by omega), ?_, rfl⟩, rfl⟩⟩
      rw [f3, wrap_i64_id (by omega)]
      omega
  · have hge := of_decide_eq_false hge
    have hgg : g ≤ ks.length := hgg
    have : g = ks.length := by omega
    subst this
    rw [List.take_length]
    refine ⟨fun _ => hf.row, ?_⟩
    rw [hf.right]
    simp
theorem okLForget : FnOk Try.prog u 8 spLForget := by
  refine fn_ok Try.prog u tab8 mo laws8 Try.func8 ?_
  intro xs c y h hc
  unfold spLForget at h
  split at h
  · cases h
    exact ⟨by kernel_rfl, _, _, bodyLForget _ _ hc⟩
  · cases h
end Go.Proofs.Ytcgeccpookgoeaa.Seen
