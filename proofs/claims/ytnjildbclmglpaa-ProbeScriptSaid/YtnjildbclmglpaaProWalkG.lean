/- Questions that wait: the law ProbeScript, by the bodies' contracts. -/
import Derived.Test.YtnjildbclmglpaaProVcG
import Derived.Test.YtnjildbclmglpaaProMathB
namespace Go.Proofs.Ytnjildbclmglpaa.Pro
open Go Go.Proofs.Ytnjildbclmglpaa.Sx

theorem bodyLScr (c0 c1 c2 c3 c4 c5 c6 c7 c8 : Int) (acts : List Act) (h : scrOk acts c5 c6) : BodyOk Try.prog u tab8 [] [(0, .inv (annScr (fc 6 c5) (fz 4 c6) (headS acts 120))), (2, .see 36 (annScrI (fc 6 c5) (fz 4 c6) (headS acts 120)))] Try.f7 [.agg (cho c0 c1 c2 c3 c4 c5 c6 c7 c8), .csl 51 acts] (.bool true) := by
  constructor
  have eqn : bodyW Try.prog u tab8 [] (drawW Try.prog u tab8) (loopsBy u [(0, .inv (annScr (fc 6 c5) (fz 4 c6) (headS acts 120))), (2, .see 36 (annScrI (fc 6 c5) (fz 4 c6) (headS acts 120)))]) Try.f7 [.agg (cho c0 c1 c2 c3 c4 c5 c6 c7 c8), .csl 51 acts] (.bool true) = vcLScr c0 c1 c2 c3 c4 c5 c6 c7 c8 acts := by kernel_rfl
  rw [eqn]
  unfold vcLScr
  obtain ⟨hl, hn, h5, h6⟩ := h
  have hl : acts.length < 9223372036854775808 := hl
  have h5' := fc_eq (b := 6) (c := c5) (by omega) h5
  have h6' := fz_eq (b := 4) (c := c6) (by omega) h6
  have hh : nOk2 (headS acts 120) := fun x hx => hn x (List.mem_of_mem_take (List.mem_of_mem_drop hx))
  have hhl := headS_le acts 120 (by decide)
  refine ⟨fun h => absurd h (by decide), fun _ => ⟨⟨Int.le_refl _, by unfold mn; split <;> omega, by unfold mn; split <;> omega⟩, ⟨0, Nat.zero_le _, ⟨trivial, rfl, rfl, rfl, rfl, rfl⟩, rfl, rfl, rfl, rfl, rfl, rfl, rfl, rfl, rfl⟩, fun g hg => ⟨fun hlt => ?_, fun _ => rfl⟩⟩⟩
  have hlt : (g : Int) < ((headS acts 120).length : Int) := of_decide_eq_true hlt
  have hlt' : g < (headS acts 120).length := by omega
  obtain ⟨hg1, hg2, hg3⟩ := scr_good hh (c5 := fc 6 c5) (c6 := fz 4 c6) (by omega) g (by omega) (by omega)
  have ha := hh _ (getA_mem hlt')
  have hw := wrap_next hlt (by omega)
  have hmu : (annScr (fc 6 c5) (fz 4 c6) (headS acts 120)).μ (g + 1) < (annScr (fc 6 c5) (fz 4 c6) (headS acts 120)).μ g := show (headS acts 120).length - (g + 1) < (headS acts 120).length - g by omega
  have hmi : ∀ j, j < (scrAt (fc 6 c5) (fz 4 c6) (headS acts 120) g).1.length → (annScrI (fc 6 c5) (fz 4 c6) (headS acts 120) g).μ (j + 1) < (annScrI (fc 6 c5) (fz 4 c6) (headS acts 120) g).μ j := fun j hj => show (scrAt (fc 6 c5) (fz 4 c6) (headS acts 120) g).1.length - (j + 1) < (scrAt (fc 6 c5) (fz 4 c6) (headS acts 120) g).1.length - j by omega
  have st1 := fun h => (rfl : scrAt (fc 6 c5) (fz 4 c6) (headS acts 120) (g + 1) = scrStep (fc 6 c5) (fz 4 c6) (scrAt (fc 6 c5) (fz 4 c6) (headS acts 120) g) (getA (headS acts 120) g)).trans (scr_1 h)
  have st2 := fun h h2 => (rfl : scrAt (fc 6 c5) (fz 4 c6) (headS acts 120) (g + 1) = scrStep (fc 6 c5) (fz 4 c6) (scrAt (fc 6 c5) (fz 4 c6) (headS acts 120) g) (getA (headS acts 120) g)).trans (scr_2 h h2)
  have st3 := fun h h2 => (rfl : scrAt (fc 6 c5) (fz 4 c6) (headS acts 120) (g + 1) = scrStep (fc 6 c5) (fz 4 c6) (scrAt (fc 6 c5) (fz 4 c6) (headS acts 120) g) (getA (headS acts 120) g)).trans (scr_3 h h2)
  have ha0 : (List.drop 0 (List.take (mn (acts.length : Int) 120).toNat acts)).getD (g : Int).toNat (u.dflt 51) = getA (headS acts 120) g := rfl
  generalize hga : getA (headS acts 120) g = a at *
  generalize hgb : (List.drop 0 (List.take (mn (acts.length : Int) 120).toNat acts)).getD (g : Int).toNat (u.dflt 51) = a' at *
  cases ha0
  generalize (scrAt (fc 6 c5) (fz 4 c6) (headS acts 120) g).1 = ps at *
  generalize (scrAt (fc 6 c5) (fz 4 c6) (headS acts 120) g).2 = now at *
  have hnr := near_u32 a.addr
  have hlen16 := hg1.len
  have hlen : ps.length < 9223372036854775808 := by omega
  refine ⟨⟨by omega, hlt⟩, ⟨0, Nat.zero_le _, ⟨trivial, rfl, rfl, trivial, rfl, rfl, rfl, rfl, rfl, rfl, rfl, rfl⟩, ⟨rfl, rfl, rfl, rfl, rfl, rfl, rfl, rfl, rfl⟩, rfl, rfl, rfl, rfl⟩, fun j hj => ⟨fun hjl => ?_, fun hjg => ?_⟩⟩
  · have hjl := of_decide_eq_true hjl
    have hjl' : j < ps.length := by omega
    exact ⟨⟨by omega, hjl⟩, fun _ => trivial, fun _ => trivial, fun v hv => ⟨j + 1, hjl', hmi j hjl', ⟨trivial, rfl, rfl, trivial, rfl, rfl, rfl, rfl, rfl, rfl, wrap_next hjl hlen, hv⟩, ⟨rfl, rfl, rfl, rfl, rfl, rfl, rfl, rfl, rfl⟩, rfl, rfl, rfl, rfl⟩⟩
  · have hjg := of_decide_eq_false hjg
    have hj : j ≤ ps.length := hj
    have hje : j = ps.length := by omega
    subst hje
    rw [show lastTo (nearA a.addr) ps ps.length = lastI (nearA a.addr) ps from rfl]
    have hr := last_rng (nearA a.addr) ps
    refine ⟨by decide, fun h0 => ?_, fun h0 => ⟨fun h1 => ?_, fun h1 => ?_⟩⟩
    · have st1 := st1 h0
      have hns := now_step ha.1 (show 0 ≤ now ∧ now ≤ 100000 by omega)
      rw [show IntKind.i64.wrap (now + IntKind.i64.wrap (a.n.tmod 5)) = nowStep now a from rfl]
      rw [late_same hg1 (show now ≤ nowStep now a ∧ 0 ≤ nowStep now a ∧ nowStep now a ≤ 1099511627776 by omega), same_refl, same_refl]
      have hll := late_len (fc 6 c5) (fz 4 c6) (nowStep now a) (IntKind.i64.wrap (a.n.tmod 7)) ps ps.length
      have hl1 : (lateL (fc 6 c5) (fz 4 c6) (nowStep now a) (IntKind.i64.wrap (a.n.tmod 7)) ps).1.length < 9223372036854775808 := Nat.lt_of_le_of_lt hll.1 hlen
      have hl2 : (lateL (fc 6 c5) (fz 4 c6) (nowStep now a) (IntKind.i64.wrap (a.n.tmod 7)) ps).2.length < 9223372036854775808 := Nat.lt_of_le_of_lt (Nat.le_trans hll.2 hll.1) hlen
      have hlg := late_good (c5 := fc 6 c5) (room := IntKind.i64.wrap (a.n.tmod 7)) hg1 (show 0 ≤ fz 4 c6 ∧ fz 4 c6 ≤ 8 by omega) (show now ≤ nowStep now a ∧ 0 ≤ nowStep now a ∧ nowStep now a ≤ 1099511627776 by omega)
      refine ⟨by decide, by decide, show ps.length * 40 ≤ 140737488355328 by omega, by decide, show ps.length * 40 ≤ 140737488355328 by omega, ⟨hl1, hl1⟩, fun _ => ⟨hl2, hl2⟩, fun hc => absurd hc (by decide), fun _ => ⟨hl1, fun hc => ?_, fun _ => ⟨g + 1, hlt', hmu, ⟨trivial, rfl, rfl, hw, by rw [st1], by rw [st1]⟩, rfl, rfl, rfl, rfl, rfl, rfl, rfl, rfl, rfl⟩⟩⟩
      rw [hlg.right] at hc
      cases hc
    · have st2 := st2 h0 h1
      refine ⟨by decide, by decide, fun _ => by decide, ?_⟩
      generalize h8' : ps.getD (lastI (nearA a.addr) ps).toNat (u.dflt 29) = q
      have h8 : getP ps (lastI (nearA a.addr) ps).toNat = q := h8'
      rw [show (nearA a.addr).tmod 65536 = (nearA a.addr).tmod 65536 from rfl]
      refine ⟨fun h33 => ?_, fun h33 => ?_⟩
      · have hb0 : 0 ≤ lastI (nearA a.addr) ps ∧ lastI (nearA a.addr) ps < (ps.length : Int) := by
          have h34 := h33
          rw [Bool.and_eq_true] at h34
          have := of_decide_eq_true h34.1
          omega
        have hm := match_all hg1 hnr (decide (a.n.tmod 5 > 0)) (q.num)
        rw [h8] at hm
        rw [hm.1, hm.2]
        have hst : okA ps a = (decide (lastI (nearA a.addr) ps ≥ 0) && decide (a.n.tmod 5 > 0) && q.num == q.num) := by
          unfold okA seqA
          rw [h8, if_pos h33]
        rw [hst] at st2
        have hbnd : (decide (lastI (nearA a.addr) ps ≥ 0) && decide (a.n.tmod 5 > 0)) = true → 0 ≤ lastI (nearA a.addr) ps ∧ lastI (nearA a.addr) ps < (ps.length : Int) := fun hc => by
          rw [Bool.and_eq_true] at hc
          have := of_decide_eq_true hc.1
          omega
        have hge : (decide (lastI (nearA a.addr) ps ≥ 0) && decide (a.n.tmod 5 > 0) && q.num == q.num) = true → 0 ≤ lastI (nearA a.addr) ps := fun hc => by
          rw [Bool.and_eq_true] at hc
          exact (hbnd hc.1).1
        cases hok : (decide (lastI (nearA a.addr) ps ≥ 0) && decide (a.n.tmod 5 > 0) && q.num == q.num)
        · rw [hok] at st2
          refine ⟨hb0, hbnd, by omega, fun hc => (by exfalso; simp at hc), fun _ => ⟨fun hc => absurd hc (by decide), fun _ => ⟨hlen, fun hc => ?_, fun _ => ⟨g + 1, hlt', hmu, ⟨trivial, rfl, rfl, hw, by rw [st2]; rfl, by rw [st2]⟩, rfl, rfl, rfl, rfl, rfl, rfl, rfl, rfl, rfl⟩⟩⟩⟩
          rw [hg1.right] at hc
          cases hc
        · rw [hok] at st2
          have hL0 := hge hok
          have hcl := cut_len ps (lastI (nearA a.addr) ps).toNat (by omega)
          have h7 : List.drop 0 (List.take (lastI (nearA a.addr) ps).toNat ps) ++ List.drop (IntKind.i64.wrap (lastI (nearA a.addr) ps + 1)).toNat (List.take (ps.length : Int).toNat ps) = cutAt ps (lastI (nearA a.addr) ps).toNat := by
            rw [wrap_i64_id (by omega), show (lastI (nearA a.addr) ps + 1).toNat = (lastI (nearA a.addr) ps).toNat + 1 by omega, List.drop_zero, Int.toNat_natCast, List.take_length]
            rfl
          have hw1 : IntKind.i64.wrap (lastI (nearA a.addr) ps + 1) = lastI (nearA a.addr) ps + 1 := wrap_i64_id (by omega)
          have hw2 : IntKind.i64.wrap ((ps.length : Int) - 1) = ((ps.length - 1 : Nat) : Int) := by rw [wrap_i64_id (by omega)]; omega
          have hgc := hg1.sub (cut_sub ps (lastI (nearA a.addr) ps).toNat)
          rw [h7]
          refine ⟨hb0, hbnd, by omega, fun hc => ?_, fun _ => ⟨fun _ => ⟨⟨Int.le_refl _, hL0, by omega⟩, by rw [List.length_drop, List.length_take]; omega, ⟨by omega, by omega, Int.le_refl _⟩, by rw [List.length_drop, List.length_take, List.length_drop, List.length_take]; omega, ⟨?_, ?_⟩, fun hc => ?_, fun _ => ⟨?_, fun hc => ?_, fun _ => ⟨g + 1, hlt', hmu, ⟨trivial, rfl, rfl, hw, by rw [st2]; rfl, by rw [st2]⟩, rfl, rfl, rfl, rfl, rfl, rfl, rfl, rfl, rfl⟩⟩⟩, fun hc => absurd hc (by decide)⟩⟩
          · exfalso
            rw [if_pos rfl, if_pos rfl, hcl, hw2] at hc
            simp at hc
          · show (cutAt ps (lastI (nearA a.addr) ps).toNat).length < 9223372036854775808
            omega
          · show (cutAt ps (lastI (nearA a.addr) ps).toNat).length < 9223372036854775808
            omega
          · rw [if_pos rfl, same_refl] at hc
            cases hc
          · show (cutAt ps (lastI (nearA a.addr) ps).toNat).length < 9223372036854775808
            omega
          · rw [hgc.right] at hc
            cases hc
      · have hm := match_all hg1 hnr (decide (a.n.tmod 5 > 0)) (IntKind.i64.wrap a.num)
        rw [h8] at hm
        rw [hm.1, hm.2]
        have hst : okA ps a = (decide (lastI (nearA a.addr) ps ≥ 0) && decide (a.n.tmod 5 > 0) && IntKind.i64.wrap a.num == q.num) := by
          unfold okA seqA
          rw [h8, if_neg (by rw [h33]; simp)]
        rw [hst] at st2
        have hbnd : (decide (lastI (nearA a.addr) ps ≥ 0) && decide (a.n.tmod 5 > 0)) = true → 0 ≤ lastI (nearA a.addr) ps ∧ lastI (nearA a.addr) ps < (ps.length : Int) := fun hc => by
          rw [Bool.and_eq_true] at hc
          have := of_decide_eq_true hc.1
          omega
        have hge : (decide (lastI (nearA a.addr) ps ≥ 0) && decide (a.n.tmod 5 > 0) && IntKind.i64.wrap a.num == q.num) = true → 0 ≤ lastI (nearA a.addr) ps := fun hc => by
          rw [Bool.and_eq_true] at hc
          exact (hbnd hc.1).1
        cases hok : (decide (lastI (nearA a.addr) ps ≥ 0) && decide (a.n.tmod 5 > 0) && IntKind.i64.wrap a.num == q.num)
        · rw [hok] at st2
          refine ⟨hbnd, by omega, fun hc => (by exfalso; simp at hc), fun _ => ⟨fun hc => absurd hc (by decide), fun _ => ⟨hlen, fun hc => ?_, fun _ => ⟨g + 1, hlt', hmu, ⟨trivial, rfl, rfl, hw, by rw [st2]; rfl, by rw [st2]⟩, rfl, rfl, rfl, rfl, rfl, rfl, rfl, rfl, rfl⟩⟩⟩⟩
          rw [hg1.right] at hc
          cases hc
        · rw [hok] at st2
          have hL0 := hge hok
          have hcl := cut_len ps (lastI (nearA a.addr) ps).toNat (by omega)
          have h7 : List.drop 0 (List.take (lastI (nearA a.addr) ps).toNat ps) ++ List.drop (IntKind.i64.wrap (lastI (nearA a.addr) ps + 1)).toNat (List.take (ps.length : Int).toNat ps) = cutAt ps (lastI (nearA a.addr) ps).toNat := by
            rw [wrap_i64_id (by omega), show (lastI (nearA a.addr) ps + 1).toNat = (lastI (nearA a.addr) ps).toNat + 1 by omega, List.drop_zero, Int.toNat_natCast, List.take_length]
            rfl
          have hw1 : IntKind.i64.wrap (lastI (nearA a.addr) ps + 1) = lastI (nearA a.addr) ps + 1 := wrap_i64_id (by omega)
          have hw2 : IntKind.i64.wrap ((ps.length : Int) - 1) = ((ps.length - 1 : Nat) : Int) := by rw [wrap_i64_id (by omega)]; omega
          have hgc := hg1.sub (cut_sub ps (lastI (nearA a.addr) ps).toNat)
          rw [h7]
          refine ⟨hbnd, by omega, fun hc => ?_, fun _ => ⟨fun _ => ⟨⟨Int.le_refl _, hL0, by omega⟩, by rw [List.length_drop, List.length_take]; omega, ⟨by omega, by omega, Int.le_refl _⟩, by rw [List.length_drop, List.length_take, List.length_drop, List.length_take]; omega, ⟨?_, ?_⟩, fun hc => ?_, fun _ => ⟨?_, fun hc => ?_, fun _ => ⟨g + 1, hlt', hmu, ⟨trivial, rfl, rfl, hw, by rw [st2]; rfl, by rw [st2]⟩, rfl, rfl, rfl, rfl, rfl, rfl, rfl, rfl, rfl⟩⟩⟩, fun hc => absurd hc (by decide)⟩⟩
          · exfalso
            rw [if_pos rfl, if_pos rfl, hcl, hw2] at hc
            simp at hc
          · show (cutAt ps (lastI (nearA a.addr) ps).toNat).length < 9223372036854775808
            omega
          · show (cutAt ps (lastI (nearA a.addr) ps).toNat).length < 9223372036854775808
            omega
          · rw [if_pos rfl, same_refl] at hc
            cases hc
          · show (cutAt ps (lastI (nearA a.addr) ps).toNat).length < 9223372036854775808
            omega
          · rw [hgc.right] at hc
            cases hc
    · have st3 := st3 h0 h1
      have hraw : ofP (nearA a.addr) (IntKind.i64.wrap a.num) now = rawP now a := raw_is (by omega) ha.2
      have hask : badP (rawP now a) = false ∧ (0 ≤ (rawP now a).addr ∧ (rawP now a).addr < 4294967296) ∧ (rawP now a).tries = 0 := by rw [← hraw]; exact ask_good
      have hsent : (rawP now a).sent = clampT now := by rw [← hraw]; rfl
      have hrawE : askP now a = rawP now a := hraw
      rw [hraw, show ({ addr := (rawP now a).addr, id := (rawP now a).id, num := (rawP now a).num, sent := (rawP now a).sent, tries := (rawP now a).tries } : Prb) = rawP now a from rfl, show ({ addr := nearA a.addr, id := IntKind.i64.wrap ((nearA a.addr).tmod 65536), num := IntKind.i64.wrap a.num, sent := now, tries := 0 } : Prb) = rawP now a from rfl]
      rw [hrawE] at st3
      have hpa : putErr ps (rawP now a) = (if decide (lastI (nearA a.addr) ps ≥ 0) = true then 6 else if decide ((ps.length : Int) ≥ 16) = true then 4 else 0) := put_all (rawP now a)
      refine ⟨by decide, fun hL => ⟨hlen, fun hc => ?_, fun _ => ?_⟩, fun hL => ⟨fun _ => trivial, fun _ => trivial, fun v hv => ⟨hlen, fun hc => ?_, fun _ => ?_⟩⟩⟩
      · exfalso
        rw [hL, if_pos rfl] at hpa
        rw [put_no (by rw [hpa]; decide), hpa] at hc
        exact absurd hc (by decide)
      · refine ⟨fun he0 => ?_, fun he0 => ?_⟩
        · have he0 := eq_of_beq he0
          rw [put_is he0, same_refl]
          have hgp := put_good hg1 (by omega) (by omega) hask hsent he0
          rw [put_is he0] at hgp
          have hgl := hgp.len
          have hst : scrAt (fc 6 c5) (fz 4 c6) (headS acts 120) (g + 1) = (ps ++ [rawP now a], now) := by rw [st3, he0]; rfl
          refine ⟨by omega, by simp only [List.length_singleton]; omega, ⟨show (ps ++ [rawP now a]).length < 9223372036854775808 by omega, show (ps ++ [rawP now a]).length < 9223372036854775808 by omega⟩, fun hc => absurd hc (by decide), fun _ => ⟨show (ps ++ [rawP now a]).length < 9223372036854775808 by omega, fun hc => ?_, fun _ => ⟨g + 1, hlt', hmu, ⟨trivial, rfl, rfl, hw, by rw [hst], by rw [hst]⟩, rfl, rfl, rfl, rfl, rfl, rfl, rfl, rfl, rfl⟩⟩⟩
          rw [hgp.right] at hc
          cases hc
        · have hst : scrAt (fc 6 c5) (fz 4 c6) (headS acts 120) (g + 1) = (ps, now) := by rw [st3, he0]; rfl
          refine ⟨hlen, fun hc => ?_, fun _ => ⟨g + 1, hlt', hmu, ⟨trivial, rfl, rfl, hw, by rw [hst], by rw [hst]⟩, rfl, rfl, rfl, rfl, rfl, rfl, rfl, rfl, rfl⟩⟩
          rw [hg1.right] at hc
          cases hc
      · exfalso
        rw [hL, if_neg (by decide), ← hv] at hpa
        by_cases hz : v = 0
        · rw [hz] at hpa hc
          rw [hpa] at hc
          simp at hc
        · rw [put_no (by rw [hpa]; exact hz), hpa] at hc
          simp at hc
      · refine ⟨fun he0 => ?_, fun he0 => ?_⟩
        · have he0 := eq_of_beq he0
          rw [put_is he0, same_refl]
          have hgp := put_good hg1 (by omega) (by omega) hask hsent he0
          rw [put_is he0] at hgp
          have hgl := hgp.len
          have hst : scrAt (fc 6 c5) (fz 4 c6) (headS acts 120) (g + 1) = (ps ++ [rawP now a], now) := by rw [st3, he0]; rfl
          refine ⟨by omega, by simp only [List.length_singleton]; omega, ⟨show (ps ++ [rawP now a]).length < 9223372036854775808 by omega, show (ps ++ [rawP now a]).length < 9223372036854775808 by omega⟩, fun hc => absurd hc (by decide), fun _ => ⟨show (ps ++ [rawP now a]).length < 9223372036854775808 by omega, fun hc => ?_, fun _ => ⟨g + 1, hlt', hmu, ⟨trivial, rfl, rfl, hw, by rw [hst], by rw [hst]⟩, rfl, rfl, rfl, rfl, rfl, rfl, rfl, rfl, rfl⟩⟩⟩
          rw [hgp.right] at hc
          cases hc
        · have hst : scrAt (fc 6 c5) (fz 4 c6) (headS acts 120) (g + 1) = (ps, now) := by rw [st3, he0]; rfl
          refine ⟨hlen, fun hc => ?_, fun _ => ⟨g + 1, hlt', hmu, ⟨trivial, rfl, rfl, hw, by rw [hst], by rw [hst]⟩, rfl, rfl, rfl, rfl, rfl, rfl, rfl, rfl, rfl⟩⟩
          rw [hg1.right] at hc
          cases hc
theorem okLScr : FnOk Try.prog u 7 spLScr := by
  refine fn_ok Try.prog u tab8 mo laws8 Try.func7 ?_
  intro xs c y h hc
  unfold spLScr at h
  split at h
  · cases h
    exact ⟨by kernel_rfl, _, _, bodyLScr _ _ _ _ _ _ _ _ _ _ hc⟩
  · cases h
end Go.Proofs.Ytnjildbclmglpaa.Pro
