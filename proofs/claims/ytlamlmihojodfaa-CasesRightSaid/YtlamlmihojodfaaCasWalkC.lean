/- Cases: the laws CasesFind, CasesEnds, CasesQuiet, CasesApproved, CasesOver, CasesScript, by the bodies' contracts. -/
import Derived.Test.YtlamlmihojodfaaCasVcC
import Derived.Test.YtlamlmihojodfaaCasMath
namespace Go.Proofs.Ytlamlmihojodfaa.Cas
open Go Go.Proofs.Ytlamlmihojodfaa.Sx

theorem raise_nil (q b n : Int) : raiseE q [] b n = 0 ∧ raiseL q [] b n = [⟨b, clampT n, 0, 0⟩] := ⟨rfl, rfl⟩
theorem one_first {b : Int} {c : Cse} (h : hitF b c = true) : firstI (hitF b) [c] = 0 := first_is (k := 0) (by simp) h (fun j hj => absurd hj (Nat.not_lt_zero _))
theorem hit_open (b r e : Int) (s : Int) (hs : openS s = true) : hitF b ⟨b, r, e, s⟩ = true := by
  unfold hitF openC
  simp only
  rw [hs, beq_self_eq_true]
  rfl
theorem hit_shut (b x r e s : Int) (hs : openS s = false) : hitF b ⟨x, r, e, s⟩ = false := by
  unfold hitF openC
  simp only
  rw [hs, Bool.and_false]
theorem next_one {b fr to n : Int} {c : Cse} (h : hitF b c = true) : nextE [c] b fr = (if (c.stage != fr) = true then 8 else 0) ∧ (nextE [c] b fr = 0 → nextL [c] b fr to n = [movedC c to n]) := by
  have h1 := one_first h
  refine ⟨?_, fun h0 => ?_⟩
  · unfold nextE
    rw [h1]
    rfl
  · rw [next_ok h0]
    unfold nextN
    rw [h1]
    rfl
theorem cancel_one {b n : Int} {c : Cse} (h : hitF b c = true) : cancelE [c] b = 0 ∧ cancelL [c] b n = [movedC c 4 n] := by
  have h1 := one_first h
  unfold cancelE cancelL nextN
  rw [h1]
  exact ⟨rfl, rfl⟩
theorem Good.one {now : Int} {cs : List Cse} (h : Good now cs) {a : Int} {i j : Nat} (hi : i < cs.length) (hj : j < cs.length) (h1 : hitF a (getC cs i) = true) (h2 : hitF a (getC cs j) = true) : i = j := by
  unfold hitF at h1 h2
  rw [Bool.and_eq_true] at h1 h2
  have e1 := eq_of_beq h1.1
  have e2 := eq_of_beq h2.1
  rcases Nat.lt_trichotomy i j with h3 | h3 | h3
  · exact absurd (e1.trans e2.symm) (h.apart h3 hj h1.2 h2.2)
  · exact h3
  · exact absurd (e2.trans e1.symm) (h.apart h3 hi h2.2 h1.2)
theorem over_gone {now : Int} {cs : List Cse} {a : Int} (h : Good now cs) (hf : 0 ≤ firstI (hitF a) cs) : firstI (hitF a) (nextN cs a 4 now) = -1 := by
  have hr := first_rng (hitF a) cs
  have hk : (firstI (hitF a) cs).toNat < cs.length := by omega
  have hh := first_hit hf
  unfold nextN
  generalize (firstI (hitF a) cs).toNat = k at *
  refine first_not fun j hj => ?_
  rw [List.length_set] at hj
  rw [getC_set hk]
  split
  · exact hit_shut _ _ _ _ _ (by decide)
  · rename_i hne
    cases hc : hitF a (getC cs j)
    · rfl
    · exact absurd (h.one hj hk hc hh) hne
theorem raised_last {q now : Int} {cs : List Cse} {a : Int} (h0 : raiseE q cs a now = 0) : firstI (hitF a) (raiseN q cs a now) = ((raiseN q cs a now).length : Int) - 1 ∧ getC (raiseN q cs a now) ((raiseN q cs a now).length - 1) = ⟨a, clampT now, 0, 0⟩ := by
  obtain ⟨h1, _, _⟩ := raise_is h0
  unfold raiseN
  have hs : (if decide ((cs.length : Int) ≥ 16) = true then cutAt cs (spareI q now cs).toNat else cs).Sublist cs := by
    split
    · exact cut_sub _ _
    · exact List.Sublist.refl _
  generalize (if decide ((cs.length : Int) ≥ 16) = true then cutAt cs (spareI q now cs).toNat else cs) = l at hs
  have hl : (l ++ [(⟨a, clampT now, 0, 0⟩ : Cse)]).length = l.length + 1 := by rw [List.length_append]; rfl
  have hg : getC (l ++ [(⟨a, clampT now, 0, 0⟩ : Cse)]) l.length = ⟨a, clampT now, 0, 0⟩ := by
    unfold getC
    rw [List.getD_eq_getElem?_getD, List.getElem?_append_right (Nat.le_refl _), Nat.sub_self]
    rfl
  rw [hl]
  refine ⟨?_, hg⟩
  rw [first_is (k := l.length) (by omega) (by rw [hg]; exact hit_open _ _ _ _ (by decide)) (fun j hj => ?_)]
  · omega
  · have hjl : getC (l ++ [(⟨a, clampT now, 0, 0⟩ : Cse)]) j = getC l j := by
      unfold getC
      rw [List.getD_eq_getElem?_getD, List.getElem?_append_left hj, List.getD_eq_getElem?_getD]
    rw [hjl]
    exact first_miss h1 (hs.subset (getC_mem hj))
theorem do_same {q : Int} {cs : List Cse} {a : Act} {now : Int} (ho : 0 ≤ a.op) (h : decide (a.op.tmod 8 > 5) = true) : (if (doE q cs a now == 0) = true then doL q cs a now else cs) = cs := by
  have h := of_decide_eq_true h
  obtain ⟨o1, o2⟩ := op_rng ho
  unfold doE doL
  rcases (show a.op.tmod 8 = 6 ∨ a.op.tmod 8 = 7 by omega) with e | e <;> rw [e] <;> rfl
theorem bodyLFind (xs : List Cse) (n x : Int) (h : lenOk xs) : BodyOk Try.prog u tab10 [] [(0, .inv (annFind x n)), (2, .see 19 (annFindI xs x n))] Try.f3 [.csl 30 xs, .int .u8 n, .int .u32 x] (.bool true) := by
  constructor
  have eqn : bodyW Try.prog u tab10 [] (drawW Try.prog u tab10) (loopsBy u [(0, .inv (annFind x n)), (2, .see 19 (annFindI xs x n))]) Try.f3 [.csl 30 xs, .int .u8 n, .int .u32 x] (.bool true) = vcLFind xs n x := by kernel_rfl
  rw [eqn]
  unfold vcLFind
  have h : xs.length < 9223372036854775808 := h
  refine ⟨fun h => absurd h (by decide), fun _ => ⟨⟨0, Nat.zero_le _, rfl, rfl, rfl, rfl⟩, fun g hg => ⟨fun hlt => ?_, fun _ => rfl⟩⟩⟩
  have hlt : (g : Int) < ((2 : Nat) : Int) := of_decide_eq_true hlt
  have hg2 : g < 2 := by omega
  refine ⟨⟨by omega, hlt⟩, ⟨0, Nat.zero_le _, rfl, rfl, rfl, rfl, rfl, rfl, rfl, rfl, rfl⟩, fun j hj => ⟨fun hjl => ?_, fun hjg => ?_⟩⟩
  · have hjl := of_decide_eq_true hjl
    have hjl' : j < xs.length := by omega
    exact ⟨⟨by omega, hjl⟩, fun _ => trivial, fun _ => trivial, fun v hv => ⟨j + 1, hjl', show xs.length - (j + 1) < xs.length - j by omega, rfl, rfl, rfl, rfl, rfl, rfl, rfl, wrap_next hjl h, hv⟩⟩
  · have hjg := of_decide_eq_false hjg
    have hj : j ≤ xs.length := hj
    have hje : j = xs.length := by omega
    subst hje
    refine ⟨h, fun hc => ?_, fun _ => ⟨g + 1, hg2, show 2 - (g + 1) < 2 - g by omega, rfl, rfl, rfl, wrap_next hlt (by decide)⟩⟩
    rw [want_eq] at hc
    have hc : (firstI (hitF ((twoA x n).getD g 0)) xs != firstI (hitF ((twoA x n).getD g 0)) xs) = true := hc
    simp at hc
theorem okLFind : FnOk Try.prog u 3 spLFind := by
  refine fn_ok Try.prog u tab10 mo laws10 Try.func3 ?_
  intro xs c y h hc
  unfold spLFind at h
  split at h
  · cases h
    exact ⟨by kernel_rfl, _, _, bodyLFind _ _ _ hc⟩
  · cases h
theorem bodyLEnds (c0 c1 c2 c3 c4 c5 c6 c7 c8 : Int) (xs : List Act) (h : actsOk xs ∧ 0 ≤ c7) : BodyOk Try.prog u tab10 [] [(0, .inv (annEnds (fc 40 c7) (fz 50 c8) xs))] Try.f7 [.agg (cho c0 c1 c2 c3 c4 c5 c6 c7 c8), .csl 46 xs] (.bool true) := by
  constructor
  have eqn : bodyW Try.prog u tab10 [] (drawW Try.prog u tab10) (loopsBy u [(0, .inv (annEnds (fc 40 c7) (fz 50 c8) xs))]) Try.f7 [.agg (cho c0 c1 c2 c3 c4 c5 c6 c7 c8), .csl 46 xs] (.bool true) = vcLEnds c0 c1 c2 c3 c4 c5 c6 c7 c8 xs := by kernel_rfl
  rw [eqn]
  unfold vcLEnds
  obtain ⟨⟨hl, hn⟩, h7⟩ := h
  have hop := fc_eq (b := 40) (c := c7) (by omega) h7
  generalize fc 40 c7 = op at *
  generalize fz 50 c8 = q at *
  obtain ⟨hg, hn1, hn2⟩ := someL_good (op := op) (q := q) hn
  have hw : IntKind.i64.wrap ((someL op q xs).2 + op) = (someL op q xs).2 + op := wrap_i64_id (by omega)
  have hT : Good ((someL op q xs).2 + op) (tickL op (IntKind.i64.wrap ((someL op q xs).2 + op)) (someL op q xs).1) := by rw [hw]; exact tick_good hg (by omega)
  have hlen := hT.len
  have hl0 := hg.len
  have hte : (tickL op (IntKind.i64.wrap ((someL op q xs).2 + op)) (someL op q xs).1).length = (someL op q xs).1.length := tick_len ..
  have hla : (lastE op q xs).length = (tickL op (IntKind.i64.wrap ((someL op q xs).2 + op)) (someL op q xs).1).length := rfl
  refine ⟨fun h => absurd h (by decide), fun _ => ⟨hl, show (someL op q xs).1.length ≤ 1000000 by omega, ⟨0, Nat.zero_le _, rfl, rfl, rfl, rfl⟩, fun g hg' => ⟨fun hlt => ?_, fun _ => ⟨Nat.lt_of_le_of_lt hlen (by decide), hT.right (by omega)⟩⟩⟩⟩
  have hlt := of_decide_eq_true hlt
  have hlt' : g < (tickL op (IntKind.i64.wrap ((someL op q xs).2 + op)) (someL op q xs).1).length := by omega
  refine ⟨⟨by omega, hlt⟩, fun hc => ?_, fun _ => ⟨g + 1, hlt', show (lastE op q xs).length - (g + 1) < (lastE op q xs).length - g by omega, rfl, rfl, rfl, wrap_next hlt (by omega)⟩⟩
  exfalso
  have hk : g < (someL op q xs).1.length := by omega
  have e := tick_at op (IntKind.i64.wrap ((someL op q xs).2 + op)) hk
  have hc : ((getC (tickL op (IntKind.i64.wrap ((someL op q xs).2 + op)) (someL op q xs).1) g).stage == 0 || openC (getC (tickL op (IntKind.i64.wrap ((someL op q xs).2 + op)) (someL op q xs).1) g) && (getC (tickL op (IntKind.i64.wrap ((someL op q xs).2 + op)) (someL op q xs).1) g).stage != 1) = true := hc
  rw [e, hw] at hc
  obtain ⟨_, ⟨r1, r2⟩, _, _⟩ := hg.ok _ (getC_mem hk)
  generalize getC (someL op q xs).1 g = c at *
  unfold tickC at hc
  by_cases hs : c.stage = 0
  · rw [since_eq (by omega) (by omega), decide_eq_true (show (someL op q xs).2 + op - c.raised ≥ op by omega), hs] at hc
    simp [openC, openS] at hc
  · rw [show (c.stage == 0) = false by simpa using hs, Bool.false_and, if_neg (by decide)] at hc
    rw [show (c.stage == 0) = false by simpa using hs] at hc
    unfold openC openS at hc
    rw [show (c.stage == 0) = false by simpa using hs] at hc
    cases h1 : c.stage == 1
    · rw [h1] at hc
      cases hc
    · rw [eq_of_beq h1] at hc
      cases hc
theorem okLEnds : FnOk Try.prog u 7 spLEnds := by
  refine fn_ok Try.prog u tab10 mo laws10 Try.func7 ?_
  intro xs c y h hc
  unfold spLEnds at h
  split at h
  · cases h
    exact ⟨by kernel_rfl, _, _, bodyLEnds _ _ _ _ _ _ _ _ _ _ hc⟩
  · cases h
theorem bodyLQuiet (c0 c1 c2 c3 c4 c5 c6 c7 c8 : Int) (a t l : Int) (h : (0 ≤ t ∧ t < 256) ∧ 0 ≤ l ∧ l < 256) : BodyOk Try.prog u tab10 [] [] Try.f4 [.agg (cho c0 c1 c2 c3 c4 c5 c6 c7 c8), .int .u8 a, .int .u8 t, .int .u8 l] (.bool true) := by
  constructor
  have eqn : bodyW Try.prog u tab10 [] (drawW Try.prog u tab10) (loopsBy u []) Try.f4 [.agg (cho c0 c1 c2 c3 c4 c5 c6 c7 c8), .int .u8 a, .int .u8 t, .int .u8 l] (.bool true) = vcLQuiet c0 c1 c2 c3 c4 c5 c6 c7 c8 a t l := by kernel_rfl
  rw [eqn]
  unfold vcLQuiet
  obtain ⟨ht, hl⟩ := h
  generalize fz 50 c8 = q
  generalize nearA a = b
  rw [wrap_i64_id (n := t) (by omega), wrap_i64_id (n := t + 1) (by omega), wrap_i64_id (n := l) (by omega), wrap_i64_id (n := t + 1 + l) (by omega)]
  obtain ⟨r1, r2⟩ := raise_nil q b t
  have hc1 : clampT t = t := clamp_id (by omega)
  have hc2 : clampT (t + 1) = t + 1 := clamp_id (by omega)
  have hc3 : clampT (t + 1 + l) = t + 1 + l := clamp_id (by omega)
  rw [r1, r2, hc1]
  have h1 := next_one (b := b) (fr := 0) (to := 2) (n := t + 1) (c := ⟨b, t, 0, 0⟩) (hit_open _ _ _ _ (by decide))
  have e1 : nextE [(⟨b, t, 0, 0⟩ : Cse)] b 0 = 0 := h1.1
  have e2 : nextL [(⟨b, t, 0, 0⟩ : Cse)] b 0 2 (t + 1) = [⟨b, t, t + 1, 2⟩] := by
    rw [h1.2 e1]
    unfold movedC
    rw [hc2]
    rfl
  rw [e1, e2]
  have f1 : firstI (hitF b) [(⟨b, t, t + 1, 2⟩ : Cse)] = -1 := first_none (by rw [List.any_cons, hit_shut _ _ _ _ _ (by decide)]; rfl)
  have f2 : [(⟨b, t, t + 1, 2⟩ : Cse)].any (hitQ q (t + 1 + l) b) = decide (l < q) := by
    rw [List.any_cons, List.any_nil, Bool.or_false]
    unfold hitQ within
    simp only
    rw [since_eq (by omega) (by omega), beq_self_eq_true, decide_eq_true (show t + 1 + l - (t + 1) ≥ 0 by omega), show t + 1 + l - (t + 1) = l by omega]
    simp
  have hE : raiseE q [(⟨b, t, t + 1, 2⟩ : Cse)] b (t + 1 + l) = if decide (l < q) = true then 8 else 0 := by
    unfold raiseE
    rw [f1, f2]
    rfl
  refine ⟨fun h => absurd h (by decide), fun _ => ⟨Nat.le_of_ble_eq_true rfl, Nat.le_of_ble_eq_true rfl, Nat.le_of_ble_eq_true rfl, fun hc => absurd hc (by decide), fun _ => ⟨fun hq => ?_, fun hq => ?_⟩⟩⟩
  · rw [hq, if_pos rfl] at hE
    rw [hE, (raise_no hE (by decide)).1]
    rfl
  · rw [hq, if_neg (by decide)] at hE
    have hN : raiseL q [(⟨b, t, t + 1, 2⟩ : Cse)] b (t + 1 + l) = [⟨b, t, t + 1, 2⟩, ⟨b, t + 1 + l, 0, 0⟩] := by
      rw [raise_ok hE]
      unfold raiseN
      rw [hc3]
      rfl
    have f3 : firstI (hitF b) [(⟨b, t, t + 1, 2⟩ : Cse), ⟨b, t + 1 + l, 0, 0⟩] = 1 := first_is (k := 1) (Nat.le_of_ble_eq_true rfl) (hit_open _ _ _ _ (by decide)) (fun j hj => by
      obtain rfl : j = 0 := by omega
      exact hit_shut _ _ _ _ _ (by decide))
    rw [hE, hN, f3]
    exact ⟨fun _ => Nat.le_of_ble_eq_true rfl, rfl⟩
theorem okLQuiet : FnOk Try.prog u 4 spLQuiet := by
  refine fn_ok Try.prog u tab10 mo laws10 Try.func4 ?_
  intro xs c y h hc
  unfold spLQuiet at h
  split at h
  · cases h
    exact ⟨by kernel_rfl, _, _, bodyLQuiet _ _ _ _ _ _ _ _ _ _ _ _ hc⟩
  · cases h
theorem bodyLApp (c0 c1 c2 c3 c4 c5 c6 c7 c8 : Int) (a t : Int) (h : 0 ≤ t ∧ t < 65536) : BodyOk Try.prog u tab10 [] [] Try.f8 [.agg (cho c0 c1 c2 c3 c4 c5 c6 c7 c8), .int .u8 a, .int .u16 t] (.bool true) := by
  constructor
  have eqn : bodyW Try.prog u tab10 [] (drawW Try.prog u tab10) (loopsBy u []) Try.f8 [.agg (cho c0 c1 c2 c3 c4 c5 c6 c7 c8), .int .u8 a, .int .u16 t] (.bool true) = vcLApp c0 c1 c2 c3 c4 c5 c6 c7 c8 a t := by kernel_rfl
  rw [eqn]
  unfold vcLApp
  generalize fz 50 c8 = q
  generalize fc 40 c7 = op
  generalize nearA a = b
  rw [wrap_i64_id (n := t) (by omega)]
  obtain ⟨r1, r2⟩ := raise_nil q b 0
  have r2 : raiseL q [] b 0 = [⟨b, 0, 0, 0⟩] := r2
  have hc1 : clampT t = t := clamp_id (by omega)
  rw [r1, r2]
  have h1 := next_one (b := b) (fr := 0) (to := 1) (n := 0) (c := ⟨b, 0, 0, 0⟩) (hit_open _ _ _ _ (by decide))
  have h2 := next_one (b := b) (fr := 1) (to := 5) (n := 0) (c := ⟨b, 0, 0, 0⟩) (hit_open _ _ _ _ (by decide))
  have e1 : nextE [(⟨b, 0, 0, 0⟩ : Cse)] b 0 = 0 := h1.1
  have e2 : nextE [(⟨b, 0, 0, 0⟩ : Cse)] b 1 = 8 := h2.1
  have e3 : nextL [(⟨b, 0, 0, 0⟩ : Cse)] b 0 1 0 = [⟨b, 0, 0, 1⟩] := h1.2 e1
  have e4 : tickL op t [(⟨b, 0, 0, 1⟩ : Cse)] = [⟨b, 0, 0, 1⟩] := rfl
  rw [e1, e2, e3, e4]
  have h3 := next_one (b := b) (fr := 1) (to := 5) (n := t) (c := ⟨b, 0, 0, 1⟩) (hit_open _ _ _ _ (by decide))
  have h4 := next_one (b := b) (fr := 0) (to := 5) (n := t) (c := ⟨b, 0, 0, 1⟩) (hit_open _ _ _ _ (by decide))
  have e5 : nextE [(⟨b, 0, 0, 1⟩ : Cse)] b 1 = 0 := h3.1
  have e6 : nextE [(⟨b, 0, 0, 1⟩ : Cse)] b 0 = 8 := h4.1
  have e7 : nextL [(⟨b, 0, 0, 1⟩ : Cse)] b 1 5 t = [⟨b, 0, t, 5⟩] := by
    rw [h3.2 e5]
    unfold movedC
    rw [hc1]
    rfl
  obtain ⟨e8, e9⟩ := cancel_one (b := b) (n := t) (c := ⟨b, 0, 0, 1⟩) (hit_open _ _ _ _ (by decide))
  rw [e5, e6, e7, e8, e9]
  refine ⟨fun h => absurd h (by decide), fun _ => ⟨Nat.le_of_ble_eq_true rfl, Nat.le_of_ble_eq_true rfl, Nat.le_of_ble_eq_true rfl, Nat.le_of_ble_eq_true rfl, Nat.le_of_ble_eq_true rfl, Nat.le_of_ble_eq_true rfl, Nat.le_of_ble_eq_true rfl, fun hc => absurd hc (by decide), fun _ => ⟨⟨Int.le_refl _, Int.lt_add_one_of_le (Int.le_refl 0)⟩, fun _ => ⟨Int.le_refl _, Int.lt_add_one_of_le (Int.le_refl 0)⟩, ?_⟩⟩⟩
  show ((b == b && (((0 : Int) == 0) && (t == t && (((5 : Int) == 5) && true)))) && ((4 : Int) == 4)) = true
  simp
theorem okLApp : FnOk Try.prog u 8 spLApp := by
  refine fn_ok Try.prog u tab10 mo laws10 Try.func8 ?_
  intro xs c y h hc
  unfold spLApp at h
  split at h
  · cases h
    exact ⟨by kernel_rfl, _, _, bodyLApp _ _ _ _ _ _ _ _ _ _ _ hc⟩
  · cases h
theorem bodyLOver (c0 c1 c2 c3 c4 c5 c6 c7 c8 : Int) (xs : List Act) (n : Int) (h : actsOk xs) : BodyOk Try.prog u tab10 [] [] Try.f9 [.agg (cho c0 c1 c2 c3 c4 c5 c6 c7 c8), .csl 46 xs, .int .u8 n] (.bool true) := by
  constructor
  have eqn : bodyW Try.prog u tab10 [] (drawW Try.prog u tab10) (loopsBy u []) Try.f9 [.agg (cho c0 c1 c2 c3 c4 c5 c6 c7 c8), .csl 46 xs, .int .u8 n] (.bool true) = vcLOver c0 c1 c2 c3 c4 c5 c6 c7 c8 xs n := by kernel_rfl
  rw [eqn]
  unfold vcLOver
  obtain ⟨hl, hn⟩ := h
  generalize fc 40 c7 = op at *
  generalize fz 50 c8 = q at *
  obtain ⟨hg, hn1, hn2⟩ := someL_good (op := op) (q := q) hn
  have hlen := hg.len
  generalize (someL op q xs).1 = cs at *
  generalize (someL op q xs).2 = now at *
  generalize nearA n = b
  refine ⟨fun h => absurd h (by decide), fun _ => ⟨hl, Nat.lt_of_le_of_lt hlen (by decide), fun hf => ?_, fun hf => ?_⟩⟩
  · have hf := of_decide_eq_true hf
    have hd : decide (firstI (hitF b) cs < 0) = false := decide_eq_false (by omega)
    have e1 : cancelE cs b = 0 := by unfold cancelE; rw [hd]; rfl
    have e2 : cancelL cs b now = nextN cs b 4 now := by unfold cancelL; rw [hd]; rfl
    have e3 := over_gone (now := now) hg hf
    have e4 : cancelE (nextN cs b 4 now) b = 7 := by unfold cancelE; rw [e3]; rfl
    have e5 : (nextN cs b 4 now).length = cs.length := by unfold nextN; rw [List.length_set]
    rw [e1, e2, e3, e4, e5]
    refine ⟨show cs.length ≤ 1000000 by omega, show cs.length ≤ 1000000 by omega, fun _ => show cs.length < 9223372036854775808 by omega, ?_⟩
    simp
  · have hf := of_decide_eq_false hf
    have hd : decide (firstI (hitF b) cs ≥ 0) = false := decide_eq_false hf
    refine ⟨show cs.length ≤ 1000000 by omega, fun he => ?_, fun he => ?_⟩
    · have hE : raiseE q cs b now = if cs.any (hitQ q now b) = true then 8 else if decide ((cs.length : Int) ≥ 16) = true then (if decide (spareI q now cs < 0) = true then 4 else 0) else 0 := by unfold raiseE; rw [hd]; rfl
      rw [hE] at he ⊢
      cases h1 : cs.any (hitQ q now b)
      · rw [h1] at he
        cases h2 : decide ((cs.length : Int) ≥ 16)
        · rw [h2] at he
          simp at he
        · rw [h2] at he
          have h2 := of_decide_eq_true h2
          rw [show ((cs.length : Int) == 16) = true by simpa using (show (cs.length : Int) = 16 by omega)]
          cases h3 : decide (spareI q now cs < 0)
          · rw [h3] at he
            simp at he
          · rfl
      · rfl
    · have h0 : raiseE q cs b now = 0 := by simpa using he
      have hN := raiseN_len h0 hlen
      obtain ⟨g1, g2⟩ := raised_last h0
      rw [raise_ok h0]
      have hw : IntKind.i64.wrap (((raiseN q cs b now).length : Int) - 1) = ((raiseN q cs b now).length : Int) - 1 := wrap_i64_id (by omega)
      have hx : ((((raiseN q cs b now).length : Int) - 1).toNat) = (raiseN q cs b now).length - 1 := by omega
      have g2 : (raiseN q cs b now).getD ((raiseN q cs b now).length - 1) (u.dflt 30) = ⟨b, clampT now, 0, 0⟩ := g2
      rw [hw, hx, g1, g2, clamp_id (n := now) (by omega), wrap_i64_id (n := (cs.length : Int) + 1) (by omega)]
      refine ⟨show (raiseN q cs b now).length < 9223372036854775808 by omega, fun _ => ⟨by omega, by omega⟩, ?_⟩
      have hm : ((raiseN q cs b now).length : Int) = mn ((cs.length : Int) + 1) 16 := by unfold mn; rw [hN]; split <;> omega
      rw [← hm]
      simp
theorem okLOver : FnOk Try.prog u 9 spLOver := by
  refine fn_ok Try.prog u tab10 mo laws10 Try.func9 ?_
  intro xs c y h hc
  unfold spLOver at h
  split at h
  · cases h
    exact ⟨by kernel_rfl, _, _, bodyLOver _ _ _ _ _ _ _ _ _ _ _ hc⟩
  · cases h
theorem bodyLScr (c0 c1 c2 c3 c4 c5 c6 c7 c8 : Int) (xs : List Act) (h : actsOk xs) : BodyOk Try.prog u tab10 [] [(0, .inv (annScr (fc 40 c7) (fz 50 c8) (headS xs 200))), (2, .see 27 (annScrI (fc 40 c7) (fz 50 c8) (headS xs 200)))] Try.f5 [.agg (cho c0 c1 c2 c3 c4 c5 c6 c7 c8), .csl 46 xs] (.bool true) := by
  constructor
  have eqn : bodyW Try.prog u tab10 [] (drawW Try.prog u tab10) (loopsBy u [(0, .inv (annScr (fc 40 c7) (fz 50 c8) (headS xs 200))), (2, .see 27 (annScrI (fc 40 c7) (fz 50 c8) (headS xs 200)))]) Try.f5 [.agg (cho c0 c1 c2 c3 c4 c5 c6 c7 c8), .csl 46 xs] (.bool true) = vcLScr c0 c1 c2 c3 c4 c5 c6 c7 c8 xs := by kernel_rfl
  rw [eqn]
  unfold vcLScr
  obtain ⟨hl, hn⟩ := h
  have hl : xs.length < 9223372036854775808 := hl
  have hh : nOk (headS xs 200) := nOk_head hn 200
  have hhl := headS_le xs 200 (by decide)
  generalize fc 40 c7 = op at *
  generalize fz 50 c8 = q at *
  refine ⟨fun h => absurd h (by decide), fun _ => ⟨⟨Int.le_refl _, by unfold mn; split <;> omega, by unfold mn; split <;> omega⟩, ⟨0, Nat.zero_le _, ⟨trivial, rfl, rfl, rfl, rfl, rfl⟩, rfl, rfl, rfl, rfl, rfl, rfl, rfl, rfl, rfl⟩, fun g hg => ⟨fun hlt => ?_, fun _ => rfl⟩⟩⟩
  have hlt : (g : Int) < ((headS xs 200).length : Int) := of_decide_eq_true hlt
  have hlt' : g < (headS xs 200).length := by omega
  obtain ⟨hg1, hg2, hg3⟩ := some_good (op := op) (q := q) hh g (by omega) (by omega)
  have ha := hh _ (getA_mem hlt')
  have hw := wrap_next hlt (by omega)
  have hmu : (annScr op q (headS xs 200)).μ (g + 1) < (annScr op q (headS xs 200)).μ g := show (headS xs 200).length - (g + 1) < (headS xs 200).length - g by omega
  have hmi : ∀ j, j < (someAt op q (headS xs 200) g).1.length → (annScrI op q (headS xs 200) g).μ (j + 1) < (annScrI op q (headS xs 200) g).μ j := fun j hj => show (someAt op q (headS xs 200) g).1.length - (j + 1) < (someAt op q (headS xs 200) g).1.length - j by omega
  have hst : someAt op q (headS xs 200) (g + 1) = someStep op q (someAt op q (headS xs 200) g) (getA (headS xs 200) g) := rfl
  have st1 : decide ((getA (headS xs 200) g).op.tmod 8 > 5) = true → someAt op q (headS xs 200) (g + 1) = (tickL op (nowStep (someAt op q (headS xs 200) g).2 (getA (headS xs 200) g)) (someAt op q (headS xs 200) g).1, nowStep (someAt op q (headS xs 200) g).2 (getA (headS xs 200) g)) := fun h => by
    rw [hst]
    unfold someStep
    rw [if_pos h, do_same ha.1 h]
  have st2 : decide ((getA (headS xs 200) g).op.tmod 8 > 5) = false → someAt op q (headS xs 200) (g + 1) = ((if (doE q (someAt op q (headS xs 200) g).1 (getA (headS xs 200) g) (someAt op q (headS xs 200) g).2 == 0) = true then doL q (someAt op q (headS xs 200) g).1 (getA (headS xs 200) g) (someAt op q (headS xs 200) g).2 else (someAt op q (headS xs 200) g).1), (someAt op q (headS xs 200) g).2) := fun h => by
    rw [hst]
    unfold someStep
    rw [if_neg (by rw [h]; simp)]
  have ha0 : (List.drop 0 (List.take (mn (xs.length : Int) 200).toNat xs)).getD (g : Int).toNat (u.dflt 46) = getA (headS xs 200) g := rfl
  generalize hga : getA (headS xs 200) g = a at *
  generalize hgb : (List.drop 0 (List.take (mn (xs.length : Int) 200).toNat xs)).getD (g : Int).toNat (u.dflt 46) = a' at *
  cases ha0
  generalize (someAt op q (headS xs 200) g).1 = ps at *
  generalize (someAt op q (headS xs 200) g).2 = now at *
  have hlen16 := hg1.len
  have hlen : ps.length < 9223372036854775808 := by omega
  refine ⟨⟨by omega, hlt⟩, by decide, fun h5 => ?_, fun h5 => ?_⟩
  · have st1 := st1 h5
    have hns := now_step ha.2 (show 0 ≤ now ∧ now ≤ 100000 by omega)
    rw [show IntKind.i64.wrap (now + IntKind.i64.wrap (a.n.tmod 10)) = nowStep now a from rfl]
    generalize nowStep now a = now2 at *
    have htl : (tickL op now2 ps).length = ps.length := tick_len ..
    rw [htl]
    refine ⟨by decide, show ps.length ≤ 1000000 by omega, fun hc => ?_, fun _ => ⟨⟨0, Nat.zero_le _, ⟨trivial, rfl, rfl, rfl, rfl, rfl, rfl, rfl, rfl, rfl⟩, rfl, rfl, rfl, rfl, rfl, rfl, rfl, rfl, rfl⟩, fun j hj => ⟨fun hjl => ?_, fun _ => ⟨g + 1, hlt', hmu, ⟨trivial, rfl, rfl, hw, by rw [st1], by rw [st1]⟩, rfl, rfl, rfl, rfl, rfl, rfl, rfl, rfl, rfl⟩⟩⟩⟩
    · exfalso
      simp at hc
    · have hjl := of_decide_eq_true hjl
      have hjl' : j < ps.length := by omega
      have hta : (tickL op now2 ps).getD (j : Int).toNat (u.dflt 30) = tickC op now2 (getC ps j) := tick_at op now2 hjl'
      have hpj : ps.getD (j : Int).toNat (u.dflt 30) = getC ps j := rfl
      obtain ⟨_, ⟨r1, r2⟩, _, _⟩ := hg1.ok _ (getC_mem hjl')
      rw [hta, hpj]
      generalize getC ps j = c at *
      have hcw : IntKind.i64.wrap (now2 - c.raised) = since now2 c.raised := by rw [since_eq (by omega) (by omega), wrap_i64_id (by omega)]
      rw [hcw]
      refine ⟨⟨by omega, hjl⟩, fun h16 => ?_, fun h16 => ?_⟩
      · have ht : tickC op now2 c = ⟨c.addr, c.raised, now2, 3⟩ := by unfold tickC; rw [if_pos h16, clamp_id (by omega)]
        rw [ht]
        refine ⟨⟨by omega, hjl⟩, fun hc => ?_, fun _ => ⟨j + 1, hjl', hmi j hjl', ⟨trivial, rfl, rfl, rfl, rfl, rfl, rfl, rfl, rfl, wrap_next hjl hlen⟩, rfl, rfl, rfl, rfl, rfl, rfl, rfl, rfl, rfl⟩⟩
        exfalso
        simp at hc
      · have ht : tickC op now2 c = c := by unfold tickC; rw [if_neg (by rw [h16]; simp)]
        rw [ht]
        refine ⟨⟨by omega, hjl⟩, fun hc => ?_, fun _ => ⟨j + 1, hjl', hmi j hjl', ⟨trivial, rfl, rfl, rfl, rfl, rfl, rfl, rfl, rfl, wrap_next hjl hlen⟩, rfl, rfl, rfl, rfl, rfl, rfl, rfl, rfl, rfl⟩⟩
        exfalso
        simp at hc
  · have st2 := st2 h5
    have h6 : a.op.tmod 8 < 6 := by have := of_decide_eq_false h5; omega
    rw [show ({ op := a.op, addr := a.addr, n := a.n } : Act) = a from rfl]
    obtain ⟨m1, m2⟩ := model_eq (q := q) hg1 (show 0 ≤ now ∧ now ≤ 1099511627776 by omega) ha.1 h5
    rw [m1, m2, same_refl]
    have hdg := doL_good (q := q) (a := a) hg1 (show 0 ≤ now ∧ now ≤ 1099511627776 by omega)
    have hdl := hdg.len
    refine ⟨show ps.length ≤ 1000000 by omega, ⟨show ps.length ≤ 1000000 by omega, ha.1, h6⟩, fun _ => ⟨show (doL q ps a now).length < 9223372036854775808 by omega, show (doL q ps a now).length < 9223372036854775808 by omega⟩, fun hc => ?_, fun _ => ⟨fun _ => trivial, fun _ => trivial, fun v hv => ?_⟩⟩
    · exfalso
      simp at hc
    · have hvg : Good now v := by
        rw [hv]
        split
        · exact hdg
        · exact hg1
      have hvl := hvg.len
      refine ⟨show v.length < 9223372036854775808 by omega, fun hc => ?_, fun _ => ⟨g + 1, hlt', hmu, ⟨trivial, rfl, rfl, hw, by rw [st2]; exact hv, by rw [st2]⟩, rfl, rfl, rfl, rfl, rfl, rfl, rfl, rfl, rfl⟩⟩
      rw [hvg.right (by omega)] at hc
      cases hc
theorem okLScr : FnOk Try.prog u 5 spLScr := by
  refine fn_ok Try.prog u tab10 mo laws10 Try.func5 ?_
  intro xs c y h hc
  unfold spLScr at h
  split at h
  · cases h
    exact ⟨by kernel_rfl, _, _, bodyLScr _ _ _ _ _ _ _ _ _ _ hc⟩
  · cases h

end Go.Proofs.Ytlamlmihojodfaa.Cas
