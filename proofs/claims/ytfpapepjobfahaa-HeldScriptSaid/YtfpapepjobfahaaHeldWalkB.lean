/- Holders: the laws HeldMay, HeldTurns, HeldUsed, HeldNext, HeldRight, by the bodies' contracts. -/
import Derived.Test.YtfpapepjobfahaaHeldVcB
import Derived.Test.YtfpapepjobfahaaHeldMath
namespace Go.Proofs.Ytfpapepjobfahaa.Held
open Go Go.Proofs.Ytfpapepjobfahaa.Sx

theorem headS_len (xs : List Act) (n : Int) : (headS xs n).length ≤ xs.length := by
  unfold headS
  rw [List.length_drop, List.length_take]
  omega
/-! ### HeldRight -/
theorem ok_not (l : List Holder) (k : Nat) : okHL l k = !badH l k := by
  unfold okHL badH
  rw [may_eq]
  by_cases h0 : (k : Int) = 0
  · rw [show ((k : Int) == 0) = true by simpa using h0, decide_eq_false (show ¬ (k : Int) > 0 by omega)]
    cases mayL (getH l k).owner <;> rfl
  · rw [show ((k : Int) == 0) = false by simpa using h0, decide_eq_true (show (k : Int) > 0 by omega)]
    by_cases h1 : (getH l (k - 1)).addr < (getH l k).addr
    · rw [decide_eq_true h1, decide_eq_false (show ¬ (getH l (k - 1)).addr ≥ (getH l k).addr by omega)]
      cases mayL (getH l k).owner <;> rfl
    · rw [decide_eq_false h1, decide_eq_true (show (getH l (k - 1)).addr ≥ (getH l k).addr by omega)]
      cases mayL (getH l k).owner <;> rfl
theorem ok_to (l : List Holder) : ∀ k, okToL l k = (okTo l k && decide ((l.length : Int) ≤ 48)) := by
  intro k
  induction k with
  | zero => rw [okToL, okTo, Bool.true_and]
  | succ k ih =>
    rw [okToL, okTo, ih, ok_not]
    cases okTo l k <;> cases decide ((l.length : Int) ≤ 48) <;> cases badH l k <;> rfl
theorem right_eq (l : List Holder) : rightB l = okToL l l.length := by rw [ok_to]; rfl
theorem turn_row {hs : List Holder} (h : rowOk hs) (n : Int) : rowOk (turnA hs n) := by
  unfold turnA
  split
  · rename_i hp
    have hp := of_decide_eq_true hp
    refine ⟨by unfold setA; rw [List.length_set]; exact h.1, fun x hx => ?_⟩
    unfold setA at hx
    rcases List.mem_or_eq_of_mem_set hx with hx | hx
    · exact h.2 x hx
    · subst hx
      show (getH hs _).owner.size < _
      by_cases hk : ((IntKind.i64.wrap n).tmod hs.length).toNat < hs.length
      · exact h.2 _ (getH_mem hk)
      · unfold getH
        rw [List.getD_eq_getElem?_getD, List.getElem?_eq_none (by omega)]
        decide
  · exact h
/-! ### HeldUsed -/
theorem used_all {hs : List Holder} (hr : rngH hs) : usedL 0 0 hs = hs.length := by
  have key : ∀ k, k ≤ hs.length → usedAt 0 0 hs k = k := by
    intro k
    induction k with
    | zero => intro _; rfl
    | succ k ih =>
      intro hk
      have hm := hr _ (getH_mem (hs := hs) (k := k) (by omega))
      have := (has_iff (base := 0) (n := 0) (by omega) (by decide) hm (by decide +kernel)).2 ⟨hm.1, by have := hm.2; show _ < (0 : Int) + 2 ^ 32; omega⟩
      rw [usedAt, ih (by omega)]
      have this : hasA 0 0 (getH hs k).addr = true := this
      rw [if_pos this]
  unfold usedL
  rw [key _ (Nat.le_refl _)]
/-! ### HeldNext -/
theorem ref_has {hs : List Holder} {base : Int} {k : Nat} (h : hasH hs (atA base k) = true) : refAt hs base (k + 1) = ((refAt hs base k).1 + 1, (refAt hs base k).2) := by
  rw [refAt]
  rw [if_pos h]
theorem ref_free {hs : List Holder} {base : Int} {k : Nat} (h : hasH hs (atA base k) = false) (h2 : (refAt hs base k).2.2 = false) : refAt hs base (k + 1) = ((refAt hs base k).1, atA base k, true) := by
  rw [refAt]
  rw [if_neg (by rw [h]; simp), if_pos (by rw [h2]; rfl)]
theorem ref_old {hs : List Holder} {base : Int} {k : Nat} (h : hasH hs (atA base k) = false) (h2 : (refAt hs base k).2.2 = true) : refAt hs base (k + 1) = refAt hs base k := by
  rw [refAt]
  rw [if_neg (by rw [h]; simp), if_neg (by rw [h2]; simp)]
theorem ref_le (hs : List Holder) (base : Int) : ∀ k, (refAt hs base k).1 ≤ k := by
  intro k
  induction k with
  | zero => exact Nat.le_refl _
  | succ k ih =>
    cases h : hasH hs (atA base k)
    · cases h2 : (refAt hs base k).2.2
      · rw [ref_free h h2]; simp only; omega
      · rw [ref_old h h2]; omega
    · rw [ref_has h]; simp only; omega
theorem at_eq {base : Int} {k : Nat} (hb : 0 ≤ base ∧ base + k < 4294967296) : atA base k = base + k := by
  unfold atA
  rw [wrap32 (a := (k : Int)) (by omega), wrap32 (by omega)]
theorem ref_idx {hs : List Holder} (h : sortedH hs) {base : Int} {N : Nat} (hb : 0 ≤ base ∧ base + N ≤ 4294967296) : ∀ k, k ≤ N → idxH hs (base + k) = idxH hs base + (refAt hs base k).1 := by
  intro k
  induction k with
  | zero => intro _; simp [refAt]
  | succ k ih =>
    intro hk
    have ih := ih (by omega)
    have hn := idx_next h (base + k)
    have ha := at_eq (base := base) (k := k) (by omega)
    rw [show base + ((k + 1 : Nat) : Int) = base + k + 1 by omega, hn, ih]
    cases hh : hasH hs (atA base k)
    · rw [ha] at hh
      rw [hh]
      cases h2 : (refAt hs base k).2.2
      · rw [ref_free (by rw [ha]; exact hh) h2]; rfl
      · rw [ref_old (by rw [ha]; exact hh) h2]; rfl
    · rw [ref_has hh]
      rw [ha] at hh
      rw [hh, if_pos rfl]
      omega
theorem next_some (q : Nat → Bool) : ∀ (m s k : Nat), nextGo q s m = some k → s ≤ k ∧ k < s + m ∧ q k = true := by
  intro m
  induction m with
  | zero => intro s k h; cases h
  | succ m ih =>
    intro s k h
    rw [nextGo] at h
    split at h
    · rename_i hq
      cases h
      exact ⟨Nat.le_refl _, by omega, hq⟩
    · have := ih (s + 1) k h
      exact ⟨by omega, by omega, this.2.2⟩
theorem ref_next (hs : List Holder) (base : Int) (N : Nat) (o : Option Nat) (ho : nextGo (fun k => !hasH hs (atA base k)) 0 N = o) : ∀ k, k ≤ N →
    ((refAt hs base k).2.2 = true → ∃ j : Nat, o = some j ∧ atA base j = (refAt hs base k).2.1) ∧ ((refAt hs base k).2.2 = false → (refAt hs base k).2.1 = 0 ∧ nextGo (fun k => !hasH hs (atA base k)) k (N - k) = o) := by
  intro k
  induction k with
  | zero => intro _; exact ⟨fun h => (by cases h), fun _ => ⟨rfl, ho⟩⟩
  | succ k ih =>
    intro hk
    obtain ⟨i1, i2⟩ := ih (by omega)
    cases h : hasH hs (atA base k)
    · cases h2 : (refAt hs base k).2.2
      · rw [ref_free h h2]
        refine ⟨fun _ => ⟨k, ?_, rfl⟩, fun hc => (by cases hc)⟩
        have := (i2 h2).2
        rw [next_step _ (by omega), if_pos (by rw [h]; rfl)] at this
        exact this.symm
      · rw [ref_old h h2]
        exact ⟨i1, fun hc => absurd (h2.symm.trans hc) (by decide)⟩
    · rw [ref_has h]
      refine ⟨i1, fun hc => ⟨(i2 hc).1, ?_⟩⟩
      have := (i2 hc).2
      rw [next_step _ (by omega), if_neg (by rw [h]; simp)] at this
      exact this
theorem next_eq {hs : List Holder} {base : Int} {n : Nat} (hn : n ≤ 32) (hR : rightA base n = true) : nextV hs base n = (refAt hs base (2 ^ (32 - n))).2.1 ∧ nextB hs base n = (refAt hs base (2 ^ (32 - n))).2.2 := by
  have hsz : (sizeA base n).toNat = 2 ^ (32 - n) := by rw [size_eq hn hR, ← pw_cast]; rfl
  obtain ⟨r1, r2⟩ := ref_next hs base (2 ^ (32 - n)) (nextK hs base n) (by unfold nextK; rw [hsz]) _ (Nat.le_refl _)
  unfold nextV nextB
  cases h2 : (refAt hs base (2 ^ (32 - n))).2.2
  · obtain ⟨h3, h4⟩ := r2 h2
    rw [Nat.sub_self, nextGo] at h4
    rw [← h4, h3]
    exact ⟨rfl, rfl⟩
  · obtain ⟨j, h3, h4⟩ := r1 h2
    rw [h3]
    exact ⟨h4, rfl⟩
theorem raw_ok (hs : List Holder) {base : Int} (bits : Int) (hb : 0 ≤ base ∧ base < 4294967296) :
    (!(nextB hs base bits == rightA base bits) && nextB hs base bits || nextB hs base bits && !hasA base bits (nextV hs base bits) || !nextB hs base bits && nextV hs base bits != 0) = false := by
  unfold nextB nextV
  cases hk : nextK hs base bits with
  | none => simp
  | some k =>
    obtain ⟨_, h2, _⟩ := next_some _ _ _ _ hk
    have hR : rightA base bits = true := by
      cases h : rightA base bits
      · unfold sizeA at h2
        rw [if_pos (by rw [h]; rfl)] at h2
        exact absurd h2 (by simp)
      · rfl
    have hr := right_rng hR
    obtain ⟨n, rfl⟩ := Int.eq_ofNat_of_zero_le hr.1
    have hn : n ≤ 32 := by omega
    have hroom := room hn hb hR
    rw [size_eq hn hR] at h2
    have hp := pw_pos (32 - n)
    have hat := at_eq (base := base) (k := k) (by omega)
    have hh := (has_iff hn hb (a := base + k) (by omega) hR).2 (by omega)
    simp only [hat, hh, hR]
    rfl
theorem bodySome (xs : List Act) (h : actsOk xs) : BodyOk Try.prog u tab5 [] [(0, .inv (annSome (headS xs 60)))] Try.f12 [.csl 58 xs] (.csl 36 (someL xs)) := by
  constructor
  have eqn : bodyW Try.prog u tab5 [] (drawW Try.prog u tab5) (loopsBy u [(0, .inv (annSome (headS xs 60)))]) Try.f12 [.csl 58 xs] (.csl 36 (someL xs)) = vcSome xs := by kernel_rfl
  rw [eqn]
  unfold vcSome
  obtain ⟨hl, hn⟩ := h
  have hl : xs.length < 9223372036854775808 := hl
  have hh : nOk (headS xs 60) := nOk_head hn 60
  have hhl := headS_len xs 60
  refine ⟨⟨Int.le_refl _, by unfold mn; split <;> omega, by unfold mn; split <;> omega⟩, ⟨0, Nat.zero_le _, rfl, rfl, rfl, rfl⟩, fun g hg => ⟨fun hlt => ?_, fun hge => ?_⟩⟩
  · have hlt : (g : Int) < ((headS xs 60).length : Int) := of_decide_eq_true hlt
    have hlt' : g < (headS xs 60).length := by omega
    obtain ⟨hg1, _⟩ := some_good hh g (by omega)
    have ha := (hh _ (getA_mem hlt')).2
    have ho := owner_may ha
    exact ⟨⟨by omega, hlt⟩, ha, ⟨hg1.find, Nat.lt_of_le_of_lt ho.2 (by decide)⟩, fun _ => trivial, fun _ => trivial, fun v hv => ⟨g + 1, hlt', show (headS xs 60).length - (g + 1) < (headS xs 60).length - g by omega, rfl, rfl, wrap_next hlt (by omega), hv⟩⟩
  · have hge : ¬ (g : Int) < ((headS xs 60).length : Int) := of_decide_eq_false hge
    have hg : g ≤ (headS xs 60).length := hg
    have : g = (headS xs 60).length := by omega
    subst this
    rfl
theorem okSome : FnOk Try.prog u 12 spSome := by
  refine fn_ok Try.prog u tab5 mo laws5 Try.func12 ?_
  intro xs c y h hc
  unfold spSome at h
  split at h
  · cases h
    exact ⟨by kernel_rfl, _, _, bodySome _ hc⟩
  · cases h
theorem laws6 : Laws Try.prog u tab6 := by
  refine ⟨law, clean, fun p hp => ?_⟩
  rcases List.mem_cons.1 hp with rfl | hp
  · exact okAwake
  rcases List.mem_cons.1 hp with rfl | hp
  · exact okSome
  exact laws5.tab p hp
theorem bodyLMay (s : ByteArray) (n : Int) (h : strOk s ∧ 0 ≤ n) : BodyOk Try.prog u tab6 [] [] Try.f3 [.str s, .int .u8 n] (.bool true) := by
  constructor
  have eqn : bodyW Try.prog u tab6 [] (drawW Try.prog u tab6) (loopsBy u []) Try.f3 [.str s, .int .u8 n] (.bool true) = vcLMay s n := by kernel_rfl
  rw [eqn]
  unfold vcLMay
  obtain ⟨hs, hn⟩ := h
  have hs : s.size < 9223372036854775808 := hs
  have hm : n.tmod 12 = n % 12 := Int.tmod_eq_emod_of_nonneg hn
  have hfin : ∀ i : Fin 12, (mayB (letters16.extract 0 i.val) == (decide ((i.val : Int) > 0) && decide ((i.val : Int) < 9))) = true ∧ (letters16.extract 0 i.val).size ≤ 16 := by decide +kernel
  have h12 := hfin ⟨(n % 12).toNat, by omega⟩
  simp only at h12
  rw [show (((n % 12).toNat : Nat) : Int) = n % 12 by omega] at h12
  rw [hm]
  refine ⟨fun h => absurd h (by decide), fun _ => ⟨by decide, ⟨by omega, by omega, by omega⟩, hs, hs, fun _ => Nat.lt_of_le_of_lt h12.2 (by decide), fun _ => by decide, fun _ _ => by decide, ?_⟩⟩
  rw [may_eq s, beq_self_eq_true, Bool.true_and]
  exact h12.1
theorem okLMay : FnOk Try.prog u 3 spLMay := by
  refine fn_ok Try.prog u tab6 mo laws6 Try.func3 ?_
  intro xs c y h hc
  unfold spLMay at h
  split at h
  · cases h
    exact ⟨by kernel_rfl, _, _, bodyLMay _ _ hc⟩
  · cases h
theorem bodyLTurns (xs : List Act) (n : Int) (h : actsOk xs) : BodyOk Try.prog u tab6 [] [(0, .inv (annTurns xs))] Try.f7 [.csl 58 xs, .int .u8 n] (.bool true) := by
  constructor
  have eqn : bodyW Try.prog u tab6 [] (drawW Try.prog u tab6) (loopsBy u [(0, .inv (annTurns xs))]) Try.f7 [.csl 58 xs, .int .u8 n] (.bool true) = vcLTurns xs n := by kernel_rfl
  rw [eqn]
  unfold vcLTurns
  obtain ⟨hg, hr⟩ := someL_good h.2
  have hl := hg.lenOk
  have hmay : mayB (⟨#[110, 101, 119]⟩ : ByteArray) = true := by decide +kernel
  generalize hs' : someL xs = hs at *
  refine ⟨fun h => absurd h (by decide), fun _ => ⟨h, ⟨hg.find, Nat.le_of_ble_eq_true rfl⟩, fun he => ⟨hg.find, ?_⟩, fun he => ?_⟩⟩
  · have he : (putE hs (newH n) != 0) = true := he
    show (putE hs (newH n) == 6 && hasH hs (nearA n) || putE hs (newH n) == 4 && (hs.length : Int) == 48) = true
    have hp : putE hs (newH n) = if hasH hs (nearA n) = true then 6 else if decide ((hs.length : Int) ≥ 48) = true then 4 else 0 := by
      show (if (!mayB (⟨#[110, 101, 119]⟩ : ByteArray)) = true then _ else _) = _
      rw [hmay]
      rfl
    rw [hp] at he ⊢
    have hlen := hg.len
    cases h1 : hasH hs (nearA n)
    · rw [h1] at he
      by_cases h2 : (hs.length : Int) ≥ 48
      · rw [decide_eq_true h2, show ((hs.length : Int) == 48) = true by simpa using (show (hs.length : Int) = 48 by omega)]
        rfl
      · rw [decide_eq_false h2] at he
        exact absurd he (by decide)
    · rfl
  · have he' : (putE hs (newH n) != 0) = false := he
    have h0 : putE hs (newH n) = 0 := by simpa using he'
    obtain ⟨g1, g2⟩ := put_good hg h0
    obtain ⟨t1, t2, t3⟩ := put_take hg h0
    have hL : putL hs ({ addr := nearA n, owner := { data := #[110, 101, 119] }, mac := { m0 := 0, m1 := 0, m2 := 0, m3 := 0, m4 := 0, m5 := 0 } } : Holder) = putNew hs (newH n) := putL_new h0
    have t1 : takeL (putNew hs (newH n)) (nearA n) = hs := t1
    have t2 : takeE (putNew hs (newH n)) (nearA n) = 0 := t2
    rw [hL, t1, t2]
    refine ⟨g1.find, fun hc => ?_, fun _ => ⟨⟨0, Nat.zero_le _, rfl, rfl, rfl, rfl, rfl⟩, fun g hg' => ⟨fun hlt => ?_, fun _ => rfl⟩⟩⟩
    · exfalso
      rw [t3, wrap_i64_id (n := (hs.length : Int) + 1) (by have := hg.len; omega)] at hc
      simp at hc
    · have hlt : (g : Int) < (hs.length : Int) := of_decide_eq_true hlt
      have hlt' : g < hs.length := by omega
      have hy : hs.getD (g : Int).toNat (u.dflt 36) ∈ hs := getH_mem hlt'
      have e := get_of_mem (srt_sorted g1.srt) ((g2 _).2 (.inl hy))
      refine ⟨⟨by omega, hlt⟩, g1.find, ⟨by omega, hlt⟩, ⟨by omega, hlt⟩, fun _ => ⟨by omega, hlt⟩, fun hc => ?_, fun _ => ⟨g + 1, hlt', ?_, rfl, rfl, rfl, rfl, wrap_next hlt hl⟩⟩
      · exfalso
        rw [e.1, e.2] at hc
        simp at hc
      · show (someL xs).length - (g + 1) < (someL xs).length - g
        rw [hs']
        omega
theorem okLTurns : FnOk Try.prog u 7 spLTurns := by
  refine fn_ok Try.prog u tab6 mo laws6 Try.func7 ?_
  intro xs c y h hc
  unfold spLTurns at h
  split at h
  · cases h
    exact ⟨by kernel_rfl, _, _, bodyLTurns _ _ hc⟩
  · cases h
theorem bodyLUsed (xs : List Act) (a b : Int) (h : actsOk xs ∧ 0 ≤ a ∧ 0 ≤ b) : BodyOk Try.prog u tab6 [] [] Try.f5 [.csl 58 xs, .int .u8 a, .int .u8 b] (.bool true) := by
  constructor
  have eqn : bodyW Try.prog u tab6 [] (drawW Try.prog u tab6) (loopsBy u []) Try.f5 [.csl 58 xs, .int .u8 a, .int .u8 b] (.bool true) = vcLUsed xs a b := by kernel_rfl
  rw [eqn]
  unfold vcLUsed
  obtain ⟨ha, h1, h2⟩ := h
  obtain ⟨hg, hr⟩ := someL_good ha.2
  have hso := srt_sorted hg.srt
  have hlen := hg.len
  have hl := hg.lenOk
  have b0 := bits_eq h2 6 (by decide)
  have b1 : IntKind.i64.wrap (26 + IntKind.i64.wrap (b.tmod 6)) = ((26 + (b % 6).toNat : Nat) : Int) := b0.1
  have b2 : 26 + (b % 6).toNat < 32 := b0.2
  rw [b1]
  generalize hn : 26 + (b % 6).toNat = n at *
  have hn1 : 26 ≤ n := by omega
  have hbe : shl IntKind.u32 (shr IntKind.u32 (nearA a) (IntKind.i64.wrap (32 - (n : Int)))) (IntKind.i64.wrap (32 - (n : Int))) = baseN a n := rfl
  have hw : IntKind.i64.wrap (32 - (n : Int)) = 32 - n := wrap_i64_id (by omega)
  rw [hbe, hw]
  obtain ⟨c1, c2, _⟩ := base_ok h1 (show 26 ≤ n ∧ n ≤ 32 by omega)
  generalize baseN a n = base at *
  generalize someL xs = hs at *
  have hroom := room (show n ≤ 32 by omega) (by omega) c2
  obtain ⟨d1, d2, d3, d4, d5⟩ := halves (show n < 32 by omega) (by omega) c2
  have hP : (2 : Int) ^ (32 - n) = 2 ^ (31 - n) + 2 ^ (31 - n) := by rw [show 32 - n = (31 - n) + 1 by omega, Int.pow_succ]; omega
  have hq := pw_pos (31 - n)
  have u0 := used_idx hso hr (show n ≤ 32 by omega) (by omega) c2
  have u1 := used_idx hso hr (show n + 1 ≤ 32 by omega) (by omega) d4
  have u2 := used_idx hso hr (show n + 1 ≤ 32 by omega) (by omega) d5
  rw [show 32 - (n + 1) = 31 - n by omega] at u1 u2
  rw [show base + 2 ^ (31 - n) + 2 ^ (31 - n) = base + 2 ^ (32 - n) by omega] at u2
  have m1 := idx_mono hso (show base ≤ base + 2 ^ (31 - n) by omega)
  have m2 := idx_mono hso (show base + 2 ^ (31 - n) ≤ base + 2 ^ (32 - n) by omega)
  have m3 := idx_le hs (base + 2 ^ (32 - n))
  rw [d1, d2, d3]
  simp only [↓reduceIte]
  rw [u0, u1, u2, used_all hr, wrap_i64_id (by omega)]
  refine ⟨fun h => absurd h (by decide), fun _ => ⟨ha, by decide, by omega, by omega, fun _ => hl, fun _ => hl, fun _ => hl, fun _ => hl, fun _ => hl, ?_⟩⟩
  simp
  omega
theorem okLUsed : FnOk Try.prog u 5 spLUsed := by
  refine fn_ok Try.prog u tab6 mo laws6 Try.func5 ?_
  intro xs c y h hc
  unfold spLUsed at h
  split at h
  · cases h
    exact ⟨by kernel_rfl, _, _, bodyLUsed _ _ _ hc⟩
  · cases h
theorem bodyLNext (xs : List Act) (a b base bits : Int) (h : actsOk xs ∧ (0 ≤ a ∧ 0 ≤ b) ∧ 0 ≤ base ∧ base < 4294967296) : BodyOk Try.prog u tab6 [] [(0, .inv (annNextL (someL xs) (baseN a (bitsN b)) (sizeN (bitsN b))))] Try.f4 [.csl 58 xs, .int .u8 a, .int .u8 b, .agg [.int .u32 base, .int .i64 bits]] (.bool true) := by
  constructor
  have eqn : bodyW Try.prog u tab6 [] (drawW Try.prog u tab6) (loopsBy u [(0, .inv (annNextL (someL xs) (baseN a (bitsN b)) (sizeN (bitsN b))))]) Try.f4 [.csl 58 xs, .int .u8 a, .int .u8 b, .agg [.int .u32 base, .int .i64 bits]] (.bool true) = vcLNext xs a b base bits := by kernel_rfl
  rw [eqn]
  unfold vcLNext
  obtain ⟨ha, ⟨h1, h2⟩, hb⟩ := h
  obtain ⟨hg, hr⟩ := someL_good ha.2
  have hso := srt_sorted hg.srt
  have hl := hg.lenOk
  have b0 := bits_eq h2 7 (by decide)
  have b1 : IntKind.i64.wrap (26 + IntKind.i64.wrap (b.tmod 7)) = ((26 + (b % 7).toNat : Nat) : Int) := b0.1
  have b2 : 26 + (b % 7).toNat < 33 := b0.2
  have b3 : bitsN b = ((26 + (b % 7).toNat : Nat) : Int) := by
    rw [← b1, wrap_i64_id (n := b.tmod 7) (by rw [Int.tmod_eq_emod_of_nonneg h2]; omega)]
    rfl
  rw [b1, b3]
  generalize hn : 26 + (b % 7).toNat = n at *
  have hn1 : 26 ≤ n ∧ n ≤ 32 := by omega
  have hbe : shl IntKind.u32 (shr IntKind.u32 (nearA a) (IntKind.i64.wrap (32 - (n : Int)))) (IntKind.i64.wrap (32 - (n : Int))) = baseN a n := rfl
  have hsz : shl .i64 1 (IntKind.i64.wrap (32 - (n : Int))) = ((2 ^ (32 - n) : Nat) : Int) := size_nat ⟨n, by omega⟩
  have hsN : sizeN (n : Int) = 2 ^ (32 - n) := by unfold sizeN; rw [hsz]; rfl
  have hw : IntKind.i64.wrap (32 - (n : Int)) = 32 - n := wrap_i64_id (by omega)
  rw [hbe, hsz, hsN, hw]
  obtain ⟨c1, c2, c3⟩ := base_ok h1 hn1
  generalize baseN a n = B at *
  generalize someL xs = hs at *
  have hne := next_eq (hs := hs) hn1.2 c2
  have hu := used_idx hso hr hn1.2 (by omega) c2
  rw [← pw_cast] at hu c3
  have hri := ref_idx hso (base := B) (N := 2 ^ (32 - n)) (by omega) _ (Nat.le_refl _)
  generalize hN : 2 ^ (32 - n) = N at *
  refine ⟨fun h => absurd h (by decide), fun _ => ⟨ha, by decide, by omega, by omega, ⟨0, Nat.zero_le _, ⟨trivial, rfl, rfl, trivial, rfl, rfl, rfl, rfl⟩, ⟨rfl, rfl⟩, rfl, rfl⟩, fun g hg' => ⟨by omega, fun hlt => ?_, fun hge => ?_⟩⟩⟩
  · have hlt : (g : Int) < (N : Int) := of_decide_eq_true hlt
    have hlt' : g < N := by omega
    have hle := ref_le hs B g
    have hmu : N - (g + 1) < N - g := by omega
    have hwn := wrap_next hlt (by omega)
    refine ⟨hg.find, fun hh => ?_, fun hh => ⟨fun _ => trivial, fun _ => trivial, fun v hv w hw2 => ?_⟩⟩
    · have e := ref_has (base := B) hh
      refine ⟨g + 1, hlt', hmu, ⟨trivial, rfl, rfl, trivial, hwn, ?_, ?_, ?_⟩, ⟨rfl, rfl⟩, rfl, rfl⟩
      · rw [e, wrap_i64_id (by omega)]; rfl
      · rw [e]
      · rw [e]
    · cases hf : (refAt hs B g).2.2
      · have e := ref_free (base := B) hh hf
        rw [hf] at hv hw2
        exact ⟨g + 1, hlt', hmu, ⟨trivial, rfl, rfl, trivial, hwn, by rw [e], by rw [e]; exact hv, by rw [e]; exact hw2⟩, ⟨rfl, rfl⟩, rfl, rfl⟩
      · have e := ref_old (base := B) hh hf
        rw [hf] at hv hw2
        exact ⟨g + 1, hlt', hmu, ⟨trivial, rfl, rfl, trivial, hwn, by rw [e], by rw [e]; exact hv, by rw [e, hf]; exact hw2⟩, ⟨rfl, rfl⟩, rfl, rfl⟩
  · have hge : ¬ (g : Int) < (N : Int) := of_decide_eq_false hge
    have hg' : g ≤ N := hg'
    have : g = N := by omega
    subst this
    refine ⟨hg.find, hg.find, fun hc => ?_, fun _ => ⟨hl, ?_⟩⟩
    · rw [raw_ok hs bits hb] at hc
      cases hc
    · rw [hne.1, hne.2, hu, hri]
      simp
      omega
theorem okLNext : FnOk Try.prog u 4 spLNext := by
  refine fn_ok Try.prog u tab6 mo laws6 Try.func4 ?_
  intro xs c y h hc
  unfold spLNext at h
  split at h
  · cases h
    exact ⟨by kernel_rfl, _, _, bodyLNext _ _ _ _ _ hc⟩
  · cases h
theorem bodyLRight (hs : List Holder) (xs : List Act) (n : Int) (h : rowOk hs ∧ actsOk xs ∧ 0 ≤ n ∧ n < 256) : BodyOk Try.prog u tab6 [] [(0, .inv (annRightL hs (turnA (someL xs) n))), (2, .see 39 (annRightL2 hs (turnA (someL xs) n)))] Try.f6 [.csl 36 hs, .csl 58 xs, .int .u8 n] (.bool true) := by
  constructor
  have eqn : bodyW Try.prog u tab6 [] (drawW Try.prog u tab6) (loopsBy u [(0, .inv (annRightL hs (turnA (someL xs) n))), (2, .see 39 (annRightL2 hs (turnA (someL xs) n)))]) Try.f6 [.csl 36 hs, .csl 58 xs, .int .u8 n] (.bool true) = vcLRight hs xs n := by kernel_rfl
  rw [eqn]
  unfold vcLRight
  obtain ⟨hrow, ha, hn⟩ := h
  obtain ⟨hg, hr⟩ := someL_good ha.2
  have hlen := hg.len
  have hpick : ∀ g, g < 2 → rowOk (pickL hs (turnA (someL xs) n) g) := by
    intro g hg2
    rcases (show g = 0 ∨ g = 1 by omega) with rfl | rfl
    · exact hrow
    · exact turn_row hg.row n
  rw [hg.right]
  refine ⟨fun h => absurd h (by decide), fun _ => ⟨ha, hg.row, fun h => absurd h (by decide), fun _ => ⟨fun hpos => ?_, fun hpos => ?_⟩⟩⟩
  · have hT : [hs, setA (someL xs) ((IntKind.i64.wrap n).tmod (someL xs).length).toNat (nearA n)] = [hs, turnA (someL xs) n] := by unfold turnA; rw [if_pos hpos]
    have hpos := of_decide_eq_true hpos
    have hw : IntKind.i64.wrap n = n := wrap_i64_id (by omega)
    have hm : 0 ≤ (IntKind.i64.wrap n).tmod ((someL xs).length : Int) ∧ (IntKind.i64.wrap n).tmod ((someL xs).length : Int) < ((someL xs).length : Int) := by
      rw [hw, Int.tmod_eq_emod_of_nonneg hn.1]
      exact ⟨Int.emod_nonneg _ (by omega), Int.emod_lt_of_pos _ hpos⟩
    refine ⟨show (someL xs).length * 32 ≤ 140737488355328 by omega, by omega, hm, ?_⟩
    refine ⟨⟨0, Nat.zero_le _, rfl, hT, rfl⟩, fun g hg => ⟨fun hlt => ?_, fun _ => rfl⟩⟩
    have hlt : (g : Int) < ((2 : Nat) : Int) := of_decide_eq_true hlt
    have hg2 : g < 2 := by omega
    have hp := hpick g hg2
    have hp1 : (pickL hs (turnA (someL xs) n) g).length < 9223372036854775808 := hp.1
    refine ⟨⟨by omega, hlt⟩, ⟨0, Nat.zero_le _, rfl, rfl, rfl, rfl, rfl, rfl, rfl, rfl⟩, fun j hj => ⟨fun hjl => ?_, fun hjg => ?_⟩⟩
    · have hjl : (j : Int) < ((pickL hs (turnA (someL xs) n) g).length : Int) := of_decide_eq_true hjl
      have hjl' : j < (pickL hs (turnA (someL xs) n) g).length := by omega
      refine ⟨⟨by omega, hjl⟩, fun _ => hp.2 _ (getH_mem hjl'), fun _ h0 => pred_rng j _ hjl' (Nat.le_of_lt hp1) (decide_eq_true (by have := beq_eq_false_iff_ne.1 h0; omega)), ⟨j + 1, hjl', show (pickL hs (turnA (someL xs) n) g).length - (j + 1) < (pickL hs (turnA (someL xs) n) g).length - j by omega, rfl, rfl, rfl, rfl, rfl, rfl, wrap_next hjl hp1, ?_⟩⟩
      rw [pred_nat j _ hjl' (Nat.le_of_lt hp1)]
      exact Bool.and_assoc _ _ _
    · have hjg : ¬ (j : Int) < ((pickL hs (turnA (someL xs) n) g).length : Int) := of_decide_eq_false hjg
      have hj : j ≤ (pickL hs (turnA (someL xs) n) g).length := hj
      have hje : j = (pickL hs (turnA (someL xs) n) g).length := by omega
      refine ⟨hp, fun hc => ?_, fun _ => ⟨g + 1, hg2, show 2 - (g + 1) < 2 - g by omega, rfl, rfl, wrap_next hlt (by decide)⟩⟩
      have hc : (!(rightB (pickL hs (turnA (someL xs) n) g) == okToL (pickL hs (turnA (someL xs) n) g) j)) = true := hc
      rw [hje, right_eq, beq_self_eq_true] at hc
      cases hc
  · have hT : [hs, someL xs] = [hs, turnA (someL xs) n] := by unfold turnA; rw [if_neg (by rw [hpos]; simp)]
    refine ⟨⟨0, Nat.zero_le _, rfl, hT, rfl⟩, fun g hg => ⟨fun hlt => ?_, fun _ => rfl⟩⟩
    have hlt : (g : Int) < ((2 : Nat) : Int) := of_decide_eq_true hlt
    have hg2 : g < 2 := by omega
    have hp := hpick g hg2
    have hp1 : (pickL hs (turnA (someL xs) n) g).length < 9223372036854775808 := hp.1
    refine ⟨⟨by omega, hlt⟩, ⟨0, Nat.zero_le _, rfl, rfl, rfl, rfl, rfl, rfl, rfl, rfl⟩, fun j hj => ⟨fun hjl => ?_, fun hjg => ?_⟩⟩
    · have hjl : (j : Int) < ((pickL hs (turnA (someL xs) n) g).length : Int) := of_decide_eq_true hjl
      have hjl' : j < (pickL hs (turnA (someL xs) n) g).length := by omega
      refine ⟨⟨by omega, hjl⟩, fun _ => hp.2 _ (getH_mem hjl'), fun _ h0 => pred_rng j _ hjl' (Nat.le_of_lt hp1) (decide_eq_true (by have := beq_eq_false_iff_ne.1 h0; omega)), ⟨j + 1, hjl', show (pickL hs (turnA (someL xs) n) g).length - (j + 1) < (pickL hs (turnA (someL xs) n) g).length - j by omega, rfl, rfl, rfl, rfl, rfl, rfl, wrap_next hjl hp1, ?_⟩⟩
      rw [pred_nat j _ hjl' (Nat.le_of_lt hp1)]
      exact Bool.and_assoc _ _ _
    · have hjg : ¬ (j : Int) < ((pickL hs (turnA (someL xs) n) g).length : Int) := of_decide_eq_false hjg
      have hj : j ≤ (pickL hs (turnA (someL xs) n) g).length := hj
      have hje : j = (pickL hs (turnA (someL xs) n) g).length := by omega
      refine ⟨hp, fun hc => ?_, fun _ => ⟨g + 1, hg2, show 2 - (g + 1) < 2 - g by omega, rfl, rfl, wrap_next hlt (by decide)⟩⟩
      have hc : (!(rightB (pickL hs (turnA (someL xs) n) g) == okToL (pickL hs (turnA (someL xs) n) g) j)) = true := hc
      rw [hje, right_eq, beq_self_eq_true] at hc
      cases hc
theorem okLRight : FnOk Try.prog u 6 spLRight := by
  refine fn_ok Try.prog u tab6 mo laws6 Try.func6 ?_
  intro xs c y h hc
  unfold spLRight at h
  split at h
  · cases h
    exact ⟨by kernel_rfl, _, _, bodyLRight _ _ _ hc⟩
  · cases h
end Go.Proofs.Ytfpapepjobfahaa.Held
