/- Holders: the contracts of the package's functions. -/
import Derived.Test.YtfpapepjobfahaaHeldVc
namespace Go.Proofs.Ytfpapepjobfahaa.Held
open Go Go.Proofs.Ytfpapepjobfahaa.Sx

theorem nils_h {e : E A} {vs : List Value} (h : RepL Try.prog u e [.nils] vs) : RepL Try.prog u e (enc 30 ([] : List Holder)) vs := by
  cases h with
  | nils h => exact .csl _ [] none 0 0 (fun _ => []) rfl (Nat.le_refl _) (.inl rfl) (fun i hi => by simp at hi) (fun i x hi => by simp at hi) h
theorem zsl_h {e : E A} {vs : List Value} (h : RepL Try.prog u e [.zsl] vs) : RepL Try.prog u e (enc 30 ([] : List Holder)) vs := by
  cases h with
  | zsl z h => exact .csl _ [] z 0 0 (fun _ => []) rfl (Nat.le_refl _) (.inl rfl) (fun i hi => by simp at hi) (fun i x hi => by simp at hi) h
theorem dec_sound (e : E A) (T : Nat) (l : List (SV A)) (vs : List Value) (x : A T) (h : dec T l = some x) (hr : RepL Try.prog u e l vs) : RepL Try.prog u e (enc T x) vs := by
  unfold dec at h
  split at h <;> first | (cases h; exact hr) | (cases h; exact nils_h hr) | (cases h; exact zsl_h hr) | cases h
theorem dec_len {T : Nat} {l : List (SV A)} {x : A T} (h : dec T l = some x) : l.length = Try.prog.cellsOf T := by
  unfold dec at h
  split at h <;> first | (cases h; kernel_rfl) | cases h
theorem law : Law Try.prog u := by
  refine ⟨fun e T l vs x h hr => dec_sound e T l vs x h hr, fun T l x h => dec_len h, ?_, ?_, ?_, ?_, fun T off t f h => (by cases h), fun T off S p h => (by cases h), fun t S h => (by cases h), fun t ps x h => (by cases h), fun T x h => (by cases h)⟩
  · intro T f x y h
    cases h
  · intro T x
    show (enc T x).all _ = true
    unfold enc
    split <;> rfl
  · intro T xs h
    cases h
  · intro T xs h
    cases h
theorem clean : ∀ (T : Nat) (x : A T), noOwn.go (u.enc T x) = true := by
  intro T x
  show noOwn.go (enc T x) = true
  unfold enc
  split <;> rfl
theorem mo : Try.prog.follows .mixedOrders = true := by kernel_rfl
theorem laws0 : Laws Try.prog u tab0 := { toLaw := law, clean := clean, tab := fun p hp => by cases hp }
theorem wrap_i64_id {n : Int} (h : -9223372036854775808 ≤ n ∧ n < 9223372036854775808) : IntKind.i64.wrap n = n := by rw [IntKind.wrap_i64]; omega
theorem wrap_next {g n : Nat} (h : (g : Int) < n) (hn : n < 9223372036854775808) : IntKind.i64.wrap ((g : Int) + 1) = ((g + 1 : Nat) : Int) := by
  rw [IntKind.wrap_i64]
  omega
theorem drop_getD {α : Type} (xs : List α) (g : Nat) (h : g < xs.length) (d : α) : xs.drop g = xs.getD g d :: xs.drop (g + 1) := by
  rw [List.drop_eq_getElem_cons h]
  simp [List.getD, List.getElem?_eq_getElem h]
theorem take_getD {α : Type} (xs : List α) (g : Nat) (h : g < xs.length) (d : α) : xs.take (g + 1) = xs.take g ++ [xs.getD g d] := by
  rw [List.take_add_one, List.getElem?_eq_getElem h]
  simp [List.getD, List.getElem?_eq_getElem h]
theorem any_take_drop {α : Type} (p : α → Bool) (xs : List α) (g : Nat) : xs.any p = ((xs.take g).any p || (xs.drop g).any p) := by
  rw [← List.any_append, List.take_append_drop]
theorem getH_mem {hs : List Holder} {k : Nat} (hk : k < hs.length) : getH hs k ∈ hs := by
  unfold getH
  rw [List.getD_eq_getElem?_getD, List.getElem?_eq_getElem hk]
  exact List.getElem_mem _
theorem getH_get {hs : List Holder} {k : Nat} (hk : k < hs.length) : hs[k] = getH hs k := by
  unfold getH
  rw [List.getD_eq_getElem?_getD, List.getElem?_eq_getElem hk]
  rfl
theorem shr64 (n : Int) : shr .u64 n (1 : Int) = n / 2 := by
  unfold shr
  rw [show min (1 : Int).toNat IntKind.u64.bits = 1 from rfl, Int.fdiv_eq_ediv_of_nonneg _ (by decide)]
  rfl
theorem half (s : Int) (h : 0 ≤ s ∧ s < 9223372036854775808) : IntKind.i64.wrap (shr .u64 (IntKind.u64.wrap (IntKind.i64.wrap s)) 1) = s / 2 := by
  have h1 : IntKind.u64.wrap s = s := by simp [IntKind.wrap, IntKind.bits, IntKind.signed]; omega
  rw [wrap_i64_id (n := s) (by omega), h1, shr64, wrap_i64_id (by omega)]
theorem idx_at {hs : List Holder} {a : Int} {i : Nat} (hi : i ≤ hs.length) (h1 : ∀ m, m < i → geH a (getH hs m) = false) (h2 : i < hs.length → geH a (getH hs i) = true) : idxH hs a = i := by
  unfold idxH
  by_cases h : i < hs.length
  · rw [List.findIdx_eq h]
    refine ⟨by rw [getH_get h]; exact h2 h, fun j hj => ?_⟩
    rw [getH_get (by omega)]
    exact h1 j hj
  · have : i = hs.length := by omega
    subst this
    rw [List.findIdx_eq_length]
    intro x hx
    obtain ⟨j, hj, rfl⟩ := List.getElem_of_mem hx
    rw [getH_get hj]
    exact h1 j hj
theorem idx_le (hs : List Holder) (a : Int) : idxH hs a ≤ hs.length := List.findIdx_le_length
theorem has_lt {hs : List Holder} {a : Int} (h : hasH hs a = true) : idxH hs a < hs.length ∧ (getH hs (idxH hs a)).addr = a := by
  unfold hasH at h
  rw [Bool.and_eq_true] at h
  have := of_decide_eq_true h.1
  exact ⟨by omega, eq_of_beq h.2⟩
theorem pred_nat (g n : Nat) (hg : g < n) (hn : n ≤ 9223372036854775808) : (IntKind.i64.wrap ((g : Int) - 1)).toNat = g - 1 := by
  rw [wrap_i64_id (by omega)]
  omega
theorem pred_rng (g n : Nat) (hg : g < n) (hn : n ≤ 9223372036854775808) (h : decide ((g : Int) > 0) = true) : 0 ≤ IntKind.i64.wrap ((g : Int) - 1) ∧ IntKind.i64.wrap ((g : Int) - 1) < (n : Int) := by
  have := of_decide_eq_true h
  rw [wrap_i64_id (by omega)]
  omega
theorem sort_le {hs : List Holder} {a : Int} (h : sortedH hs) {m n : Nat} (hmn : m ≤ n) (hn : n < hs.length) : (geH a (getH hs m) = true → geH a (getH hs n) = true) ∧ (geH a (getH hs n) = false → geH a (getH hs m) = false) := by
  have hle : (getH hs m).addr ≤ (getH hs n).addr := by
    by_cases e : m = n
    · subst e; exact Int.le_refl _
    · exact Int.le_of_lt (h m n (by omega) hn)
  unfold geH
  refine ⟨fun h1 => decide_eq_true ?_, fun h1 => decide_eq_false ?_⟩
  · have := of_decide_eq_true h1; omega
  · have := of_decide_eq_false h1; omega
theorem okTo_le (hs : List Holder) : ∀ (m k : Nat), k ≤ m → okTo hs m = true → okTo hs k = true := by
  intro m
  induction m with
  | zero => intro k hk h; obtain rfl : k = 0 := by omega
            exact h
  | succ m ih =>
    intro k hk h
    by_cases e : k = m + 1
    · subst e; exact h
    · rw [okTo, Bool.and_eq_true] at h
      exact ih k (by omega) h.1
theorem right_bad {hs : List Holder} {k : Nat} (hk : k < hs.length) (h : badH hs k = true) : false = rightB hs := by
  unfold rightB
  cases ho : okTo hs hs.length
  · rfl
  · have h1 := okTo_le hs hs.length (k + 1) (by omega) ho
    rw [okTo, h] at h1
    simp at h1
theorem mayTo_le (s : ByteArray) : ∀ (m k : Nat), k ≤ m → mayTo s m = true → mayTo s k = true := by
  intro m
  induction m with
  | zero => intro k hk h; obtain rfl : k = 0 := by omega
            exact h
  | succ m ih =>
    intro k hk h
    by_cases e : k = m + 1
    · subst e; exact h
    · rw [mayTo, Bool.and_eq_true] at h
      exact ih k (by omega) h.1
theorem mayToL_le (s : ByteArray) : ∀ (m k : Nat), k ≤ m → mayToL s m = true → mayToL s k = true := by
  intro m
  induction m with
  | zero => intro k hk h; obtain rfl : k = 0 := by omega
            exact h
  | succ m ih =>
    intro k hk h
    by_cases e : k = m + 1
    · subst e; exact h
    · rw [mayToL, Bool.and_eq_true] at h
      exact ih k (by omega) h.1
theorem may_bad {s : ByteArray} {k : Nat} (hk : k < s.size) (h : badC (byteAt s k) = true) : false = mayB s := by
  unfold mayB
  cases ho : mayTo s s.size
  · rfl
  · have h1 := mayTo_le s s.size (k + 1) (by omega) ho
    rw [mayTo, h] at h1
    simp at h1
theorem mayL_bad {s : ByteArray} {k : Nat} (hk : k < s.size) (h : okC (byteAt s k) = false) : false = mayL s := by
  unfold mayL
  cases ho : mayToL s s.size
  · rfl
  · have h1 := mayToL_le s s.size (k + 1) (by omega) ho
    rw [mayToL, h] at h1
    simp at h1
theorem right_rng {base bits : Int} (h : rightA base bits = true) : 0 ≤ bits ∧ bits ≤ 32 := by
  unfold rightA at h
  simp only [Bool.and_eq_true, decide_eq_true_eq] at h
  omega
theorem pow_rng : ∀ n : Fin 33, 0 ≤ shl .i64 1 (IntKind.i64.wrap (32 - (n.val : Int))) ∧ shl .i64 1 (IntKind.i64.wrap (32 - (n.val : Int))) ≤ 4294967296 := by decide +kernel
theorem size_rng (base bits : Int) : 0 ≤ sizeA base bits ∧ sizeA base bits ≤ 4294967296 := by
  unfold sizeA
  split
  · exact ⟨by decide, by decide⟩
  · rename_i h
    have h := right_rng (base := base) (bits := bits) (by simpa using h)
    have hp := pow_rng ⟨bits.toNat, by omega⟩
    have hb : ((bits.toNat : Nat) : Int) = bits := by omega
    simp only [hb] at hp
    exact hp
theorem next_step (q : Nat → Bool) {s n : Nat} (h : s < n) : nextGo q s (n - s) = if q s = true then some s else nextGo q (s + 1) (n - (s + 1)) := by
  rw [show n - s = (n - (s + 1)) + 1 by omega, nextGo]
theorem put_err {hs : List Holder} {x : Holder} {n : Int} (h : n = putE hs x) (hn : n ≠ 0) : putL hs x = [] ∧ n = putE hs x := by
  refine ⟨?_, h⟩
  unfold putL
  rw [← h, if_neg (by simpa using hn)]
theorem used_le (base bits : Int) (hs : List Holder) : ∀ k, usedAt base bits hs k ≤ k := by
  intro k
  induction k with
  | zero => exact Nat.le_refl _
  | succ k ih => rw [usedAt]; split <;> omega
theorem bodyNear (n : Int) : BodyOk Try.prog u tab0 [] [] Try.f13 [.int .u8 n] (.int .u32 (nearA n)) := by
  constructor
  have eqn : bodyW Try.prog u tab0 [] (drawW Try.prog u tab0) (loopsBy u []) Try.f13 [.int .u8 n] (.int .u32 (nearA n)) = vcNear n := by kernel_rfl
  rw [eqn]
  exact ⟨by decide, rfl⟩
theorem okNear : FnOk Try.prog u 13 spNear := by
  refine fn_ok Try.prog u tab0 mo laws0 Try.func13 ?_
  intro xs c y h hc
  unfold spNear at h
  split at h
  · cases h
    exact ⟨by kernel_rfl, _, _, bodyNear _⟩
  · cases h
theorem bodyStation (n : Int) : BodyOk Try.prog u tab0 [] [] Try.f28 [.int .u8 n] (.agg (station n).cells) := by
  constructor
  have eqn : bodyW Try.prog u tab0 [] (drawW Try.prog u tab0) (loopsBy u []) Try.f28 [.int .u8 n] (.agg (station n).cells) = vcStation n := by kernel_rfl
  rw [eqn]
  unfold vcStation station
  refine ⟨fun h => ?_, fun h => ?_⟩
  · rw [h]; exact ⟨rfl, rfl, rfl, rfl, rfl, rfl⟩
  · rw [h]; exact ⟨by decide, rfl, rfl, rfl, rfl, rfl, rfl⟩
theorem okStation : FnOk Try.prog u 28 spStation := by
  refine fn_ok Try.prog u tab0 mo laws0 Try.func28 ?_
  intro xs c y h hc
  unfold spStation at h
  split at h
  · cases h
    exact ⟨by kernel_rfl, _, _, bodyStation _⟩
  · cases h
theorem bodyFind1 (k : Int) (hs : List Holder) (a : Int) (h : 0 ≤ k ∧ k < hs.length) : BodyOk Try.prog u tab0 [] [] Try.f30 [.int .i64 k, .cptr [.csl 36 hs] 0, .cptr [.int .u32 a] 0] (.bool (geH a (getH hs k.toNat))) := by
  constructor
  have eqn : bodyW Try.prog u tab0 [] (drawW Try.prog u tab0) (loopsBy u []) Try.f30 [.int .i64 k, .cptr [.csl 36 hs] 0, .cptr [.int .u32 a] 0] (.bool (geH a (getH hs k.toNat))) = vcFind1 k hs a := by kernel_rfl
  rw [eqn]
  exact ⟨h, rfl⟩
theorem okFind1 : FnOk Try.prog u 30 spFind1 := by
  refine fn_ok Try.prog u tab0 mo laws0 Try.func30 ?_
  intro xs c y h hc
  unfold spFind1 at h
  split at h
  · cases h
    exact ⟨by kernel_rfl, _, _, bodyFind1 _ _ _ hc⟩
  · cases h
theorem bodyMask (bits : Int) (h : 0 ≤ bits ∧ bits ≤ 32) : BodyOk Try.prog u tab0 [] [] Try.f27 [.int .i64 bits] (.int .u32 (maskA bits)) := by
  constructor
  have eqn : bodyW Try.prog u tab0 [] (drawW Try.prog u tab0) (loopsBy u []) Try.f27 [.int .i64 bits] (.int .u32 (maskA bits)) = vcMask bits := by kernel_rfl
  rw [eqn]
  exact ⟨show 0 ≤ IntKind.i64.wrap (32 - bits) by rw [wrap_i64_id (by omega)]; omega, rfl⟩
theorem okMask : FnOk Try.prog u 27 spMask := by
  refine fn_ok Try.prog u tab0 mo laws0 Try.func27 ?_
  intro xs c y h hc
  unfold spMask at h
  split at h
  · cases h
    exact ⟨by kernel_rfl, _, _, bodyMask _ hc⟩
  · cases h
theorem bodyMay (s : ByteArray) (h : strOk s) : BodyOk Try.prog u tab0 [105026] [(0, .inv (annMay s))] Try.f10 [.str s] (.bool (mayB s)) := by
  constructor
  have eqn : bodyW Try.prog u tab0 [105026] (drawW Try.prog u tab0) (loopsBy u [(0, .inv (annMay s))]) Try.f10 [.str s] (.bool (mayB s)) = vcMay s := by kernel_rfl
  rw [eqn]
  unfold vcMay
  have h : s.size < 9223372036854775808 := h
  refine ⟨⟨0, ⟨Nat.zero_le _, rfl⟩, rfl, rfl, rfl⟩, fun g hg => ⟨fun hlt => ?_, fun hge => ?_⟩⟩
  · have hlt := of_decide_eq_true hlt
    have hlt' : g < s.size := by omega
    refine ⟨⟨by omega, hlt⟩, fun v hv => ?_⟩
    have hv : v = badC (byteAt s g) := hv
    subst hv
    exact ⟨fun hb => may_bad hlt' hb, fun hb => ⟨g + 1, ⟨hlt', by rw [mayTo, hg.2, hb]; rfl⟩, show s.size - (g + 1) < s.size - g by omega, rfl, rfl, wrap_next hlt h⟩⟩
  · have hge := of_decide_eq_false hge
    have hg1 := hg.1
    have hgs : g = s.size := by omega
    have hg2 := hg.2
    rw [hgs] at hg2
    unfold mayB
    rw [hg2]
    rfl
theorem okMay : FnOk Try.prog u 10 spMay := by
  refine fn_ok Try.prog u tab0 mo laws0 Try.func10 ?_
  intro xs c y h hc
  unfold spMay at h
  split at h
  · cases h
    exact ⟨by kernel_rfl, _, _, bodyMay _ hc⟩
  · cases h
theorem bodyMayL (s : ByteArray) (h : strOk s) : BodyOk Try.prog u tab0 [104004] [(0, .inv (annMayL s))] Try.f11 [.str s] (.bool (mayL s)) := by
  constructor
  have eqn : bodyW Try.prog u tab0 [104004] (drawW Try.prog u tab0) (loopsBy u [(0, .inv (annMayL s))]) Try.f11 [.str s] (.bool (mayL s)) = vcMayL s := by kernel_rfl
  rw [eqn]
  unfold vcMayL
  have h : s.size < 9223372036854775808 := h
  refine ⟨⟨0, ⟨Nat.zero_le _, rfl⟩, rfl, rfl⟩, fun g hg => ⟨fun hlt => ?_, fun hge => ?_⟩⟩
  · have hlt := of_decide_eq_true hlt
    have hlt' : g < s.size := by omega
    have hb : (0 : Int) ≤ (g : Int) ∧ (g : Int) < (s.size : Int) := ⟨by omega, hlt⟩
    refine ⟨hb, fun _ => hb, fun _ => hb, fun _ _ => hb, fun v hv => ?_⟩
    have hv : v = okC (byteAt s g) := hv
    subst hv
    exact ⟨fun hb => mayL_bad hlt' (by simpa using hb), fun hb => ⟨g + 1, ⟨hlt', by rw [mayToL, hg.2]; simpa using hb⟩, show s.size - (g + 1) < s.size - g by omega, rfl, wrap_next hlt h⟩⟩
  · have hge := of_decide_eq_false hge
    have hg1 := hg.1
    have hgs : g = s.size := by omega
    have hg2 := hg.2
    rw [hgs] at hg2
    unfold mayL
    rw [hg2]
    rfl
theorem okMayL : FnOk Try.prog u 11 spMayL := by
  refine fn_ok Try.prog u tab0 mo laws0 Try.func11 ?_
  intro xs c y h hc
  unfold spMayL at h
  split at h
  · cases h
    exact ⟨by kernel_rfl, _, _, bodyMayL _ hc⟩
  · cases h
theorem laws1 : Laws Try.prog u tab1 := by
  refine ⟨law, clean, fun p hp => ?_⟩
  rcases List.mem_cons.1 hp with rfl | hp
  · exact okNear
  rcases List.mem_cons.1 hp with rfl | hp
  · exact okStation
  rcases List.mem_cons.1 hp with rfl | hp
  · exact okFind1
  rcases List.mem_cons.1 hp with rfl | hp
  · exact okMask
  rcases List.mem_cons.1 hp with rfl | hp
  · exact okMay
  rcases List.mem_cons.1 hp with rfl | hp
  · exact okMayL
  exact laws0.tab p hp
theorem bodySearch (n : Int) (hs : List Holder) (a : Int) (h : n = hs.length ∧ findOk hs) : BodyOk Try.prog u tab1 [] [(0, .inv (annSearch hs a))] Try.f29 [.int .i64 n, .fn 30 [.cptr [.csl 36 hs] 0, .cptr [.int .u32 a] 0]] (.int .i64 (idxH hs a)) := by
  constructor
  have eqn : bodyW Try.prog u tab1 [] (drawW Try.prog u tab1) (loopsBy u [(0, .inv (annSearch hs a))]) Try.f29 [.int .i64 n, .fn 30 [.cptr [.csl 36 hs] 0, .cptr [.int .u32 a] 0]] (.int .i64 (idxH hs a)) = vcSearch n hs a := by kernel_rfl
  rw [eqn]
  unfold vcSearch
  obtain ⟨rfl, hl, hso⟩ := h
  have kk : ((30 : Nat) = 30 ∧ ((0 : Nat) = 0 ∧ hs = hs) ∧ (0 : Nat) = 0 ∧ a = a) := ⟨rfl, ⟨rfl, rfl⟩, rfl, rfl⟩
  refine ⟨⟨(0, hs.length), ⟨Nat.zero_le _, Nat.le_refl _, fun m hm => absurd hm (Nat.not_lt_zero _), fun m h1 h2 => absurd h2 (Nat.not_lt.2 h1)⟩, kk, rfl, rfl⟩, fun g hg => ⟨fun hlt => ?_, fun hge => ?_⟩⟩
  · have hlt := of_decide_eq_true hlt
    obtain ⟨g1, g2, g3, g4⟩ := hg
    rw [half ((g.1 : Int) + g.2) (by omega)]
    have hN : (((g.1 : Int) + g.2) / 2).toNat = (g.1 + g.2) / 2 := by omega
    have hI : ((g.1 : Int) + g.2) / 2 = (((g.1 + g.2) / 2 : Nat) : Int) := by omega
    rw [hN, hI]
    have hm1 : g.1 ≤ (g.1 + g.2) / 2 := by omega
    have hm2 : (g.1 + g.2) / 2 < g.2 := by omega
    generalize (g.1 + g.2) / 2 = m at *
    refine ⟨by decide, ⟨by omega, by omega⟩, fun _ => trivial, fun _ => trivial, fun v hv w hw => ?_⟩
    cases hq : geH a (getH hs m)
    · rw [hq] at hv hw
      have hv : v = IntKind.i64.wrap ((m : Int) + 1) := hv
      have hw : w = (g.2 : Int) := hw
      refine ⟨(m + 1, g.2), ⟨by simp only; omega, g2, fun n hn => ?_, g4⟩, show g.2 - (m + 1) < g.2 - g.1 by omega, kk, ?_, hw⟩
      · exact (sort_le hso (by simp only at hn; omega) (by omega)).2 hq
      · rw [hv, wrap_i64_id (by omega)]; rfl
    · rw [hq] at hv hw
      have hv : v = (g.1 : Int) := hv
      have hw : w = (m : Int) := hw
      exact ⟨(g.1, m), ⟨hm1, by simp only; omega, g3, fun n hn hn2 => (sort_le hso hn hn2).1 hq⟩, show m - g.1 < g.2 - g.1 by omega, kk, hv, hw⟩
  · have hge := of_decide_eq_false hge
    obtain ⟨g1, g2, g3, g4⟩ := hg
    rw [idx_at (i := g.1) (by omega) g3 (fun h => g4 g.1 (by omega) h)]
theorem okSearch : FnOk Try.prog u 29 spSearch := by
  refine fn_ok Try.prog u tab1 mo laws1 Try.func29 ?_
  intro xs c y h hc
  unfold spSearch at h
  split at h
  · cases h
    exact ⟨by kernel_rfl, _, _, bodySearch _ _ _ hc⟩
  · cases h
theorem bodyRightA (base bits : Int) : BodyOk Try.prog u tab1 [] [] Try.f16 [.agg [.int .u32 base, .int .i64 bits]] (.bool (rightA base bits)) := by
  constructor
  have eqn : bodyW Try.prog u tab1 [] (drawW Try.prog u tab1) (loopsBy u []) Try.f16 [.agg [.int .u32 base, .int .i64 bits]] (.bool (rightA base bits)) = vcRightA base bits := by kernel_rfl
  rw [eqn]
  refine ⟨fun hb => ?_, rfl⟩
  simp only [Bool.and_eq_true, decide_eq_true_eq] at hb
  omega
theorem okRightA : FnOk Try.prog u 16 spRightA := by
  refine fn_ok Try.prog u tab1 mo laws1 Try.func16 ?_
  intro xs c y h hc
  unfold spRightA at h
  split at h
  · cases h
    exact ⟨by kernel_rfl, _, _, bodyRightA _ _⟩
  · cases h
theorem bodyHolder (t : Bool) (a b c : Int) (s : ByteArray) (h : 0 ≤ b) : BodyOk Try.prog u tab1 [] [] Try.f23 [.agg [.bool t, .int .u8 a, .int .u8 b, .int .u8 c, .str s]] (.agg (holderA ⟨t, a, b, c, s⟩).cells) := by
  constructor
  have eqn : bodyW Try.prog u tab1 [] (drawW Try.prog u tab1) (loopsBy u []) Try.f23 [.agg [.bool t, .int .u8 a, .int .u8 b, .int .u8 c, .str s]] (.agg (holderA ⟨t, a, b, c, s⟩).cells) = vcHolder t a b c s := by kernel_rfl
  rw [eqn]
  unfold vcHolder
  have hb : 0 ≤ b.tmod 8 ∧ b.tmod 8 < 8 := by rw [Int.tmod_eq_emod_of_nonneg h]; omega
  have hw : IntKind.u8.wrap (b.tmod 8 + 1) = b.tmod 8 + 1 := by simp [IntKind.wrap, IntKind.bits, IntKind.signed]; omega
  refine ⟨by decide, by decide, ⟨hb.1, by rw [hw]; omega, by rw [hw]; omega⟩, ?_, rfl, rfl, rfl, rfl, rfl, rfl, rfl, rfl⟩
  rw [hw]
  have hsz : ∀ i : Fin 8, 1 + (letters.extract i.val (i.val + 1)).size ≤ 4611686018427387904 := by decide +kernel
  have h1 := hsz ⟨(b.tmod 8).toNat, by omega⟩
  have h2 : (b.tmod 8 + 1).toNat = (b.tmod 8).toNat + 1 := by omega
  rw [h2]
  exact h1
theorem okHolder : FnOk Try.prog u 23 spHolder := by
  refine fn_ok Try.prog u tab1 mo laws1 Try.func23 ?_
  intro xs c y h hc
  unfold spHolder at h
  split at h
  · cases h
    exact ⟨by kernel_rfl, _, _, bodyHolder _ _ _ _ _ hc⟩
  · cases h
theorem bodyRight (hs : List Holder) (h : rowOk hs) : BodyOk Try.prog u tab1 [104030] [(0, .inv (annRight hs))] Try.f20 [.csl 36 hs] (.bool (rightB hs)) := by
  constructor
  have eqn : bodyW Try.prog u tab1 [104030] (drawW Try.prog u tab1) (loopsBy u [(0, .inv (annRight hs))]) Try.f20 [.csl 36 hs] (.bool (rightB hs)) = vcRight hs := by kernel_rfl
  rw [eqn]
  unfold vcRight
  obtain ⟨h, hz⟩ := h
  refine ⟨⟨0, ⟨Nat.zero_le _, rfl⟩, rfl, rfl, rfl, rfl⟩, fun g hg => ⟨fun hlt => ?_, fun hge => ?_⟩⟩
  · have hlt := of_decide_eq_true hlt
    have hlt' : g < hs.length := by omega
    have hz := hz _ (getH_mem hlt')
    refine ⟨⟨by omega, hlt⟩, hz, fun _ h0 => pred_rng g hs.length hlt' (by omega) h0, fun v hv => ?_⟩
    rw [pred_nat g hs.length hlt' (by omega)] at hv
    have hv : v = badH hs g := hv
    subst hv
    exact ⟨fun hb => right_bad hlt' hb, fun hb => ⟨g + 1, ⟨hlt', by rw [okTo, hg.2, hb]; rfl⟩, show hs.length - (g + 1) < hs.length - g by omega, rfl, rfl, rfl, wrap_next hlt h⟩⟩
  · have hge := of_decide_eq_false hge
    have hg1 := hg.1
    have : g = hs.length := by omega
    subst this
    unfold rightB
    rw [hg.2]
    rfl
theorem okRight : FnOk Try.prog u 20 spRight := by
  refine fn_ok Try.prog u tab1 mo laws1 Try.func20 ?_
  intro xs c y h hc
  unfold spRight at h
  split at h
  · cases h
    exact ⟨by kernel_rfl, _, _, bodyRight _ hc⟩
  · cases h
theorem laws2 : Laws Try.prog u tab2 := by
  refine ⟨law, clean, fun p hp => ?_⟩
  rcases List.mem_cons.1 hp with rfl | hp
  · exact okSearch
  rcases List.mem_cons.1 hp with rfl | hp
  · exact okRightA
  rcases List.mem_cons.1 hp with rfl | hp
  · exact okHolder
  rcases List.mem_cons.1 hp with rfl | hp
  · exact okRight
  exact laws1.tab p hp
theorem bodyFind (hs : List Holder) (a : Int) (h : findOk hs) : BodyOk Try.prog u tab2 [] [] Try.f24 [.csl 36 hs, .int .u32 a] (.tup [.int .i64 (idxH hs a), .bool (hasH hs a)]) := by
  constructor
  have eqn : bodyW Try.prog u tab2 [] (drawW Try.prog u tab2) (loopsBy u []) Try.f24 [.csl 36 hs, .int .u32 a] (.tup [.int .i64 (idxH hs a), .bool (hasH hs a)]) = vcFind hs a := by kernel_rfl
  rw [eqn]
  unfold vcFind
  exact ⟨⟨rfl, h⟩, fun hd => ⟨by omega, of_decide_eq_true hd⟩, rfl, rfl⟩
theorem okFind : FnOk Try.prog u 24 spFind := by
  refine fn_ok Try.prog u tab2 mo laws2 Try.func24 ?_
  intro xs c y h hc
  unfold spFind at h
  split at h
  · cases h
    exact ⟨by kernel_rfl, _, _, bodyFind _ _ hc⟩
  · cases h
theorem bodyHas (base bits a : Int) : BodyOk Try.prog u tab2 [] [] Try.f17 [.agg [.int .u32 base, .int .i64 bits], .int .u32 a] (.bool (hasA base bits a)) := by
  constructor
  have eqn : bodyW Try.prog u tab2 [] (drawW Try.prog u tab2) (loopsBy u []) Try.f17 [.agg [.int .u32 base, .int .i64 bits], .int .u32 a] (.bool (hasA base bits a)) = vcHas base bits a := by kernel_rfl
  rw [eqn]
  exact ⟨fun hb => right_rng hb, rfl⟩
theorem okHas : FnOk Try.prog u 17 spHas := by
  refine fn_ok Try.prog u tab2 mo laws2 Try.func17 ?_
  intro xs c y h hc
  unfold spHas at h
  split at h
  · cases h
    exact ⟨by kernel_rfl, _, _, bodyHas _ _ _⟩
  · cases h
theorem bodySize (base bits : Int) : BodyOk Try.prog u tab2 [] [] Try.f25 [.agg [.int .u32 base, .int .i64 bits]] (.int .i64 (sizeA base bits)) := by
  constructor
  have eqn : bodyW Try.prog u tab2 [] (drawW Try.prog u tab2) (loopsBy u []) Try.f25 [.agg [.int .u32 base, .int .i64 bits]] (.int .i64 (sizeA base bits)) = vcSize base bits := by kernel_rfl
  rw [eqn]
  unfold vcSize sizeA
  refine ⟨fun hb => by rw [if_pos hb], fun hb => ⟨?_, by rw [if_neg (by rw [hb]; simp)]⟩⟩
  have hr := right_rng (base := base) (bits := bits) (by simpa using hb)
  rw [wrap_i64_id (by omega)]
  omega
theorem okSize : FnOk Try.prog u 25 spSize := by
  refine fn_ok Try.prog u tab2 mo laws2 Try.func25 ?_
  intro xs c y h hc
  unfold spSize at h
  split at h
  · cases h
    exact ⟨by kernel_rfl, _, _, bodySize _ _⟩
  · cases h
theorem bodyHalves (base bits : Int) : BodyOk Try.prog u tab2 [] [] Try.f19 [.agg [.int .u32 base, .int .i64 bits]] (.tup [.agg [.int .u32 (if halfB base bits = true then base else 0), .int .i64 (if halfB base bits = true then halfN bits else 0)], .agg [.int .u32 (if halfB base bits = true then highA base bits else 0), .int .i64 (if halfB base bits = true then halfN bits else 0)], .bool (halfB base bits)]) := by
  constructor
  have eqn : bodyW Try.prog u tab2 [] (drawW Try.prog u tab2) (loopsBy u []) Try.f19 [.agg [.int .u32 base, .int .i64 bits]] (.tup [.agg [.int .u32 (if halfB base bits = true then base else 0), .int .i64 (if halfB base bits = true then halfN bits else 0)], .agg [.int .u32 (if halfB base bits = true then highA base bits else 0), .int .i64 (if halfB base bits = true then halfN bits else 0)], .bool (halfB base bits)]) = vcHalves base bits := by kernel_rfl
  rw [eqn]
  unfold vcHalves
  refine ⟨fun hb => ?_, fun hb => ?_⟩
  · have hh : halfB base bits = false := by unfold halfB; rw [hb]; rfl
    rw [hh]
    exact ⟨⟨rfl, rfl⟩, ⟨rfl, rfl⟩, rfl⟩
  · have hh : halfB base bits = true := by unfold halfB; rw [hb]; rfl
    rw [hh]
    simp only [Bool.or_eq_false_iff, Bool.not_eq_false', beq_eq_false_iff_ne] at hb
    have hr := right_rng hb.1
    refine ⟨?_, ⟨rfl, rfl⟩, ⟨rfl, rfl⟩, rfl⟩
    rw [wrap_i64_id (n := bits + 1) (by omega), wrap_i64_id (by omega)]
    omega
theorem okHalves : FnOk Try.prog u 19 spHalves := by
  refine fn_ok Try.prog u tab2 mo laws2 Try.func19 ?_
  intro xs c y h hc
  unfold spHalves at h
  split at h
  · cases h
    exact ⟨by kernel_rfl, _, _, bodyHalves _ _⟩
  · cases h
theorem laws3 : Laws Try.prog u tab3 := by
  refine ⟨law, clean, fun p hp => ?_⟩
  rcases List.mem_cons.1 hp with rfl | hp
  · exact okFind
  rcases List.mem_cons.1 hp with rfl | hp
  · exact okHas
  rcases List.mem_cons.1 hp with rfl | hp
  · exact okSize
  rcases List.mem_cons.1 hp with rfl | hp
  · exact okHalves
  exact laws2.tab p hp
theorem bodyGet (hs : List Holder) (a : Int) (h : findOk hs) : BodyOk Try.prog u tab3 [] [] Try.f14 [.csl 36 hs, .int .u32 a] (.tup [.agg (getL hs a).cells, .bool (hasH hs a)]) := by
  constructor
  have eqn : bodyW Try.prog u tab3 [] (drawW Try.prog u tab3) (loopsBy u []) Try.f14 [.csl 36 hs, .int .u32 a] (.tup [.agg (getL hs a).cells, .bool (hasH hs a)]) = vcGet hs a := by kernel_rfl
  rw [eqn]
  unfold vcGet
  refine ⟨h, fun hb => ⟨⟨by omega, by have := (has_lt hb).1; omega⟩, ?_, hb.symm⟩, fun hb => ⟨?_, hb.symm⟩⟩
  · unfold getL
    rw [if_pos hb]
    exact ⟨rfl, rfl, rfl, rfl, rfl, rfl, rfl, rfl⟩
  · unfold getL
    rw [if_neg (by rw [hb]; simp)]
    exact ⟨rfl, rfl, rfl, rfl, rfl, rfl, rfl, rfl⟩
theorem okGet : FnOk Try.prog u 14 spGet := by
  refine fn_ok Try.prog u tab3 mo laws3 Try.func14 ?_
  intro xs c y h hc
  unfold spGet at h
  split at h
  · cases h
    exact ⟨by kernel_rfl, _, _, bodyGet _ _ hc⟩
  · cases h
theorem bodyPut (hs : List Holder) (n : Int) (s : ByteArray) (a b c d e f : Int) (h : findOk hs ∧ strOk s) : BodyOk Try.prog u tab3 [101006, 101007, 108008] [] Try.f21 [.csl 36 hs, .agg [.int .u32 n, .str s, .int .u8 a, .int .u8 b, .int .u8 c, .int .u8 d, .int .u8 e, .int .u8 f]] (.tup [.csl 36 (putL hs ⟨n, s, ⟨a, b, c, d, e, f⟩⟩), .int .i64 (putE hs ⟨n, s, ⟨a, b, c, d, e, f⟩⟩)]) := by
  constructor
  have eqn : bodyW Try.prog u tab3 [101006, 101007, 108008] (drawW Try.prog u tab3) (loopsBy u []) Try.f21 [.csl 36 hs, .agg [.int .u32 n, .str s, .int .u8 a, .int .u8 b, .int .u8 c, .int .u8 d, .int .u8 e, .int .u8 f]] (.tup [.csl 36 (putL hs ⟨n, s, ⟨a, b, c, d, e, f⟩⟩), .int .i64 (putE hs ⟨n, s, ⟨a, b, c, d, e, f⟩⟩)]) = vcPut hs n s a b c d e f := by kernel_rfl
  rw [eqn]
  unfold vcPut
  obtain ⟨hf, hsz⟩ := h
  have hl1 := hf.1
  generalize hs' : (⟨n, s, ⟨a, b, c, d, e, f⟩⟩ : Holder) = x
  have ho : s = x.owner := by subst hs'; rfl
  have hn : n = x.addr := by subst hs'; rfl
  rw [ho, hn]
  rw [ho] at hsz
  have hl := idx_le hs x.addr
  refine ⟨hf, fun v hv w hw => ⟨hsz, fun he => ?_, fun he => ⟨fun hq => ?_, fun hq => ⟨fun hm => ?_, fun hm => ?_⟩⟩⟩⟩
  · exact put_err (by unfold putE; rw [if_pos he]) (by decide)
  · subst hv
    exact put_err (by unfold putE; rw [if_neg (by rw [he]; simp), if_pos hq]) (by decide)
  · subst hv
    exact put_err (by unfold putE; rw [if_neg (by rw [he]; simp), if_neg (by rw [hq]; simp), if_pos hm]) (by decide)
  · subst hv hw
    have h0 : putE hs x = 0 := by unfold putE; rw [if_neg (by rw [he]; simp), if_neg (by rw [hq]; simp), if_neg (by rw [hm]; simp)]
    have hN : ((idxH hs x.addr : Nat) : Int).toNat = idxH hs x.addr := rfl
    have hN2 : ((hs.length : Nat) : Int).toNat = hs.length := rfl
    rw [hN, hN2, List.take_length, List.drop_zero]
    have hlt : (hs.take (idxH hs x.addr)).length = idxH hs x.addr := List.length_take_of_le hl
    refine ⟨⟨by decide, by omega, by omega⟩, by rw [hlt]; omega, show ((hs.take (idxH hs x.addr)).length + 1) * 32 ≤ 140737488355328 by rw [hlt]; omega, fun v hv => ⟨⟨by omega, by omega, Int.le_refl _⟩, ?_, ?_, h0.symm⟩⟩
    · rw [hv, List.length_append, hlt, List.length_drop, List.length_singleton]
      omega
    · rw [hv]
      unfold putL putNew
      rw [h0]
      rfl
theorem okPut : FnOk Try.prog u 21 spPut := by
  refine fn_ok Try.prog u tab3 mo laws3 Try.func21 ?_
  intro xs c y h hc
  unfold spPut at h
  split at h
  · cases h
    exact ⟨by kernel_rfl, _, _, bodyPut _ _ _ _ _ _ _ _ _ hc⟩
  · cases h
theorem bodyTake (hs : List Holder) (a : Int) (h : findOk hs) : BodyOk Try.prog u tab3 [101006, 101007] [] Try.f22 [.csl 36 hs, .int .u32 a] (.tup [.csl 36 (takeL hs a), .int .i64 (takeE hs a)]) := by
  constructor
  have eqn : bodyW Try.prog u tab3 [101006, 101007] (drawW Try.prog u tab3) (loopsBy u []) Try.f22 [.csl 36 hs, .int .u32 a] (.tup [.csl 36 (takeL hs a), .int .i64 (takeE hs a)]) = vcTake hs a := by kernel_rfl
  rw [eqn]
  unfold vcTake
  have hl1 := h.1
  refine ⟨h, fun v hv w hw => ?_⟩
  subst hv hw
  unfold takeL takeE
  refine ⟨fun hb => ?_, fun hb => ?_⟩
  · have hb' : hasH hs a = false := by simpa using hb
    rw [if_neg (by rw [hb']; simp), if_pos hb]
    exact ⟨rfl, rfl⟩
  · have hb' : hasH hs a = true := by simpa using hb
    have hi := (has_lt hb').1
    have hw : IntKind.i64.wrap ((idxH hs a : Int) + 1) = ((idxH hs a + 1 : Nat) : Int) := by rw [wrap_i64_id (by omega)]; omega
    have hN : ((idxH hs a : Nat) : Int).toNat = idxH hs a := rfl
    have hN1 : ((idxH hs a + 1 : Nat) : Int).toNat = idxH hs a + 1 := rfl
    have hN2 : ((hs.length : Nat) : Int).toNat = hs.length := rfl
    rw [hw, hN, hN1, hN2, List.take_length, List.drop_zero, if_pos hb', if_neg (by rw [hb]; simp)]
    have hlt : (hs.take (idxH hs a)).length = idxH hs a := List.length_take_of_le (by omega)
    exact ⟨⟨by decide, by omega, by omega⟩, by rw [hlt]; omega, ⟨by omega, by omega, Int.le_refl _⟩, by rw [hlt, List.length_drop]; omega, rfl, rfl⟩
theorem okTake : FnOk Try.prog u 22 spTake := by
  refine fn_ok Try.prog u tab3 mo laws3 Try.func22 ?_
  intro xs c y h hc
  unfold spTake at h
  split at h
  · cases h
    exact ⟨by kernel_rfl, _, _, bodyTake _ _ hc⟩
  · cases h
theorem bodyAt (base bits k : Int) : BodyOk Try.prog u tab3 [] [] Try.f26 [.agg [.int .u32 base, .int .i64 bits], .int .i64 k] (.tup [.int .u32 (if atB base bits k = true then atA base k else 0), .bool (atB base bits k)]) := by
  constructor
  have eqn : bodyW Try.prog u tab3 [] (drawW Try.prog u tab3) (loopsBy u []) Try.f26 [.agg [.int .u32 base, .int .i64 bits], .int .i64 k] (.tup [.int .u32 (if atB base bits k = true then atA base k else 0), .bool (atB base bits k)]) = vcAt base bits k := by kernel_rfl
  rw [eqn]
  unfold vcAt
  refine ⟨fun hb => ?_, fun hb => ?_⟩
  · have hh : atB base bits k = false := by unfold atB; rw [hb]; rfl
    rw [hh]
    exact ⟨rfl, rfl⟩
  · have hh : atB base bits k = true := by unfold atB; rw [hb]; rfl
    rw [hh]
    exact ⟨rfl, rfl⟩
theorem okAt : FnOk Try.prog u 26 spAt := by
  refine fn_ok Try.prog u tab3 mo laws3 Try.func26 ?_
  intro xs c y h hc
  unfold spAt at h
  split at h
  · cases h
    exact ⟨by kernel_rfl, _, _, bodyAt _ _ _⟩
  · cases h
theorem bodyUsed (hs : List Holder) (base bits : Int) (h : lenOk hs) : BodyOk Try.prog u tab3 [] [(0, .inv (annUsed base bits hs))] Try.f18 [.csl 36 hs, .agg [.int .u32 base, .int .i64 bits]] (.int .i64 (usedL base bits hs)) := by
  constructor
  have eqn : bodyW Try.prog u tab3 [] (drawW Try.prog u tab3) (loopsBy u [(0, .inv (annUsed base bits hs))]) Try.f18 [.csl 36 hs, .agg [.int .u32 base, .int .i64 bits]] (.int .i64 (usedL base bits hs)) = vcUsed hs base bits := by kernel_rfl
  rw [eqn]
  unfold vcUsed
  have h : hs.length < 9223372036854775808 := h
  refine ⟨⟨0, Nat.zero_le _, ⟨trivial, rfl, rfl, rfl, rfl⟩, rfl, rfl⟩, fun g hg => ⟨fun hlt => ?_, fun hge => ?_⟩⟩
  · have hlt := of_decide_eq_true hlt
    have hlt' : g < hs.length := by omega
    have hu := used_le base bits hs g
    refine ⟨⟨by omega, hlt⟩, fun _ => trivial, fun _ => trivial, fun v hv => ⟨g + 1, hlt', show hs.length - (g + 1) < hs.length - g by omega, ⟨trivial, rfl, rfl, wrap_next hlt h, ?_⟩, rfl, rfl⟩⟩
    have hv : v = if hasA base bits (getH hs g).addr = true then IntKind.i64.wrap ((usedAt base bits hs g : Int) + 1) else (usedAt base bits hs g : Int) := hv
    rw [hv, usedAt]
    split
    · rw [wrap_i64_id (by omega)]; omega
    · omega
  · have hge := of_decide_eq_false hge
    have hg : g ≤ hs.length := hg
    have : g = hs.length := by omega
    subst this
    rfl
theorem okUsed : FnOk Try.prog u 18 spUsed := by
  refine fn_ok Try.prog u tab3 mo laws3 Try.func18 ?_
  intro xs c y h hc
  unfold spUsed at h
  split at h
  · cases h
    exact ⟨by kernel_rfl, _, _, bodyUsed _ _ _ hc⟩
  · cases h
theorem nilFirst_ok {T f : Nat} {sp : Sx.Spec A} (h : FnOk Try.prog u f sp) : FnOk Try.prog u f (nilFirst T sp) := by
  intro xs c y hs hc w O vs hO hx
  unfold nilFirst at hs
  split at hs
  · cases hx with
    | nils hr => exact h _ _ _ hs hc w O _ hO (.csl T [] none 0 0 (fun _ => []) rfl (Nat.le_refl _) (.inl rfl) (fun i hi => by simp at hi) (fun i x hi => by simp at hi) hr)
  · exact h _ _ _ hs hc w O vs hO hx
theorem okPutN : FnOk Try.prog u 21 (nilFirst 36 spPut) := nilFirst_ok okPut
theorem laws4 : Laws Try.prog u tab4 := by
  refine ⟨law, clean, fun p hp => ?_⟩
  rcases List.mem_cons.1 hp with rfl | hp
  · exact okGet
  rcases List.mem_cons.1 hp with rfl | hp
  · exact okPutN
  rcases List.mem_cons.1 hp with rfl | hp
  · exact okTake
  rcases List.mem_cons.1 hp with rfl | hp
  · exact okAt
  rcases List.mem_cons.1 hp with rfl | hp
  · exact okUsed
  exact laws3.tab p hp
theorem bodyNext (hs : List Holder) (base bits : Int) (h : findOk hs) : BodyOk Try.prog u tab4 [104007] [(0, .inv (annNext hs base bits))] Try.f15 [.csl 36 hs, .agg [.int .u32 base, .int .i64 bits]] (.tup [.int .u32 (nextV hs base bits), .bool (nextB hs base bits)]) := by
  constructor
  have eqn : bodyW Try.prog u tab4 [104007] (drawW Try.prog u tab4) (loopsBy u [(0, .inv (annNext hs base bits))]) Try.f15 [.csl 36 hs, .agg [.int .u32 base, .int .i64 bits]] (.tup [.int .u32 (nextV hs base bits), .bool (nextB hs base bits)]) = vcNext hs base bits := by kernel_rfl
  rw [eqn]
  unfold vcNext
  have hsz := size_rng base bits
  refine ⟨⟨0, ⟨hsz.1, rfl⟩, ⟨rfl, trivial, rfl, rfl⟩, rfl, rfl⟩, fun g hg => ⟨fun hlt => ?_, fun hge => ?_⟩⟩
  · have hlt := of_decide_eq_true hlt
    obtain ⟨hg1, hg2⟩ := hg
    refine fun v hv => ⟨h, ?_⟩
    have hat : atB base bits g = true := by
      unfold atB
      rw [decide_eq_false (show ¬ (g : Int) < 0 by omega), decide_eq_false (show ¬ (g : Int) ≥ sizeA base bits by omega)]
      rfl
    rw [if_pos hat] at hv
    subst hv
    rw [next_step _ (by omega)] at hg2
    refine ⟨fun hb => ?_, fun hb => ?_⟩
    · rw [if_pos hb] at hg2
      unfold nextV nextB
      rw [← hg2]
      exact ⟨rfl, rfl⟩
    · rw [if_neg (by rw [hb]; simp)] at hg2
      exact ⟨g + 1, ⟨by omega, hg2⟩, show (sizeA base bits - ((g + 1 : Nat) : Int)).toNat < (sizeA base bits - (g : Int)).toNat by omega, ⟨rfl, trivial, rfl, wrap_i64_id (by omega)⟩, rfl, rfl⟩
  · have hge := of_decide_eq_false hge
    obtain ⟨hg1, hg2⟩ := hg
    rw [show (sizeA base bits).toNat - g = 0 by omega, nextGo] at hg2
    unfold nextV nextB
    rw [← hg2]
    exact ⟨rfl, rfl⟩
theorem okNext : FnOk Try.prog u 15 spNext := by
  refine fn_ok Try.prog u tab4 mo laws4 Try.func15 ?_
  intro xs c y h hc
  unfold spNext at h
  split at h
  · cases h
    exact ⟨by kernel_rfl, _, _, bodyNext _ _ _ hc⟩
  · cases h
theorem laws5 : Laws Try.prog u tab5 := by
  refine ⟨law, clean, fun p hp => ?_⟩
  rcases List.mem_cons.1 hp with rfl | hp
  · exact okNext
  exact laws4.tab p hp
theorem bodyAwake : BodyOk Try.prog u tab5 [] [] Try.f9 [] (.bool true) := by
  constructor
  have eqn : bodyW Try.prog u tab5 [] (drawW Try.prog u tab5) (loopsBy u []) Try.f9 [] (.bool true) = vcAwake  := by kernel_rfl
  rw [eqn]
  unfold vcAwake
  have hs1 : ∀ {hs : List Holder}, ∀ i j : Nat, i < j → j < 1 → (getH hs i).addr < (getH hs j).addr := fun i j h1 h2 => by omega
  refine ⟨⟨⟨by decide, fun i j h1 h2 => by omega⟩, Nat.le_of_ble_eq_true rfl⟩, ⟨by decide, hs1⟩, ⟨⟨by decide, hs1⟩, Nat.le_of_ble_eq_true rfl⟩, fun _ => Nat.le_of_ble_eq_true rfl, ?_⟩
  decide +kernel
theorem okAwake : FnOk Try.prog u 9 spAwake := by
  refine fn_ok Try.prog u tab5 mo laws5 Try.func9 ?_
  intro xs c y h hc
  unfold spAwake at h
  split at h
  · cases h
    exact ⟨by kernel_rfl, _, _, bodyAwake⟩
  · cases h
end Go.Proofs.Ytfpapepjobfahaa.Held
