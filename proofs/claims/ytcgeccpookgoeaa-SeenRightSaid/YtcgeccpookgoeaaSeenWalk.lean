/- Sightings: the contracts of the package's functions. -/
import Derived.Test.YtcgeccpookgoeaaSeenVc
namespace Go.Proofs.Ytcgeccpookgoeaa.Seen
open Go Go.Proofs.Ytcgeccpookgoeaa.Sx

theorem nils_k {e : E A} {a : Int} {vs : List Value} (h : RepL Try.prog u e [.int .u32 a, .nils] vs) : RepL Try.prog u e (enc 53 (⟨a, []⟩ : Known)) vs := by
  cases h with
  | int _ _ h => cases h with
    | nils h => exact .int _ _ (.csl _ [] none 0 0 (fun _ => []) rfl (Nat.le_refl _) (.inl rfl) (fun i hi => by simp at hi) (fun i x hi => by simp at hi) h)
theorem zsl_k {e : E A} {a : Int} {vs : List Value} (h : RepL Try.prog u e [.int .u32 a, .zsl] vs) : RepL Try.prog u e (enc 53 (⟨a, []⟩ : Known)) vs := by
  cases h with
  | int _ _ h => cases h with
    | zsl z h => exact .int _ _ (.csl _ [] z 0 0 (fun _ => []) rfl (Nat.le_refl _) (.inl rfl) (fun i hi => by simp at hi) (fun i x hi => by simp at hi) h)
theorem nils_s {e : E A} {vs : List Value} (h : RepL Try.prog u e [.nils] vs) : RepL Try.prog u e (enc 39 ([] : List Sight)) vs := by
  cases h with
  | nils h => exact .csl _ [] none 0 0 (fun _ => []) rfl (Nat.le_refl _) (.inl rfl) (fun i hi => by simp at hi) (fun i x hi => by simp at hi) h
theorem zsl_s {e : E A} {vs : List Value} (h : RepL Try.prog u e [.zsl] vs) : RepL Try.prog u e (enc 39 ([] : List Sight)) vs := by
  cases h with
  | zsl z h => exact .csl _ [] z 0 0 (fun _ => []) rfl (Nat.le_refl _) (.inl rfl) (fun i hi => by simp at hi) (fun i x hi => by simp at hi) h
theorem dec_sound (e : E A) (T : Nat) (l : List (SV A)) (vs : List Value) (x : A T) (h : dec T l = some x) (hr : RepL Try.prog u e l vs) : RepL Try.prog u e (enc T x) vs := by
  unfold dec at h
  split at h <;> first | (cases h; exact hr) | (cases h; exact nils_k hr) | (cases h; exact zsl_k hr) | (cases h; exact nils_s hr) | (cases h; exact zsl_s hr) | cases h
theorem dec_len {T : Nat} {l : List (SV A)} {x : A T} (h : dec T l = some x) : l.length = Try.prog.cellsOf T := by
  unfold dec at h
  split at h <;> first | (cases h; kernel_rfl) | cases h
theorem law : Law Try.prog u := by
  refine ⟨fun e T l vs x h hr => dec_sound e T l vs x h hr, fun T l x h => dec_len h, ?_, ?_, ?_, ?_, fun T off t f h => (by cases h), fun T off S p h => (by cases h), fun t S h => (by cases h), fun t ps x h => (by cases h), fun T x h => (by cases h)⟩
  · intro T f x y h
    cases h
  · intro T x
    show (enc T x).all _ = true
    unfold enc
    split <;> rfl
  · intro T xs h
    cases h
  · intro T xs h
    cases h
theorem clean : ∀ (T : Nat) (x : A T), noOwn.go (u.enc T x) = true := by
  intro T x
  show noOwn.go (enc T x) = true
  unfold enc
  split <;> rfl
theorem mo : Try.prog.follows .mixedOrders = true := by kernel_rfl
theorem laws0 : Laws Try.prog u tab0 := { toLaw := law, clean := clean, tab := fun p hp => by cases hp }
theorem wrap_i64_id {n : Int} (h : -9223372036854775808 ≤ n ∧ n < 9223372036854775808) : IntKind.i64.wrap n = n := by rw [IntKind.wrap_i64]; omega
theorem wrap_next {g n : Nat} (h : (g : Int) < n) (hn : n < 9223372036854775808) : IntKind.i64.wrap ((g : Int) + 1) = ((g + 1 : Nat) : Int) := by
  rw [IntKind.wrap_i64]
  omega
theorem drop_getD {α : Type} (xs : List α) (g : Nat) (h : g < xs.length) (d : α) : xs.drop g = xs.getD g d :: xs.drop (g + 1) := by
  rw [List.drop_eq_getElem_cons h]
  simp [List.getD, List.getElem?_eq_getElem h]
theorem take_getD {α : Type} (xs : List α) (g : Nat) (h : g < xs.length) (d : α) : xs.take (g + 1) = xs.take g ++ [xs.getD g d] := by
  rw [List.take_add_one, List.getElem?_eq_getElem h]
  simp [List.getD, List.getElem?_eq_getElem h]
theorem any_take_drop {α : Type} (p : α → Bool) (xs : List α) (g : Nat) : xs.any p = ((xs.take g).any p || (xs.drop g).any p) := by
  rw [← List.any_append, List.take_append_drop]
theorem getK_mem {ks : List Known} {k : Nat} (hk : k < ks.length) : getK ks k ∈ ks := by
  unfold getK
  rw [List.getD_eq_getElem?_getD, List.getElem?_eq_getElem hk]
  exact List.getElem_mem _
theorem getK_get {ks : List Known} {k : Nat} (hk : k < ks.length) : ks[k] = getK ks k := by
  unfold getK
  rw [List.getD_eq_getElem?_getD, List.getElem?_eq_getElem hk]
  rfl
theorem shr64 (n : Int) : shr .u64 n (1 : Int) = n / 2 := by
  unfold shr
  rw [show min (1 : Int).toNat IntKind.u64.bits = 1 from rfl, Int.fdiv_eq_ediv_of_nonneg _ (by decide)]
  rfl
theorem half (s : Int) (h : 0 ≤ s ∧ s < 9223372036854775808) : IntKind.i64.wrap (shr .u64 (IntKind.u64.wrap (IntKind.i64.wrap s)) 1) = s / 2 := by
  have h1 : IntKind.u64.wrap s = s := by simp [IntKind.wrap, IntKind.bits, IntKind.signed]; omega
  rw [wrap_i64_id (n := s) (by omega), h1, shr64, wrap_i64_id (by omega)]
theorem idx_at {ks : List Known} {a : Int} {i : Nat} (hi : i ≤ ks.length) (h1 : ∀ m, m < i → geK a (getK ks m) = false) (h2 : i < ks.length → geK a (getK ks i) = true) : idxK ks a = i := by
  unfold idxK
  by_cases h : i < ks.length
  · rw [List.findIdx_eq h]
    refine ⟨by rw [getK_get h]; exact h2 h, fun j hj => ?_⟩
    rw [getK_get (by omega)]
    exact h1 j hj
  · have : i = ks.length := by omega
    subst this
    rw [List.findIdx_eq_length]
    intro x hx
    obtain ⟨j, hj, rfl⟩ := List.getElem_of_mem hx
    rw [getK_get hj]
    exact h1 j hj
theorem idx_le (ks : List Known) (a : Int) : idxK ks a ≤ ks.length := List.findIdx_le_length
theorem has_lt {ks : List Known} {a : Int} (h : hasK ks a = true) : idxK ks a < ks.length ∧ (getK ks (idxK ks a)).addr = a := by
  unfold hasK at h
  rw [Bool.and_eq_true] at h
  have := of_decide_eq_true h.1
  exact ⟨by omega, eq_of_beq h.2⟩
theorem seen_mem {ks : List Known} {a : Int} (h : hasK ks a = true) : seenK ks a = (getK ks (idxK ks a)).seen := by unfold seenK; rw [if_pos h]
theorem seen_none {ks : List Known} {a : Int} (h : hasK ks a = false) : seenK ks a = [] := by unfold seenK; rw [if_neg (by rw [h]; simp)]
theorem ins_len (ks : List Known) (z : Known) (i : Nat) (hi : i ≤ ks.length) : ((ks ++ [z]).take (0 + (i + 1)) ++ (((ks ++ [z]).drop (0 + i)).take ((ks ++ [z]).length - i)).take ((ks ++ [z]).length - (i + 1)) ++ (ks ++ [z]).drop (0 + (i + 1) + min (((ks ++ [z]).drop (0 + i)).take ((ks ++ [z]).length - i)).length ((ks ++ [z]).length - (i + 1)))) = ks.take i ++ [(ks ++ [z]).getD i z] ++ ks.drop i := by
  have hl : (ks ++ [z]).length = ks.length + 1 := by simp
  rw [hl, Nat.zero_add, Nat.zero_add]
  have h1 : ((ks ++ [z]).drop i).take (ks.length + 1 - i) = ks.drop i ++ [z] := by
    rw [List.take_of_length_le (by rw [List.length_drop, hl]; omega), List.drop_append_of_le_length hi]
  have h2 : (ks.drop i ++ [z]).take (ks.length + 1 - (i + 1)) = ks.drop i := List.take_left' (by rw [List.length_drop]; omega)
  have h3 : (ks.drop i ++ [z]).length = ks.length + 1 - i := by simp; omega
  have h4 : (ks ++ [z]).drop (i + 1 + min (ks.length + 1 - i) (ks.length + 1 - (i + 1))) = [] := List.drop_of_length_le (by rw [hl]; omega)
  rw [h1, h2, h3, h4, List.append_nil]
  congr 1
  rw [List.take_add_one, List.take_append_of_le_length hi, List.getElem?_eq_getElem (by omega), List.getD_eq_getElem?_getD, List.getElem?_eq_getElem (by omega)]
  rfl
theorem ins_set (ks : List Known) (y x : Known) (i : Nat) (hi : i ≤ ks.length) : (ks.take i ++ [y] ++ ks.drop i).set i x = ks.take i ++ [x] ++ ks.drop i := by
  have hl : (ks.take i).length = i := List.length_take_of_le hi
  rw [List.append_assoc, List.set_append_right _ _ (by omega), hl, Nat.sub_self]
  simp
theorem okTo_le (ks : List Known) : ∀ (m k : Nat), k ≤ m → okTo ks m = true → okTo ks k = true := by
  intro m
  induction m with
  | zero => intro k hk h; obtain rfl : k = 0 := by omega
            exact h
  | succ m ih =>
    intro k hk h
    by_cases e : k = m + 1
    · subst e; exact h
    · rw [okTo, Bool.and_eq_true] at h
      exact ih k (by omega) h.1
theorem okS_le (xs : List Sight) : ∀ (m k : Nat), k ≤ m → okS xs m = true → okS xs k = true := by
  intro m
  induction m with
  | zero => intro k hk h; obtain rfl : k = 0 := by omega
            exact h
  | succ m ih =>
    intro k hk h
    by_cases e : k = m + 1
    · subst e; exact h
    · rw [okS, Bool.and_eq_true] at h
      exact ih k (by omega) h.1
theorem okToL_le (ks : List Known) : ∀ (m k : Nat), k ≤ m → okToL ks m = true → okToL ks k = true := by
  intro m
  induction m with
  | zero => intro k hk h; obtain rfl : k = 0 := by omega
            exact h
  | succ m ih =>
    intro k hk h
    by_cases e : k = m + 1
    · subst e; exact h
    · rw [okToL, Bool.and_eq_true] at h
      exact ih k (by omega) h.1
theorem okSL_le (xs : List Sight) : ∀ (m k : Nat), k ≤ m → okSL xs m = true → okSL xs k = true := by
  intro m
  induction m with
  | zero => intro k hk h; obtain rfl : k = 0 := by omega
            exact h
  | succ m ih =>
    intro k hk h
    by_cases e : k = m + 1
    · subst e; exact h
    · rw [okSL, Bool.and_eq_true] at h
      exact ih k (by omega) h.1
theorem right_bad {ks : List Known} {k : Nat} (hk : k < ks.length) (h : badK ks k = true ∨ okS (getK ks k).seen (getK ks k).seen.length = false) : false = rightB ks := by
  unfold rightB
  cases ho : okTo ks ks.length
  · rfl
  · have h1 := okTo_le ks ks.length (k + 1) (by omega) ho
    rw [okTo] at h1
    rcases h with h | h <;> rw [h] at h1 <;> simp at h1
theorem okS_bad {xs : List Sight} {j : Nat} (hj : j < xs.length) (h : badS xs j = true) : okS xs xs.length = false := by
  cases ho : okS xs xs.length
  · rfl
  · have h1 := okS_le xs xs.length (j + 1) (by omega) ho
    rw [okS, h] at h1
    simp at h1
theorem rightL_bad {ks : List Known} {k : Nat} (hl : decide ((ks.length : Int) > 96) = false) (hk : k < ks.length) (h : badKL ks k = true ∨ okSL (getK ks k).seen (getK ks k).seen.length = false) : false = rightL ks := by
  unfold rightL
  rw [if_neg (by rw [hl]; simp)]
  cases ho : okToL ks ks.length
  · rfl
  · have h1 := okToL_le ks ks.length (k + 1) (by omega) ho
    rw [okToL] at h1
    rcases h with h | h <;> rw [h] at h1 <;> simp at h1
theorem okSL_bad {xs : List Sight} {j : Nat} (hj : j < xs.length) (h : badSL xs (lastL xs j) j = true) : okSL xs xs.length = false := by
  cases ho : okSL xs xs.length
  · rfl
  · have h1 := okSL_le xs xs.length (j + 1) (by omega) ho
    rw [okSL, h] at h1
    simp at h1
theorem pred_nat (g n : Nat) (hg : g < n) (hn : n ≤ 9223372036854775808) : (IntKind.i64.wrap ((g : Int) - 1)).toNat = g - 1 := by
  rw [wrap_i64_id (by omega)]
  omega
theorem pred_rng (g n : Nat) (hg : g < n) (hn : n ≤ 9223372036854775808) (h : decide ((g : Int) > 0) = true) : 0 ≤ IntKind.i64.wrap ((g : Int) - 1) ∧ IntKind.i64.wrap ((g : Int) - 1) < (n : Int) := by
  have := of_decide_eq_true h
  rw [wrap_i64_id (by omega)]
  omega
theorem sameTo_le (a b : List Sight) : ∀ (m k : Nat), k ≤ m → sameTo a b m = true → sameTo a b k = true := by
  intro m
  induction m with
  | zero => intro k hk h; obtain rfl : k = 0 := by omega
            exact h
  | succ m ih =>
    intro k hk h
    by_cases e : k = m + 1
    · subst e; exact h
    · rw [sameTo, Bool.and_eq_true] at h
      exact ih k (by omega) h.1
theorem sort_le {ks : List Known} {a : Int} (h : sortedK ks) {m n : Nat} (hmn : m ≤ n) (hn : n < ks.length) : (geK a (getK ks m) = true → geK a (getK ks n) = true) ∧ (geK a (getK ks n) = false → geK a (getK ks m) = false) := by
  have hle : (getK ks m).addr ≤ (getK ks n).addr := by
    by_cases e : m = n
    · subst e; exact Int.le_refl _
    · exact Int.le_of_lt (h m n (by omega) hn)
  unfold geK
  refine ⟨fun h1 => decide_eq_true ?_, fun h1 => decide_eq_false ?_⟩
  · have := of_decide_eq_true h1; omega
  · have := of_decide_eq_false h1; omega
theorem put_err {ks : List Known} {k : Int} {s : Sight} {n : Int} (h : n = putE ks k s) (hn : n ≠ 0) : putL ks k s = [] ∧ n = putE ks k s := by
  refine ⟨?_, h⟩
  unfold putL
  rw [← h, if_neg (by simpa using hn)]
theorem bodyNear (n : Int) : BodyOk Try.prog u tab0 [] [] Try.f19 [.int .u8 n] (.int .u32 (nearA n)) := by
  constructor
  have eqn : bodyW Try.prog u tab0 [] (drawW Try.prog u tab0) (loopsBy u []) Try.f19 [.int .u8 n] (.int .u32 (nearA n)) = vcNear n := by kernel_rfl
  rw [eqn]
  exact ⟨by decide, rfl⟩
theorem okNear : FnOk Try.prog u 19 spNear := by
  refine fn_ok Try.prog u tab0 mo laws0 Try.func19 ?_
  intro xs c y h hc
  unfold spNear at h
  split at h
  · cases h
    exact ⟨by kernel_rfl, _, _, bodyNear _⟩
  · cases h
theorem bodyStation (n : Int) : BodyOk Try.prog u tab0 [] [] Try.f22 [.int .u8 n] (.agg (station n).cells) := by
  constructor
  have eqn : bodyW Try.prog u tab0 [] (drawW Try.prog u tab0) (loopsBy u []) Try.f22 [.int .u8 n] (.agg (station n).cells) = vcStation n := by kernel_rfl
  rw [eqn]
  unfold vcStation station
  refine ⟨fun h => ?_, fun h => ?_⟩
  · rw [h]; exact ⟨rfl, rfl, rfl, rfl, rfl, rfl⟩
  · rw [h]; exact ⟨by decide, rfl, rfl, rfl, rfl, rfl, rfl⟩
theorem okStation : FnOk Try.prog u 22 spStation := by
  refine fn_ok Try.prog u tab0 mo laws0 Try.func22 ?_
  intro xs c y h hc
  unfold spStation at h
  split at h
  · cases h
    exact ⟨by kernel_rfl, _, _, bodyStation _⟩
  · cases h
theorem bodyFind1 (k : Int) (ks : List Known) (a : Int) (h : 0 ≤ k ∧ k < ks.length) : BodyOk Try.prog u tab0 [] [] Try.f25 [.int .i64 k, .cptr [.csl 53 ks] 0, .cptr [.int .u32 a] 0] (.bool (geK a (getK ks k.toNat))) := by
  constructor
  have eqn : bodyW Try.prog u tab0 [] (drawW Try.prog u tab0) (loopsBy u []) Try.f25 [.int .i64 k, .cptr [.csl 53 ks] 0, .cptr [.int .u32 a] 0] (.bool (geK a (getK ks k.toNat))) = vcFind1 k ks a := by kernel_rfl
  rw [eqn]
  exact ⟨h, rfl⟩
theorem okFind1 : FnOk Try.prog u 25 spFind1 := by
  refine fn_ok Try.prog u tab0 mo laws0 Try.func25 ?_
  intro xs c y h hc
  unfold spFind1 at h
  split at h
  · cases h
    exact ⟨by kernel_rfl, _, _, bodyFind1 _ _ _ hc⟩
  · cases h
theorem bodyKeep (ss : List Sight) (s a b c d e f t : Int) (h : (ss.length + 1) * 24 ≤ 140737488355328) : BodyOk Try.prog u tab0 [] [] Try.f16 [.csl 35 ss, .agg [.int .i64 s, .int .u8 a, .int .u8 b, .int .u8 c, .int .u8 d, .int .u8 e, .int .u8 f, .int .i64 t]] (.csl 35 (keepL ss ⟨s, ⟨a, b, c, d, e, f⟩, t⟩)) := by
  constructor
  have eqn : bodyW Try.prog u tab0 [] (drawW Try.prog u tab0) (loopsBy u []) Try.f16 [.csl 35 ss, .agg [.int .i64 s, .int .u8 a, .int .u8 b, .int .u8 c, .int .u8 d, .int .u8 e, .int .u8 f, .int .i64 t]] (.csl 35 (keepL ss ⟨s, ⟨a, b, c, d, e, f⟩, t⟩)) = vcKeep ss s a b c d e f t := by kernel_rfl
  rw [eqn]
  unfold vcKeep
  generalize (⟨s, ⟨a, b, c, d, e, f⟩, t⟩ : Sight) = x
  have hl : (ss ++ [x]).length = ss.length + 1 := by simp
  have hw : IntKind.i64.wrap (((ss ++ [x]).length : Int) - 8) = ((ss ++ [x]).length : Int) - 8 := wrap_i64_id (by omega)
  rw [hw]
  have hm : 0 ≤ mx 0 (((ss ++ [x]).length : Int) - 8) ∧ mx 0 (((ss ++ [x]).length : Int) - 8) ≤ ((ss ++ [x]).length : Int) := by unfold mx; split <;> omega
  refine ⟨by omega, show (ss.length + 1) * 24 ≤ 140737488355328 from h, ⟨hm.1, hm.2, Int.le_refl _⟩, ?_⟩
  rw [Nat.zero_add, List.take_of_length_le (by rw [List.length_drop]; omega)]
  rfl
theorem okKeep : FnOk Try.prog u 16 spKeep := by
  refine fn_ok Try.prog u tab0 mo laws0 Try.func16 ?_
  intro xs c y h hc
  unfold spKeep at h
  split at h
  · cases h
    exact ⟨by kernel_rfl, _, _, bodyKeep _ _ _ _ _ _ _ _ _ hc⟩
  · cases h
theorem bodyRight (ks : List Known) (h : rowOk ks) : BodyOk Try.prog u tab0 [104038, 109075] [(0, .inv (annRight ks)), (2, .see 9 (annRight2 ks))] Try.f15 [.csl 53 ks] (.bool (rightB ks)) := by
  constructor
  have eqn : bodyW Try.prog u tab0 [104038, 109075] (drawW Try.prog u tab0) (loopsBy u [(0, .inv (annRight ks)), (2, .see 9 (annRight2 ks))]) Try.f15 [.csl 53 ks] (.bool (rightB ks)) = vcRight ks := by kernel_rfl
  rw [eqn]
  unfold vcRight
  obtain ⟨h, hz⟩ := h
  refine ⟨⟨0, ⟨Nat.zero_le _, rfl⟩, rfl, rfl, rfl, rfl⟩, fun g hg => ⟨fun hlt => ?_, fun hge => ?_⟩⟩
  · have hlt := of_decide_eq_true hlt
    have hlt' : g < ks.length := by omega
    have hz := hz _ (getK_mem hlt')
    refine ⟨⟨by omega, hlt⟩, fun h0 => pred_rng g ks.length hlt' (by omega) h0, fun v hv => ?_⟩
    rw [pred_nat g ks.length hlt' (by omega)] at hv
    have hv : v = badK ks g := hv
    subst hv
    refine ⟨fun hb => right_bad hlt' (.inl hb), fun hb => ⟨⟨0, ⟨Nat.zero_le _, rfl⟩, ⟨rfl, rfl, rfl, rfl, trivial, rfl, rfl, rfl⟩, rfl, rfl⟩, fun j hj => ⟨fun hjl => ?_, fun hjg => ?_⟩⟩⟩
    · have hjl : (j : Int) < ((getK ks g).seen.length : Int) := of_decide_eq_true hjl
      have hjl' : j < (getK ks g).seen.length := by omega
      refine ⟨⟨by omega, hjl⟩, fun _ h0 => pred_rng j (getK ks g).seen.length hjl' (by omega) h0, fun v hv => ?_⟩
      rw [pred_nat j (getK ks g).seen.length hjl' (by omega)] at hv
      have hv : v = badS (getK ks g).seen j := hv
      subst hv
      refine ⟨fun hb => right_bad hlt' (.inr (okS_bad hjl' hb)), fun hb2 => ⟨j + 1, ⟨hjl', by rw [okS, hj.2, hb2]; rfl⟩, show (getK ks g).seen.length - (j + 1) < (getK ks g).seen.length - j by omega, ⟨rfl, rfl, rfl, rfl, trivial, rfl, rfl, wrap_next hjl hz⟩, rfl, rfl⟩⟩
    · have hjg : ¬ (j : Int) < ((getK ks g).seen.length : Int) := of_decide_eq_false hjg
      have hj1 := hj.1
      have hje : j = (getK ks g).seen.length := by omega
      have hj2 := hj.2
      rw [hje] at hj2
      exact ⟨g + 1, ⟨hlt', by rw [okTo, hg.2, hb, hj2]; rfl⟩, show ks.length - (g + 1) < ks.length - g by omega, rfl, rfl, rfl, wrap_next hlt h⟩
  · have hge := of_decide_eq_false hge
    have hg1 := hg.1
    have : g = ks.length := by omega
    subst this
    unfold rightB
    rw [hg.2]
    rfl
theorem okRight : FnOk Try.prog u 15 spRight := by
  refine fn_ok Try.prog u tab0 mo laws0 Try.func15 ?_
  intro xs c y h hc
  unfold spRight at h
  split at h
  · cases h
    exact ⟨by kernel_rfl, _, _, bodyRight _ hc⟩
  · cases h
theorem bodyRightL (ks : List Known) (h : rowOk ks) : BodyOk Try.prog u tab0 [106042, 112063] [(0, .inv (annRightL ks)), (2, .see 13 (annRightL2 ks))] Try.f18 [.csl 53 ks] (.bool (rightL ks)) := by
  constructor
  have eqn : bodyW Try.prog u tab0 [106042, 112063] (drawW Try.prog u tab0) (loopsBy u [(0, .inv (annRightL ks)), (2, .see 13 (annRightL2 ks))]) Try.f18 [.csl 53 ks] (.bool (rightL ks)) = vcRightL ks := by kernel_rfl
  rw [eqn]
  unfold vcRightL
  obtain ⟨h, hz⟩ := h
  refine ⟨fun hl => ?_, fun hl => ⟨⟨0, ⟨Nat.zero_le _, rfl⟩, rfl, rfl, rfl, rfl⟩, fun g hg => ⟨fun hlt => ?_, fun hge => ?_⟩⟩⟩
  · unfold rightL
    rw [if_pos hl]
  · have hlt := of_decide_eq_true hlt
    have hlt' : g < ks.length := by omega
    have hz := hz _ (getK_mem hlt')
    refine ⟨⟨by omega, hlt⟩, fun h0 => pred_rng g ks.length hlt' (by omega) h0, fun v hv => ?_⟩
    rw [pred_nat g ks.length hlt' (by omega)] at hv
    have hv : v = badKL ks g := hv
    subst hv
    refine ⟨fun hb => rightL_bad hl hlt' (.inl hb), fun hb => ⟨⟨0, ⟨Nat.zero_le _, rfl⟩, ⟨rfl, rfl, rfl, rfl, trivial, rfl, rfl, rfl, rfl⟩, rfl, rfl⟩, fun j hj => ⟨fun hjl => ?_, fun hjg => ?_⟩⟩⟩
    · have hjl : (j : Int) < ((getK ks g).seen.length : Int) := of_decide_eq_true hjl
      have hjl' : j < (getK ks g).seen.length := by omega
      refine ⟨⟨by omega, hjl⟩, fun v hv => ?_⟩
      have hv : v = badSL (getK ks g).seen (lastL (getK ks g).seen j) j := hv
      subst hv
      refine ⟨fun hb => rightL_bad hl hlt' (.inr (okSL_bad hjl' hb)), fun hb2 => ⟨j + 1, ⟨hjl', by rw [okSL, hj.2, hb2]; rfl⟩, show (getK ks g).seen.length - (j + 1) < (getK ks g).seen.length - j by omega, ⟨rfl, rfl, rfl, rfl, trivial, rfl, rfl, wrap_next hjl hz, rfl⟩, rfl, rfl⟩⟩
    · have hjg : ¬ (j : Int) < ((getK ks g).seen.length : Int) := of_decide_eq_false hjg
      have hj1 := hj.1
      have hje : j = (getK ks g).seen.length := by omega
      have hj2 := hj.2
      rw [hje] at hj2
      exact ⟨g + 1, ⟨hlt', by rw [okToL, hg.2, hb, hj2]; rfl⟩, show ks.length - (g + 1) < ks.length - g by omega, rfl, rfl, rfl, wrap_next hlt h⟩
  · have hge := of_decide_eq_false hge
    have hg1 := hg.1
    have : g = ks.length := by omega
    subst this
    unfold rightL
    rw [if_neg (by rw [hl]; simp), hg.2]
theorem okRightL : FnOk Try.prog u 18 spRightL := by
  refine fn_ok Try.prog u tab0 mo laws0 Try.func18 ?_
  intro xs c y h hc
  unfold spRightL at h
  split at h
  · cases h
    exact ⟨by kernel_rfl, _, _, bodyRightL _ hc⟩
  · cases h
theorem bodySame (xs ys : List Sight) (h : lenOk xs ∧ lenOk ys) : BodyOk Try.prog u tab0 [] [(0, .inv (annSame xs ys))] Try.f13 [.csl 35 xs, .csl 35 ys] (.bool (sameL xs ys)) := by
  constructor
  have eqn : bodyW Try.prog u tab0 [] (drawW Try.prog u tab0) (loopsBy u [(0, .inv (annSame xs ys))]) Try.f13 [.csl 35 xs, .csl 35 ys] (.bool (sameL xs ys)) = vcSame xs ys := by kernel_rfl
  rw [eqn]
  unfold vcSame
  obtain ⟨hx, hy⟩ := h
  have hx : xs.length < 9223372036854775808 := hx
  refine ⟨fun hn => ?_, fun hn => ⟨⟨0, ⟨Nat.zero_le _, ?_, rfl⟩, rfl, rfl, rfl, rfl, rfl⟩, fun g hg => ⟨fun hlt => ?_, fun hge => ?_⟩⟩⟩
  · unfold sameL
    have : ((xs.length : Int) == ys.length) = false := by simpa using hn
    rw [this]
    rfl
  · have := bne_eq_false_iff_eq.1 hn
    omega
  · have hlt := of_decide_eq_true hlt
    obtain ⟨g1, g2, g3⟩ := hg
    have hlt' : g < xs.length := by omega
    refine ⟨⟨by omega, hlt⟩, ⟨by omega, by omega⟩, fun hb => ?_, fun hb => ⟨g + 1, ⟨hlt', g2, ?_⟩, show xs.length - (g + 1) < xs.length - g by omega, rfl, rfl, rfl, rfl, wrap_next hlt hx⟩⟩
    · have hb : (!same8 (getS xs g) (getS ys g)) = true := hb
      unfold sameL
      cases ho : sameTo xs ys xs.length
      · simp
      · have h1 := sameTo_le xs ys xs.length (g + 1) (by omega) ho
        rw [sameTo, g3] at h1
        have h2 : same8 (getS xs g) (getS ys g) = false := by simpa using hb
        rw [h2] at h1
        cases h1
    · have hb : (!same8 (getS xs g) (getS ys g)) = false := hb
      have h2 : same8 (getS xs g) (getS ys g) = true := by simpa using hb
      rw [sameTo, g3, h2]
      rfl
  · have hge := of_decide_eq_false hge
    obtain ⟨g1, g2, g3⟩ := hg
    have : g = xs.length := by omega
    subst this
    unfold sameL
    rw [g3, show ((xs.length : Int) == ys.length) = true from beq_iff_eq.2 (by omega)]
    rfl
theorem okSame : FnOk Try.prog u 13 spSame := by
  refine fn_ok Try.prog u tab0 mo laws0 Try.func13 ?_
  intro xs c y h hc
  unfold spSame at h
  split at h
  · cases h
    exact ⟨by kernel_rfl, _, _, bodySame _ _ hc⟩
  · cases h
theorem laws1 : Laws Try.prog u tab1 := by
  refine ⟨law, clean, fun p hp => ?_⟩
  rcases List.mem_cons.1 hp with rfl | hp
  · exact okNear
  rcases List.mem_cons.1 hp with rfl | hp
  · exact okStation
  rcases List.mem_cons.1 hp with rfl | hp
  · exact okFind1
  exact laws0.tab p hp
theorem bodySight (a b c d n : Int) : BodyOk Try.prog u tab1 [] [] Try.f10 [.agg [.int .u8 a, .int .u8 b, .int .u8 c, .int .u8 d], .int .i64 n] (.agg (sightA ⟨a, b, c, d⟩ n).cells) := by
  constructor
  have eqn : bodyW Try.prog u tab1 [] (drawW Try.prog u tab1) (loopsBy u []) Try.f10 [.agg [.int .u8 a, .int .u8 b, .int .u8 c, .int .u8 d], .int .i64 n] (.agg (sightA ⟨a, b, c, d⟩ n).cells) = vcSight a b c d n := by kernel_rfl
  rw [eqn]
  exact ⟨by decide, rfl, rfl, rfl, rfl, rfl, rfl, rfl, rfl⟩
theorem okSight : FnOk Try.prog u 10 spSight := by
  refine fn_ok Try.prog u tab1 mo laws1 Try.func10 ?_
  intro xs c y h hc
  unfold spSight at h
  split at h
  · cases h
    exact ⟨by kernel_rfl, _, _, bodySight _ _ _ _ _⟩
  · cases h
theorem bodySearch (n : Int) (ks : List Known) (a : Int) (h : n = ks.length ∧ findOk ks) : BodyOk Try.prog u tab1 [] [(0, .inv (annSearch ks a))] Try.f24 [.int .i64 n, .fn 25 [.cptr [.csl 53 ks] 0, .cptr [.int .u32 a] 0]] (.int .i64 (idxK ks a)) := by
  constructor
  have eqn : bodyW Try.prog u tab1 [] (drawW Try.prog u tab1) (loopsBy u [(0, .inv (annSearch ks a))]) Try.f24 [.int .i64 n, .fn 25 [.cptr [.csl 53 ks] 0, .cptr [.int .u32 a] 0]] (.int .i64 (idxK ks a)) = vcSearch n ks a := by kernel_rfl
  rw [eqn]
  unfold vcSearch
  obtain ⟨rfl, hl, hs⟩ := h
  have kk : ((25 : Nat) = 25 ∧ ((0 : Nat) = 0 ∧ ks = ks) ∧ (0 : Nat) = 0 ∧ a = a) := ⟨rfl, ⟨rfl, rfl⟩, rfl, rfl⟩
  refine ⟨⟨(0, ks.length), ⟨Nat.zero_le _, Nat.le_refl _, fun m hm => absurd hm (Nat.not_lt_zero _), fun m h1 h2 => absurd h2 (Nat.not_lt.2 h1)⟩, kk, rfl, rfl⟩, fun g hg => ⟨fun hlt => ?_, fun hge => ?_⟩⟩
  · have hlt := of_decide_eq_true hlt
    obtain ⟨g1, g2, g3, g4⟩ := hg
    rw [half ((g.1 : Int) + g.2) (by omega)]
    have hN : (((g.1 : Int) + g.2) / 2).toNat = (g.1 + g.2) / 2 := by omega
    have hI : ((g.1 : Int) + g.2) / 2 = (((g.1 + g.2) / 2 : Nat) : Int) := by omega
    rw [hN, hI]
    have hm1 : g.1 ≤ (g.1 + g.2) / 2 := by omega
    have hm2 : (g.1 + g.2) / 2 < g.2 := by omega
    generalize (g.1 + g.2) / 2 = m at *
    refine ⟨by decide, ⟨by omega, by omega⟩, fun _ => trivial, fun _ => trivial, fun v hv w hw => ?_⟩
    cases hq : geK a (getK ks m)
    · rw [hq] at hv hw
      have hv : v = IntKind.i64.wrap ((m : Int) + 1) := hv
      have hw : w = (g.2 : Int) := hw
      refine ⟨(m + 1, g.2), ⟨by simp only; omega, g2, fun n hn => ?_, g4⟩, show g.2 - (m + 1) < g.2 - g.1 by omega, kk, ?_, hw⟩
      · exact (sort_le hs (by simp only at hn; omega) (by omega)).2 hq
      · rw [hv, wrap_i64_id (by omega)]; rfl
    · rw [hq] at hv hw
      have hv : v = (g.1 : Int) := hv
      have hw : w = (m : Int) := hw
      exact ⟨(g.1, m), ⟨hm1, by simp only; omega, g3, fun n hn hn2 => (sort_le hs hn hn2).1 hq⟩, show m - g.1 < g.2 - g.1 by omega, kk, hv, hw⟩
  · have hge := of_decide_eq_false hge
    obtain ⟨g1, g2, g3, g4⟩ := hg
    rw [idx_at (i := g.1) (by omega) g3 (fun h => g4 g.1 (by omega) h)]
theorem okSearch : FnOk Try.prog u 24 spSearch := by
  refine fn_ok Try.prog u tab1 mo laws1 Try.func24 ?_
  intro xs c y h hc
  unfold spSearch at h
  split at h
  · cases h
    exact ⟨by kernel_rfl, _, _, bodySearch _ _ _ hc⟩
  · cases h
theorem laws2 : Laws Try.prog u tab2 := by
  refine ⟨law, clean, fun p hp => ?_⟩
  rcases List.mem_cons.1 hp with rfl | hp
  · exact okSight
  rcases List.mem_cons.1 hp with rfl | hp
  · exact okSearch
  exact laws1.tab p hp
theorem bodyFind (ks : List Known) (a : Int) (h : findOk ks) : BodyOk Try.prog u tab2 [] [] Try.f23 [.csl 53 ks, .int .u32 a] (.tup [.int .i64 (idxK ks a), .bool (hasK ks a)]) := by
  constructor
  have eqn : bodyW Try.prog u tab2 [] (drawW Try.prog u tab2) (loopsBy u []) Try.f23 [.csl 53 ks, .int .u32 a] (.tup [.int .i64 (idxK ks a), .bool (hasK ks a)]) = vcFind ks a := by kernel_rfl
  rw [eqn]
  unfold vcFind
  exact ⟨⟨rfl, h⟩, fun hd => ⟨by omega, of_decide_eq_true hd⟩, rfl, rfl⟩
theorem okFind : FnOk Try.prog u 23 spFind := by
  refine fn_ok Try.prog u tab2 mo laws2 Try.func23 ?_
  intro xs c y h hc
  unfold spFind at h
  split at h
  · cases h
    exact ⟨by kernel_rfl, _, _, bodyFind _ _ hc⟩
  · cases h
theorem laws3 : Laws Try.prog u tab3 := by
  refine ⟨law, clean, fun p hp => ?_⟩
  rcases List.mem_cons.1 hp with rfl | hp
  · exact okFind
  rcases List.mem_cons.1 hp with rfl | hp
  · exact okKeep
  exact laws2.tab p hp
theorem bodyLast (ks : List Known) (a : Int) (h : seenLen ks) : BodyOk Try.prog u tab3 [101006, 101007] [] Try.f12 [.csl 53 ks, .int .u32 a] (.tup [.int .i64 (lastT ks a), .bool (lastB ks a)]) := by
  constructor
  have eqn : bodyW Try.prog u tab3 [101006, 101007] (drawW Try.prog u tab3) (loopsBy u []) Try.f12 [.csl 53 ks, .int .u32 a] (.tup [.int .i64 (lastT ks a), .bool (lastB ks a)]) = vcLast ks a := by kernel_rfl
  rw [eqn]
  unfold vcLast
  obtain ⟨hf, hz⟩ := h
  refine ⟨hf, fun v hv w hw => ?_⟩
  subst hv hw
  have hN : ((idxK ks a : Nat) : Int).toNat = idxK ks a := rfl
  rw [hN]
  have hx : hasK ks a = true → (0 : Int) ≤ (idxK ks a : Int) ∧ (idxK ks a : Int) < ks.length := by
    intro h
    have := (has_lt h).1
    omega
  have hg : ks.getD (idxK ks a) (u.dflt 53) = getK ks (idxK ks a) := rfl
  rw [hg]
  refine ⟨fun h => hx (by simpa using h), fun h => ?_, fun h => ?_⟩
  · have hn : (seenK ks a).length = 0 := by
      cases hh : hasK ks a
      · rw [seen_none hh]; rfl
      · rw [seen_mem hh]
        rw [hh] at h
        simp only [Bool.not_true, Bool.false_or, beq_iff_eq] at h
        omega
    unfold lastT lastB
    rw [hn]
    exact ⟨rfl, rfl⟩
  · simp only [Bool.or_eq_false_iff, Bool.not_eq_false', beq_eq_false_iff_ne] at h
    obtain ⟨h1, h2⟩ := h
    have hz := hz _ (getK_mem (has_lt h1).1)
    have hw : IntKind.i64.wrap (((getK ks (idxK ks a)).seen.length : Int) - 1) = ((getK ks (idxK ks a)).seen.length : Int) - 1 := wrap_i64_id (by omega)
    rw [hw]
    have hd : decide ((seenK ks a).length > 0) = true := decide_eq_true (by rw [seen_mem h1]; omega)
    refine ⟨hx h1, hx h1, ⟨by omega, by omega⟩, ?_, ?_⟩
    · unfold lastT
      rw [if_pos hd, seen_mem h1]
      have : (((getK ks (idxK ks a)).seen.length : Int) - 1).toNat = (getK ks (idxK ks a)).seen.length - 1 := by omega
      rw [this]
      rfl
    · unfold lastB
      exact hd.symm
theorem okLast : FnOk Try.prog u 12 spLast := by
  refine fn_ok Try.prog u tab3 mo laws3 Try.func12 ?_
  intro xs c y h hc
  unfold spLast at h
  split at h
  · cases h
    exact ⟨by kernel_rfl, _, _, bodyLast _ _ hc⟩
  · cases h
theorem bodyOf (ks : List Known) (a : Int) (h : seenLen ks) : BodyOk Try.prog u tab3 [] [] Try.f14 [.csl 53 ks, .int .u32 a] (.csl 35 (seenK ks a)) := by
  constructor
  have eqn : bodyW Try.prog u tab3 [] (drawW Try.prog u tab3) (loopsBy u []) Try.f14 [.csl 53 ks, .int .u32 a] (.csl 35 (seenK ks a)) = vcOf ks a := by kernel_rfl
  rw [eqn]
  unfold vcOf
  obtain ⟨hf, hz⟩ := h
  refine ⟨hf, fun h => ⟨⟨by omega, by have := (has_lt h).1; omega⟩, hz _ (getK_mem (has_lt h).1), (seen_mem h).symm⟩, fun h => seen_none h⟩
theorem okOf : FnOk Try.prog u 14 spOf := by
  refine fn_ok Try.prog u tab3 mo laws3 Try.func14 ?_
  intro xs c y h hc
  unfold spOf at h
  split at h
  · cases h
    exact ⟨by kernel_rfl, _, _, bodyOf _ _ hc⟩
  · cases h
theorem laws4 : Laws Try.prog u tab4 := by
  refine ⟨law, clean, fun p hp => ?_⟩
  rcases List.mem_cons.1 hp with rfl | hp
  · exact okLast
  rcases List.mem_cons.1 hp with rfl | hp
  · exact okOf
  rcases List.mem_cons.1 hp with rfl | hp
  · exact okRight
  rcases List.mem_cons.1 hp with rfl | hp
  · exact okRightL
  rcases List.mem_cons.1 hp with rfl | hp
  · exact okSame
  exact laws3.tab p hp
theorem bodyPut (ks : List Known) (k : Int) (s a b c d e f t : Int) (h : sizeOk ks) : BodyOk Try.prog u tab4 [101008, 101009, 104010, 109012] [] Try.f11 [.csl 53 ks, .int .u32 k, .agg [.int .i64 s, .int .u8 a, .int .u8 b, .int .u8 c, .int .u8 d, .int .u8 e, .int .u8 f, .int .i64 t]] (.tup [.csl 53 (putL ks k ⟨s, ⟨a, b, c, d, e, f⟩, t⟩), .int .i64 (putE ks k ⟨s, ⟨a, b, c, d, e, f⟩, t⟩)]) := by
  constructor
  have eqn : bodyW Try.prog u tab4 [101008, 101009, 104010, 109012] (drawW Try.prog u tab4) (loopsBy u []) Try.f11 [.csl 53 ks, .int .u32 k, .agg [.int .i64 s, .int .u8 a, .int .u8 b, .int .u8 c, .int .u8 d, .int .u8 e, .int .u8 f, .int .i64 t]] (.tup [.csl 53 (putL ks k ⟨s, ⟨a, b, c, d, e, f⟩, t⟩), .int .i64 (putE ks k ⟨s, ⟨a, b, c, d, e, f⟩, t⟩)]) = vcPut ks k s a b c d e f t := by kernel_rfl
  rw [eqn]
  unfold vcPut
  obtain ⟨h1, h2, h3⟩ := h
  have hf : ks.length < 4611686018427387904 ∧ ∀ i j : Nat, i < j → j < ks.length → (getK ks i).addr < (getK ks j).addr := ⟨by omega, h3⟩
  generalize hs : (⟨s, ⟨a, b, c, d, e, f⟩, t⟩ : Sight) = x
  have hsrc : (decide (s < 0) || decide (s ≥ 4)) = srcBad x := by subst hs; rfl
  have ht : t = x.time := by subst hs; rfl
  rw [hsrc, ht]
  have hl := idx_le ks k
  refine ⟨hf, fun v hv w hw => ⟨fun he => ?_, fun he => ⟨⟨hf, fun y hy => by have := h2 y hy; omega⟩, fun lt hlt => ⟨fun he2 => ?_, fun he2 => ⟨fun he3 => ?_, fun he3 => ⟨by omega, fun zs hzs => ⟨fun hq => ?_, fun hq => ?_⟩⟩⟩⟩⟩⟩⟩
  · exact put_err (by unfold putE; rw [if_pos he]) (by decide)
  · subst hlt
    exact put_err (by unfold putE; rw [if_neg (by rw [he]; simp), if_pos he2]) (by decide)
  · subst hlt hv
    exact put_err (by unfold putE; rw [if_neg (by rw [he]; simp), if_neg (by rw [he2]; simp), if_pos he3]) (by decide)
  · subst hlt hv hw hzs
    have h0 : putE zs k x = 0 := by unfold putE; rw [if_neg (by rw [he]; simp), if_neg (by rw [he2]; simp), if_neg (by rw [he3]; simp)]
    have hi := (has_lt hq).1
    have hb : (0 : Int) ≤ (idxK zs k : Int) ∧ (idxK zs k : Int) < zs.length := by omega
    have hz := h2 _ (getK_mem hi)
    refine ⟨hb, show ((getK zs (idxK zs k)).seen.length + 1) * 24 ≤ 140737488355328 by omega, hb, ?_, h0.symm⟩
    unfold putL putNew
    rw [h0, if_pos hq]
    rfl
  · subst hlt hv hw hzs
    have h0 : putE zs k x = 0 := by unfold putE; rw [if_neg (by rw [he]; simp), if_neg (by rw [he2]; simp), if_neg (by rw [he3]; simp)]
    have hN : ((idxK zs k : Nat) : Int).toNat = idxK zs k := rfl
    have hw : IntKind.i64.wrap ((idxK zs k : Int) + 1) = ((idxK zs k + 1 : Nat) : Int) := by rw [wrap_i64_id (by omega)]; omega
    have hN2 : ((idxK zs k + 1 : Nat) : Int).toNat = idxK zs k + 1 := rfl
    have hN3 : (((zs ++ [(⟨0, []⟩ : Known)]).length : Nat) : Int).toNat = (zs ++ [(⟨0, []⟩ : Known)]).length := rfl
    have hll : (zs ++ [(⟨0, []⟩ : Known)]).length = zs.length + 1 := by simp
    rw [hw, hN, hN2, hN3, ins_len zs ⟨0, []⟩ (idxK zs k) hl, ins_set _ _ _ _ hl]
    refine ⟨by omega, ⟨by omega, by rw [hll]; omega, Int.le_refl _⟩, ⟨by omega, by rw [hll]; omega, Int.le_refl _⟩, ⟨by omega, ?_⟩, ?_, h0.symm⟩
    · simp only [List.length_append, List.length_take, List.length_drop, List.length_singleton]
      omega
    · unfold putL putNew
      rw [h0, if_pos (show ((0 : Int) == 0) = true from rfl), if_neg (by rw [hq]; simp)]
theorem okPut : FnOk Try.prog u 11 spPut := by
  refine fn_ok Try.prog u tab4 mo laws4 Try.func11 ?_
  intro xs c y h hc
  unfold spPut at h
  split at h
  · cases h
    exact ⟨by kernel_rfl, _, _, bodyPut _ _ _ _ _ _ _ _ _ _ hc⟩
  · cases h
end Go.Proofs.Ytcgeccpookgoeaa.Seen
