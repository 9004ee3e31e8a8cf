/- Cases: the contracts of the package. -/
import Derived.Test.YtlamlmihojodfaaCasVc
namespace Go.Proofs.Ytlamlmihojodfaa.Cas
open Go Go.Proofs.Ytlamlmihojodfaa.Sx

theorem lit_h {e : E A} {b : Bool} {vs : List Value} (h : RepL Try.prog u e [.lit b] vs) : RepL Try.prog u e (enc 4 b) vs := by
  cases h with
  | lit b h => exact .bool b h
theorem dec_sound (e : E A) (T : Nat) (l : List (SV A)) (vs : List Value) (x : A T) (h : dec T l = some x) (hr : RepL Try.prog u e l vs) : RepL Try.prog u e (enc T x) vs := by
  unfold dec at h
  split at h <;> first | (cases h; exact hr) | (cases h; exact lit_h hr) | cases h
theorem dec_len {T : Nat} {l : List (SV A)} {x : A T} (h : dec T l = some x) : l.length = Try.prog.cellsOf T := by
  unfold dec at h
  split at h <;> first | (cases h; kernel_rfl) | cases h
theorem law : Law Try.prog u := by
  refine ⟨fun e T l vs x h hr => dec_sound e T l vs x h hr, fun T l x h => dec_len h, ?_, ?_, ?_, ?_, fun T off t f h => (by cases h), fun T off S p h => (by cases h), fun t S h => (by cases h), fun t ps x h => (by cases h), fun T x h => (by cases h)⟩
  · intro T f x y h
    cases h
  · intro T x
    show (enc T x).all _ = true
    unfold enc
    split <;> rfl
  · intro T xs h
    cases h
  · intro T xs h
    cases h
theorem clean : ∀ (T : Nat) (x : A T), noOwn.go (u.enc T x) = true := by
  intro T x
  show noOwn.go (enc T x) = true
  unfold enc
  split <;> rfl
theorem mo : Try.prog.follows .mixedOrders = true := by kernel_rfl
theorem laws0 : Laws Try.prog u tab0 := { toLaw := law, clean := clean, tab := fun p hp => by cases hp }
theorem wrap_i64_id {n : Int} (h : -9223372036854775808 ≤ n ∧ n < 9223372036854775808) : IntKind.i64.wrap n = n := by rw [IntKind.wrap_i64]; omega
theorem wrap_next {g n : Nat} (h : (g : Int) < n) (hn : n < 9223372036854775808) : IntKind.i64.wrap ((g : Int) + 1) = ((g + 1 : Nat) : Int) := by
  rw [IntKind.wrap_i64]
  omega
theorem drop_getD {α : Type} (xs : List α) (g : Nat) (h : g < xs.length) (d : α) : xs.drop g = xs.getD g d :: xs.drop (g + 1) := by
  rw [List.drop_eq_getElem_cons h]
  simp [List.getD, List.getElem?_eq_getElem h]
theorem take_getD {α : Type} (xs : List α) (g : Nat) (h : g < xs.length) (d : α) : xs.take (g + 1) = xs.take g ++ [xs.getD g d] := by
  rw [List.take_add_one, List.getElem?_eq_getElem h]
  simp [List.getD, List.getElem?_eq_getElem h]
theorem any_take_drop {α : Type} (p : α → Bool) (xs : List α) (g : Nat) : xs.any p = ((xs.take g).any p || (xs.drop g).any p) := by
  rw [← List.any_append, List.take_append_drop]
theorem any_next {q : Cse → Bool} {xs : List Cse} {k : Nat} (hk : k < xs.length) (h : (xs.take k).any q = false) (hq : q (xs.getD k zeroC) = false) : (xs.take (k + 1)).any q = false := by
  rw [take_getD xs k hk zeroC, List.any_append, h]
  simpa using hq
theorem first_none {q : Cse → Bool} {xs : List Cse} (h : xs.any q = false) : firstI q xs = -1 := by
  unfold firstI
  rw [if_neg (by rw [h]; simp)]
theorem first_at {q : Cse → Bool} {xs : List Cse} {k : Nat} (hk : k < xs.length) (h : (xs.take k).any q = false) (hq : q (xs.getD k zeroC) = true) : (k : Int) = firstI q xs := by
  have ha : xs.any q = true := by
    rw [any_take_drop q xs k, drop_getD xs k hk zeroC, List.any_cons, hq]
    simp
  unfold firstI
  rw [if_pos ha]
  have hx : xs.findIdx q = k := by
    rw [List.findIdx_eq hk]
    refine ⟨by simpa [List.getD, List.getElem?_eq_getElem hk] using hq, fun j hj => ?_⟩
    rw [List.any_eq_false] at h
    have := h xs[j] (by rw [List.mem_take_iff_getElem]; exact ⟨j, by omega, rfl⟩)
    simpa using this
  rw [hx]
theorem first_ge (q : Cse → Bool) (xs : List Cse) : decide (firstI q xs ≥ 0) = xs.any q := by
  cases h : xs.any q
  · rw [first_none h]; rfl
  · unfold firstI
    rw [if_pos h]
    exact decide_eq_true (Int.natCast_nonneg _)
theorem first_rng (q : Cse → Bool) (xs : List Cse) : -1 ≤ firstI q xs ∧ firstI q xs < xs.length := by
  unfold firstI
  split
  · rename_i h
    have : xs.findIdx q < xs.length := by
      rw [List.findIdx_lt_length]
      rw [List.any_eq_true] at h
      exact h
    omega
  · omega
theorem del_eq (xs : List Cse) (k : Nat) (hk : k < xs.length) : k - 0 + ((xs.drop (0 + (k + 1))).take (xs.length - (k + 1))).length = xs.length - 1 ∧
    ((xs.take (k - 0) ++ (xs.drop (0 + (k + 1))).take (xs.length - (k + 1)) ++ xs.drop (xs.length - 1)).take (0 + (xs.length - 1)) ++ List.replicate (xs.length - (xs.length - 1)) zeroC ++ (xs.take (k - 0) ++ (xs.drop (0 + (k + 1))).take (xs.length - (k + 1)) ++ xs.drop (xs.length - 1)).drop (0 + (xs.length - 1) + (xs.length - (xs.length - 1)))) = cutAt xs k ++ [zeroC] ∧
    (xs.take (k - 0) ++ (xs.drop (0 + (k + 1))).take (xs.length - (k + 1)) ++ xs.drop (xs.length - 1)).length = xs.length := by
  have h1 : (xs.drop (0 + (k + 1))).take (xs.length - (k + 1)) = xs.drop (k + 1) := by rw [Nat.zero_add, List.take_of_length_le (by rw [List.length_drop]; omega)]
  have h2 : (xs.take k ++ xs.drop (k + 1)).length = xs.length - 1 := by rw [List.length_append, List.length_take, List.length_drop]; omega
  have h3 : (xs.take k ++ xs.drop (k + 1) ++ xs.drop (xs.length - 1)).length = xs.length := by rw [List.length_append, h2, List.length_drop]; omega
  rw [h1, Nat.sub_zero, Nat.zero_add]
  refine ⟨by rw [List.length_drop]; omega, ?_, h3⟩
  have h4 : (xs.take k ++ xs.drop (k + 1) ++ xs.drop (xs.length - 1)).drop (xs.length - 1 + 1) = [] := List.drop_of_length_le (by rw [h3]; omega)
  have h5 : (xs.take k ++ xs.drop (k + 1) ++ xs.drop (xs.length - 1)).take (xs.length - 1) = xs.take k ++ xs.drop (k + 1) := List.take_left' h2
  rw [show xs.length - (xs.length - 1) = 1 by omega, h4, h5, List.append_nil]
  rfl
theorem cut_len (xs : List Cse) (k : Nat) (hk : k < xs.length) : (cutAt xs k).length = xs.length - 1 := by
  unfold cutAt
  rw [List.length_append, List.length_take, List.length_drop]
  omega
theorem cut_le (xs : List Cse) (k : Nat) : (cutAt xs k).length ≤ xs.length := by
  unfold cutAt
  rw [List.length_append, List.length_take, List.length_drop]
  omega
theorem spare_1 {q now : Int} {cs : List Cse} {k : Nat} (h : (openC (getC cs k) || ((getC cs k).stage == 2 && within now (getC cs k).ended q)) = true) : spareAt q now cs (k + 1) = spareAt q now cs k := if_pos h
theorem spare_2 {q now : Int} {cs : List Cse} {k : Nat} (h : (openC (getC cs k) || ((getC cs k).stage == 2 && within now (getC cs k).ended q)) = false) : spareAt q now cs (k + 1) = if (decide (spareAt q now cs k < 0) || decide ((getC cs k).ended < (getC cs (spareAt q now cs k).toNat).ended)) = true then (k : Int) else spareAt q now cs k := if_neg (by rw [h]; simp)
theorem spare_rng (q now : Int) (cs : List Cse) : ∀ k, -1 ≤ spareAt q now cs k ∧ spareAt q now cs k < k := by
  intro k
  induction k with
  | zero => rw [spareAt]; omega
  | succ k ih =>
    rw [spareAt]
    split
    · omega
    · split <;> omega
theorem gone_rng (q now : Int) (cs : List Cse) : ∀ k, -1 ≤ goneTo q now cs k ∧ goneTo q now cs k < k := by
  intro k
  induction k with
  | zero => rw [goneTo]; omega
  | succ k ih =>
    rw [goneTo]
    split <;> omega
theorem at_rng (x : Int) (cs : List Cse) : ∀ k, -1 ≤ atTo x cs k ∧ atTo x cs k < k := by
  intro k
  induction k with
  | zero => rw [atTo]; omega
  | succ k ih =>
    rw [atTo]
    split <;> omega
theorem set_getC {xs : List Cse} {k : Nat} (hk : k < xs.length) (c d : Cse) : (xs.set k c).getD k d = c := by
  rw [List.getD_eq_getElem?_getD, List.getElem?_set_self hk]
  rfl
theorem next_no {xs : List Cse} {a fr to now n : Int} (h : nextE xs a fr = n) (hn : n ≠ 0) : nextL xs a fr to now = [] ∧ n = nextE xs a fr := by
  refine ⟨?_, h.symm⟩
  unfold nextL
  rw [h, if_neg (by simpa using hn)]
theorem next_ok {xs : List Cse} {a fr to now : Int} (h : nextE xs a fr = 0) : nextL xs a fr to now = nextN xs a to now := by
  unfold nextL
  rw [h]
  rfl
theorem raise_no {q : Int} {xs : List Cse} {a now n : Int} (h : raiseE q xs a now = n) (hn : n ≠ 0) : raiseL q xs a now = [] ∧ n = raiseE q xs a now := by
  refine ⟨?_, h.symm⟩
  unfold raiseL
  rw [h, if_neg (by simpa using hn)]
theorem raise_ok {q : Int} {xs : List Cse} {a now : Int} (h : raiseE q xs a now = 0) : raiseL q xs a now = raiseN q xs a now := by
  unfold raiseL
  rw [h]
  rfl
theorem mod_no {q : Int} {xs : List Cse} {a : Act} {now n : Int} (h : modE q xs a now = n) (hn : n ≠ 0) : modL q xs a now = [] ∧ n = modE q xs a now := by
  refine ⟨?_, h.symm⟩
  unfold modL
  rw [h, if_neg (by simpa using hn)]
theorem mod_ok {q : Int} {xs : List Cse} {a : Act} {now : Int} (h : modE q xs a now = 0) : modL q xs a now = modN q xs a now := by
  unfold modL
  rw [h]
  rfl
theorem okTo_le (cs : List Cse) : ∀ (m k : Nat), k ≤ m → okTo cs m = true → okTo cs k = true := by
  intro m
  induction m with
  | zero => intro k hk h; obtain rfl : k = 0 := by omega
            exact h
  | succ m ih =>
    intro k hk h
    by_cases e : k = m + 1
    · subst e; exact h
    · rw [okTo, Bool.and_eq_true] at h
      exact ih k (by omega) h.1
theorem right_bad {cs : List Cse} {k : Nat} (hk : k < cs.length) (h : badK cs k = true) : false = rightB cs := by
  unfold rightB
  cases ho : okTo cs cs.length
  · rfl
  · have h1 := okTo_le cs cs.length (k + 1) (by omega) ho
    rw [okTo, h] at h1
    simp at h1
theorem sameTo_le (a b : List Cse) : ∀ (m k : Nat), k ≤ m → sameTo a b m = true → sameTo a b k = true := by
  intro m
  induction m with
  | zero => intro k hk h; obtain rfl : k = 0 := by omega
            exact h
  | succ m ih =>
    intro k hk h
    by_cases e : k = m + 1
    · subst e; exact h
    · rw [sameTo, Bool.and_eq_true] at h
      exact ih k (by omega) h.1
/-! ### a tick -/
theorem tick_len (op now : Int) (cs : List Cse) (k : Nat) : (tickAt op now cs k).length = cs.length := by
  unfold tickAt
  rw [List.length_append, List.length_map, List.length_take, List.length_drop]
  omega
theorem tick_get (op now : Int) {cs : List Cse} {k : Nat} (hk : k < cs.length) : (tickAt op now cs k).getD k zeroC = getC cs k := by
  unfold tickAt getC
  have hl : ((cs.take k).map (tickC op now)).length = k := by rw [List.length_map, List.length_take]; omega
  rw [List.getD_eq_getElem?_getD, List.getElem?_append_right (by omega), hl, Nat.sub_self, List.getD_eq_getElem?_getD, List.getElem?_drop]
  rfl
theorem tick_set (op now : Int) {cs : List Cse} {k : Nat} (hk : k < cs.length) : (tickAt op now cs k).set k (tickC op now (getC cs k)) = tickAt op now cs (k + 1) := by
  have hl : ((cs.take k).map (tickC op now)).length = k := by rw [List.length_map, List.length_take]; omega
  unfold tickAt
  rw [List.set_append_right _ _ (by omega), hl, Nat.sub_self, take_getD cs k hk zeroC, drop_getD cs k hk zeroC, List.map_append, List.append_assoc]
  rfl
theorem tick_id (op now : Int) {cs : List Cse} {k : Nat} (hk : k < cs.length) (h : tickC op now (getC cs k) = getC cs k) : tickAt op now cs k = tickAt op now cs (k + 1) := by
  rw [← tick_set op now hk, h]
  have hl : k < (tickAt op now cs k).length := by rw [tick_len]; exact hk
  apply List.ext_getElem
  · rw [List.length_set]
  · intro j h1 h2
    rw [List.getElem_set]
    split
    · rename_i e
      subst e
      have := tick_get op now hk
      rw [List.getD_eq_getElem?_getD, List.getElem?_eq_getElem h1] at this
      exact this
    · rfl
/-! ### deeds -/
theorem do_01 {q : Int} {cs : List Cse} {a : Act} {now : Int} (h : (if (a.op.tmod 8 == 0) = true then a.op.tmod 8 == 0 else a.op.tmod 8 == 1) = true) : raiseL q cs (nearA a.addr) now = doL q cs a now ∧ raiseE q cs (nearA a.addr) now = doE q cs a now := by
  unfold doL doE
  cases h0 : (a.op.tmod 8 == 0)
  · rw [h0] at h
    have h1 : (a.op.tmod 8 == 1) = true := h
    rw [h1]
    exact ⟨rfl, rfl⟩
  · exact ⟨rfl, rfl⟩
theorem do_not {a : Act} (h : (if (a.op.tmod 8 == 0) = true then a.op.tmod 8 == 0 else a.op.tmod 8 == 1) = false) : (a.op.tmod 8 == 0) = false ∧ (a.op.tmod 8 == 1) = false := by
  cases h0 : (a.op.tmod 8 == 0)
  · rw [h0] at h
    exact ⟨rfl, h⟩
  · rw [h0] at h
    cases h
theorem do_2 {q : Int} {cs : List Cse} {a : Act} {now : Int} (h : (a.op.tmod 8 == 0) = false ∧ (a.op.tmod 8 == 1) = false) (h2 : (a.op.tmod 8 == 2) = true) : nextL cs (nearA a.addr) 0 1 now = doL q cs a now ∧ nextE cs (nearA a.addr) 0 = doE q cs a now := by
  unfold doL doE; rw [h.1, h.2, h2]; exact ⟨rfl, rfl⟩
theorem do_3 {q : Int} {cs : List Cse} {a : Act} {now : Int} (h : (a.op.tmod 8 == 0) = false ∧ (a.op.tmod 8 == 1) = false) (h2 : (a.op.tmod 8 == 2) = false) (h3 : (a.op.tmod 8 == 3) = true) : nextL cs (nearA a.addr) 0 2 now = doL q cs a now ∧ nextE cs (nearA a.addr) 0 = doE q cs a now := by
  unfold doL doE; rw [h.1, h.2, h2, h3]; exact ⟨rfl, rfl⟩
theorem do_4 {q : Int} {cs : List Cse} {a : Act} {now : Int} (h : (a.op.tmod 8 == 0) = false ∧ (a.op.tmod 8 == 1) = false) (h2 : (a.op.tmod 8 == 2) = false) (h3 : (a.op.tmod 8 == 3) = false) (h4 : (a.op.tmod 8 == 4) = true) : nextL cs (nearA a.addr) 1 5 now = doL q cs a now ∧ nextE cs (nearA a.addr) 1 = doE q cs a now := by
  unfold doL doE; rw [h.1, h.2, h2, h3, h4]; exact ⟨rfl, rfl⟩
theorem do_5 {q : Int} {cs : List Cse} {a : Act} {now : Int} (h : (a.op.tmod 8 == 0) = false ∧ (a.op.tmod 8 == 1) = false) (h2 : (a.op.tmod 8 == 2) = false) (h3 : (a.op.tmod 8 == 3) = false) (h4 : (a.op.tmod 8 == 4) = false) (h5 : (a.op.tmod 8 == 5) = true) : cancelL cs (nearA a.addr) now = doL q cs a now ∧ cancelE cs (nearA a.addr) = doE q cs a now := by
  unfold doL doE; rw [h.1, h.2, h2, h3, h4, h5]; exact ⟨rfl, rfl⟩
theorem do_6 {q : Int} {cs : List Cse} {a : Act} {now : Int} (h : (a.op.tmod 8 == 0) = false ∧ (a.op.tmod 8 == 1) = false) (h2 : (a.op.tmod 8 == 2) = false) (h3 : (a.op.tmod 8 == 3) = false) (h4 : (a.op.tmod 8 == 4) = false) (h5 : (a.op.tmod 8 == 5) = false) : cs = doL q cs a now ∧ 0 = doE q cs a now := by
  unfold doL doE; rw [h.1, h.2, h2, h3, h4, h5]; exact ⟨rfl, rfl⟩
theorem nextL_len (cs : List Cse) (a fr to now : Int) : (nextL cs a fr to now).length ≤ cs.length := by
  unfold nextL
  split
  · unfold nextN; rw [List.length_set]; exact Nat.le_refl _
  · exact Nat.zero_le _
theorem raiseL_len (q : Int) (cs : List Cse) (a now : Int) : (raiseL q cs a now).length ≤ cs.length + 1 := by
  unfold raiseL
  split
  · unfold raiseN
    rw [List.length_append]
    split
    · have := cut_le cs (spareI q now cs).toNat
      exact Nat.add_le_add_right this 1
    · exact Nat.le_refl _
  · exact Nat.zero_le _
theorem cancelL_len (cs : List Cse) (a now : Int) : (cancelL cs a now).length ≤ cs.length := by
  unfold cancelL
  split
  · exact Nat.zero_le _
  · unfold nextN; rw [List.length_set]; exact Nat.le_refl _
theorem doL_len (q : Int) (cs : List Cse) (a : Act) (now : Int) : (doL q cs a now).length ≤ cs.length + 1 := by
  unfold doL
  split
  · exact raiseL_len ..
  · split
    · exact raiseL_len ..
    · split
      · exact Nat.le_succ_of_le (nextL_len ..)
      · split
        · exact Nat.le_succ_of_le (nextL_len ..)
        · split
          · exact Nat.le_succ_of_le (nextL_len ..)
          · split
            · exact Nat.le_succ_of_le (cancelL_len ..)
            · exact Nat.le_succ _
theorem someL_len (op q : Int) (xs : List Act) : ∀ k, (someAt op q xs k).1.length ≤ k := by
  intro k
  induction k with
  | zero => exact Nat.le_refl _
  | succ k ih =>
    rw [someAt]
    generalize someAt op q xs k = r at *
    have hd := doL_len q r.1 (getA xs k) r.2
    unfold someStep
    split
    · show (tickL op _ _).length ≤ k + 1
      unfold tickL
      rw [tick_len]
      split <;> omega
    · show (if _ then _ else _ : List Cse).length ≤ k + 1
      split <;> omega
theorem headS_len (xs : List Act) (n : Int) : (headS xs n).length ≤ xs.length := by
  unfold headS
  rw [List.length_drop, List.length_take]
  omega
theorem headS_le (xs : List Act) (n : Int) (hn : 0 ≤ n) : ((headS xs n).length : Int) ≤ n := by
  unfold headS
  rw [List.length_drop, List.length_take]
  have : mn (xs.length : Int) n ≤ n ∧ 0 ≤ mn (xs.length : Int) n := by unfold mn; split <;> omega
  omega
theorem bodyClamp (n : Int) : BodyOk Try.prog u tab0 [] [] Try.f34 [.int .i64 n] (.int .i64 (clampT n)) := by
  constructor
  have eqn : bodyW Try.prog u tab0 [] (drawW Try.prog u tab0) (loopsBy u []) Try.f34 [.int .i64 n] (.int .i64 (clampT n)) = vcClamp n := by kernel_rfl
  rw [eqn]
  rfl
theorem okClamp : FnOk Try.prog u 34 spClamp := by
  refine fn_ok Try.prog u tab0 mo laws0 Try.func34 ?_
  intro xs c y h hc
  unfold spClamp at h
  split at h
  · cases h
    exact ⟨by kernel_rfl, _, _, bodyClamp _⟩
  · cases h
theorem bodyNear (n : Int) : BodyOk Try.prog u tab0 [] [] Try.f11 [.int .u8 n] (.int .u32 (nearA n)) := by
  constructor
  have eqn : bodyW Try.prog u tab0 [] (drawW Try.prog u tab0) (loopsBy u []) Try.f11 [.int .u8 n] (.int .u32 (nearA n)) = vcNear n := by kernel_rfl
  rw [eqn]
  exact ⟨by decide, rfl⟩
theorem okNear : FnOk Try.prog u 11 spNear := by
  refine fn_ok Try.prog u tab0 mo laws0 Try.func11 ?_
  intro xs c y h hc
  unfold spNear at h
  split at h
  · cases h
    exact ⟨by kernel_rfl, _, _, bodyNear _⟩
  · cases h
theorem bodyChoice (c0 c1 c2 c3 c4 c5 c6 c7 c8 : Int) : BodyOk Try.prog u tab0 [] [] Try.f14 [.agg (cho c0 c1 c2 c3 c4 c5 c6 c7 c8)] (.agg (cfg (fc 30 c0) (IntKind.i64.wrap (fc 30 c0 + fz 60 c1)) (fc 6 c2) (fc 20 c3) (fc 9 c4) (fc 6 c5) (fz 4 c6) (fc 40 c7) (fz 50 c8))) := by
  constructor
  have eqn : bodyW Try.prog u tab0 [] (drawW Try.prog u tab0) (loopsBy u []) Try.f14 [.agg (cho c0 c1 c2 c3 c4 c5 c6 c7 c8)] (.agg (cfg (fc 30 c0) (IntKind.i64.wrap (fc 30 c0 + fz 60 c1)) (fc 6 c2) (fc 20 c3) (fc 9 c4) (fc 6 c5) (fz 4 c6) (fc 40 c7) (fz 50 c8))) = vcChoice c0 c1 c2 c3 c4 c5 c6 c7 c8 := by kernel_rfl
  rw [eqn]
  exact ⟨by decide, by decide, by decide, by decide, by decide, by decide, by decide, by decide, by decide, rfl, rfl, rfl, rfl, rfl, rfl, rfl, rfl, rfl⟩
theorem okChoice : FnOk Try.prog u 14 spChoice := by
  refine fn_ok Try.prog u tab0 mo laws0 Try.func14 ?_
  intro xs c y h hc
  unfold spChoice at h
  split at h
  · cases h
    exact ⟨by kernel_rfl, _, _, bodyChoice _ _ _ _ _ _ _ _ _⟩
  · cases h
theorem bodyOpen (x y z s : Int) : BodyOk Try.prog u tab0 [] [] Try.f24 [.agg [.int .u32 x, .int .i64 y, .int .i64 z, .int .i64 s]] (.bool (openC ⟨x, y, z, s⟩)) := by
  constructor
  have eqn : bodyW Try.prog u tab0 [] (drawW Try.prog u tab0) (loopsBy u []) Try.f24 [.agg [.int .u32 x, .int .i64 y, .int .i64 z, .int .i64 s]] (.bool (openC ⟨x, y, z, s⟩)) = vcOpen x y z s := by kernel_rfl
  rw [eqn]
  rfl
theorem okOpen : FnOk Try.prog u 24 spOpen := by
  refine fn_ok Try.prog u tab0 mo laws0 Try.func24 ?_
  intro xs c y h hc
  unfold spOpen at h
  split at h
  · cases h
    exact ⟨by kernel_rfl, _, _, bodyOpen _ _ _ _⟩
  · cases h
theorem bodyOpenL (x y z s : Int) : BodyOk Try.prog u tab0 [] [] Try.f12 [.agg [.int .u32 x, .int .i64 y, .int .i64 z, .int .i64 s]] (.bool (openC ⟨x, y, z, s⟩)) := by
  constructor
  have eqn : bodyW Try.prog u tab0 [] (drawW Try.prog u tab0) (loopsBy u []) Try.f12 [.agg [.int .u32 x, .int .i64 y, .int .i64 z, .int .i64 s]] (.bool (openC ⟨x, y, z, s⟩)) = vcOpenL x y z s := by kernel_rfl
  rw [eqn]
  rfl
theorem okOpenL : FnOk Try.prog u 12 spOpen := by
  refine fn_ok Try.prog u tab0 mo laws0 Try.func12 ?_
  intro xs c y h hc
  unfold spOpen at h
  split at h
  · cases h
    exact ⟨by kernel_rfl, _, _, bodyOpenL _ _ _ _⟩
  · cases h
theorem bodyQuietL (c0 c1 c2 c3 c4 c5 c6 c7 c8 : Int) (x y z s : Int) (now : Int) : BodyOk Try.prog u tab0 [] [] Try.f37 [.agg (cfg c0 c1 c2 c3 c4 c5 c6 c7 c8), .agg [.int .u32 x, .int .i64 y, .int .i64 z, .int .i64 s], .int .i64 now] (.bool (quietL c8 now ⟨x, y, z, s⟩)) := by
  constructor
  have eqn : bodyW Try.prog u tab0 [] (drawW Try.prog u tab0) (loopsBy u []) Try.f37 [.agg (cfg c0 c1 c2 c3 c4 c5 c6 c7 c8), .agg [.int .u32 x, .int .i64 y, .int .i64 z, .int .i64 s], .int .i64 now] (.bool (quietL c8 now ⟨x, y, z, s⟩)) = vcQuietL c0 c1 c2 c3 c4 c5 c6 c7 c8 x y z s now := by kernel_rfl
  rw [eqn]
  rfl
theorem okQuietL : FnOk Try.prog u 37 spQuietL := by
  refine fn_ok Try.prog u tab0 mo laws0 Try.func37 ?_
  intro xs c y h hc
  unfold spQuietL at h
  split at h
  · cases h
    exact ⟨by kernel_rfl, _, _, bodyQuietL _ _ _ _ _ _ _ _ _ _ _ _ _ _⟩
  · cases h
theorem laws1 : Laws Try.prog u tab1 := by
  refine ⟨law, clean, fun p hp => ?_⟩
  rcases List.mem_cons.1 hp with rfl | hp
  · exact okClamp
  rcases List.mem_cons.1 hp with rfl | hp
  · exact okNear
  rcases List.mem_cons.1 hp with rfl | hp
  · exact okChoice
  rcases List.mem_cons.1 hp with rfl | hp
  · exact okOpen
  rcases List.mem_cons.1 hp with rfl | hp
  · exact okOpenL
  rcases List.mem_cons.1 hp with rfl | hp
  · exact okQuietL
  exact laws0.tab p hp
theorem bodySince (a b : Int) : BodyOk Try.prog u tab1 [] [] Try.f36 [.int .i64 a, .int .i64 b] (.int .i64 (since a b)) := by
  constructor
  have eqn : bodyW Try.prog u tab1 [] (drawW Try.prog u tab1) (loopsBy u []) Try.f36 [.int .i64 a, .int .i64 b] (.int .i64 (since a b)) = vcSince a b := by kernel_rfl
  rw [eqn]
  rfl
theorem okSince : FnOk Try.prog u 36 spSince := by
  refine fn_ok Try.prog u tab1 mo laws1 Try.func36 ?_
  intro xs c y h hc
  unfold spSince at h
  split at h
  · cases h
    exact ⟨by kernel_rfl, _, _, bodySince _ _⟩
  · cases h
theorem bodyFind1 (x y z s : Int) (a : Int) : BodyOk Try.prog u tab1 [] [] Try.f29 [.agg [.int .u32 x, .int .i64 y, .int .i64 z, .int .i64 s], .cptr [.int .u32 a] 0] (.bool (hitF a ⟨x, y, z, s⟩)) := by
  constructor
  have eqn : bodyW Try.prog u tab1 [] (drawW Try.prog u tab1) (loopsBy u []) Try.f29 [.agg [.int .u32 x, .int .i64 y, .int .i64 z, .int .i64 s], .cptr [.int .u32 a] 0] (.bool (hitF a ⟨x, y, z, s⟩)) = vcFind1 x y z s a := by kernel_rfl
  rw [eqn]
  rfl
theorem okFind1 : FnOk Try.prog u 29 spHitF := by
  refine fn_ok Try.prog u tab1 mo laws1 Try.func29 ?_
  intro xs c y h hc
  unfold spHitF at h
  split at h
  · cases h
    exact ⟨by kernel_rfl, _, _, bodyFind1 _ _ _ _ _⟩
  · cases h
theorem laws2 : Laws Try.prog u tab2 := by
  refine ⟨law, clean, fun p hp => ?_⟩
  rcases List.mem_cons.1 hp with rfl | hp
  · exact okSince
  rcases List.mem_cons.1 hp with rfl | hp
  · exact okFind1
  exact laws1.tab p hp
theorem bodyWithin (a b n : Int) : BodyOk Try.prog u tab2 [] [] Try.f40 [.int .i64 a, .int .i64 b, .int .i64 n] (.bool (within a b n)) := by
  constructor
  have eqn : bodyW Try.prog u tab2 [] (drawW Try.prog u tab2) (loopsBy u []) Try.f40 [.int .i64 a, .int .i64 b, .int .i64 n] (.bool (within a b n)) = vcWithin a b n := by kernel_rfl
  rw [eqn]
  rfl
theorem okWithin : FnOk Try.prog u 40 spWithin := by
  refine fn_ok Try.prog u tab2 mo laws2 Try.func40 ?_
  intro xs c y h hc
  unfold spWithin at h
  split at h
  · cases h
    exact ⟨by kernel_rfl, _, _, bodyWithin _ _ _⟩
  · cases h
theorem laws3 : Laws Try.prog u tab3 := by
  refine ⟨law, clean, fun p hp => ?_⟩
  rcases List.mem_cons.1 hp with rfl | hp
  · exact okWithin
  exact laws2.tab p hp
theorem bodyQuiet1 (x y z s : Int) (a now : Int) (c0 c1 c2 c3 c4 c5 c6 c7 c8 : Int) : BodyOk Try.prog u tab3 [] [] Try.f39 [.agg [.int .u32 x, .int .i64 y, .int .i64 z, .int .i64 s], .cptr [.int .u32 a] 0, .cptr [.int .i64 now] 0, .cptr (cfg c0 c1 c2 c3 c4 c5 c6 c7 c8) 0] (.bool (hitQ c8 now a ⟨x, y, z, s⟩)) := by
  constructor
  have eqn : bodyW Try.prog u tab3 [] (drawW Try.prog u tab3) (loopsBy u []) Try.f39 [.agg [.int .u32 x, .int .i64 y, .int .i64 z, .int .i64 s], .cptr [.int .u32 a] 0, .cptr [.int .i64 now] 0, .cptr (cfg c0 c1 c2 c3 c4 c5 c6 c7 c8) 0] (.bool (hitQ c8 now a ⟨x, y, z, s⟩)) = vcQuiet1 x y z s a now c0 c1 c2 c3 c4 c5 c6 c7 c8 := by kernel_rfl
  rw [eqn]
  rfl
theorem okQuiet1 : FnOk Try.prog u 39 spHitQ := by
  refine fn_ok Try.prog u tab3 mo laws3 Try.func39 ?_
  intro xs c y h hc
  unfold spHitQ at h
  split at h
  · cases h
    exact ⟨by kernel_rfl, _, _, bodyQuiet1 _ _ _ _ _ _ _ _ _ _ _ _ _ _ _⟩
  · cases h
theorem laws4 : Laws Try.prog u tab4 := by
  refine ⟨law, clean, fun p hp => ?_⟩
  rcases List.mem_cons.1 hp with rfl | hp
  · exact okQuiet1
  exact laws3.tab p hp
theorem bodyIndexF (a : Int) (xs : List Cse) (h : lenOk xs) : BodyOk Try.prog u tab4 [] [(0, .inv (annIndex (hitF a) xs))] Try.f28 [.csl 30 xs, .fn 29 [.cptr [.int .u32 a] 0]] (.int .i64 (firstI (hitF a) xs)) := by
  constructor
  have eqn : bodyW Try.prog u tab4 [] (drawW Try.prog u tab4) (loopsBy u [(0, .inv (annIndex (hitF a) xs))]) Try.f28 [.csl 30 xs, .fn 29 [.cptr [.int .u32 a] 0]] (.int .i64 (firstI (hitF a) xs)) = vcIndexF a xs := by kernel_rfl
  rw [eqn]
  unfold vcIndexF
  have h : xs.length < 9223372036854775808 := h
  refine ⟨⟨0, ⟨Nat.zero_le _, rfl⟩, rfl, (by simp), rfl, rfl, rfl⟩, fun k hk => ⟨fun hlt => ?_, fun hge => ?_⟩⟩
  · have hlt := of_decide_eq_true hlt
    have hlt' : k < xs.length := by omega
    refine ⟨⟨by omega, hlt⟩, fun hq => first_at hlt' hk.2 hq, fun hq => ⟨k + 1, ⟨hlt', any_next hlt' hk.2 hq⟩, show xs.length - (k + 1) < xs.length - k by omega, rfl, (by simp), rfl, rfl, wrap_next hlt h⟩⟩
  · have hge := of_decide_eq_false hge
    have hk1 := hk.1
    have hx : k = xs.length := by omega
    have h2 := hk.2
    rw [hx, List.take_length] at h2
    exact (first_none h2).symm
theorem bodyIndexQ (a now : Int) (c0 c1 c2 c3 c4 c5 c6 c7 c8 : Int) (xs : List Cse) (h : lenOk xs) : BodyOk Try.prog u tab4 [] [(0, .inv (annIndex (hitQ c8 now a) xs))] Try.f28 [.csl 30 xs, .fn 39 [.cptr [.int .u32 a] 0, .cptr [.int .i64 now] 0, .cptr (cfg c0 c1 c2 c3 c4 c5 c6 c7 c8) 0]] (.int .i64 (firstI (hitQ c8 now a) xs)) := by
  constructor
  have eqn : bodyW Try.prog u tab4 [] (drawW Try.prog u tab4) (loopsBy u [(0, .inv (annIndex (hitQ c8 now a) xs))]) Try.f28 [.csl 30 xs, .fn 39 [.cptr [.int .u32 a] 0, .cptr [.int .i64 now] 0, .cptr (cfg c0 c1 c2 c3 c4 c5 c6 c7 c8) 0]] (.int .i64 (firstI (hitQ c8 now a) xs)) = vcIndexQ a now c0 c1 c2 c3 c4 c5 c6 c7 c8 xs := by kernel_rfl
  rw [eqn]
  unfold vcIndexQ
  have h : xs.length < 9223372036854775808 := h
  refine ⟨⟨0, ⟨Nat.zero_le _, rfl⟩, rfl, (by simp), rfl, rfl, rfl⟩, fun k hk => ⟨fun hlt => ?_, fun hge => ?_⟩⟩
  · have hlt := of_decide_eq_true hlt
    have hlt' : k < xs.length := by omega
    refine ⟨⟨by omega, hlt⟩, fun hq => first_at hlt' hk.2 hq, fun hq => ⟨k + 1, ⟨hlt', any_next hlt' hk.2 hq⟩, show xs.length - (k + 1) < xs.length - k by omega, rfl, (by simp), rfl, rfl, wrap_next hlt h⟩⟩
  · have hge := of_decide_eq_false hge
    have hk1 := hk.1
    have hx : k = xs.length := by omega
    have h2 := hk.2
    rw [hx, List.take_length] at h2
    exact (first_none h2).symm
theorem okIndex : FnOk Try.prog u 28 spIndex := by
  refine fn_ok Try.prog u tab4 mo laws4 Try.func28 ?_
  intro xs c y h hc
  unfold spIndex at h
  split at h
  · cases h
    exact ⟨by kernel_rfl, _, _, bodyIndexF _ _ hc⟩
  · cases h
    exact ⟨by kernel_rfl, _, _, bodyIndexQ _ _ _ _ _ _ _ _ _ _ _ _ hc⟩
  · cases h
theorem laws5 : Laws Try.prog u tab5 := by
  refine ⟨law, clean, fun p hp => ?_⟩
  rcases List.mem_cons.1 hp with rfl | hp
  · exact okIndex
  exact laws4.tab p hp
theorem bodyContQ (a now : Int) (c0 c1 c2 c3 c4 c5 c6 c7 c8 : Int) (xs : List Cse) (h : lenOk xs) : BodyOk Try.prog u tab5 [] [] Try.f38 [.csl 30 xs, .fn 39 [.cptr [.int .u32 a] 0, .cptr [.int .i64 now] 0, .cptr (cfg c0 c1 c2 c3 c4 c5 c6 c7 c8) 0]] (.bool (xs.any (hitQ c8 now a))) := by
  constructor
  have eqn : bodyW Try.prog u tab5 [] (drawW Try.prog u tab5) (loopsBy u []) Try.f38 [.csl 30 xs, .fn 39 [.cptr [.int .u32 a] 0, .cptr [.int .i64 now] 0, .cptr (cfg c0 c1 c2 c3 c4 c5 c6 c7 c8) 0]] (.bool (xs.any (hitQ c8 now a))) = vcContQ a now c0 c1 c2 c3 c4 c5 c6 c7 c8 xs := by kernel_rfl
  rw [eqn]
  exact ⟨h, first_ge _ _⟩
theorem okContQ : FnOk Try.prog u 38 spContains := by
  refine fn_ok Try.prog u tab5 mo laws5 Try.func38 ?_
  intro xs c y h hc
  unfold spContains at h
  split at h
  · cases h
    exact ⟨by kernel_rfl, _, _, bodyContQ _ _ _ _ _ _ _ _ _ _ _ _ hc⟩
  · cases h
theorem bodyCloneN (q : Bool) (xs : List Cse) (h : (q = true → xs = []) ∧ sizeOk xs) : BodyOkH Try.prog u tab0 [] [] Try.f31 [.nsl q 30 xs] [] (.orow 0) [.row 30 xs] := by
  constructor
  have eqn : bodyH Try.prog u tab0 [] (drawW Try.prog u tab0) (loopsBy u []) Try.f31 [.nsl q 30 xs] [] (.orow 0) [.row 30 xs] = vcCloneN q xs := by kernel_rfl
  rw [eqn]
  unfold vcCloneN
  obtain ⟨h1, h2⟩ := h
  refine ⟨fun hq => ⟨trivial, h1 hq, trivial⟩, fun _ => ⟨by rw [Nat.zero_add]; exact h2, trivial, rfl, trivial⟩⟩
theorem okCloneN : FnOkH Try.prog u 31 hCloneN := by
  refine fn_okH Try.prog u tab0 mo laws0 Try.func31 ?_
  intro xs os c y os2 h hc
  unfold hCloneN at h
  split at h
  · cases h
    exact ⟨_, _, bodyCloneN _ _ hc⟩
  · cases h
theorem okClone : FnOkH Try.prog u 31 hClone := by
  intro xs os c y os2 h hc w0 O0 e vs hr he hx
  unfold hClone at h
  split at h
  · rename_i ys
    cases h
    cases hx with
    | csl _ _ a len cap vss hl hcap hm hz hx h0 =>
      cases h0
      have hn : (a.isNone = true → ys = []) ∧ sizeOk ys := ⟨fun hn => hm.elim id (fun ⟨b, o, ha, _⟩ => by rw [ha] at hn; cases hn), hc⟩
      exact okCloneN [.nsl a.isNone 30 ys] [] (some ((a.isNone = true → ys = []) ∧ sizeOk ys)) (.orow 0) [.row 30 ys] rfl hn w0 O0 e _ hr he (.nsl a.isNone _ _ a len cap vss hl hcap hm hz hx rfl .nil)
  · cases h
theorem bodyDelete (xs : List Cse) (i j : Int) (h : j = i + 1 ∧ 0 ≤ i ∧ i < xs.length ∧ xs.length ≤ 1000000) : BodyOkH Try.prog u tab0 [] [] Try.f33 [.orow 0, .int .i64 i, .int .i64 j] [.row 30 xs] (.osl 0 0 (xs.length - 1)) [.row 30 (cutAt xs i.toNat ++ [zeroC])] := by
  constructor
  have eqn : bodyH Try.prog u tab0 [] (drawW Try.prog u tab0) (loopsBy u []) Try.f33 [.orow 0, .int .i64 i, .int .i64 j] [.row 30 xs] (.osl 0 0 (xs.length - 1)) [.row 30 (cutAt xs i.toNat ++ [zeroC])] = vcDelete xs i j := by kernel_rfl
  rw [eqn]
  unfold vcDelete
  obtain ⟨hj, h0, h1, h2⟩ := h
  obtain ⟨k, rfl⟩ := Int.eq_ofNat_of_zero_le h0
  subst hj
  have hk : k < xs.length := by omega
  obtain ⟨d1, d2, d3⟩ := del_eq xs k hk
  have hN : ((k : Nat) : Int).toNat = k := rfl
  have hN1 : ((k : Int) + 1).toNat = k + 1 := by omega
  have hN2 : ((xs.length : Nat) : Int).toNat = xs.length := rfl
  have hN3 : ((xs.length - 1 : Nat) : Int).toNat = xs.length - 1 := rfl
  rw [hN, hN1, hN2, d1, hN3, d3]
  have hcl : (cutAt xs k ++ [zeroC]).length = xs.length := by rw [List.length_append, cut_len xs k hk, List.length_singleton]; omega
  exact ⟨⟨by omega, by omega, by omega, Int.le_refl _⟩, fun he => absurd (eq_of_beq he) (by omega), fun _ => ⟨⟨by decide, by omega, by omega⟩, ⟨by omega, by omega, Int.le_refl _⟩, by omega, ⟨by omega, by omega, by omega⟩, ⟨rfl, rfl⟩, d2, hcl, trivial⟩⟩
theorem okDelete : FnOkH Try.prog u 33 hDelete := by
  refine fn_okH Try.prog u tab0 mo laws0 Try.func33 ?_
  intro xs os c y os2 h hc
  unfold hDelete at h
  split at h
  · cases h
    exact ⟨_, _, bodyDelete _ _ _ hc⟩
  · cases h
theorem bodyFind (xs : List Cse) (a : Int) (h : lenOk xs) : BodyOk Try.prog u tab5 [] [] Try.f13 [.csl 30 xs, .int .u32 a] (.int .i64 (firstI (hitF a) xs)) := by
  constructor
  have eqn : bodyW Try.prog u tab5 [] (drawW Try.prog u tab5) (loopsBy u []) Try.f13 [.csl 30 xs, .int .u32 a] (.int .i64 (firstI (hitF a) xs)) = vcFind xs a := by kernel_rfl
  rw [eqn]
  exact ⟨h, rfl⟩
theorem okFind : FnOk Try.prog u 13 spFind := by
  refine fn_ok Try.prog u tab5 mo laws5 Try.func13 ?_
  intro xs c y h hc
  unfold spFind at h
  split at h
  · cases h
    exact ⟨by kernel_rfl, _, _, bodyFind _ _ hc⟩
  · cases h
theorem laws6 : Laws Try.prog u tab6 := by
  refine ⟨law, clean, fun p hp => ?_⟩
  rcases List.mem_cons.1 hp with rfl | hp
  · exact okContQ
  rcases List.mem_cons.1 hp with rfl | hp
  · exact okClone
  rcases List.mem_cons.1 hp with rfl | hp
  · exact okDelete
  rcases List.mem_cons.1 hp with rfl | hp
  · exact okFind
  exact laws5.tab p hp
theorem bodyQuiet (c0 c1 c2 c3 c4 c5 c6 c7 c8 : Int) (xs : List Cse) (a now : Int) (h : lenOk xs) : BodyOk Try.prog u tab6 [] [] Try.f30 [.agg (cfg c0 c1 c2 c3 c4 c5 c6 c7 c8), .csl 30 xs, .int .u32 a, .int .i64 now] (.bool (xs.any (hitQ c8 now a))) := by
  constructor
  have eqn : bodyW Try.prog u tab6 [] (drawW Try.prog u tab6) (loopsBy u []) Try.f30 [.agg (cfg c0 c1 c2 c3 c4 c5 c6 c7 c8), .csl 30 xs, .int .u32 a, .int .i64 now] (.bool (xs.any (hitQ c8 now a))) = vcQuiet c0 c1 c2 c3 c4 c5 c6 c7 c8 xs a now := by kernel_rfl
  rw [eqn]
  exact ⟨h, rfl⟩
theorem okQuiet : FnOk Try.prog u 30 spQuiet := by
  refine fn_ok Try.prog u tab6 mo laws6 Try.func30 ?_
  intro xs c y h hc
  unfold spQuiet at h
  split at h
  · cases h
    exact ⟨by kernel_rfl, _, _, bodyQuiet _ _ _ _ _ _ _ _ _ _ _ _ hc⟩
  · cases h
theorem bodySpare (c0 c1 c2 c3 c4 c5 c6 c7 c8 : Int) (xs : List Cse) (now : Int) (h : lenOk xs) : BodyOk Try.prog u tab6 [] [(0, .inv (annSpare c8 now xs))] Try.f32 [.agg (cfg c0 c1 c2 c3 c4 c5 c6 c7 c8), .csl 30 xs, .int .i64 now] (.int .i64 (spareI c8 now xs)) := by
  constructor
  have eqn : bodyW Try.prog u tab6 [] (drawW Try.prog u tab6) (loopsBy u [(0, .inv (annSpare c8 now xs))]) Try.f32 [.agg (cfg c0 c1 c2 c3 c4 c5 c6 c7 c8), .csl 30 xs, .int .i64 now] (.int .i64 (spareI c8 now xs)) = vcSpare c0 c1 c2 c3 c4 c5 c6 c7 c8 xs now := by kernel_rfl
  rw [eqn]
  unfold vcSpare
  have h : xs.length < 9223372036854775808 := h
  refine ⟨⟨0, Nat.zero_le _, ⟨rfl, rfl, trivial, rfl, rfl, rfl, rfl⟩, rfl, rfl, rfl, rfl, rfl, rfl, rfl, rfl, rfl⟩, fun g hg => ⟨fun hlt => ?_, fun hge => ?_⟩⟩
  · have hlt := of_decide_eq_true hlt
    have hlt' : g < xs.length := by omega
    have hr := spare_rng c8 now xs g
    have hmu : (annSpare c8 now xs).μ (g + 1) < (annSpare c8 now xs).μ g := show xs.length - (g + 1) < xs.length - g by omega
    exact ⟨⟨by omega, hlt⟩, fun hb => ⟨g + 1, hlt', hmu, ⟨rfl, rfl, trivial, rfl, rfl, wrap_next hlt h, (spare_1 hb).symm⟩, rfl, rfl, rfl, rfl, rfl, rfl, rfl, rfl, rfl⟩, fun hb => ⟨fun h2 => ⟨by have := of_decide_eq_false h2; omega, by omega⟩, fun _ => trivial, fun _ => trivial, fun v hv => ⟨g + 1, hlt', hmu, ⟨rfl, rfl, trivial, rfl, rfl, wrap_next hlt h, hv.trans (spare_2 hb).symm⟩, rfl, rfl, rfl, rfl, rfl, rfl, rfl, rfl, rfl⟩⟩⟩
  · have hge := of_decide_eq_false hge
    have hg : g ≤ xs.length := hg
    have : g = xs.length := by omega
    subst this
    rfl
theorem okSpare : FnOk Try.prog u 32 spSpare := by
  refine fn_ok Try.prog u tab6 mo laws6 Try.func32 ?_
  intro xs c y h hc
  unfold spSpare at h
  split at h
  · cases h
    exact ⟨by kernel_rfl, _, _, bodySpare _ _ _ _ _ _ _ _ _ _ _ hc⟩
  · cases h
theorem bodyNext (xs : List Cse) (a fr to now : Int) (h : lenS xs) : BodyOk Try.prog u tab6 [] [] Try.f35 [.csl 30 xs, .int .u32 a, .int .i64 fr, .int .i64 to, .int .i64 now] (.tup [.csl 30 (nextL xs a fr to now), .int .i64 (nextE xs a fr)]) := by
  constructor
  have eqn : bodyW Try.prog u tab6 [] (drawW Try.prog u tab6) (loopsBy u []) Try.f35 [.csl 30 xs, .int .u32 a, .int .i64 fr, .int .i64 to, .int .i64 now] (.tup [.csl 30 (nextL xs a fr to now), .int .i64 (nextE xs a fr)]) = vcNext xs a fr to now := by kernel_rfl
  rw [eqn]
  unfold vcNext
  have hl : xs.length ≤ 1000000 := h
  have hr := first_rng (hitF a) xs
  refine ⟨show xs.length < 9223372036854775808 by omega, fun hb => next_no (by unfold nextE; rw [if_pos hb]) (by decide), fun hb => ?_⟩
  have hb0 : 0 ≤ firstI (hitF a) xs := by have := of_decide_eq_false hb; omega
  have hk : (firstI (hitF a) xs).toNat < xs.length := by omega
  refine ⟨⟨hb0, hr.2⟩, fun hs => next_no (by unfold nextE; rw [if_neg (by rw [hb]; simp)]; exact if_pos hs) (by decide), fun hs => ?_⟩
  have he : nextE xs a fr = 0 := by unfold nextE; rw [if_neg (by rw [hb]; simp)]; exact if_neg (by rw [show ((getC xs (firstI (hitF a) xs).toNat).stage != fr) = false from hs]; simp)
  rw [next_ok he, he]
  refine ⟨show xs.length * 32 ≤ 140737488355328 by omega, ⟨hb0, hr.2⟩, ⟨hb0, by rw [List.length_set]; exact hr.2⟩, fun ho => ?_, fun ho => ?_⟩
  · rw [set_getC hk _ (u.dflt 30)] at ho ⊢
    refine ⟨⟨hb0, by rw [List.length_set]; exact hr.2⟩, ?_, rfl⟩
    rw [List.set_set]
    have ho : (!openS to) = true := ho
    unfold nextN movedC
    rw [if_pos ho]
    rfl
  · rw [set_getC hk _ (u.dflt 30)] at ho
    refine ⟨?_, rfl⟩
    have ho : (!openS to) = false := ho
    unfold nextN movedC
    rw [if_neg (by rw [ho]; simp)]
    rfl
theorem okNext : FnOk Try.prog u 35 spNext := by
  refine fn_ok Try.prog u tab6 mo laws6 Try.func35 ?_
  intro xs c y h hc
  unfold spNext at h
  split at h
  · cases h
    exact ⟨by kernel_rfl, _, _, bodyNext _ _ _ _ _ hc⟩
  · cases h
theorem bodyRight (xs : List Cse) (h : lenOk xs) : BodyOk Try.prog u tab6 [] [(0, .inv (annRight xs))] Try.f21 [.csl 30 xs] (.bool (rightB xs)) := by
  constructor
  have eqn : bodyW Try.prog u tab6 [] (drawW Try.prog u tab6) (loopsBy u [(0, .inv (annRight xs))]) Try.f21 [.csl 30 xs] (.bool (rightB xs)) = vcRight xs := by kernel_rfl
  rw [eqn]
  unfold vcRight
  have h : xs.length < 9223372036854775808 := h
  refine ⟨⟨0, ⟨Nat.zero_le _, rfl⟩, rfl, rfl, rfl, rfl⟩, fun g hg => ⟨fun hlt => ?_, fun hge => ?_⟩⟩
  · have hlt := of_decide_eq_true hlt
    have hlt' : g < xs.length := by omega
    refine ⟨⟨by omega, hlt⟩, fun _ _ _ => h, fun hb => right_bad hlt' hb, fun hb => ⟨g + 1, ⟨hlt', ?_⟩, show xs.length - (g + 1) < xs.length - g by omega, rfl, rfl, rfl, wrap_next hlt h⟩⟩
    have hb : badK xs g = false := hb
    rw [okTo, hg.2, hb]
    rfl
  · have hge := of_decide_eq_false hge
    have hg1 := hg.1
    have : g = xs.length := by omega
    subst this
    unfold rightB
    rw [hg.2]
    rfl
theorem okRight : FnOk Try.prog u 21 spRight := by
  refine fn_ok Try.prog u tab6 mo laws6 Try.func21 ?_
  intro xs c y h hc
  unfold spRight at h
  split at h
  · cases h
    exact ⟨by kernel_rfl, _, _, bodyRight _ hc⟩
  · cases h
theorem bodySame (xs ys : List Cse) (h : lenOk xs ∧ lenOk ys) : BodyOk Try.prog u tab6 [] [(0, .inv (annSame xs ys))] Try.f20 [.csl 30 xs, .csl 30 ys] (.bool (sameL xs ys)) := by
  constructor
  have eqn : bodyW Try.prog u tab6 [] (drawW Try.prog u tab6) (loopsBy u [(0, .inv (annSame xs ys))]) Try.f20 [.csl 30 xs, .csl 30 ys] (.bool (sameL xs ys)) = vcSame xs ys := by kernel_rfl
  rw [eqn]
  unfold vcSame
  obtain ⟨hx, hy⟩ := h
  have hx : xs.length < 9223372036854775808 := hx
  refine ⟨fun hn => ?_, fun hn => ⟨⟨0, ⟨Nat.zero_le _, ?_, rfl⟩, rfl, rfl, rfl, rfl, rfl⟩, fun g hg => ⟨fun hlt => ?_, fun hge => ?_⟩⟩⟩
  · unfold sameL
    have : ((xs.length : Int) == ys.length) = false := by simpa using hn
    rw [this]
    rfl
  · have := bne_eq_false_iff_eq.1 hn
    omega
  · have hlt := of_decide_eq_true hlt
    obtain ⟨g1, g2, g3⟩ := hg
    have hlt' : g < xs.length := by omega
    refine ⟨⟨by omega, hlt⟩, ⟨by omega, by omega⟩, fun hb => ?_, fun hb => ⟨g + 1, ⟨hlt', g2, ?_⟩, show xs.length - (g + 1) < xs.length - g by omega, rfl, rfl, rfl, rfl, wrap_next hlt hx⟩⟩
    · have hb : (!same4 (getC xs g) (getC ys g)) = true := hb
      unfold sameL
      cases ho : sameTo xs ys xs.length
      · simp
      · have h1 := sameTo_le xs ys xs.length (g + 1) (by omega) ho
        rw [sameTo, g3] at h1
        have h2 : same4 (getC xs g) (getC ys g) = false := by simpa using hb
        rw [h2] at h1
        cases h1
    · have hb : (!same4 (getC xs g) (getC ys g)) = false := hb
      have h2 : same4 (getC xs g) (getC ys g) = true := by simpa using hb
      rw [sameTo, g3, h2]
      rfl
  · have hge := of_decide_eq_false hge
    obtain ⟨g1, g2, g3⟩ := hg
    have : g = xs.length := by omega
    subst this
    unfold sameL
    rw [g3, show ((xs.length : Int) == ys.length) = true from beq_iff_eq.2 (by omega)]
    rfl
theorem okSame : FnOk Try.prog u 20 spSame := by
  refine fn_ok Try.prog u tab6 mo laws6 Try.func20 ?_
  intro xs c y h hc
  unfold spSame at h
  split at h
  · cases h
    exact ⟨by kernel_rfl, _, _, bodySame _ _ hc⟩
  · cases h
theorem laws7 : Laws Try.prog u tab7 := by
  refine ⟨law, clean, fun p hp => ?_⟩
  rcases List.mem_cons.1 hp with rfl | hp
  · exact okQuiet
  rcases List.mem_cons.1 hp with rfl | hp
  · exact okSpare
  rcases List.mem_cons.1 hp with rfl | hp
  · exact okNext
  rcases List.mem_cons.1 hp with rfl | hp
  · exact okRight
  rcases List.mem_cons.1 hp with rfl | hp
  · exact okSame
  exact laws6.tab p hp

end Go.Proofs.Ytlamlmihojodfaa.Cas
