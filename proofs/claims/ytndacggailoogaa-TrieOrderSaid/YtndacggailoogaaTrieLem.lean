/- Tries: small lemmas about the ways that bits point out. -/
import Derived.Test.YtndacggailoogaaTrieSpec
namespace Go.Proofs.Ytndacggailoogaa.Tri
open Go Go.Proofs.Ytndacggailoogaa.Sx

theorem wrap_i64_id {n : Int} (h : -9223372036854775808 ≤ n ∧ n < 9223372036854775808) : IntKind.i64.wrap n = n := by rw [IntKind.wrap_i64]; omega
theorem right_rng {base bits : Int} (h : rightA base bits = true) : 0 ≤ bits ∧ bits ≤ 32 := by
  unfold rightA at h
  simp only [Bool.and_eq_true, decide_eq_true_eq] at h
  omega
theorem right_rng' {base bits : Int} (h : (!rightA base bits) = false) : 0 ≤ bits ∧ bits ≤ 32 := right_rng (by simpa using h)
theorem and_one (x : Int) : bitsI .and .u32 x 1 = 0 ∨ bitsI .and .u32 x 1 = 1 := by
  unfold bitsI
  have h1 : (BitVec.ofInt IntKind.u32.bits x &&& BitVec.ofInt IntKind.u32.bits 1).toNat = (BitVec.ofInt IntKind.u32.bits x).toNat % 2 := by
    rw [BitVec.toNat_and, show (BitVec.ofInt IntKind.u32.bits 1).toNat = 1 from by decide, Nat.and_one_is_mod]
  simp only [h1]
  rcases Nat.mod_two_eq_zero_or_one (BitVec.ofInt IntKind.u32.bits x).toNat with h | h
  · left; rw [h]; decide
  · right; rw [h]; decide
theorem bit_rng (a k : Int) : 0 ≤ bitI a k ∧ bitI a k < 2 := by
  unfold bitI
  rcases and_one (shr .u32 a (IntKind.i64.wrap (31 - k))) with h | h <;> rw [h] <;> decide
theorem bit_nat (a k : Int) : (bitI a k).toNat < 2 := by have := bit_rng a k; omega
theorem path_len (base : Int) : ∀ (n k : Nat), (pathA base k n).length = n
  | 0, _ => rfl
  | n + 1, k => by rw [pathA, List.length_cons, path_len base n (k + 1)]
theorem walk_len (ns : List Nd) : ∀ (p : List Nat) (j : Nat), (walkN ns j p).length ≤ p.length + 1
  | [], j => Nat.le_refl _
  | b :: p, j => by
    rw [walkN]
    split
    · rename_i i _
      have := walk_len ns p i
      simp only [List.length_cons]
      omega
    · simp
theorem walk_ne (ns : List Nd) (p : List Nat) (j : Nat) : ∃ q, walkN ns j p = j :: q := by
  cases p with
  | nil => exact ⟨[], rfl⟩
  | cons b p =>
    rw [walkN]
    split
    · exact ⟨_, rfl⟩
    · exact ⟨_, rfl⟩
theorem walk_pos (ns : List Nd) (p : List Nat) (j : Nat) : 1 ≤ (walkN ns j p).length := by obtain ⟨q, hq⟩ := walk_ne ns p j; rw [hq]; simp
theorem walk_step {ns : List Nd} {base bits : Int} {k j : Nat} {js : List Nat} {w : List Nat} (hk : (k : Int) < bits) (hw : w = js ++ [j]) (h : walkN ns 0 (pathB base bits) = js ++ walkN ns j (pathA base k (bits.toNat - k))) :
    w.length ≤ bits.toNat + 1 ∧ ((kidN (ns.getD j nd0) (bitI base k).toNat).isSome = true → walkI ns base bits (k + 1) (kidN (ns.getD j nd0) (bitI base k).toNat) (w ++ [(kidN (ns.getD j nd0) (bitI base k).toNat).getD 0])) ∧
      ((kidN (ns.getD j nd0) (bitI base k).toNat).isSome = false → walkI ns base bits (k + 1) (kidN (ns.getD j nd0) (bitI base k).toNat) w) := by
  have hm : bits.toNat - k = (bits.toNat - (k + 1)) + 1 := by omega
  have hl := walk_len ns (pathB base bits) 0
  have hpl : (pathB base bits).length = bits.toNat := path_len base _ _
  rw [hpl] at hl
  have h0 := h
  rw [hm, pathA, walkN] at h
  have hg : getN ns j = ns.getD j nd0 := rfl
  rw [hg] at h
  refine ⟨?_, fun hs => ?_, fun hs => ?_⟩
  · have := walk_pos ns (pathA base k (bits.toNat - k)) j
    rw [h0, List.length_append] at hl
    rw [hw, List.length_append]
    simp only [List.length_singleton]
    omega
  · generalize kidN (ns.getD j nd0) (bitI base k).toNat = x at h hs
    cases x with
    | none => cases hs
    | some i =>
      refine ⟨by omega, fun j' hj' => ?_, fun hn => (by cases hn)⟩
      cases hj'
      refine ⟨w, rfl, ?_⟩
      rw [h, hw]
      simp
  · generalize kidN (ns.getD j nd0) (bitI base k).toNat = x at h hs
    cases x with
    | some i => cases hs
    | none =>
      refine ⟨by omega, fun j' hj' => (by cases hj'), fun _ => ?_⟩
      rw [h, hw]
theorem walk_end {ns : List Nd} {base bits : Int} {k : Nat} {x : Option Nat} {w : List Nat} (h : walkI ns base bits k x w) (hc : (decide ((k : Int) < bits) && x.isSome) = false) : w = walkN ns 0 (pathB base bits) := by
  obtain ⟨h1, h2, h2'⟩ := h
  cases x with
  | none => exact h2' rfl
  | some j =>
    obtain ⟨js, h3, h4⟩ := h2 j rfl
    have hk : ¬ (k : Int) < bits := by simpa using hc
    rw [show bits.toNat - k = 0 by omega, pathA, walkN] at h4
    rw [h3, h4]
theorem getN_lt {ns : List Nd} {j : Nat} (h : j < ns.length) : ns[j]? = some (getN ns j) := by unfold getN; rw [List.getD_eq_getElem?_getD, List.getElem?_eq_getElem h]; rfl
theorem getN_ge {ns : List Nd} {j : Nat} (h : ns.length ≤ j) : getN ns j = nd0 := by unfold getN; rw [List.getD_eq_getElem?_getD, List.getElem?_eq_none h]; rfl
theorem getN_set {ns : List Nd} {i j : Nat} {x : Nd} (h : i < ns.length) : getN (ns.set i x) j = if j = i then x else getN ns j := by
  unfold getN
  rw [List.getD_eq_getElem?_getD, List.getD_eq_getElem?_getD]
  by_cases hj : j = i
  · subst hj; rw [if_pos rfl, List.getElem?_set_self h]; rfl
  · rw [if_neg hj, List.getElem?_set_ne (Ne.symm hj)]
theorem getN_app {ns : List Nd} {j : Nat} : getN (ns ++ [nd0]) j = getN ns j := by
  rcases Nat.lt_or_ge j ns.length with h | h
  · unfold getN
    rw [List.getD_eq_getElem?_getD, List.getD_eq_getElem?_getD, List.getElem?_append_left h]
  · rw [getN_ge h]
    unfold getN
    rw [List.getD_eq_getElem?_getD, List.getElem?_append_right h]
    cases hq : j - ns.length with
    | zero => rfl
    | succ m => rfl
theorem set_getN (ns : List Nd) (j : Nat) : ns.set j (ns.getD j nd0) = ns := by
  apply List.ext_getElem?
  intro i
  by_cases h : i = j
  · subst h
    rcases Nat.lt_or_ge i ns.length with hl | hl
    · rw [List.getElem?_set_self hl, List.getD_eq_getElem?_getD, List.getElem?_eq_getElem hl]; rfl
    · rw [List.getElem?_eq_none (by simpa using hl), List.getElem?_eq_none hl]
  · rw [List.getElem?_set_ne (Ne.symm h)]
theorem kid_nd0 (b : Nat) : kidN nd0 b = none := by cases b <;> rfl
theorem kid_set (x : Nd) (b c : Nat) (v : Option Nat) (hb : b < 2) (hc : c < 2) : kidN (setK x b v) c = if c = b then v else kidN x c := by
  match b, c, hb, hc with
  | 0, 0, _, _ => rfl
  | 0, 1, _, _ => rfl
  | 1, 0, _, _ => rfl
  | 1, 1, _, _ => rfl
theorem kid_set' (x : Nd) (b c : Nat) (v : Option Nat) : kidN (setK x b v) c = v ∨ kidN (setK x b v) c = kidN x c := by
  cases b <;> cases c <;> first | exact .inl rfl | exact .inr rfl
/-- A new node below one. -/
def addN (ns : List Nd) (j b : Nat) : List Nd := (ns ++ [nd0]).set j (setK (getN (ns ++ [nd0]) j) b (some ns.length))
theorem addN_len (ns : List Nd) (j b : Nat) : (addN ns j b).length = ns.length + 1 := by simp [addN]
theorem addN_get {ns : List Nd} {j b i : Nat} (hj : j < ns.length) : getN (addN ns j b) i = if i = j then setK (getN ns j) b (some ns.length) else getN ns i := by
  unfold addN
  rw [getN_set (by simp; omega), getN_app, getN_app]
theorem addN_wf {ns : List Nd} {j b : Nat} (hj : j < ns.length) (h : WfN ns) : WfN (addN ns j b) := by
  refine ⟨by rw [addN_len]; omega, fun i c k hk => ?_⟩
  rw [addN_get hj] at hk
  rw [addN_len]
  split at hk
  · rcases kid_set' (getN ns j) b c (some ns.length) with e | e <;> rw [e] at hk
    · cases hk; omega
    · have := h.2 _ _ _ hk; omega
  · have := h.2 _ _ _ hk; omega
theorem mkN_len : ∀ (p : List Nat) (ns : List Nd) (j : Nat), ns.length ≤ (mkN ns j p).1.length
  | [], ns, j => Nat.le_refl _
  | b :: p, ns, j => by
    rw [mkN]
    split
    · exact mkN_len p _ _
    · have := mkN_len p ((ns ++ [nd0]).set j (setK (getN (ns ++ [nd0]) j) b (some ns.length))) ns.length
      simp only [List.length_set, List.length_append, List.length_singleton] at this
      omega
theorem put_len (n : Int) (ns : List Nd) (base bits : Int) : ns.length ≤ (putM n ns base bits).2.length := by
  unfold putM
  split
  · exact Nat.le_refl _
  · have := mkN_len (pathB base bits) ns 0
    simp only
    split
    · exact this
    · simpa using this
theorem put_step {ns ns' : List Nd} {base bits : Int} {k j : Nat} (hk : (k : Int) < bits) (h : putI ns base bits k ns' j) :
    (∀ i, kidN (ns'.getD j nd0) (bitI base k).toNat = some i → putI ns base bits (k + 1) ns' i) ∧ ((kidN (ns'.getD j nd0) (bitI base k).toNat).isNone = true → putI ns base bits (k + 1) (addN ns' j (bitI base k).toNat) ns'.length ∧ kidN ((addN ns' j (bitI base k).toNat).getD j nd0) (bitI base k).toNat = some ns'.length) := by
  obtain ⟨h1, h2, h3, h4, h5⟩ := h
  have hm : bits.toNat - k = (bits.toNat - (k + 1)) + 1 := by omega
  rw [hm, pathA, mkN] at h2
  have hg : getN ns' j = ns'.getD j nd0 := rfl
  rw [hg] at h2
  refine ⟨fun i hi => ?_, fun hi => ?_⟩
  · rw [hi] at h2
    exact ⟨by omega, h2, h3, h5.2 j _ _ (by rw [hg]; exact hi), h5⟩
  · have hi' : kidN (ns'.getD j nd0) (bitI base k).toNat = none := by simpa using hi
    rw [hi'] at h2
    refine ⟨⟨by omega, h2, by rw [addN_len]; omega, by rw [addN_len]; omega, addN_wf h4 h5⟩, ?_⟩
    have := addN_get (b := (bitI base k).toNat) (i := j) h4
    unfold getN at this
    rw [this, if_pos rfl, kid_set _ _ _ _ (bit_nat _ _) (bit_nat _ _), if_pos rfl]
theorem put_end {n : Int} {ns ns' : List Nd} {base bits : Int} {j : Nat} (hb : (!rightA base bits) = false) (h : mkN ns 0 (pathB base bits) = (ns', j)) :
    ((getN ns' j).is = true → putE ns base bits = 6 ∧ putM n ns base bits = (n, ns')) ∧ ((getN ns' j).is = false → putE ns base bits = 0 ∧ putM n ns base bits = (IntKind.i64.wrap (n + 1), ns'.set j (setIs (getN ns' j) true))) := by
  unfold putE putM
  rw [if_neg (by rw [hb]; simp), if_neg (by rw [hb]; simp), h]
  refine ⟨fun hi => ?_, fun hi => ?_⟩
  · simp only [hi, if_true]
    exact ⟨trivial, trivial⟩
  · simp only [hi, Bool.false_eq_true, if_false]
    exact ⟨trivial, trivial⟩
theorem len_bits {base bits : Int} {w : List Nat} (hb : (!rightA base bits) = false) (h : ((w.length : Int) == IntKind.i64.wrap (bits + 1)) = true) : 0 ≤ bits ∧ bits < (w.length : Int) := by
  have hr := right_rng' hb
  rw [wrap_i64_id (by omega)] at h
  have h := eq_of_beq h
  omega
theorem pathB_len (base bits : Int) : (pathB base bits).length = bits.toNat := path_len base _ _
theorem lon_step (ns : List Nd) (w : List Nat) (g : Nat) : lonN ns w (g + 1) = if (getN ns (w.getD g 0)).is = true then ((g : Int), true) else lonN ns w g := rfl
theorem path_get (base : Int) : ∀ (n k i : Nat), i < n → (pathA base k n).getD i 0 = (bitI base ((k + i : Nat) : Int)).toNat
  | n + 1, k, 0, _ => by rw [pathA]; rfl
  | n + 1, k, i + 1, h => by
    rw [pathA, List.getD_cons_succ, path_get base n (k + 1) i (by omega), show k + 1 + i = k + (i + 1) by omega]
theorem cutN_len (w p : List Nat) : ∀ (k : Nat) (ns : List Nd), (cutN w p k ns).length = ns.length
  | 0, ns => rfl
  | k + 1, ns => by
    rw [cutN]
    split
    · rw [cutN_len w p k]; simp
    · rfl
theorem take_end {n : Int} {ns : List Nd} {base bits : Int} (hb : (!hasM ns base bits) = false) : takeE ns base bits = 0 ∧ takeM n ns base bits = (IntKind.i64.wrap (n - 1), cutN (walkN ns 0 (pathB base bits)) (pathB base bits) bits.toNat (ns.set ((walkN ns 0 (pathB base bits)).getD bits.toNat 0) (setIs (getN ns ((walkN ns 0 (pathB base bits)).getD bits.toNat 0)) false))) := by
  unfold takeE takeM
  rw [if_neg (by rw [hb]; simp), if_neg (by rw [hb]; simp)]
  exact ⟨rfl, rfl⟩
theorem has_len {ns : List Nd} {base bits : Int} (h : hasM ns base bits = true) : (0 ≤ bits ∧ bits ≤ 32) ∧ ((walkN ns 0 (pathB base bits)).length : Int) = bits + 1 := by
  unfold hasM at h
  simp only [Bool.and_eq_true] at h
  have hr := right_rng h.1
  have := eq_of_beq h.2.1
  rw [wrap_i64_id (by omega)] at this
  exact ⟨hr, this⟩
theorem bitsL_rng {n : Int} (h : 0 ≤ n) : 20 ≤ bitsL n ∧ bitsL n ≤ 32 := by
  unfold bitsL
  have hm : n.tmod 13 = n % 13 := Int.tmod_eq_emod_of_nonneg h
  rw [hm, wrap_i64_id (n := n % 13) (by omega), wrap_i64_id (by omega)]
  omega
theorem over_yes {ns : List Nd} {base bits : Int} {g : Nat} (hb : rightA base bits = true) (hg : g < (walkN ns 0 (pathB base bits)).length) (hi : (getN ns ((walkN ns 0 (pathB base bits)).getD g 0)).is = true) : overM ns base bits = true := by
  unfold overM
  have : anyN ns (walkN ns 0 (pathB base bits)) = true := by
    unfold anyN
    rw [List.any_eq_true]
    refine ⟨(walkN ns 0 (pathB base bits)).getD g 0, ?_, hi⟩
    rw [List.getD_eq_getElem?_getD, List.getElem?_eq_getElem hg]
    exact List.getElem_mem _
  simp only [hb, this, Bool.true_or, Bool.and_self]
theorem over_no {ns : List Nd} {base bits : Int} (hb : rightA base bits = true) (hi : ∀ i, i < (walkN ns 0 (pathB base bits)).length → (getN ns ((walkN ns 0 (pathB base bits)).getD i 0)).is = false) :
    overM ns base bits = (((walkN ns 0 (pathB base bits)).length : Int) == IntKind.i64.wrap (bits + 1) && !emptyN (getN ns ((walkN ns 0 (pathB base bits)).getD bits.toNat 0))) := by
  unfold overM
  have : anyN ns (walkN ns 0 (pathB base bits)) = false := by
    unfold anyN
    rw [List.any_eq_false]
    intro x hx
    obtain ⟨i, hlt, rfl⟩ := List.getElem_of_mem hx
    have := hi i hlt
    rw [List.getD_eq_getElem?_getD, List.getElem?_eq_getElem hlt] at this
    simpa using this
  simp only [hb, this, Bool.false_or, Bool.true_and]
theorem half_true {base bits : Int} {d : Nat} (h : halfB base bits = true) (h0 : 0 ≤ bits) (hd : (32 - bits).toNat < d + 1) : (32 - halfN bits).toNat < d ∧ 0 ≤ halfN bits := by
  unfold halfB at h
  simp only [Bool.not_eq_true', Bool.or_eq_false_iff, beq_eq_false_iff_ne] at h
  have hr := right_rng' h.1
  unfold halfN
  rw [wrap_i64_id (by omega)]
  omega
theorem all_step (ns : List Nd) (d j : Nat) (base bits : Int) : allN ns (d + 1) j base bits = (if (ns.getD j nd0).is = true then [⟨base, bits⟩] else []) ++ (if (!halfB base bits) = true then [] else
      (match (ns.getD j nd0).k0 with
        | some i => allN ns d i base (halfN bits)
        | none => []) ++ (match (ns.getD j nd0).k1 with
        | some i => allN ns d i (highA base bits) (halfN bits)
        | none => [])) := rfl
end Go.Proofs.Ytndacggailoogaa.Tri
