/- Tries, in plain terms: what Take and Longest do. -/
import Derived.Test.YtndacggailoogaaTrieRepB
namespace Go.Proofs.Ytndacggailoogaa.Tri
open Go Go.Proofs.Ytndacggailoogaa.Sx

theorem empty_kid {x : Nd} (h : emptyN x = true) (b : Nat) : kidN x b = none := by
  unfold emptyN at h
  simp only [Bool.and_eq_true, Option.isNone_iff_eq_none] at h
  cases b with
  | zero => exact h.1.2
  | succ b => exact h.2
/-- A node without anything below it is let go of. -/
def delN (ns : List Nd) (j b : Nat) : List Nd := ns.set j (setK (getN ns j) b none)
theorem delN_get {ns : List Nd} {j b i : Nat} (hj : j < ns.length) : getN (delN ns j b) i = if i = j then setK (getN ns j) b none else getN ns i := getN_set hj
theorem del_is {ns : List Nd} {j b i : Nat} (hj : j < ns.length) : (getN (delN ns j b) i).is = (getN ns i).is := by
  rw [delN_get hj]
  split
  · rename_i h; subst h; cases b <;> rfl
  · rfl
theorem del_wf {ns : List Nd} {j b : Nat} (hj : j < ns.length) (h : WfN ns) : WfN (delN ns j b) := by
  refine ⟨by simpa [delN] using h.1, fun i c k hk => ?_⟩
  rw [delN_get hj] at hk
  have hl : (delN ns j b).length = ns.length := by simp [delN]
  rw [hl]
  split at hk
  · rcases kid_set' (getN ns j) b c none with e | e <;> rw [e] at hk
    · cases hk
    · exact h.2 _ _ _ hk
  · exact h.2 _ _ _ hk
theorem at_del {ns : List Nd} (hw : WfN ns) (hi : Inj ns) {p : List Nat} {j b i : Nat} (hp : Bin p) (hb : b < 2) (hj : atN ns 0 p = some j) (hk : kidN (getN ns j) b = some i) (he : emptyN (getN ns i) = true) :
    ∀ q, Bin q → atN (delN ns j b) 0 q = if q = p ++ [b] then none else atN ns 0 q := by
  have hjl := at_lt0 hw hj
  refine snocInd ?_ ?_
  · intro _
    rw [if_neg (by intro h; have := congrArg List.length h; simp at this)]
    rfl
  · intro q c ih hq
    have ih := ih hq.left
    have hc : c < 2 := hq.right c (List.mem_singleton.2 rfl)
    rw [at_snoc, ih]
    by_cases h1 : q = p ++ [b]
    · subst h1
      rw [if_pos rfl, if_neg (by intro h; have := congrArg List.length h; simp at this), at_snoc, at_snoc, hj]
      show none = (kidN (getN ns j) b).bind _
      rw [hk]
      exact (empty_kid he c).symm
    · rw [if_neg h1, at_snoc]
      by_cases h2 : q = p
      · subst h2
        rw [hj]
        show kidN (getN (delN ns j b) j) c = if q ++ [c] = q ++ [b] then none else kidN (getN ns j) c
        rw [delN_get hjl, if_pos rfl, kid_set _ _ _ _ hb hc]
        by_cases h3 : c = b
        · subst h3; rw [if_pos rfl, if_pos rfl]
        · rw [if_neg h3, if_neg (by intro h; exact h3 (by simpa using h))]
      · rw [if_neg (by intro h; exact h2 (List.append_inj_left' h rfl))]
        cases hqa : atN ns 0 q with
        | none => rfl
        | some m =>
          have hij : m ≠ j := by rintro rfl; exact h2 (hi q p m hq.left hp hqa hj)
          show kidN (getN (delN ns j b) m) c = kidN (getN ns m) c
          rw [delN_get hjl, if_neg hij]
/-- From a node upwards. -/
theorem cut_spec {P : List Nat} {w : List Nat} (hP : Bin P) : ∀ (k : Nat) (ns : List Nd), k ≤ P.length → WfN ns → Inj ns → (∀ m, m ≤ k → atN ns 0 (P.take m) = some (w.getD m 0)) →
    (∀ p i, Bin p → p ≠ [] → atN ns 0 p = some i → (∃ q, Bin q ∧ isAt ns (p ++ q) = true) ∨ ∃ m, m ≤ k ∧ p = P.take m) →
    WfN (cutN w P k ns) ∧ Inj (cutN w P k ns) ∧ (∀ q, Bin q → isAt (cutN w P k ns) q = isAt ns q) ∧ (∀ q i, Bin q → atN (cutN w P k ns) 0 q = some i → atN ns 0 q = some i) ∧
      ∀ p i, Bin p → p ≠ [] → atN (cutN w P k ns) 0 p = some i → ∃ q, Bin q ∧ isAt (cutN w P k ns) (p ++ q) = true
  | 0, ns, _, hw, hi, _, hpr => by
    refine ⟨hw, hi, fun _ _ => rfl, fun _ _ _ h => h, fun p i hp hne h => ?_⟩
    rcases hpr p i hp hne h with h | ⟨m, hm, h⟩
    · exact h
    · exfalso
      have : m = 0 := by omega
      subst this
      exact hne (by simpa using h)
  | k + 1, ns, hk, hw, hi, hat, hpr => by
    have ha1 := hat (k + 1) (Nat.le_refl _)
    have ha0 := hat k (Nat.le_succ k)
    have hPk : P.take (k + 1) = P.take k ++ [P.getD k 0] := by
      rw [List.take_add_one, List.getElem?_eq_getElem (show k < P.length by omega), List.getD_eq_getElem?_getD, List.getElem?_eq_getElem (show k < P.length by omega)]
      rfl
    have hb : P.getD k 0 < 2 := by
      rw [List.getD_eq_getElem?_getD, List.getElem?_eq_getElem (show k < P.length by omega)]
      exact hP _ (List.getElem_mem _)
    rw [hPk, at_snoc, ha0] at ha1
    have ha1 : kidN (getN ns (w.getD k 0)) (P.getD k 0) = some (w.getD (k + 1) 0) := ha1
    rw [cutN]
    by_cases he : emptyN (getN ns (w.getD (k + 1) 0)) = true
    · rw [if_pos he]
      have hjl := at_lt0 hw ha0
      have hd := at_del hw hi (hP.take k) hb ha0 ha1 he
      have hse : isAt ns (P.take k ++ [P.getD k 0]) = false := by
        have h1 : atN ns 0 (P.take k ++ [P.getD k 0]) = some (w.getD (k + 1) 0) := by rw [← hPk]; exact hat (k + 1) (Nat.le_refl _)
        rw [isAt_of h1]
        unfold emptyN at he
        simp only [Bool.and_eq_true, Bool.not_eq_true'] at he
        exact he.1.1
      have hsame : ∀ q, Bin q → isAt (delN ns (w.getD k 0) (P.getD k 0)) q = isAt ns q := by
        intro q hq
        by_cases h : q = P.take k ++ [P.getD k 0]
        · rw [h, hse]
          unfold isAt
          rw [hd _ (h ▸ hq), if_pos rfl]
        · unfold isAt
          rw [hd q hq, if_neg h]
          cases atN ns 0 q with
          | none => rfl
          | some i => exact del_is hjl
      have hinj : Inj (delN ns (w.getD k 0) (P.getD k 0)) := by
        intro p q i hp hq h1 h2
        rw [hd p hp] at h1
        rw [hd q hq] at h2
        split at h1
        · cases h1
        · split at h2
          · cases h2
          · exact hi p q i hp hq h1 h2
      obtain ⟨c1, c2, c3, c4, c5⟩ := cut_spec hP k (delN ns (w.getD k 0) (P.getD k 0)) (by omega) (del_wf hjl hw) hinj (fun m hm => by
          rw [hd _ (hP.take m), if_neg (by
            rw [← hPk]
            intro h
            have := congrArg List.length h
            rw [List.length_take, List.length_take] at this
            omega)]
          exact hat m (by omega)) (fun p i hp hne h => by
          rw [hd p hp] at h
          split at h
          · cases h
          · rename_i hpn
            rcases hpr p i hp hne h with ⟨q, h1, h2⟩ | ⟨m, hm, h1⟩
            · exact .inl ⟨q, h1, by rw [hsame _ (hp.app h1)]; exact h2⟩
            · right
              refine ⟨m, ?_, h1⟩
              rcases Nat.lt_or_ge k m with hlt | hge
              · exfalso
                have : m = k + 1 := by omega
                subst this
                exact hpn (by rw [h1, hPk])
              · exact hge)
      refine ⟨c1, c2, fun q hq => (c3 q hq).trans (hsame q hq), fun q i hq h => ?_, c5⟩
      have := c4 q i hq h
      rw [hd q hq] at this
      split at this
      · cases this
      · exact this
    · rw [if_neg he]
      refine ⟨hw, hi, fun _ _ => rfl, fun _ _ _ h => h, fun p i hp hne h => ?_⟩
      rcases hpr p i hp hne h with h | ⟨m, hm, rfl⟩
      · exact h
      · have hat1 : atN ns 0 (P.take (k + 1)) = some (w.getD (k + 1) 0) := hat (k + 1) (Nat.le_refl _)
        have hPP : P.take (k + 1) = P.take m ++ (P.take (k + 1)).drop m := by
          conv => lhs; rw [← List.take_append_drop m (P.take (k + 1))]
          rw [List.take_take, Nat.min_eq_left hm]
        have hbd : Bin ((P.take (k + 1)).drop m) := fun b hb => hP.take (k + 1) b (List.mem_of_mem_drop hb)
        have fin : ∀ r, Bin r → isAt ns (P.take (k + 1) ++ r) = true → ∃ q, Bin q ∧ isAt ns (P.take m ++ q) = true := by
          intro r hr h1
          refine ⟨(P.take (k + 1)).drop m ++ r, hbd.app hr, ?_⟩
          rw [← List.append_assoc, ← hPP]
          exact h1
        have kid : ∀ b x, b < 2 → kidN (getN ns (w.getD (k + 1) 0)) b = some x → ∃ q, Bin q ∧ isAt ns (P.take m ++ q) = true := by
          intro b x hb hx
          rcases hpr (P.take (k + 1) ++ [b]) x ((hP.take _).app (.one hb)) (by simp) (by rw [at_snoc, hat1]; exact hx) with ⟨q, h1, h2⟩ | ⟨m', hm', h1⟩
          · exact fin ([b] ++ q) ((Bin.one hb).app h1) (by rw [← List.append_assoc]; exact h2)
          · exfalso
            have := congrArg List.length h1
            rw [List.length_append, List.length_take, List.length_take] at this
            simp only [List.length_singleton] at this
            omega
        cases his : (getN ns (w.getD (k + 1) 0)).is with
        | true => exact fin [] (fun b hb => by cases hb) (by rw [List.append_nil, isAt_of hat1]; exact his)
        | false =>
          cases hk0 : (getN ns (w.getD (k + 1) 0)).k0 with
          | some x => exact kid 0 x (by decide) hk0
          | none =>
            cases hk1 : (getN ns (w.getD (k + 1) 0)).k1 with
            | some x => exact kid 1 x (by decide) hk1
            | none => exfalso; apply he; unfold emptyN; rw [his, hk0, hk1]; rfl
theorem take_right {n : Int} {ns : List Nd} {base bits : Int} (hg : Good ns) (hr : rightA base bits = true) :
    takeE ns base bits = (if isAt ns (pathB base bits) = true then 0 else 7) ∧ (takeM n ns base bits).1 = (if isAt ns (pathB base bits) = true then IntKind.i64.wrap (n - 1) else n) ∧ Good (takeM n ns base bits).2 ∧ ∀ q, Bin q → isAt (takeM n ns base bits).2 q = (isAt ns q && !decide (q = pathB base bits)) := by
  have hP := bin_pathB base bits
  have hh : hasM ns base bits = isAt ns (pathB base bits) := by rw [hasM_eq, hr, Bool.true_and]
  cases hi : isAt ns (pathB base bits) with
  | false =>
    rw [hi] at hh
    have hc : (!hasM ns base bits) = true := by rw [hh]; rfl
    unfold takeE takeM
    rw [if_pos hc, if_pos hc]
    refine ⟨rfl, rfl, hg, fun q hq => ?_⟩
    by_cases h : q = pathB base bits
    · rw [h, hi]; rfl
    · rw [decide_eq_false h]; simp
  | true =>
    rw [hi] at hh
    obtain ⟨t1, t2⟩ := take_end (n := n) (ns := ns) (base := base) (bits := bits) (by rw [hh]; rfl)
    rw [t1, t2]
    obtain ⟨j, hj, hji⟩ := isAt_some hi
    have hl := walk_last hj
    have hl' := hl
    rw [pathB_len] at hl
    rw [hl]
    have hjl := at_lt0 hg.wf hj
    have hset := isAt_setIs hg.wf hg.inj hP hj false
    obtain ⟨c1, c2, c3, c4, c5⟩ := cut_spec (P := pathB base bits) (w := walkN ns 0 (pathB base bits)) hP bits.toNat (ns.set j (setIs (getN ns j) false)) (by rw [pathB_len]; exact Nat.le_refl _) (setIs_wf hjl false hg.wf) (setIs_inj hjl false hg.inj)
      (fun m hm => by
        rw [at_setIs hjl]
        have hm' : m ≤ (pathB base bits).length := by rw [pathB_len]; exact hm
        obtain ⟨i, hi'⟩ : ∃ i, atN ns 0 ((pathB base bits).take m) = some i := by
          have h2 := hj
          rw [← List.take_append_drop m (pathB base bits)] at h2
          obtain ⟨i, h3, _⟩ := at_pre h2
          exact ⟨i, h3⟩
        rw [hi', (walk_at ns (pathB base bits) 0 m hm').2 i hi'])
      (fun p i hp hne h => by
        rw [at_setIs hjl] at h
        obtain ⟨q, h1, h2⟩ := hg.pr p i hp hne h
        by_cases hpq : p ++ q = pathB base bits
        · refine .inr ⟨p.length, ?_, by rw [← hpq]; simp⟩
          have := congrArg List.length hpq
          rw [List.length_append, pathB_len] at this
          omega
        · exact .inl ⟨q, h1, by rw [hset _ (hp.app h1), if_neg hpq]; exact h2⟩)
    refine ⟨rfl, rfl, ⟨c1, c2, c5, fun p i hp h => ?_⟩, fun q hq => ?_⟩
    · have := c4 p i hp h
      rw [at_setIs hjl] at this
      exact hg.dep p i hp this
    · show isAt (cutN _ _ _ _) q = _
      rw [c3 q hq, hset q hq]
      by_cases h : q = pathB base bits
      · rw [if_pos h, decide_eq_true h]; simp
      · rw [if_neg h, decide_eq_false h]; simp
theorem take_wrong {n : Int} {ns : List Nd} {base bits : Int} (hr : rightA base bits = false) : takeE ns base bits = 7 ∧ takeM n ns base bits = (n, ns) := by
  have hh : hasM ns base bits = false := by rw [hasM_eq, hr]; rfl
  have hc : (!hasM ns base bits) = true := by rw [hh]; rfl
  unfold takeE takeM
  rw [if_pos hc, if_pos hc]
  exact ⟨rfl, rfl⟩
/-- The longest beginning of a way that is there. -/
theorem lon_spec {ns : List Nd} {p : List Nat} : ∀ (k : Nat), k ≤ (walkN ns 0 p).length →
    ((lonN ns (walkN ns 0 p) k).2 = false ∧ (∀ m, m < k → isAt ns (p.take m) = false)) ∨ ∃ m, m < k ∧ lonN ns (walkN ns 0 p) k = ((m : Int), true) ∧ isAt ns (p.take m) = true ∧ ∀ m', m < m' → m' < k → isAt ns (p.take m') = false
  | 0, _ => .inl ⟨rfl, fun m hm => absurd hm (Nat.not_lt_zero _)⟩
  | k + 1, hk => by
    have hkl : k ≤ p.length := by have := walk_len ns p 0; omega
    obtain ⟨w1, w2⟩ := walk_at ns p 0 k hkl
    obtain ⟨i, hi⟩ := Option.isSome_iff_exists.1 (w1.1 (by omega))
    have hw := w2 i hi
    have his : isAt ns (p.take k) = (getN ns ((walkN ns 0 p).getD k 0)).is := by rw [isAt_of hi, hw]
    rw [lon_step]
    by_cases h : (getN ns ((walkN ns 0 p).getD k 0)).is = true
    · rw [if_pos h]
      exact .inr ⟨k, Nat.lt_succ_self k, rfl, by rw [his]; exact h, fun m' h1 h2 => by omega⟩
    · rw [if_neg h]
      have hf : isAt ns (p.take k) = false := by rw [his]; simpa using h
      rcases lon_spec (ns := ns) (p := p) k (by omega) with ⟨h1, h2⟩ | ⟨m, h1, h2, h3, h4⟩
      · refine .inl ⟨h1, fun m hm => ?_⟩
        rcases Nat.lt_or_ge m k with h5 | h5
        · exact h2 m h5
        · rw [show m = k by omega]; exact hf
      · refine .inr ⟨m, by omega, h2, h3, fun m' h5 h6 => ?_⟩
        rcases Nat.lt_or_ge m' k with h7 | h7
        · exact h4 m' h5 h7
        · rw [show m' = k by omega]; exact hf
theorem beyond {ns : List Nd} {p : List Nat} {m : Nat} (h : (walkN ns 0 p).length ≤ m) (hm : m ≤ p.length) : isAt ns (p.take m) = false := by
  have h1 := (walk_at ns p 0 m hm).1
  cases hs : atN ns 0 (p.take m) with
  | some i => exact absurd (h1.2 (by rw [hs]; rfl)) (by omega)
  | none => unfold isAt; rw [hs]
theorem lonM_spec (ns : List Nd) (a : Int) : (lonB ns a = false ∧ lonM ns a = zeroB ∧ ∀ m, m ≤ 32 → isAt ns ((pathB a 32).take m) = false) ∨
    ∃ m : Nat, m ≤ 32 ∧ lonB ns a = true ∧ makeB (lonK ns a) = true ∧ lonM ns a = ⟨makeA a (m : Int), (m : Int)⟩ ∧ isAt ns ((pathB a 32).take m) = true ∧ ∀ m', m < m' → m' ≤ 32 → isAt ns ((pathB a 32).take m') = false := by
  have hpl : (pathB a 32).length = 32 := pathB_len a 32
  have hwl := walk_len ns (pathB a 32) 0
  rw [hpl] at hwl
  rcases lon_spec (ns := ns) (p := pathB a 32) _ (Nat.le_refl _) with ⟨h1, h2⟩ | ⟨m, h1, h2, h3, h4⟩
  · left
    have hb : lonB ns a = false := h1
    refine ⟨hb, by unfold lonM; rw [hb]; rfl, fun m hm => ?_⟩
    rcases Nat.lt_or_ge m (walkN ns 0 (pathB a 32)).length with h5 | h5
    · exact h2 m h5
    · exact beyond h5 (by rw [hpl]; exact hm)
  · right
    have hb : lonB ns a = true := by show (lonN ns (walkN ns 0 (pathB a 32)) _).2 = true; rw [h2]
    have hk : lonK ns a = (m : Int) := by show (lonN ns (walkN ns 0 (pathB a 32)) _).1 = _; rw [h2]
    have hm : makeB (m : Int) = true := by
      unfold makeB
      rw [decide_eq_false (show ¬ (m : Int) < 0 by omega), decide_eq_false (show ¬ (m : Int) > 32 by omega)]
      rfl
    refine ⟨m, by omega, hb, by rw [hk]; exact hm, ?_, h3, fun m' h5 h6 => ?_⟩
    · unfold lonM
      rw [if_pos hb, hk, if_pos hm]
    · rcases Nat.lt_or_ge m' (walkN ns 0 (pathB a 32)).length with h7 | h7
      · exact h4 m' h5 h7
      · exact beyond h7 (by rw [hpl]; exact h6)
end Go.Proofs.Ytndacggailoogaa.Tri
