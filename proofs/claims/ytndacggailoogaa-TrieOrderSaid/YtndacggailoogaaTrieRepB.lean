/- Tries, in plain terms: what Put, Has, Overlaps, Take do to what is there. -/
import Derived.Test.YtndacggailoogaaTrieRep
namespace Go.Proofs.Ytndacggailoogaa.Tri
open Go Go.Proofs.Ytndacggailoogaa.Sx

/-- A trie in order: each node is there once, ahead of it there is something, it is not deeper than 32. -/
structure Good (ns : List Nd) : Prop where
  wf : WfN ns
  inj : Inj ns
  pr : ∀ p i, Bin p → p ≠ [] → atN ns 0 p = some i → ∃ q, Bin q ∧ isAt ns (p ++ q) = true
  dep : ∀ p i, Bin p → atN ns 0 p = some i → p.length ≤ 32
theorem kid_is (x : Nd) (v : Bool) (b : Nat) : kidN (setIs x v) b = kidN x b := by cases b <;> rfl
theorem set_kid {ns : List Nd} {j : Nat} (hj : j < ns.length) (v : Bool) (i b : Nat) : kidN (getN (ns.set j (setIs (getN ns j) v)) i) b = kidN (getN ns i) b := by
  rw [getN_set hj]
  split
  · rename_i h; subst h; exact kid_is _ _ _
  · rfl
theorem at_setIs {ns : List Nd} {j : Nat} (hj : j < ns.length) (v : Bool) : ∀ (q : List Nat) (i : Nat), atN (ns.set j (setIs (getN ns j) v)) i q = atN ns i q
  | [], i => rfl
  | b :: q, i => by
    rw [atN, atN, set_kid hj]
    cases kidN (getN ns i) b with
    | none => rfl
    | some k => exact at_setIs hj v q k
theorem isAt_setIs {ns : List Nd} {j : Nat} {p : List Nat} (hw : WfN ns) (hi : Inj ns) (hp : Bin p) (ha : atN ns 0 p = some j) (v : Bool) (q : List Nat) (hq : Bin q) :
    isAt (ns.set j (setIs (getN ns j) v)) q = if q = p then v else isAt ns q := by
  have hj := at_lt0 hw ha
  unfold isAt
  rw [at_setIs hj]
  by_cases h : q = p
  · subst h
    rw [if_pos rfl, ha]
    show (getN (ns.set j (setIs (getN ns j) v)) j).is = v
    rw [getN_set hj, if_pos rfl]
    rfl
  · rw [if_neg h]
    cases hqa : atN ns 0 q with
    | none => rfl
    | some i =>
      have hij : i ≠ j := by rintro rfl; exact h (hi q p i hq hp hqa ha)
      show (getN (ns.set j (setIs (getN ns j) v)) i).is = (getN ns i).is
      rw [getN_set hj, if_neg hij]
theorem setIs_wf {ns : List Nd} {j : Nat} (hj : j < ns.length) (v : Bool) (h : WfN ns) : WfN (ns.set j (setIs (getN ns j) v)) := by
  refine ⟨by simpa using h.1, fun i b k hk => ?_⟩
  rw [set_kid hj] at hk
  simpa using h.2 i b k hk
theorem setIs_inj {ns : List Nd} {j : Nat} (hj : j < ns.length) (v : Bool) (h : Inj ns) : Inj (ns.set j (setIs (getN ns j) v)) := by
  intro p q i hp hq h1 h2
  rw [at_setIs hj] at h1 h2
  exact h p q i hp hq h1 h2
theorem put_right {n : Int} {ns : List Nd} {base bits : Int} (hg : Good ns) (hr : rightA base bits = true) :
    putE ns base bits = (if isAt ns (pathB base bits) = true then 6 else 0) ∧ (putM n ns base bits).1 = (if isAt ns (pathB base bits) = true then n else IntKind.i64.wrap (n + 1)) ∧ Good (putM n ns base bits).2 ∧ ∀ q, Bin q → isAt (putM n ns base bits).2 q = (isAt ns q || decide (q = pathB base bits)) := by
  have hb : (!rightA base bits) = false := by rw [hr]; rfl
  have hP := bin_pathB base bits
  obtain ⟨g1, g2, g3, g4, g5⟩ := mk_spec (pathB base bits) [] ns 0 hg.wf hg.inj (fun b hb => by cases hb) hP rfl
  rw [List.nil_append] at g3 g5
  have hsame : ∀ q, Bin q → isAt (mkN ns 0 (pathB base bits)).1 q = isAt ns q := by
    intro q hq
    cases hqa : atN ns 0 q with
    | some i =>
      obtain ⟨k1, k2⟩ := g4 q i hq hqa
      rw [isAt_of k1, isAt_of hqa, k2]
    | none =>
      cases hqb : atN (mkN ns 0 (pathB base bits)).1 0 q with
      | none => unfold isAt; rw [hqa, hqb]
      | some i =>
        rcases g5 q i hq hqb with h | ⟨_, _, h⟩
        · rw [hqa] at h; cases h
        · rw [isAt_of hqb, h]; unfold isAt; rw [hqa]
  have hPl : (pathB base bits).length ≤ 32 := by rw [pathB_len]; have := right_rng hr; omega
  have hdep : ∀ p i, Bin p → atN (mkN ns 0 (pathB base bits)).1 0 p = some i → p.length ≤ 32 := by
    intro p i hp h
    rcases g5 p i hp h with h | ⟨_, ⟨r, h⟩, _⟩
    · exact hg.dep p i hp h
    · have := congrArg List.length h
      rw [List.length_append] at this
      omega
  have hlast : isAt ns (pathB base bits) = (getN (mkN ns 0 (pathB base bits)).1 (mkN ns 0 (pathB base bits)).2).is := by
    rw [← hsame _ hP, isAt_of g3]
  obtain ⟨p1, p2⟩ := put_end (n := n) (ns := ns) (ns' := (mkN ns 0 (pathB base bits)).1) (j := (mkN ns 0 (pathB base bits)).2) hb rfl
  have hjl := at_lt0 g1 g3
  cases hi : isAt ns (pathB base bits) with
  | true =>
    obtain ⟨e1, e2⟩ := p1 (by rw [← hlast]; exact hi)
    rw [e1, e2]
    refine ⟨rfl, rfl, ⟨g1, g2, fun p i hp hne h => ?_, hdep⟩, fun q hq => ?_⟩
    · rcases g5 p i hp h with h | ⟨h1, ⟨r, h2⟩, _⟩
      · obtain ⟨q, h3, h4⟩ := hg.pr p i hp hne h
        exact ⟨q, h3, by rw [hsame _ (hp.app h3)]; exact h4⟩
      · exfalso
        obtain ⟨j, hj, _⟩ := isAt_some hi
        rw [h2] at hj
        obtain ⟨k, hk, _⟩ := at_pre hj
        rw [h1] at hk; cases hk
    · show isAt (mkN ns 0 (pathB base bits)).1 q = _
      rw [hsame q hq]
      by_cases h : q = pathB base bits
      · rw [h, hi]; rfl
      · rw [decide_eq_false h, Bool.or_false]
  | false =>
    obtain ⟨e1, e2⟩ := p2 (by rw [← hlast]; exact hi)
    rw [e1, e2]
    have hset : ∀ q, Bin q → isAt ((mkN ns 0 (pathB base bits)).1.set (mkN ns 0 (pathB base bits)).2 (setIs (getN (mkN ns 0 (pathB base bits)).1 (mkN ns 0 (pathB base bits)).2) true)) q = (isAt ns q || decide (q = pathB base bits)) := by
      intro q hq
      rw [isAt_setIs g1 g2 hP g3 true q hq, hsame q hq]
      by_cases h : q = pathB base bits
      · rw [if_pos h, decide_eq_true h, Bool.or_true]
      · rw [if_neg h, decide_eq_false h, Bool.or_false]
    refine ⟨rfl, rfl, ⟨setIs_wf hjl true g1, setIs_inj hjl true g2, fun p i hp hne h => ?_, fun p i hp h => ?_⟩, hset⟩
    · simp only at h
      rw [at_setIs hjl] at h
      rcases g5 p i hp h with h | ⟨h1, ⟨r, h2⟩, _⟩
      · obtain ⟨q, h3, h4⟩ := hg.pr p i hp hne h
        exact ⟨q, h3, by simp only; rw [hset _ (hp.app h3), h4]; rfl⟩
      · refine ⟨r, (h2 ▸ hP : Bin (p ++ r)).right, ?_⟩
        simp only
        rw [hset _ (h2 ▸ hP), decide_eq_true h2.symm, Bool.or_true]
    · simp only at h
      rw [at_setIs hjl] at h
      exact hdep p i hp h
theorem put_wrong {n : Int} {ns : List Nd} {base bits : Int} (hr : rightA base bits = false) : putE ns base bits = 12 ∧ putM n ns base bits = (n, ns) := by
  unfold putE putM
  rw [if_pos (by rw [hr]; rfl), if_pos (by rw [hr]; rfl)]
  exact ⟨rfl, rfl⟩
/-- What lies in the way of a prefix. -/
theorem over_iff {ns : List Nd} (hg : Good ns) (base bits : Int) : overM ns base bits = true ↔ rightA base bits = true ∧ ((∃ q r, pathB base bits = q ++ r ∧ isAt ns q = true) ∨ ∃ q, Bin q ∧ isAt ns (pathB base bits ++ q) = true) := by
  have hP := bin_pathB base bits
  cases hr : rightA base bits with
  | false => unfold overM; rw [hr]; simp
  | true =>
    unfold overM
    rw [hr]
    simp only [Bool.true_and, true_and, Bool.or_eq_true, Bool.and_eq_true]
    rw [len_test (right_rng hr)]
    have hany : anyN ns (walkN ns 0 (pathB base bits)) = true ↔ ∃ q r, pathB base bits = q ++ r ∧ isAt ns q = true := by
      unfold anyN
      rw [List.any_eq_true]
      constructor
      · rintro ⟨x, hx, hxi⟩
        obtain ⟨k, hk, rfl⟩ := List.getElem_of_mem hx
        have hkl : k ≤ (pathB base bits).length := by have := walk_len ns (pathB base bits) 0; omega
        obtain ⟨w1, w2⟩ := walk_at ns (pathB base bits) 0 k hkl
        obtain ⟨i, hi⟩ := Option.isSome_iff_exists.1 (w1.1 hk)
        have h3 := w2 i hi
        rw [List.getD_eq_getElem?_getD, List.getElem?_eq_getElem hk] at h3
        have h3 : (walkN ns 0 (pathB base bits))[k] = i := h3
        exact ⟨(pathB base bits).take k, (pathB base bits).drop k, (List.take_append_drop k _).symm, by rw [isAt_of hi, ← h3]; exact hxi⟩
      · rintro ⟨q, r, h1, h2⟩
        obtain ⟨j, hj, hji⟩ := isAt_some h2
        have hq : q = (pathB base bits).take q.length := by rw [h1]; simp
        have hql : q.length ≤ (pathB base bits).length := by rw [h1]; simp
        obtain ⟨w1, w2⟩ := walk_at ns (pathB base bits) 0 q.length hql
        rw [← hq] at w1 w2
        have hk := w1.2 (by rw [hj]; rfl)
        have h3 := w2 j hj
        rw [List.getD_eq_getElem?_getD, List.getElem?_eq_getElem hk] at h3
        have h3 : (walkN ns 0 (pathB base bits))[q.length] = j := h3
        exact ⟨_, List.getElem_mem hk, by rw [h3]; exact hji⟩
    have hend : ((atN ns 0 (pathB base bits)).isSome = true ∧ (!emptyN (getN ns ((walkN ns 0 (pathB base bits)).getD bits.toNat 0))) = true) ↔ ∃ q, Bin q ∧ isAt ns (pathB base bits ++ q) = true := by
      constructor
      · rintro ⟨h1, h2⟩
        obtain ⟨i, hi⟩ := Option.isSome_iff_exists.1 h1
        have hl := walk_last hi
        rw [pathB_len] at hl
        rw [hl] at h2
        have kid : ∀ b k, b < 2 → kidN (getN ns i) b = some k → ∃ q, Bin q ∧ isAt ns (pathB base bits ++ q) = true := by
          intro b k hb hk
          obtain ⟨q, h3, h4⟩ := hg.pr (pathB base bits ++ [b]) k (hP.app (.one hb)) (by simp) (by rw [at_snoc, hi]; exact hk)
          exact ⟨[b] ++ q, (Bin.one hb).app h3, by rw [← List.append_assoc]; exact h4⟩
        cases his : (getN ns i).is with
        | true => exact ⟨[], (fun b hb => by cases hb), by rw [List.append_nil, isAt_of hi]; exact his⟩
        | false =>
          cases hk0 : (getN ns i).k0 with
          | some k => exact kid 0 k (by decide) hk0
          | none =>
            cases hk1 : (getN ns i).k1 with
            | some k => exact kid 1 k (by decide) hk1
            | none => unfold emptyN at h2; rw [his, hk0, hk1] at h2; cases h2
      · rintro ⟨q, h1, h2⟩
        obtain ⟨j, hj, hji⟩ := isAt_some h2
        obtain ⟨i, hi, hij⟩ := at_pre hj
        refine ⟨by rw [hi]; rfl, ?_⟩
        have hl := walk_last hi
        rw [pathB_len] at hl
        rw [hl]
        unfold emptyN
        cases q with
        | nil => cases hij; rw [hji]; rfl
        | cons b q =>
          rw [atN] at hij
          cases hk : kidN (getN ns i) b with
          | none => rw [hk] at hij; cases hij
          | some k =>
            have hb : b < 2 := h1 b (List.mem_cons_self ..)
            match b, hb, hk with
            | 0, _, hk => rw [show (getN ns i).k0 = some k from hk]; simp
            | 1, _, hk => rw [show (getN ns i).k1 = some k from hk]; simp
    rw [hany, hend]
end Go.Proofs.Ytndacggailoogaa.Tri
