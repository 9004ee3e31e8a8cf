/- Maps by content: what is found, put and taken. -/
import Derived.Test.YtcgeccpookgoeaaSxQ
namespace Go.Proofs.Ytcgeccpookgoeaa.Sx

theorem idxM_none {α : Type} : ∀ {m : List (Int × α)} {k : Int}, idxM m k = none ↔ ∀ p ∈ m, p.1 ≠ k
  | [], k => ⟨fun _ p hp => (by cases hp), fun _ => rfl⟩
  | q :: r, k => by
    unfold idxM
    cases hb : (k == q.1) with
    | true =>
      simp only [if_true]
      refine ⟨fun h => (by cases h), fun h => ?_⟩
      exact absurd (eq_of_beq hb).symm (h q (List.mem_cons_self ..))
    | false =>
      have hb : k ≠ q.1 := fun h => by rw [h, beq_self_eq_true] at hb; cases hb
      simp only [Bool.false_eq_true, if_false, Option.map_eq_none_iff]
      rw [idxM_none]
      refine ⟨fun h p hp => ?_, fun h p hp => h p (List.mem_cons_of_mem _ hp)⟩
      rcases List.mem_cons.1 hp with rfl | hp
      · exact fun h => hb h.symm
      · exact h p hp
theorem hasM_iff {α : Type} {m : List (Int × α)} {k : Int} : hasM m k = true ↔ ∃ p ∈ m, p.1 = k := by
  unfold hasM
  cases h : idxM m k with
  | none =>
    have := idxM_none.1 h
    exact ⟨fun h => (by cases h), fun ⟨p, h1, h2⟩ => absurd h2 (this p h1)⟩
  | some j =>
    obtain ⟨p, h1, h2⟩ := idxM_lt h
    exact ⟨fun _ => ⟨p, List.mem_of_getElem? h1, h2⟩, fun _ => rfl⟩
theorem hasM_false {α : Type} {m : List (Int × α)} {k : Int} : hasM m k = false ↔ ∀ p ∈ m, p.1 ≠ k := by
  rw [Bool.eq_false_iff, ne_eq, hasM_iff]
  exact ⟨fun h p hp hk => h ⟨p, hp, hk⟩, fun h ⟨p, hp, hk⟩ => h p hp hk⟩
/-- What is got is there, if the key is. -/
theorem getM_mem {α : Type} {m : List (Int × α)} {k : Int} (z : α) (h : hasM m k = true) : (k, getM m k z) ∈ m := by
  unfold hasM at h
  unfold getM
  cases hi : idxM m k with
  | none => rw [hi] at h; cases h
  | some j =>
    obtain ⟨p, h1, h2⟩ := idxM_lt hi
    have h3 : (m.getD j (k, z)).2 = p.2 := by rw [List.getD_eq_getElem?_getD, h1]; rfl
    simp only [h3]
    subst h2
    exact List.mem_of_getElem? h1
theorem getM_none {α : Type} {m : List (Int × α)} {k : Int} (z : α) (h : hasM m k = false) : getM m k z = z := by
  unfold hasM at h
  unfold getM
  cases hi : idxM m k with
  | none => rfl
  | some j => rw [hi] at h; cases h
theorem setM_new {α : Type} {m : List (Int × α)} {k : Int} (y : α) (h : hasM m k = false) : setM m k y = m ++ [(k, y)] := by
  unfold hasM at h
  unfold setM
  cases hi : idxM m k with
  | none => rfl
  | some j => rw [hi] at h; cases h
/-- Who deletes a key takes one pair of it. -/
theorem delM_perm {α : Type} {m : List (Int × α)} {k : Int} (h : hasM m k = true) : ∃ v, m.Perm ((k, v) :: delM m k) := by
  unfold hasM at h
  unfold delM
  cases hi : idxM m k with
  | none => rw [hi] at h; cases h
  | some j =>
    obtain ⟨p, h1, h2⟩ := idxM_lt hi
    obtain ⟨hj, he⟩ := List.getElem?_eq_some_iff.1 h1
    refine ⟨p.2, ?_⟩
    have : p = (k, p.2) := by rw [← h2]
    simp only
    rw [← this, ← he, List.eraseIdx_eq_take_drop_succ]
    have h3 : m = m.take j ++ m[j] :: m.drop (j + 1) := by rw [List.getElem_cons_drop, List.take_append_drop]
    exact (List.Perm.of_eq h3).trans List.perm_middle
theorem setM_perm {α : Type} {m : List (Int × α)} {k : Int} (y : α) (h : hasM m k = true) : (setM m k y).Perm ((k, y) :: delM m k) := by
  unfold hasM at h
  unfold setM delM
  cases hi : idxM m k with
  | none => rw [hi] at h; cases h
  | some j =>
    obtain ⟨p, h1, h2⟩ := idxM_lt hi
    obtain ⟨hj, he⟩ := List.getElem?_eq_some_iff.1 h1
    simp only
    rw [List.eraseIdx_eq_take_drop_succ, List.set_eq_take_append_cons_drop, if_pos hj]
    exact List.perm_middle
theorem delM_no {α : Type} {m : List (Int × α)} {k : Int} (h : hasM m k = false) : delM m k = m := by
  unfold hasM at h
  unfold delM
  cases hi : idxM m k with
  | none => rfl
  | some j => rw [hi] at h; cases h
theorem setM_len {α : Type} {m : List (Int × α)} {k : Int} (y : α) : (setM m k y).length = m.length + (if hasM m k = true then 0 else 1) := by
  unfold setM hasM
  cases hi : idxM m k with
  | none => simp
  | some j => simp
theorem idxM_get {α : Type} {m : List (Int × α)} {k : Int} {j : Nat} (h : idxM m k = some j) : j < m.length := by
  obtain ⟨p, h1, _⟩ := idxM_lt h
  exact (List.getElem?_eq_some_iff.1 h1).1
theorem idxM_set {α : Type} : ∀ {m : List (Int × α)} {k b : Int} {j : Nat} (y : α), idxM m k = some j → idxM (m.set j (k, y)) b = idxM m b
  | [], _, _, _, _, h => by cases h
  | p :: r, k, b, j, y, h => by
    unfold idxM at h
    cases hb : (k == p.1) with
    | true =>
      rw [hb] at h
      cases h
      have := eq_of_beq hb
      subst this
      rfl
    | false =>
      rw [hb] at h
      simp only [Bool.false_eq_true, if_false, Option.map_eq_some_iff] at h
      obtain ⟨j', h1, rfl⟩ := h
      show idxM (p :: r.set j' (k, y)) b = _
      unfold idxM
      rw [idxM_set y h1]
theorem idxM_app {α : Type} : ∀ {m : List (Int × α)} {k b : Int} (y : α), idxM (m ++ [(k, y)]) b = match idxM m b with
    | some j => some j
    | none => if (b == k) = true then some m.length else none
  | [], k, b, y => by simp only [List.nil_append, idxM, List.length_nil]; split <;> simp_all
  | p :: r, k, b, y => by
    rw [List.cons_append, idxM, idxM, idxM_app y]
    split
    · rfl
    · cases idxM r b with
      | some j => rfl
      | none =>
        simp only [Option.map_none]
        split <;> rfl
theorem hasM_set {α : Type} (m : List (Int × α)) (k b : Int) (y : α) : hasM (setM m k y) b = (b == k || hasM m b) := by
  unfold setM hasM
  cases hi : idxM m k with
  | some j =>
    simp only
    rw [idxM_set y hi]
    cases hb : (b == k) with
    | false => rfl
    | true =>
      have := eq_of_beq hb
      subst this
      rw [hi]
      rfl
  | none =>
    simp only
    rw [idxM_app]
    cases hb : (b == k) <;> cases idxM m b <;> rfl
theorem getM_set {α : Type} (m : List (Int × α)) (k b : Int) (y z : α) : getM (setM m k y) b z = if (b == k) = true then y else getM m b z := by
  unfold setM getM
  cases hi : idxM m k with
  | some j =>
    simp only
    rw [idxM_set y hi]
    have hj := idxM_get hi
    cases hb : (b == k) with
    | true =>
      have := eq_of_beq hb
      subst this
      rw [hi]
      simp [List.getD_eq_getElem?_getD, hj]
    | false =>
      have hb : b ≠ k := fun h => by rw [h, beq_self_eq_true] at hb; cases hb
      cases hib : idxM m b with
      | none => rfl
      | some i =>
        have hij : j ≠ i := by
          rintro rfl
          obtain ⟨p, h1, h2⟩ := idxM_lt hi
          obtain ⟨q, h3, h4⟩ := idxM_lt hib
          rw [h1] at h3
          cases h3
          exact hb (h4.symm.trans h2)
        simp [List.getD_eq_getElem?_getD, List.getElem?_set_ne hij]
  | none =>
    simp only
    rw [idxM_app]
    cases hib : idxM m b with
    | some i =>
      have hne : (b == k) = false := by
        cases hb : (b == k) with
        | false => rfl
        | true => rw [eq_of_beq hb, hi] at hib; cases hib
      have := idxM_get hib
      rw [hne]
      simp [List.getD_eq_getElem?_getD, List.getElem?_append_left this]
    | none =>
      cases hb : (b == k) with
      | true => simp [List.getD_eq_getElem?_getD]
      | false => simp
end Go.Proofs.Ytcgeccpookgoeaa.Sx
