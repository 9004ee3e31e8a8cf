/- Tries, in plain terms: which ways lead to a node, and what stands there. -/
import Derived.Test.YtndacggailoogaaTrieLem
namespace Go.Proofs.Ytndacggailoogaa.Tri
open Go Go.Proofs.Ytndacggailoogaa.Sx

def Bin (p : List Nat) : Prop := ∀ b ∈ p, b < 2
theorem Bin.app {p q : List Nat} (h : Bin p) (k : Bin q) : Bin (p ++ q) := fun b hb => (List.mem_append.1 hb).elim (h b) (k b)
theorem Bin.one {b : Nat} (h : b < 2) : Bin [b] := fun c hc => by rw [List.mem_singleton.1 hc]; exact h
theorem Bin.left {p q : List Nat} (h : Bin (p ++ q)) : Bin p := fun b hb => h b (List.mem_append_left _ hb)
theorem Bin.right {p q : List Nat} (h : Bin (p ++ q)) : Bin q := fun b hb => h b (List.mem_append_right _ hb)
theorem Bin.take {p : List Nat} (h : Bin p) (k : Nat) : Bin (p.take k) := fun b hb => h b (List.mem_of_mem_take hb)
theorem bin_path (base : Int) : ∀ (n k : Nat), Bin (pathA base k n)
  | 0, _ => fun b hb => by cases hb
  | n + 1, k => fun b hb => by
    rw [pathA] at hb
    rcases List.mem_cons.1 hb with rfl | hb
    · exact bit_nat _ _
    · exact bin_path base n (k + 1) b hb
theorem bin_pathB (base bits : Int) : Bin (pathB base bits) := bin_path base _ _
theorem snocInd {P : List Nat → Prop} (h0 : P []) (h1 : ∀ l b, P l → P (l ++ [b])) (l : List Nat) : P l := by
  have h : ∀ r : List Nat, P r.reverse := fun r => by
    induction r with
    | nil => exact h0
    | cons b r ih => simpa using h1 _ b ih
  simpa using h l.reverse
/-- Where a way leads. -/
def atN (ns : List Nd) (j : Nat) : List Nat → Option Nat
  | [] => some j
  | b :: p => match kidN (getN ns j) b with
    | some i => atN ns i p
    | none => none
def isAt (ns : List Nd) (p : List Nat) : Bool := match atN ns 0 p with
  | some j => (getN ns j).is
  | none => false
theorem at_app (ns : List Nd) : ∀ (p q : List Nat) (j : Nat), atN ns j (p ++ q) = (atN ns j p).bind fun i => atN ns i q
  | [], q, j => rfl
  | b :: p, q, j => by
    rw [List.cons_append, atN, atN]
    cases kidN (getN ns j) b with
    | none => rfl
    | some i => exact at_app ns p q i
theorem at_snoc (ns : List Nd) (p : List Nat) (b j : Nat) : atN ns j (p ++ [b]) = (atN ns j p).bind fun i => kidN (getN ns i) b := by
  rw [at_app]
  congr 1
  funext i
  rw [atN]
  cases kidN (getN ns i) b <;> rfl
theorem at_pre {ns : List Nd} {p q : List Nat} {j i : Nat} (h : atN ns j (p ++ q) = some i) : ∃ k, atN ns j p = some k ∧ atN ns k q = some i := by
  rw [at_app] at h
  cases hp : atN ns j p with
  | none => rw [hp] at h; cases h
  | some k => rw [hp] at h; exact ⟨k, rfl, h⟩
theorem isAt_some {ns : List Nd} {p : List Nat} (h : isAt ns p = true) : ∃ j, atN ns 0 p = some j ∧ (getN ns j).is = true := by
  unfold isAt at h
  cases hp : atN ns 0 p with
  | none => rw [hp] at h; cases h
  | some j => rw [hp] at h; exact ⟨j, rfl, h⟩
theorem isAt_of {ns : List Nd} {p : List Nat} {j : Nat} (h : atN ns 0 p = some j) : isAt ns p = (getN ns j).is := by unfold isAt; rw [h]
/-- The nodes on a way are those to which its beginnings lead. -/
theorem walk_at (ns : List Nd) : ∀ (p : List Nat) (j k : Nat), k ≤ p.length → (k < (walkN ns j p).length ↔ (atN ns j (p.take k)).isSome = true) ∧ ∀ i, atN ns j (p.take k) = some i → (walkN ns j p).getD k 0 = i
  | p, j, 0, _ => by
    obtain ⟨q, hq⟩ := walk_ne ns p j
    rw [hq]
    exact ⟨⟨fun _ => rfl, fun _ => by simp⟩, fun i hi => by simp [atN] at hi; simp [hi]⟩
  | [], j, k + 1, h => by simp at h
  | b :: p, j, k + 1, h => by
    rw [List.take_succ_cons, atN, walkN]
    cases kidN (getN ns j) b with
    | none => exact ⟨⟨fun h => by simp at h, fun h => by cases h⟩, fun i hi => by cases hi⟩
    | some i =>
      obtain ⟨h1, h2⟩ := walk_at ns p i k (by simpa using h)
      refine ⟨⟨fun hl => h1.1 (by simpa using hl), fun hs => by have := h1.2 hs; simpa using this⟩, fun m hm => ?_⟩
      rw [List.getD_cons_succ]
      exact h2 m hm
theorem walk_full {ns : List Nd} {p : List Nat} : ((walkN ns 0 p).length = p.length + 1) ↔ (atN ns 0 p).isSome = true := by
  have h := (walk_at ns p 0 p.length (Nat.le_refl _)).1
  rw [List.take_length] at h
  have := walk_len ns p 0
  constructor
  · intro he; exact h.1 (by omega)
  · intro hs; have := h.2 hs; omega
theorem walk_last {ns : List Nd} {p : List Nat} {i : Nat} (h : atN ns 0 p = some i) : (walkN ns 0 p).getD p.length 0 = i := by
  have := (walk_at ns p 0 p.length (Nat.le_refl _)).2 i
  rw [List.take_length] at this
  exact this h
theorem len_test {ns : List Nd} {base bits : Int} (hr : 0 ≤ bits ∧ bits ≤ 32) : (((walkN ns 0 (pathB base bits)).length : Int) == IntKind.i64.wrap (bits + 1)) = (atN ns 0 (pathB base bits)).isSome := by
  have h := walk_full (ns := ns) (p := pathB base bits)
  rw [pathB_len] at h
  rw [wrap_i64_id (by omega)]
  cases hs : (atN ns 0 (pathB base bits)).isSome with
  | true =>
    rw [hs] at h
    have := h.2 rfl
    simp only [beq_iff_eq]
    omega
  | false =>
    rw [hs] at h
    simp only [beq_eq_false_iff_ne]
    intro he
    have := h.1 (by omega)
    cases this
theorem hasM_eq (ns : List Nd) (base bits : Int) : hasM ns base bits = (rightA base bits && isAt ns (pathB base bits)) := by
  unfold hasM
  cases hr : rightA base bits with
  | false => rfl
  | true =>
    rw [len_test (right_rng hr), Bool.true_and, Bool.true_and]
    unfold isAt
    cases ha : atN ns 0 (pathB base bits) with
    | none => rfl
    | some j =>
      have := walk_last ha
      rw [pathB_len] at this
      rw [this]
      rfl

/-! ### nodes that are there once -/
def Inj (ns : List Nd) : Prop := ∀ p q j, Bin p → Bin q → atN ns 0 p = some j → atN ns 0 q = some j → p = q
theorem at_lt {ns : List Nd} (h : WfN ns) : ∀ (p : List Nat) (j i : Nat), j < ns.length → atN ns j p = some i → i < ns.length
  | [], j, i, hj, he => by cases he; exact hj
  | b :: p, j, i, hj, he => by
    rw [atN] at he
    cases hk : kidN (getN ns j) b with
    | none => rw [hk] at he; cases he
    | some k => rw [hk] at he; exact at_lt h p k i (h.2 _ _ _ hk) he
theorem at_lt0 {ns : List Nd} (h : WfN ns) {p : List Nat} {i : Nat} (he : atN ns 0 p = some i) : i < ns.length := at_lt h p 0 i h.1 he
theorem at_add {ns : List Nd} (hw : WfN ns) (hi : Inj ns) {p : List Nat} {j b : Nat} (hp : Bin p) (hb : b < 2) (hj : atN ns 0 p = some j) (hk : kidN (getN ns j) b = none) :
    ∀ q, Bin q → atN (addN ns j b) 0 q = if q = p ++ [b] then some ns.length else atN ns 0 q := by
  have hjl := at_lt0 hw hj
  refine snocInd ?_ ?_
  · intro _
    rw [if_neg (by intro h; have := congrArg List.length h; simp at this)]
    rfl
  · intro q c ih hq
    have ih := ih hq.left
    have hc : c < 2 := hq.right c (List.mem_singleton.2 rfl)
    rw [at_snoc, ih]
    by_cases h1 : q = p ++ [b]
    · subst h1
      rw [if_pos rfl, if_neg (by intro h; have := congrArg List.length h; simp at this), at_snoc, at_snoc, hj]
      show kidN (getN (addN ns j b) ns.length) c = (kidN (getN ns j) b).bind _
      rw [addN_get hjl, if_neg (by omega), getN_ge (Nat.le_refl _), kid_nd0, hk]
      rfl
    · rw [if_neg h1, at_snoc]
      by_cases h2 : q = p
      · subst h2
        rw [hj]
        show kidN (getN (addN ns j b) j) c = if q ++ [c] = q ++ [b] then some ns.length else kidN (getN ns j) c
        rw [addN_get hjl, if_pos rfl, kid_set _ _ _ _ hb hc]
        by_cases h3 : c = b
        · subst h3; rw [if_pos rfl, if_pos rfl]
        · rw [if_neg h3, if_neg (by intro h; exact h3 (by simpa using h))]
      · rw [if_neg (by intro h; exact h2 (List.append_inj_left' h rfl))]
        cases hqa : atN ns 0 q with
        | none => rfl
        | some i =>
          have hij : i ≠ j := by rintro rfl; exact h2 (hi q p i hq.left hp hqa hj)
          show kidN (getN (addN ns j b) i) c = kidN (getN ns i) c
          rw [addN_get hjl, if_neg hij]
theorem add_inj {ns : List Nd} (hw : WfN ns) (hi : Inj ns) {p : List Nat} {j b : Nat} (hp : Bin p) (hb : b < 2) (hj : atN ns 0 p = some j) (hk : kidN (getN ns j) b = none) : Inj (addN ns j b) := by
  intro q q' i hq hq' h1 h2
  rw [at_add hw hi hp hb hj hk q hq] at h1
  rw [at_add hw hi hp hb hj hk q' hq'] at h2
  split at h1 <;> split at h2
  · rename_i e1 e2; rw [e1, e2]
  · cases h1; exact absurd (at_lt0 hw h2) (Nat.lt_irrefl _)
  · cases h2; exact absurd (at_lt0 hw h1) (Nat.lt_irrefl _)
  · exact hi q q' i hq hq' h1 h2
/-- A way is made. -/
theorem mk_spec : ∀ (p : List Nat) (p0 : List Nat) (ns : List Nd) (j : Nat), WfN ns → Inj ns → Bin p0 → Bin p → atN ns 0 p0 = some j →
    WfN (mkN ns j p).1 ∧ Inj (mkN ns j p).1 ∧ atN (mkN ns j p).1 0 (p0 ++ p) = some (mkN ns j p).2 ∧ (∀ q i, Bin q → atN ns 0 q = some i → atN (mkN ns j p).1 0 q = some i ∧ (getN (mkN ns j p).1 i).is = (getN ns i).is) ∧
      (∀ q i, Bin q → atN (mkN ns j p).1 0 q = some i → atN ns 0 q = some i ∨ (atN ns 0 q = none ∧ (∃ r, p0 ++ p = q ++ r) ∧ (getN (mkN ns j p).1 i).is = false))
  | [], p0, ns, j, hw, hi, h0, hp, hj => by
    rw [mkN, List.append_nil]
    exact ⟨hw, hi, hj, fun q i _ h => ⟨h, rfl⟩, fun q i _ h => .inl h⟩
  | b :: p, p0, ns, j, hw, hi, h0, hp, hj => by
    have hb : b < 2 := hp b (List.mem_cons_self ..)
    have hp' : Bin p := fun c hc => hp c (List.mem_cons_of_mem _ hc)
    have happ : p0 ++ b :: p = (p0 ++ [b]) ++ p := by simp
    rw [mkN, happ]
    cases hk : kidN (getN ns j) b with
    | some i =>
      exact mk_spec p (p0 ++ [b]) ns i hw hi (h0.app (.one hb)) hp' (by rw [at_snoc, hj]; exact hk)
    | none =>
      have hjl := at_lt0 hw hj
      have ha := at_add hw hi h0 hb hj hk
      obtain ⟨g1, g2, g3, g4, g5⟩ := mk_spec p (p0 ++ [b]) (addN ns j b) ns.length (addN_wf hjl hw) (add_inj hw hi h0 hb hj hk) (h0.app (.one hb)) hp' (by rw [ha _ (h0.app (.one hb)), if_pos rfl])
      have hnew : ∀ i, i < ns.length → (getN (addN ns j b) i).is = (getN ns i).is := by
        intro i hil
        rw [addN_get hjl]
        split
        · rename_i he; subst he; cases b <;> rfl
        · rfl
      have hnone : atN ns 0 (p0 ++ [b]) = none := by rw [at_snoc, hj]; exact hk
      refine ⟨g1, g2, g3, fun q i hq h => ?_, fun q i hq h => ?_⟩
      · have hne : q ≠ p0 ++ [b] := by rintro rfl; rw [hnone] at h; cases h
        obtain ⟨k1, k2⟩ := g4 q i hq (by rw [ha q hq, if_neg hne]; exact h)
        exact ⟨k1, k2.trans (hnew i (at_lt0 hw h))⟩
      · rcases g5 q i hq h with h1 | ⟨h1, h2, h3⟩
        · rw [ha q hq] at h1
          split at h1
          · rename_i he
            cases h1
            subst he
            refine .inr ⟨hnone, ⟨p, rfl⟩, ?_⟩
            obtain ⟨k1, k2⟩ := g4 (p0 ++ [b]) ns.length hq (by rw [ha _ hq, if_pos rfl])
            have e : (getN (addN ns j b) ns.length).is = false := by rw [addN_get hjl, if_neg (by omega), getN_ge (Nat.le_refl _)]; rfl
            exact k2.trans e
          · exact .inl h1
        · rw [ha q hq] at h1
          split at h1
          · cases h1
          · exact .inr ⟨h1, h2, h3⟩
end Go.Proofs.Ytndacggailoogaa.Tri
