/- An abstract machine over values by content, fourteenth part: of what an operation's outcome hangs. -/
import Derived.Test.YtacafjapnppacaaSxM
namespace Go.Proofs.Ytacafjapnppacaa.Sx
open Go Go.RowKit

section
variable {A : Nat → Type} (P : Program) (u : U A) (tab : List (Nat × Spec A))

/-- The own blocks that a value names. -/
def ids : SV A → List Nat
  | .optr id _ => [id]
  | .rptr id _ _ => [id]
  | .osl id _ _ => [id]
  | .agg l => go l
  | .tup l => go l
  | .fn _ l => go l
  | .cptr l _ => go l
  | .wh _ _ x => ids x
  | _ => []
where go : List (SV A) → List Nat
  | [] => []
  | x :: r => ids x ++ go r
theorem ids_go_mem {id : Nat} : ∀ {l : List (SV A)} {x : SV A}, x ∈ l → id ∈ ids x → id ∈ ids.go l := by
  intro l
  induction l with
  | nil => intro x hx; cases hx
  | cons y r ih =>
    intro x hx h
    rw [ids.go, List.mem_append]
    rcases List.mem_cons.1 hx with rfl | hx
    · exact .inl h
    · exact .inr (ih hx h)
def Own.tag : Own A → Nat
  | .free => 0
  | .dead => 1
  | .var _ => 2
  | .row T _ => 3 + 2 * T
  | .fro T _ => 4 + 2 * T
theorem tag_free {o : Own A} (h : o.tag = 0) : o = .free := by cases o <;> simp only [Own.tag] at h <;> first | rfl | omega
theorem tag_isVar {o o' : Own A} (h : o.tag = o'.tag) : o.isVar = o'.isVar := by
  cases o <;> cases o' <;> simp only [Own.tag] at h <;> first | rfl | omega
theorem live_congr {own own' : Nat → Own A} {x : SV A} (h : ∀ id ∈ ids x, (own id).tag = (own' id).tag) : live own x = live own' x := by
  unfold live
  split
  · rename_i id off
    exact tag_isVar (h id (by simp [ids]))
  · rfl
  · rename_i id i off
    have := h id (by simp [ids])
    generalize own id = o at *
    generalize own' id = o' at *
    cases o <;> cases o' <;> simp only [Own.tag] at this <;> first | rfl | omega
  · rename_i id i off
    have := h id (by simp [ids])
    generalize own id = o at *
    generalize own' id = o' at *
    cases o <;> cases o' <;> simp only [Own.tag] at this <;> first | rfl | omega
  · rfl
  · rfl
theorem cellOk_congr {own own' : Nat → Own A} {x : SV A} (h : ∀ id ∈ ids x, (own id).tag = (own' id).tag) : cellOk own x = cellOk own' x := by
  unfold cellOk
  split <;> first | rfl | exact live_congr h
theorem all_congr {own own' : Nat → Own A} : ∀ {l : List (SV A)}, (∀ id ∈ ids.go l, (own id).tag = (own' id).tag) → l.all (cellOk own) = l.all (cellOk own')
  | [], _ => rfl
  | x :: l, h => by
    simp only [List.all_cons]
    rw [cellOk_congr (fun id hi => h id (by rw [ids.go]; exact List.mem_append_left _ hi)), all_congr (fun id hi => h id (by rw [ids.go]; exact List.mem_append_right _ hi))]
theorem cellsV_congr {own own' : Nat → Own A} {x : SV A} (h : ∀ id ∈ ids x, (own id).tag = (own' id).tag) : cellsV own x = cellsV own' x := by
  unfold cellsV
  split
  · rw [all_congr (fun id hi => h id (by rw [ids]; exact hi))]
  · rw [cellOk_congr h]
theorem fillS_congr {own own' : Nat → Own A} {place : Nat → Option (Nat × Nat)} : ∀ {ps : List (Nat × SV A)} {z : List (SV A)}, (∀ p ∈ ps, ∀ id ∈ ids p.2, (own id).tag = (own' id).tag) → fillS own place z ps = fillS own' place z ps
  | [], _, _ => rfl
  | (i, x) :: r, z, h => by
    unfold fillS
    rw [cellsV_congr (own' := own') (fun id hi => h (i, x) (List.mem_cons_self ..) id hi)]
    cases place i with
    | none => rfl
    | some p =>
      cases cellsV own' x with
      | none => rfl
      | some l =>
        simp only []
        rw [fillS_congr (fun p hp => h p (List.mem_cons_of_mem _ hp))]
theorem rowS_congr {own own' : Nat → Own A} {ev : Operand → SV A} {el : Nat} : ∀ {ps : List (Nat × Operand)} {i : Nat}, (∀ p ∈ ps, ∀ id ∈ ids (ev p.2), (own id).tag = (own' id).tag) → rowS u own ev el i ps = rowS u own' ev el i ps
  | [], _, _ => rfl
  | (j, x) :: r, i, h => by
    unfold rowS
    rw [cellsV_congr (fun id hi => h (j, x) (List.mem_cons_self ..) id hi)]
    rw [rowS_congr (fun p hp => h p (List.mem_cons_of_mem _ hp))]

/-- Operations whose outcome hangs of what stands in a block; those that write into one; those that lay one. -/
def strict : Op → Bool
  | .load _ _ | .store _ _ _ => true
  | .call c => match c.callee with
    | .value _ => true
    | _ => false
  | _ => false
def stores : Op → Bool
  | .store _ _ _ => true
  | _ => false
def makes : Op → Bool
  | .box _ _ | .alloc _ | .buildSlice _ _ _ => true
  | _ => false
/-- Two memories are alike for an operation. -/
structure Alike (o : Oper) (own own' : Nat → Own A) (ev : Operand → SV A) : Prop where
  tag : ∀ x ∈ o.op.operands.toList, ∀ id ∈ ids (ev x), (own id).tag = (own' id).tag
  eq : strict o.op = true → ∀ x ∈ o.op.operands.toList, ∀ id ∈ ids (ev x), own id = own' id
theorem loadS_congr {own own' : Nat → Own A} {t : TypeId} {x : SV A} (h : ∀ id ∈ ids x, own id = own' id) : loadS P u own t x = loadS P u own' t x := by
  unfold loadS
  split
  · rename_i id off; rw [h id (by simp [ids])]
  · rfl
  · rename_i id i off; rw [h id (by simp [ids])]
  · rfl
theorem rowO_congr {o o' : Own A} {el : Nat} {x : Option (Option Prop × SV A)} (h : o.tag = o'.tag) :
    (match (motive := Own A → Option (Option Prop × SV A)) o with | .row T _ => if T = el then x else none | .fro T _ => if T = el then x else none | _ => none) = (match (motive := Own A → Option (Option Prop × SV A)) o' with | .row T _ => if T = el then x else none | .fro T _ => if T = el then x else none | _ => none) := by
  cases o with
  | row T xs =>
    cases o' with
    | row S ys => have : T = S := by simp only [Own.tag] at h; omega
                  subst this; rfl
    | _ => simp only [Own.tag] at h; omega
  | fro T xs =>
    cases o' with
    | fro S ys => have : T = S := by simp only [Own.tag] at h; omega
                  subst this; rfl
    | _ => simp only [Own.tag] at h; omega
  | _ => cases o' <;> simp only [Own.tag] at h <;> first | rfl | omega
theorem indexAddrS_congr {own own' : Nat → Own A} {t : TypeId} {x i : SV A} (h : ∀ id ∈ ids x, (own id).tag = (own' id).tag) : indexAddrS P u own t x i = indexAddrS P u own' t x i := by
  unfold indexAddrS
  rw [live_congr h]
  split
  · split
    · rfl
    · split
      · split
        · rfl
        · rename_i id lo len
          have := h id (by simp [ids])
          generalize own id = o at *
          generalize own' id = o' at *
          exact rowO_congr this
        · rfl
      · rfl
    · rfl
  · rfl
theorem builtinS_congr {own own' : Nat → Own A} {b : Builtin} {ts : List TypeId} {xs : List (SV A)} (h : ∀ x ∈ xs, ∀ id ∈ ids x, (own id).tag = (own' id).tag) : builtinS P own b ts xs = builtinS P own' b ts xs := by
  unfold builtinS
  split
  · split
    · rename_i id lo n
      rw [live_congr (h _ (List.mem_cons_self ..))]
    · rfl
  · rfl
  · rfl
  · rfl
theorem killS_congr {own own' : Nat → Own A} {t1 t2 : TypeId} {x : SV A} (h : ∀ id ∈ ids x, (own id).tag = (own' id).tag) (hn : killS P own t1 t2 x = none) : killS P own' t1 t2 x = none := by
  unfold killS at hn ⊢
  split
  · rename_i el hel
    simp only [hel] at hn
    split
    · rename_i hu
      simp only [hu] at hn
      split
      · rename_i id lo len
        simp only at hn
        have := h id (by simp [ids])
        split
        · rename_i T xs ho
          rw [ho] at this
          split
          · rename_i hb
            exfalso
            generalize own id = q at *
            cases q with
            | row S ys => simp only [if_pos hb] at hn; cases hn
            | _ => simp only [Own.tag] at this; omega
          · rfl
        · rfl
      · rfl
    · rfl
  · rfl
theorem argS_congr {own own' : Nat → Own A} {x : SV A} (h : ∀ id ∈ ids x, own id = own' id) : argS own x = argS own' x ∧ rowArg own x = rowArg own' x := by
  unfold argS rowArg
  cases x <;> first | exact ⟨rfl, rfl⟩ | skip
  rename_i id lo len
  have := h id (by simp [ids])
  simp only [this]
  exact ⟨trivial, trivial⟩
theorem args_congr {own own' : Nat → Own A} : ∀ {xs : List (SV A)}, (∀ x ∈ xs, ∀ id ∈ ids x, own id = own' id) → xs.map (argS own) = xs.map (argS own') ∧ anyRow own xs = anyRow own' xs
  | [], _ => ⟨rfl, rfl⟩
  | x :: r, h => by
    obtain ⟨h1, h2⟩ := argS_congr (h x (List.mem_cons_self ..))
    obtain ⟨h3, h4⟩ := args_congr (fun y hy => h y (List.mem_cons_of_mem _ hy))
    exact ⟨by simp only [List.map_cons, h1, h3], by simp only [anyRow, h2, h4]⟩
theorem callS_congr {own own' : Nat → Own A} {f : SV A} {xs : List (SV A)} (h : ∀ x ∈ xs, ∀ id ∈ ids x, own id = own' id) : callS P tab own f xs = callS P tab own' f xs := by
  obtain ⟨h1, h2⟩ := args_congr h
  unfold callS
  rw [h1, h2]
theorem pure_congr {own own' : Nat → Own A} {o : Oper} {ev : Operand → SV A} (h : Alike o own own' ev) : pureS P u own o ev = pureS P u own' o ev := by
  obtain ⟨dst, op, type, pos, after, guard⟩ := o
  obtain ⟨h1, h2⟩ := h
  unfold pureS
  cases op <;> simp only [] <;> simp only [Op.operands] at h1 h2
  case load t a => rw [loadS_congr P u (h2 rfl a (by simp))]
  case fieldAddr t x i =>
    unfold fieldAddrS
    rw [live_congr (h1 x (by simp))]
  case indexAddr t x i => exact indexAddrS_congr P u (h1 x (by simp))
  case build t ps =>
    unfold buildS
    split
    · rw [fillS_congr]
      intro p hp id hid
      obtain ⟨q, hq, rfl⟩ := List.mem_map.1 hp
      exact h1 q.2 (by simpa using ⟨q.1, by simpa using hq⟩) id hid
    · rfl
  case slice t x lo hi m => cases m <;> rfl
  case nilCheck x =>
    have := h1 x (by simp)
    generalize ev x = z at *
    cases z <;> first | rfl | skip
    · simp only []; rw [live_congr this]
    · simp only []; rw [live_congr this]
  case call c =>
    split
    · rename_i b hb
      rw [builtinS_congr]
      intro x hx id hid
      obtain ⟨y, hy, rfl⟩ := List.mem_map.1 hx
      refine h1 y ?_ id hid
      simp only [Call.operands]
      simp [hb] <;> simpa using hy
    · rfl
theorem heap_congr {k : Nat} {own own' : Nat → Own A} {o : Oper} {ev : Operand → SV A} {y : SV A} {r : Nat → Own A} (h : Alike o own own' ev) (hk : makes o.op = true → own k = .free → own' k = .free) (hh : heapS P u k own o ev = some (y, r)) :
    ∃ t x, r = upd own t x ∧ heapS P u k own' o ev = some (y, upd own' t x) ∧ x.tag ≠ 0 ∧ ((makes o.op = true ∧ t = k ∧ own k = .free) ∨ (stores o.op = true ∧ (∃ z ∈ o.op.operands.toList, t ∈ ids (ev z)) ∧ x.tag = (own t).tag)) := by
  obtain ⟨dst, op, type, pos, after, guard⟩ := o
  obtain ⟨h1, h2⟩ := h
  unfold heapS at hh ⊢
  cases op <;> simp only [] at hh ⊢ <;> simp only [Op.operands] at h1 h2 <;> first | cases hh | skip
  case box t x =>
    rw [← cellsV_congr (h1 x (by simp))]
    split at hh
    · rename_i cells hc hf
      cases hh
      exact ⟨k, _, rfl, by rw [hk rfl hf, hc], by simp [Own.tag], .inl ⟨rfl, rfl, hf⟩⟩
    · cases hh
  case alloc t =>
    split at hh
    · rename_i cells hc hf
      cases hh
      exact ⟨k, _, rfl, by rw [hk rfl hf, hc], by simp [Own.tag], .inl ⟨rfl, rfl, hf⟩⟩
    · cases hh
  case store t a x =>
    rw [← cellsV_congr (h1 x (by simp))]
    split at hh
    · rename_i l hl
      split at hh
      · rename_i hlen
        rw [if_pos hlen]
        have ha := h2 rfl a (by simp)
        generalize hz : ev a = z at *
        cases z <;> simp only [] at hh ⊢ <;> first | cases hh | skip
        · rename_i id off
          have := ha id (by simp [ids])
          rw [← this]
          split at hh
          · rename_i cs hcs
            split at hh
            · rename_i hle
              cases hh
              exact ⟨id, _, rfl, by rw [if_pos hle], by simp [Own.tag], .inr ⟨rfl, ⟨a, by simp [Op.operands], by rw [hz]; simp [ids]⟩, by rw [hcs]; rfl⟩⟩
            · cases hh
          · cases hh
        · rename_i id idx off
          have := ha id (by simp [ids])
          rw [← this]
          split at hh
          · rename_i T xs hcs
            split at hh
            · rename_i hle
              split at hh
              · rename_i y' hy'
                cases hh
                exact ⟨id, _, rfl, by rw [if_pos hle], by simp only [Own.tag]; omega, .inr ⟨rfl, ⟨a, by simp [Op.operands], by rw [hz]; simp [ids]⟩, by rw [hcs]; rfl⟩⟩
              · cases hh
            · cases hh
          · cases hh
      · cases hh
    · cases hh
  case buildSlice t len ps =>
    split at hh
    · rename_i el hel
      rw [rowS_congr u (own := own') (own' := own)] 
      · split at hh
        · rename_i xs a b z hxs hf ha hz
          split at hh
          · rename_i hb
            cases hh
            exact ⟨k, _, rfl, by rw [hxs, hk rfl hf, hz, ha]; simp only [if_pos hb], by simp only [Own.tag]; omega, .inl ⟨rfl, rfl, hf⟩⟩
          · cases hh
        · cases hh
      · intro p hp id hid
        exact (h1 p.2 (by simpa using ⟨p.1, by simpa using hp⟩) id hid).symm
    · cases hh
end
end Go.Proofs.Ytacafjapnppacaa.Sx
