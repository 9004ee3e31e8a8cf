/- An abstract machine over values by content, ninth part, b: calls by contract. -/
import Derived.Test.YtcgeccpookgoeaaSxI
namespace Go.Proofs.Ytcgeccpookgoeaa.Sx
open Go Go.RowKit

section
variable {A : Nat → Type} (P : Program) (u : U A)

/-- The rows that a callee's answer may hang of are written to no more. -/
def restS (own : Nat → Own A) : List Nat → Option (Eff A)
  | [] => some []
  | id :: r => match own id with
    | .row T xs => (match restS (upd own id (.fro T xs)) r with
      | some f => some ((id, .fro T xs) :: f)
      | none => none)
    | .var _ => none
    | .mp _ _ _ => none
    | .rowC _ _ _ _ => none
    | _ => restS own r
theorem rest_sound {w0 : W0} {O0 : Nat → Prop} : ∀ {L : List Nat} {e : E A} {f : Eff A}, HR P u w0 O0 e → restS e.own L = some f → ∃ e', e'.w = e.w ∧ HR P u w0 O0 e' ∧ Ext e e' ∧ e'.own = updL e.own f ∧ e'.β = e.β ∧ (∀ b, e'.O b → e.O b) ∧ (∀ id ∈ L, (e'.own id).mut = false) ∧ ∀ id, (e.own id ≠ .free ↔ e'.own id ≠ .free) ∧ (e.own id ≠ .dead ↔ e'.own id ≠ .dead) ∧ ((e'.own id).mut = true → (e.own id).mut = true)
  | [], e, f, hr, h => by cases h; exact ⟨e, rfl, hr, .refl e, rfl, rfl, fun _ h => h, by simp, fun _ => ⟨Iff.rfl, Iff.rfl, fun h => h⟩⟩
  | id :: r, e, f, hr, h => by
    unfold restS at h
    split at h
    · rename_i T xs ho
      split at h
      · rename_i f' hf
        cases h
        obtain ⟨h1, h2⟩ := hr.froze P u ho
        obtain ⟨e2, b1, b2, b3, b4, b5, b6, b7, b8⟩ := rest_sound (e := mkE O0 e.w (upd e.own id (.fro T xs)) e.β) h2 hf
        have hstep : ∀ q, (e.own q ≠ .free ↔ upd e.own id (.fro T xs) q ≠ .free) ∧ (e.own q ≠ .dead ↔ upd e.own id (.fro T xs) q ≠ .dead) ∧ ((upd e.own id (.fro T xs) q).mut = true → (e.own q).mut = true) := by
          intro q
          by_cases hq : q = id
          · subst hq; rw [upd_same, ho]; simp [Own.mut]
          · rw [upd_ne _ _ hq]; exact ⟨Iff.rfl, Iff.rfl, fun h => h⟩
        refine ⟨e2, b1, b2, h1.trans b3, b4, b5, fun b hb => ?_, fun q hq => ?_, fun q => ⟨(hstep q).1.trans (b8 q).1, (hstep q).2.1.trans (b8 q).2.1, fun h => (hstep q).2.2 ((b8 q).2.2 h)⟩⟩
        · rcases b6 b hb with h0 | ⟨q, c, g1, g2⟩
          · exact (hr.O b).2 (.inl h0)
          · exact hr.ownO P u ((hstep q).2.2 g1) g2
        · rcases List.mem_cons.1 hq with rfl | hq
          · by_cases hm : (e2.own q).mut = true
            · have := (b8 q).2.2 hm
              simp only [mkE, upd_same, Own.mut] at this
              cases this
            · simpa using hm
          · exact b7 q hq
      · cases h
    · cases h
    · cases h
    · cases h
    · rename_i hn1 hn2 hn3 hn4
      obtain ⟨e2, b1, b2, b3, b4, b5, b6, b7, b8⟩ := rest_sound hr h
      refine ⟨e2, b1, b2, b3, b4, b5, b6, fun q hq => ?_, b8⟩
      rcases List.mem_cons.1 hq with rfl | hq
      · by_cases hm : (e2.own q).mut = true
        · have := (b8 q).2.2 hm
          generalize he : e.own q = o at *
          cases o with
          | var c => exact absurd rfl (hn2 c)
          | row T xs => exact absurd HEq.rfl (by intro h; exact hn1 T xs (eq_of_heq h))
          | mp K V kvs => exact absurd rfl (hn3 K V kvs)
          | rowC T xs k cs => exact absurd HEq.rfl (by intro h; exact hn4 T xs k cs (eq_of_heq h))
          | _ => cases this
        · simpa using hm
      · exact b7 q hq
def callP (own : Nat → Own A) (sp : Spec A) (xs : List (SV A)) : HRes A := match sp (xs.map (argS u own)) with
  | some (c, y) => if noOwn y then (if flat y then some (c, y, []) else (match restS own (ids.go xs) with
    | some f => some (c, y, f)
    | none => none)) else none
  | none => none
/-- What lies behind a call: nothing of what was there has turned. -/
def afterE (e : E A) (w' : World) : E A := { e with w := w' }
theorem HR.after {w0 : W0} {O0 : Nat → Prop} {e : E A} (hr : HR P u w0 O0 e) {w' : World} (hb : Below e.w.heap.size e.w w') : HR P u w0 O0 (afterE e w') ∧ Ext e (afterE e w') := by
  obtain ⟨h1, h2⟩ := hr.world P u (w' := w') hb.os hb.tape hb.output hb.size (fun b hb' _ => hb.block b hb') (fun id hf hd hx => (hr.ent id).later P u hx rfl (fun b c hβ => hb.block b (hr.lt P u hf hd hβ)))
  exact ⟨h2, h1⟩
theorem callP_sound (hclean : ∀ T x, noOwn.go (u.enc T x) = true) {w0 : W0} {O0 : Nat → Prop} {e : E A} (hr : HR P u w0 O0 e) {f : Nat} {sp : Spec A} (hsp : FnOk P u f sp) {xs : List (SV A)} {vs : List Value} {c : Option Prop} {y : SV A} {F : Eff A}
    (hx : RepL P u e xs vs) (h : callP u e.own sp xs = some (c, y, F)) (hc : holds c) :
    Calls P f vs.toArray e.w fun r w' => ∃ v e', r = .returned v ∧ e'.w = w' ∧ HR P u w0 O0 e' ∧ Ext e e' ∧ e'.own = updL e.own F ∧ RepL P u e' [y] [v] := by
  unfold callP at h
  split at h
  case h_2 => cases h
  rename_i c' y' hs
  split at h
  case isFalse => cases h
  rename_i hno
  have hargs := args_rep P u hclean hr (L := ids.go xs) hx (fun id hi => hi)
  split at h
  · rename_i hfl
    cases h
    refine (hsp _ _ _ hs hc e.w (quietO e (ids.go xs)) vs (fun b hb => hr.O_lt P u b hb.1) hargs).mono ?_
    rintro r w' ⟨v, rfl, hbel, hv⟩
    obtain ⟨h1, h2⟩ := hr.after P u hbel
    exact ⟨v, _, rfl, rfl, h1, h2, rfl, hv.flat P u (by simp [flat.go, hfl])⟩
  · split at h
    case h_2 => cases h
    rename_i f' hf
    cases h
    refine (hsp _ _ _ hs hc e.w (quietO e (ids.go xs)) vs (fun b hb => hr.O_lt P u b hb.1) hargs).mono ?_
    rintro r w' ⟨v, rfl, hbel, hv⟩
    obtain ⟨h1, h2⟩ := hr.after P u hbel
    obtain ⟨e2, b1, b2, b3, b4, b5, b6, b7, b8⟩ := rest_sound P u (e := afterE e w') h1 hf
    refine ⟨v, e2, rfl, b1, b2, h2.trans b3, b4, hv.unbare P u hclean (e := outer w' (quietO e (ids.go xs))) (e' := e2) b1 (fun b hb hO => hb ⟨b6 b hO, ?_⟩) (by simp [noOwn.go, hno])⟩
    rintro ⟨id, c', hid, hf1, hd1, hβ⟩
    have hl1 := (b8 id).1.1 hf1
    have hl2 := (b8 id).2.1.1 hd1
    have hβ2 : e2.β id = some (b, c') := by rw [b5]; exact hβ
    rcases (b2.O b).1 hO with h0 | ⟨id2, c2, g1, g2⟩
    · exact b2.notO0 P u hl1 hl2 hβ2 h0
    · have := b2.inj id id2 b c' c2 hl1 hl2 (mut_live g1).1 (mut_live g1).2 hβ2 g2
      subst this
      rw [b7 id hid] at g1
      cases g1

/-! ### blocks that are handed to be written -/
def memN (x : Nat) : List Nat → Bool
  | [] => false
  | y :: r => Nat.beq x y || memN x r
def addN (l : List Nat) : List Nat → List Nat
  | [] => l
  | x :: r => addN (if memN x l then l else l ++ [x]) r
/-- The blocks that are reached, in order. -/
def reach (own : Nat → Own A) : Nat → List Nat → Nat → List Nat
  | 0, l, _ => l
  | n + 1, l, i => match l[i]? with
    | some id => (match own id with
      | .var cs => reach own n (addN l (ids.go cs)) (i + 1)
      | _ => reach own n l (i + 1))
    | none => l
def idxN (x : Nat) : List Nat → Nat → Nat
  | [], i => i
  | y :: r, i => if Nat.beq x y then i else idxN x r (i + 1)
def getN (l : List Nat) (k j : Nat) : Nat := match l[j]? with
  | some id => id
  | none => k + (j - l.length)
def nodupN : List Nat → Bool
  | [] => true
  | x :: r => !memN x r && nodupN r
def allLt (n : Nat) : List Nat → Bool
  | [] => true
  | x :: r => Nat.blt x n && allLt n r
def mapI (l : List Nat) (own : Nat → Own A) (φ : Nat → Nat) : List (Own A) := match l with
  | [] => []
  | x :: r => renO φ (own x) :: mapI r own φ
def idsO : Own A → List Nat
  | .var cs => ids.go cs
  | .rowC _ _ _ cs => ids.go cs
  | _ => []
def idsOs : List (Own A) → List Nat
  | [] => []
  | o :: r => idsO o ++ idsOs r
/-- The new numbers of a callee's blocks are free. -/
def freeB (own : Nat → Own A) (k : Nat) : Nat → Bool
  | 0 => true
  | n + 1 => (match own (k + n) with
    | .free => true
    | _ => false) && freeB own k n
def effI (φ : Nat → Nat) : List (Own A) → Nat → Eff A
  | [], _ => []
  | o :: r, j => (φ j, renO φ o) :: effI φ r (j + 1)
def liveAll (own : Nat → Own A) : List Nat → Bool
  | [] => true
  | x :: r => (own x).mut && liveAll own r
def callH (k : Nat) (own : Nat → Own A) (sp : HSpec A) (xs : List (SV A)) : HRes A := match reach own 32 (addN [] (ids.go xs)) 0 with
  | l => match ren.go (fun x => idxN x l 0) xs with
    | xs' => match mapI l own (fun x => idxN x l 0) with
      | os => match sp xs' os with
        | some (c, y, os2) => if nodupN l && liveAll own l && allLt l.length (ids.go xs') && allLt l.length (idsOs os) && Nat.ble l.length os2.length && (freeB own k (os2.length - l.length) && Nat.ble (os2.length - l.length) 64) && allLt os2.length (ids y) && allLt os2.length (idsOs os2)
            then some (c, ren (getN l k) y, effI (getN l k) os2 0) else none
        | none => none
theorem ids_ren (φ : Nat → Nat) : ∀ x : SV A, ids (ren φ x) = (ids x).map φ := by
  intro x
  apply SV.rec (motive_1 := fun x => ids (ren φ x) = (ids x).map φ) (motive_2 := fun l => ids.go (ren.go φ l) = (ids.go l).map φ)
  all_goals (intros; first | rfl | (simp only [ren, ids]; assumption) | (simp only [ren.go, ids.go, List.map_append]; simp [*]))
theorem ids_go_ren (φ : Nat → Nat) : ∀ l : List (SV A), ids.go (ren.go φ l) = (ids.go l).map φ
  | [] => rfl
  | x :: r => by simp only [ren.go, ids.go, List.map_append, ids_ren, ids_go_ren φ r]
theorem memN_iff {x : Nat} : ∀ {l : List Nat}, memN x l = true ↔ x ∈ l
  | [] => by simp [memN]
  | y :: r => by
    simp only [memN, Bool.or_eq_true, List.mem_cons, memN_iff (l := r)]
    constructor
    · rintro (h | h)
      · exact .inl (Nat.eq_of_beq_eq_true h)
      · exact .inr h
    · rintro (rfl | h)
      · exact .inl (Nat.beq_refl _)
      · exact .inr h
theorem nodup_get : ∀ {l : List Nat}, nodupN l = true → ∀ {i j x : Nat}, l[i]? = some x → l[j]? = some x → i = j
  | [], _, i, j, x, h, _ => by simp at h
  | y :: r, hn, i, j, x, hi, hj => by
    simp only [nodupN, Bool.and_eq_true, Bool.not_eq_true'] at hn
    have hno : y ∉ r := fun h => by rw [memN_iff.2 h] at hn; cases hn.1
    cases i with
    | zero =>
      cases j with
      | zero => rfl
      | succ j =>
        simp only [List.getElem?_cons_zero, Option.some.injEq] at hi
        subst hi
        exact absurd (List.mem_of_getElem? (by simpa using hj)) hno
    | succ i =>
      cases j with
      | zero =>
        simp only [List.getElem?_cons_zero, Option.some.injEq] at hj
        subst hj
        exact absurd (List.mem_of_getElem? (by simpa using hi)) hno
      | succ j => exact congrArg (· + 1) (nodup_get hn.2 (x := x) (by simpa using hi) (by simpa using hj))
theorem idxN_get {x : Nat} : ∀ {l : List Nat} {i : Nat}, i ≤ idxN x l i ∧ (idxN x l i < i + l.length → l[idxN x l i - i]? = some x)
  | [], i => by simp [idxN]
  | y :: r, i => by
    unfold idxN
    split
    · rename_i h
      have h := Nat.eq_of_beq_eq_true h
      subst h
      exact ⟨Nat.le_refl _, fun _ => by simp⟩
    · obtain ⟨h1, h2⟩ := idxN_get (x := x) (l := r) (i := i + 1)
      refine ⟨by omega, fun h => ?_⟩
      have h3 := h2 (by simp at h; omega)
      rw [show idxN x r (i + 1) - i = (idxN x r (i + 1) - (i + 1)) + 1 by omega]
      simpa using h3
theorem allLt_mem {n : Nat} : ∀ {l : List Nat}, allLt n l = true → ∀ x ∈ l, x < n
  | [], _, x, h => by cases h
  | y :: r, hn, x, h => by
    simp only [allLt, Bool.and_eq_true] at hn
    rcases List.mem_cons.1 h with rfl | h
    · have : x + 1 ≤ n := by simpa [Nat.blt] using hn.1
      omega
    · exact allLt_mem hn.2 x h
theorem mapI_get {own : Nat → Own A} {φ : Nat → Nat} : ∀ (l : List Nat) (j : Nat), (mapI l own φ)[j]? = (l[j]?).map fun id => renO φ (own id)
  | [], j => by simp [mapI]
  | x :: r, j => by
    cases j with
    | zero => simp [mapI]
    | succ j => simpa [mapI] using mapI_get r j
theorem idsOs_mem {os : List (Own A)} : ∀ {j : Nat} {o : Own A}, os[j]? = some o → ∀ id ∈ idsO o, id ∈ idsOs os := by
  induction os with
  | nil => intro j o h; simp at h
  | cons p r ih =>
    intro j o h id hid
    simp only [idsOs, List.mem_append]
    cases j with
    | zero => simp at h; subst h; exact .inl hid
    | succ j => exact .inr (ih (by simpa using h) id hid)
theorem liveAll_mem {own : Nat → Own A} : ∀ {l : List Nat}, liveAll own l = true → ∀ id ∈ l, (own id).mut = true
  | [], _, id, h => by cases h
  | y :: r, hn, id, h => by
    simp only [liveAll, Bool.and_eq_true] at hn
    rcases List.mem_cons.1 h with rfl | h
    · exact hn.1
    · exact liveAll_mem hn.2 id h
theorem freeB_get {own : Nat → Own A} {k : Nat} : ∀ {n i : Nat}, freeB own k n = true → i < n → own (k + i) = .free
  | n + 1, i, h, hi => by
    simp only [freeB, Bool.and_eq_true] at h
    by_cases hin : i = n
    · subst hin
      have := h.1
      generalize own (k + i) = o at *
      cases o <;> simp_all
    · exact freeB_get h.2 (by omega)
def updG {α : Type} (f : Nat → α) (g : Nat → Nat) : List α → Nat → Nat → α
  | [], _ => f
  | x :: r, j => updG (upd f (g j) x) g r (j + 1)
theorem updL_effI (own : Nat → Own A) (φ : Nat → Nat) : ∀ (os : List (Own A)) (j : Nat), updL own (effI φ os j) = updG own φ (os.map (renO φ)) j := by
  intro os
  induction os generalizing own with
  | nil => intro j; rfl
  | cons o r ih => intro j; exact ih (upd own (φ j) (renO φ o)) (j + 1)
theorem updG_other {α : Type} {g : Nat → Nat} {id : Nat} : ∀ {hs : List α} {f : Nat → α} {j : Nat}, (∀ i, i < hs.length → id ≠ g (j + i)) → updG f g hs j id = f id
  | [], f, j, _ => rfl
  | x :: r, f, j, h => by
    rw [updG, updG_other (hs := r) (fun i hi => by rw [Nat.add_right_comm, Nat.add_assoc]; exact h (i + 1) (by simpa using hi))]
    exact upd_ne _ _ (h 0 (by simp))
theorem updG_at {α : Type} {g : Nat → Nat} : ∀ {hs : List α} {f : Nat → α} {j i : Nat} {x : α}, (∀ i i', i < hs.length → i' < hs.length → g (j + i) = g (j + i') → i = i') → hs[i]? = some x → updG f g hs j (g (j + i)) = x
  | y :: r, f, j, i, x, hg, hi => by
    cases i with
    | zero =>
      simp only [List.getElem?_cons_zero, Option.some.injEq] at hi
      subst hi
      rw [updG, updG_other (hs := r) (fun i hi h => by
        have := hg 0 (i + 1) (by simp) (by simpa using hi) (by rw [h]; congr 1; omega)
        omega), Nat.add_zero, upd_same]
    | succ i =>
      rw [updG, show j + (i + 1) = j + 1 + i by omega]
      exact updG_at (hs := r) (fun a b ha hb h => by
        have := hg (a + 1) (b + 1) (by simpa using ha) (by simpa using hb) (by rw [show j + (a + 1) = j + 1 + a by omega, show j + (b + 1) = j + 1 + b by omega]; exact h)
        omega) (by simpa using hi)
theorem renO_live {φ : Nat → Nat} {o : Own A} : (renO φ o ≠ .free ↔ o ≠ .free) ∧ (renO φ o ≠ .dead ↔ o ≠ .dead) ∧ (renO φ o).mut = o.mut := by cases o <;> simp [renO, Own.mut]
theorem later_ren {φ ψ : Nat → Nat} {a b : Own A} (h : (renO φ a).later b) : a.later (renO ψ b) := by
  cases a <;> simp only [renO] at h <;> cases h <;> first | exact .dead _ | exact .var _ _ | (exact .row _ _ _ (by assumption)) | (exact .rowF _ _ _ (by assumption)) | exact .fro _ _ | exact .mp _ _ _ _ | exact .rowC _ _ _ _ _
theorem callH_sound (hclean : ∀ T x, noOwn.go (u.enc T x) = true) {w0 : W0} {O0 : Nat → Prop} {e : E A} (hr : HR P u w0 O0 e) {f k : Nat} {sp : HSpec A} (hsp : FnOkH P u f sp) {xs : List (SV A)} {vs : List Value} {c : Option Prop} {y : SV A} {F : Eff A}
    (hx : RepL P u e xs vs) (h : callH k e.own sp xs = some (c, y, F)) (hc : holds c) :
    Calls P f vs.toArray e.w fun r w' => ∃ v e', r = .returned v ∧ e'.w = w' ∧ HR P u w0 O0 e' ∧ Ext e e' ∧ e'.own = updL e.own F ∧ RepL P u e' [y] [v] := by
  unfold callH at h
  generalize hl : reach e.own 32 (addN [] (ids.go xs)) 0 = l at h
  simp only at h
  split at h
  case h_2 => cases h
  rename_i c0 y0 os2 hs
  split at h
  case isFalse => cases h
  rename_i hchk
  cases h
  simp only [Bool.and_eq_true] at hchk
  obtain ⟨⟨⟨⟨⟨⟨⟨k1, k2⟩, k3⟩, k4⟩, k5⟩, k6, _⟩, k7⟩, k8⟩ := hchk
  have k5 := Nat.le_of_ble_eq_true k5
  let φ := fun x => idxN x l 0
  let back := getN l k
  have hmutL := liveAll_mem k2
  have hlive : ∀ id ∈ l, e.own id ≠ .free ∧ e.own id ≠ .dead := fun id hid => mut_live (hmutL id hid)
  have hφ : ∀ id, φ id < l.length → l[φ id]? = some id := fun id h => by
    have := (idxN_get (x := id) (l := l) (i := 0)).2 (by simpa using h)
    simpa using this
  have hφx : ∀ id ∈ ids.go xs, φ id < l.length := fun id hid => allLt_mem k3 _ (by rw [ids_go_ren]; exact List.mem_map_of_mem hid)
  have hos : ∀ j, (mapI l e.own φ)[j]? = (l[j]?).map fun id => renO φ (e.own id) := fun j => mapI_get l j
  have hown : ∀ {j id : Nat}, l[j]? = some id → ownL (mapI l e.own φ) j = renO φ (e.own id) := by
    intro j id hj
    unfold ownL
    rw [hos, hj]
    rfl
  have hownN : ∀ {j : Nat}, l[j]? = none → ownL (mapI l e.own φ) j = .free := by
    intro j hj
    unfold ownL
    rw [hos, hj]
    rfl
  let M : Nat → Prop := fun b => ∃ id ∈ l, ∃ c, e.β id = some (b, c)
  let w0c : W0 := ⟨e.w, M, fun j => match l[j]? with | some id => some (e.β id) | none => none⟩
  let ec : E A := { w := e.w, O := e.O, own := ownL (mapI l e.own φ), β := fun j => match l[j]? with | some id => e.β id | none => none }
  have hβc : ∀ {j id : Nat}, l[j]? = some id → ec.β j = e.β id := by intro j id hj; show (match l[j]? with | some id => e.β id | none => none) = _; rw [hj]
  have hβcN : ∀ {j : Nat}, l[j]? = none → ec.β j = none := by intro j hj; show (match l[j]? with | some id => e.β id | none => none) = _; rw [hj]
  have hren : ∀ L : List Nat, (∀ id ∈ L, φ id < l.length) → Ren φ e ec L := fun L hL => ⟨rfl, fun _ h => h, fun id hid => hown (hφ id (hL id hid)), fun id hid _ _ => hβc (hφ id (hL id hid))⟩
  have hMfr : ∀ b, M b → w0.fr b := by
    rintro b ⟨id, hid, c, hβ⟩
    exact hr.frb P u (hlive id hid).1 (hlive id hid).2 hβ
  have hMmut : ∀ b id c, id ∈ l → e.β id = some (b, c) → e.O b → (e.own id).mut = true := by
    intro b id c hid hβ hO
    rcases (hr.O b).1 hO with h0 | ⟨id2, c2, g1, g2⟩
    · exact absurd h0 (hr.notO0 P u (hlive id hid).1 (hlive id hid).2 hβ)
    · have := hr.inj id id2 b c c2 (hlive id hid).1 (hlive id hid).2 (mut_live g1).1 (mut_live g1).2 hβ g2
      subst this
      exact g1
  have hrc : HR P u w0c (fun b => e.O b ∧ ¬ M b) ec := by
    refine ⟨.refl w0c, fun b hb => ⟨hr.O_lt P u b hb.1, hb.2⟩, ?_, ?_, ?_, ?_⟩
    · intro j j' b c1 c2 g1 g2 g3 g4 g5 g6
      cases hj : l[j]? with
      | none => exact absurd (hownN hj) g1
      | some id =>
        cases hj' : l[j']? with
        | none => exact absurd (hownN hj') g3
        | some id' =>
          rw [hβc hj] at g5
          rw [hβc hj'] at g6
          have h1 := hlive id (List.mem_of_getElem? hj)
          have h2 := hlive id' (List.mem_of_getElem? hj')
          have := hr.inj id id' b c1 c2 h1.1 h1.2 h2.1 h2.2 g5 g6
          subst this
          exact nodup_get k1 hj hj'
    · intro b
      constructor
      · intro hO
        by_cases hM : M b
        · obtain ⟨id, hid, c, hβ⟩ := hM
          obtain ⟨j, hj⟩ := List.getElem?_of_mem hid
          refine .inr ⟨j, c, ?_, (hβc hj).trans hβ⟩
          show (ownL (mapI l e.own φ) j).mut = true
          rw [hown hj, renO_live.2.2]
          exact hMmut b id c hid hβ hO
        · exact .inl ⟨hO, hM⟩
      · rintro (h | ⟨j, c, g1, g2⟩)
        · exact h.1
        · cases hj : l[j]? with
          | none => rw [show ec.own j = .free from hownN hj] at g1; cases g1
          | some id =>
            rw [show ec.own j = renO φ (e.own id) from hown hj, renO_live.2.2] at g1
            rw [hβc hj] at g2
            exact hr.ownO P u g1 g2
    · intro j
      cases hj : l[j]? with
      | none => rw [show ec.own j = .free from hownN hj]; trivial
      | some id =>
        rw [show ec.own j = renO φ (e.own id) from hown hj]
        have hent := hr.ent id
        have hid := List.mem_of_getElem? hj
        have hrow : ∀ {T : Nat} {xs : List (A T)}, ((xs = [] ∧ e.β id = none) ∨ RowAt P u e w0.fr id T xs) → (xs = [] ∧ ec.β j = none) ∨ RowAt P u ec w0c.fr j T xs := by
          intro T xs h
          rcases h with ⟨h1, h2⟩ | ⟨b, c, arr, T', fz, vss, h1, h2, h3, h3', h4, h5, h6⟩
          · exact .inl ⟨h1, (hβc hj).trans h2⟩
          · exact .inr ⟨b, c, arr, T', fz, vss, (hβc hj).trans h1, .inr ⟨id, hid, c, h1⟩, h3, h3', h4, h5, fun i x hi => ⟨(h6 i x hi).1.unbare P u hclean (e := e) (e' := ec) rfl (fun _ h => h) (hclean _ _), (h6 i x hi).2⟩⟩
        have hids : ∀ q ∈ idsO (e.own id), φ q < l.length := by
          intro q hq
          refine allLt_mem k4 _ (idsOs_mem (j := j) (o := renO φ (e.own id)) (by rw [hos, hj]; rfl) _ ?_)
          generalize e.own id = o at hq ⊢
          cases o with
          | var cs => simp only [renO, idsO]; rw [ids_go_ren]; exact List.mem_map_of_mem hq
          | rowC T xs k cs => simp only [renO, idsO]; rw [ids_go_ren]; exact List.mem_map_of_mem hq
          | _ => cases hq
        generalize hoe : e.own id = o at *
        cases o with
        | free => trivial
        | dead => trivial
        | var cs =>
          obtain ⟨b, c, vs', T, h1, h2, h3, h4⟩ := hent
          exact ⟨b, c, vs', T, (hβc hj).trans h1, .inr ⟨id, hid, c, h1⟩, h3, h4.ren P u hclean (hren _ hids)⟩
        | row T xs => exact hrow hent
        | fro T xs => exact hrow hent
        | mp K V kvs =>
          obtain ⟨b, c, clock, es, h1, h2, h3, h4, h5⟩ := hent
          refine ⟨b, c, clock, es, (hβc hj).trans h1, .inr ⟨id, hid, c, h1⟩, h3, h4, fun i p hp => ?_⟩
          obtain ⟨en, g1, g2, g3⟩ := h5 i p hp
          exact ⟨en, g1, g2, g3.unbare P u hclean (e := e) (e' := ec) rfl (fun _ h => h) (valS_clean P u hclean V p.2)⟩
        | rowC T xs k cs =>
          obtain ⟨b, c, arr, T', fz, vss, h1, h2, h3, h3', h4, h5, h6, h7⟩ := hent
          refine ⟨b, c, arr, T', fz, vss, (hβc hj).trans h1, .inr ⟨id, hid, c, h1⟩, h3, h3', h4, h5, h6, fun i x hi => ?_⟩
          have h8 := h7 i x hi
          split at h8
          · rename_i hik
            rw [if_pos hik]
            exact ⟨h8.1.ren P u hclean (hren _ hids), h8.2⟩
          · rename_i hik
            rw [if_neg hik]
            exact ⟨h8.1.unbare P u hclean (e := e) (e' := ec) rfl (fun _ h => h) (hclean _ _), h8.2⟩
    · intro j p hp
      cases hj : l[j]? with
      | none => have hp' : (match l[j]? with | some id => some (e.β id) | none => none) = some p := hp; rw [hj] at hp'; cases hp'
      | some id =>
        have hp' : (match l[j]? with | some id => some (e.β id) | none => none) = some p := hp
        rw [hj] at hp'
        cases hp'
        refine .inr ⟨?_, hβc hj⟩
        show ownL (mapI l e.own φ) j ≠ .free
        rw [hown hj]
        exact renO_live.1.2 (hlive id (List.mem_of_getElem? hj)).1
  have hxc : RepL P u ec (ren.go φ xs) vs := hx.ren P u hclean (hren _ hφx)
  refine (hsp _ _ _ _ _ hs hc w0c _ ec vs hrc rfl hxc).mono ?_
  rintro r w' ⟨v, e2, rfl, hw2, hr2, hlat, ho2, hv⟩
  have hback : ∀ {j id : Nat}, l[j]? = some id → back j = id := by intro j id hj; show getN l k j = id; unfold getN; rw [hj]
  have hbackN : ∀ {j : Nat}, l.length ≤ j → back j = k + (j - l.length) := by intro j hj; show getN l k j = _; unfold getN; rw [List.getElem?_eq_none hj]
  have hfree : ∀ {j : Nat}, l.length ≤ j → j < os2.length → e.own (back j) = .free := by
    intro j h1 h2
    rw [hbackN h1]
    exact freeB_get k6 (by omega)
  have hbinj : ∀ i i', i < os2.length → i' < os2.length → back (0 + i) = back (0 + i') → i = i' := by
    intro i i' hi hi' hb
    rw [Nat.zero_add, Nat.zero_add] at hb
    by_cases h1 : i < l.length <;> by_cases h2 : i' < l.length
    · rw [hback (List.getElem?_eq_getElem h1), hback (List.getElem?_eq_getElem h2)] at hb
      exact nodup_get k1 (List.getElem?_eq_getElem h1) (by rw [hb]; exact List.getElem?_eq_getElem h2)
    · have h3 := hfree (by omega) hi'
      rw [← hb, hback (List.getElem?_eq_getElem h1)] at h3
      exact absurd h3 (hlive _ (List.getElem_mem h1)).1
    · have h3 := hfree (by omega) hi
      rw [hb, hback (List.getElem?_eq_getElem h2)] at h3
      exact absurd h3 (hlive _ (List.getElem_mem h2)).1
    · rw [hbackN (by omega), hbackN (by omega)] at hb
      omega
  let own' := updL e.own (effI back os2 0)
  let β' := updG e.β back ((List.range os2.length).map e2.β) 0
  have ho' : own' = updG e.own back (os2.map (renO back)) 0 := updL_effI _ _ _ _
  have hat : ∀ {j : Nat} {o : Own A}, os2[j]? = some o → own' (back j) = renO back o ∧ β' (back j) = e2.β j := by
    intro j o hj
    have hjl : j < os2.length := (List.getElem?_eq_some_iff.1 hj).1
    constructor
    · rw [ho']
      have := updG_at (f := e.own) (g := back) (hs := os2.map (renO back)) (j := 0) (i := j) (x := renO back o) (by simpa using hbinj) (by rw [List.getElem?_map, hj]; rfl)
      simpa using this
    · have := updG_at (f := e.β) (g := back) (hs := (List.range os2.length).map e2.β) (j := 0) (i := j) (x := e2.β j) (by simpa using hbinj) (by rw [List.getElem?_map, List.getElem?_range hjl]; rfl)
      simpa using this
  have hout : ∀ {id : Nat}, (∀ j, j < os2.length → id ≠ back j) → own' id = e.own id ∧ β' id = e.β id := by
    intro id hid
    constructor
    · rw [ho']
      exact updG_other (by intro i hi; rw [Nat.zero_add]; exact hid i (by simpa using hi))
    · exact updG_other (by intro i hi; rw [Nat.zero_add]; exact hid i (by simpa using hi))
  have hown2 : ∀ {j : Nat} {o : Own A}, os2[j]? = some o → e2.own j = o := by intro j o hj; rw [ho2]; unfold ownL; rw [hj]
  have hown2N : ∀ {j : Nat}, os2[j]? = none → e2.own j = .free := by intro j hj; rw [ho2]; unfold ownL; rw [hj]
  have hinL : ∀ {id : Nat}, id ∈ l → ∃ j, j < os2.length ∧ l[j]? = some id ∧ id = back j := by
    intro id hid
    obtain ⟨j, hj⟩ := List.getElem?_of_mem hid
    exact ⟨j, by have := (List.getElem?_eq_some_iff.1 hj).1; omega, hj, (hback hj).symm⟩
  have hfrc : ∀ b, w0c.fr b → w0.fr b := by
    intro b hb
    rcases hb with hb | hb
    · exact .inl (Nat.le_trans hr.below.size hb)
    · exact hMfr b hb
  have hO0c : ∀ b, O0 b → e.O b ∧ ¬ M b := fun b hb => ⟨(hr.O b).2 (.inl hb), fun hM => hr.o0f P u hb (hMfr b hM)⟩
  have hnotM : ∀ {id b c : Nat}, (∀ j, j < os2.length → id ≠ back j) → e.own id ≠ .free → e.own id ≠ .dead → e.β id = some (b, c) → ¬ M b := by
    rintro id b c hid h1 h2 hβ ⟨id2, hid2, c2, hβ2⟩
    have := hr.inj id id2 b c c2 h1 h2 (hlive id2 hid2).1 (hlive id2 hid2).2 hβ hβ2
    subst this
    obtain ⟨j, g1, _, g3⟩ := hinL hid2
    exact hid j g1 g3
  have hrange : ∀ id, (∃ j o, os2[j]? = some o ∧ id = back j) ∨ (∀ j, j < os2.length → id ≠ back j) := by
    intro id
    by_cases h : ∃ j, j < os2.length ∧ id = back j
    · obtain ⟨j, h1, h2⟩ := h
      exact .inl ⟨j, os2[j], List.getElem?_eq_getElem h1, h2⟩
    · exact .inr (fun j hj he => h ⟨j, hj, he⟩)
  let e' : E A := mkE O0 e2.w own' β'
  have hO : ∀ b, ¬ e2.O b → ¬ e'.O b := by
    intro b hb hb'
    apply hb
    rcases hb' with h0 | ⟨id, c, g1, g2⟩
    · exact (hr2.O b).2 (.inl (hO0c b h0))
    · rcases hrange id with ⟨j, o, hj, rfl⟩ | hno
      · rw [(hat hj).1, renO_live.2.2] at g1
        rw [(hat hj).2] at g2
        exact (hr2.O b).2 (.inr ⟨j, c, by rw [hown2 hj]; exact g1, g2⟩)
      · rw [(hout hno).1] at g1
        rw [(hout hno).2] at g2
        exact (hr2.O b).2 (.inl ⟨hr.ownO P u g1 g2, hnotM hno (mut_live g1).1 (mut_live g1).2 g2⟩)
  have hren2 : ∀ L : List Nat, (∀ id ∈ L, id < os2.length) → Ren back e2 e' L := fun L hL => ⟨rfl, hO, fun id hid => by
    have hj := List.getElem?_eq_getElem (hL id hid)
    show own' (back id) = _
    rw [(hat hj).1, hown2 hj], fun id hid _ _ => (hat (List.getElem?_eq_getElem (hL id hid))).2⟩
  have hMO : ∀ b, M b → e.O b := by
    rintro b ⟨id, hid, c, hβ⟩
    exact hr.ownO P u (hmutL id hid) hβ
  have hnot2 : ∀ b, b < e.w.heap.size → ¬ e.O b → ¬ e2.O b := by
    intro b hb hbO h2
    rcases (hr2.O b).1 h2 with h0 | ⟨j, c, g1, g2⟩
    · exact hbO h0.1
    · rcases hr2.frb P u (mut_live g1).1 (mut_live g1).2 g2 with hfr | hfr
      · have hfr : e.w.heap.size ≤ b := hfr
        omega
      · exact hbO (hMO b hfr)
  have hext : Ext e e' := by
    refine ⟨hr2.below.size, fun b hb hbO => ⟨hO b (hnot2 b hb hbO), hr2.below.block b hb (fun hM => hbO (hMO b hM))⟩, fun id hid => ?_⟩
    rcases hrange id with ⟨j, o, hj, rfl⟩ | hno
    · by_cases hjl : j < l.length
      · have hlj := List.getElem?_eq_getElem hjl
        have hbj := hback hlj
        have hcj : ec.own j = renO φ (e.own (back j)) := by rw [hbj]; exact hown hlj
        have g1 := hlat j (by rw [hcj]; exact renO_live.1.2 hid)
        rw [hcj, hown2 hj] at g1
        refine ⟨by show (e.own (back j)).later (own' (back j)); rw [(hat hj).1]; exact later_ren g1, fun hd => ?_⟩
        have hd' : e2.own j ≠ .dead := by
          rw [hown2 hj]
          intro h
          apply hd
          show own' (back j) = .dead
          rw [(hat hj).1, h]
          rfl
        show β' (back j) = _
        have hh : w0c.hand j = some (e.β (back j)) := by show (match l[j]? with | some id => some (e.β id) | none => none) = _; rw [hlj, hbj]
        rcases hr2.hand j _ hh with h | ⟨_, h⟩
        · exact absurd h hd'
        · rw [(hat hj).2, h]
      · have hjl2 := (List.getElem?_eq_some_iff.1 hj).1
        exact absurd (hfree (by omega) hjl2) hid
    · show (e.own id).later (own' id) ∧ (own' id ≠ .dead → β' id = e.β id)
      rw [(hout hno).1, (hout hno).2]
      exact ⟨.refl hid, fun _ => rfl⟩
  have hr' : HR P u w0 O0 e' := by
    refine hr.of P u hext (hr.below.step hr2.below.os hr2.below.tape hr2.below.output hr2.below.size (fun b hb hnf => hr2.below.block b hb (fun hM => hnf (hMfr b hM)))) ?_ ?_
    · have hmix : ∀ {j : Nat} {o : Own A} {a' b c c' : Nat}, os2[j]? = some o → o ≠ .free → o ≠ .dead → e2.β j = some (b, c) → (∀ j, j < os2.length → a' ≠ back j) → e.own a' ≠ .free → e.own a' ≠ .dead → e.β a' = some (b, c') → False := by
        intro j o a' b c c' hj h1 h2 h3 h4 h5 h6 h7
        have hfr := hr2.frb P u (id := j) (by rw [hown2 hj]; exact h1) (by rw [hown2 hj]; exact h2) h3
        rcases hfr with hfr | hfr
        · have := hr.lt P u h5 h6 h7
          have hfr : e.w.heap.size ≤ b := hfr
          omega
        · exact hnotM h4 h5 h6 h7 hfr
      intro a a' b c1 c2 g1 g2 g3 g4 g5 g6
      rcases hrange a with ⟨j, o, hj, rfl⟩ | hno <;> rcases hrange a' with ⟨j', o', hj', rfl⟩ | hno'
      · rw [(hat hj).1] at g1 g2
        rw [(hat hj).2] at g5
        rw [(hat hj').1] at g3 g4
        rw [(hat hj').2] at g6
        have := hr2.inj j j' b c1 c2 (by rw [hown2 hj]; exact renO_live.1.1 g1) (by rw [hown2 hj]; exact renO_live.2.1.1 g2) (by rw [hown2 hj']; exact renO_live.1.1 g3) (by rw [hown2 hj']; exact renO_live.2.1.1 g4) g5 g6
        rw [this]
      · rw [(hat hj).1] at g1 g2
        rw [(hat hj).2] at g5
        rw [(hout hno').1] at g3 g4
        rw [(hout hno').2] at g6
        exact (hmix hj (renO_live.1.1 g1) (renO_live.2.1.1 g2) g5 hno' g3 g4 g6).elim
      · rw [(hout hno).1] at g1 g2
        rw [(hout hno).2] at g5
        rw [(hat hj').1] at g3 g4
        rw [(hat hj').2] at g6
        exact (hmix hj' (renO_live.1.1 g3) (renO_live.2.1.1 g4) g6 hno g1 g2 g5).elim
      · rw [(hout hno).1] at g1 g2
        rw [(hout hno).2] at g5
        rw [(hout hno').1] at g3 g4
        rw [(hout hno').2] at g6
        exact hr.inj a a' b c1 c2 g1 g2 g3 g4 g5 g6
    · intro a
      rcases hrange a with ⟨j, o, hj, rfl⟩ | hno
      · rw [(hat hj).1]
        have hent := hr2.ent j
        rw [hown2 hj] at hent
        have hrow : ∀ {T : Nat} {xs : List (A T)}, ((xs = [] ∧ e2.β j = none) ∨ RowAt P u e2 w0c.fr j T xs) → (xs = [] ∧ e'.β (back j) = none) ∨ RowAt P u e' w0.fr (back j) T xs := by
          intro T xs h
          rcases h with ⟨h1, h2⟩ | ⟨b, c, arr, T', fz, vss, h1, h2, h3, h3', h4, h5, h6⟩
          · exact .inl ⟨h1, (hat hj).2.trans h2⟩
          · exact .inr ⟨b, c, arr, T', fz, vss, (hat hj).2.trans h1, hfrc b h2, h3, h3', h4, h5, fun i x hi => ⟨(h6 i x hi).1.unbare P u hclean (e := e2) (e' := e') rfl hO (hclean _ _), (h6 i x hi).2⟩⟩
        cases o with
        | free => trivial
        | dead => trivial
        | var cs =>
          obtain ⟨b, c, vs', T, h1, h2, h3, h4⟩ := hent
          exact ⟨b, c, vs', T, (hat hj).2.trans h1, hfrc b h2, h3, h4.ren P u hclean (hren2 _ (fun id hid => allLt_mem k8 _ (idsOs_mem hj _ hid)))⟩
        | row T xs => exact hrow hent
        | fro T xs => exact hrow hent
        | mp K V kvs =>
          obtain ⟨b, c, clock, es, h1, h2, h3, h4, h5⟩ := hent
          refine ⟨b, c, clock, es, (hat hj).2.trans h1, hfrc b h2, h3, h4, fun i p hp => ?_⟩
          obtain ⟨en, g1, g2, g3⟩ := h5 i p hp
          exact ⟨en, g1, g2, g3.unbare P u hclean (e := e2) (e' := e') rfl hO (valS_clean P u hclean V p.2)⟩
        | rowC T xs q cs =>
          obtain ⟨b, c, arr, T', fz, vss, h1, h2, h3, h3', h4, h5, h6, h7⟩ := hent
          refine ⟨b, c, arr, T', fz, vss, (hat hj).2.trans h1, hfrc b h2, h3, h3', h4, h5, h6, fun i x hi => ?_⟩
          have h8 := h7 i x hi
          split at h8
          · rename_i hik
            rw [if_pos hik]
            exact ⟨h8.1.ren P u hclean (hren2 _ (fun id hid => allLt_mem k8 _ (idsOs_mem hj _ hid))), h8.2⟩
          · rename_i hik
            rw [if_neg hik]
            exact ⟨h8.1.unbare P u hclean (e := e2) (e' := e') rfl hO (hclean _ _), h8.2⟩
      · rw [(hout hno).1]
        by_cases hf : e.own a = .free
        · rw [hf]; trivial
        · by_cases hd : e.own a = .dead
          · rw [hd]; trivial
          · exact (hr.ent a).later P u hext (hout hno).2 (fun b c hβ => hr2.below.block b (hr.lt P u hf hd hβ) (hnotM hno hf hd hβ))
  refine ⟨v, e', rfl, hw2, hr', hext, rfl, ?_⟩
  have := hv.ren P u hclean (e' := e') (hren2 _ (fun id hid => allLt_mem k7 _ (by simpa [ids.go] using hid)))
  simpa [ren.go] using this
/-- A call that is handed rows by content, too: these are written to no more. -/
def callF (k : Nat) (own : Nat → Own A) (sp : HSpec A) (xs : List (SV A)) : HRes A := match callH k own sp xs with
  | some r => some r
  | none => match (frzL own xs).2 with
    | [] => none
    | _ => match callH k (updL own (frzL own xs).2) sp (frzL own xs).1 with
      | some (c, y, F) => some (c, y, (frzL own xs).2 ++ F)
      | none => none
theorem callF_sound (hclean : ∀ T x, noOwn.go (u.enc T x) = true) {w0 : W0} {O0 : Nat → Prop} {e : E A} (hr : HR P u w0 O0 e) {f k : Nat} {sp : HSpec A} (hsp : FnOkH P u f sp) {xs : List (SV A)} {vs : List Value} {c : Option Prop} {y : SV A} {F : Eff A}
    (hx : RepL P u e xs vs) (h : callF k e.own sp xs = some (c, y, F)) (hc : holds c) :
    Calls P f vs.toArray e.w fun r w' => ∃ v e', r = .returned v ∧ e'.w = w' ∧ HR P u w0 O0 e' ∧ Ext e e' ∧ e'.own = updL e.own F ∧ RepL P u e' [y] [v] := by
  unfold callF at h
  split at h
  · rename_i r hr'
    cases h
    exact callH_sound P u hclean hr hsp hx hr' hc
  · split at h
    · cases h
    · split at h
      case h_2 => cases h
      rename_i c1 y1 F1 hh
      cases h
      obtain ⟨e1, a1, a2, a3, a4, a5⟩ := frzL_sound P u hclean hr hx (ys := (frzL e.own xs).1) (f := (frzL e.own xs).2) rfl
      rw [← a4] at hh
      rw [← a1]
      refine (callH_sound P u hclean a2 hsp a5 hh hc).mono ?_
      rintro r w' ⟨v, e', h1, h2, h3, h4, h5, h6⟩
      exact ⟨v, e', h1, h2, h3, a3.trans h4, by rw [h5, a4, updL_app], h6⟩
/-! ### blocks that are only looked at -/
def noLit : SV A → Bool
  | .lit _ => false
  | .agg l => go l
  | .tup l => go l
  | .fn _ l => go l
  | .cptr l _ => go l
  | .wh _ _ x => noLit x
  | _ => true
where go : List (SV A) → Bool
  | [] => true
  | x :: r => noLit x && go r
def noLitO (own : Nat → Own A) : List Nat → Bool
  | [] => true
  | id :: r => (match own id with
    | .var cs => noLit.go cs
    | .rowC _ _ _ _ => false
    | _ => true) && noLitO own r
theorem ren_back (φ ψ : Nat → Nat) : ∀ x : SV A, noLit x = true → (∀ id ∈ ids x, ψ (φ id) = id) → ren ψ (ren φ x) = x := by
  intro x
  apply SV.rec (motive_1 := fun x => noLit x = true → (∀ id ∈ ids x, ψ (φ id) = id) → ren ψ (ren φ x) = x) (motive_2 := fun l => noLit.go l = true → (∀ id ∈ ids.go l, ψ (φ id) = id) → ren.go ψ (ren.go φ l) = l)
  all_goals (intros; first
    | rfl
    | (rename_i h _; simp only [noLit] at h; cases h; done)
    | (rename_i h; simp only [ren]; rw [h _ (by simp [ids])]; done)
    | (rename_i ih h1 h2; simp only [noLit, ids] at h1 h2; simp only [ren]; rw [ih h1 h2]; done)
    | (rename_i ih1 ih2 h1 h2; simp only [noLit.go, Bool.and_eq_true, ids.go, List.mem_append] at h1 h2; simp only [ren.go]; rw [ih1 h1.1 (fun id hi => h2 id (.inl hi)), ih2 h1.2 (fun id hi => h2 id (.inr hi))]; done))
theorem ren_go_back (φ ψ : Nat → Nat) : ∀ l : List (SV A), noLit.go l = true → (∀ id ∈ ids.go l, ψ (φ id) = id) → ren.go ψ (ren.go φ l) = l
  | [], _, _ => rfl
  | x :: r, h1, h2 => by
    simp only [noLit.go, Bool.and_eq_true, ids.go, List.mem_append] at h1 h2
    simp only [ren.go]
    rw [ren_back φ ψ x h1.1 (fun id hi => h2 id (.inl hi)), ren_go_back φ ψ r h1.2 (fun id hi => h2 id (.inr hi))]
theorem updL_eq : ∀ {F : Eff A} {own : Nat → Own A}, (∀ p ∈ F, p.2 = own p.1) → updL own F = own
  | [], _, _ => rfl
  | (k, o) :: r, own, h => by
    have h0 : o = own k := h (k, o) (List.mem_cons_self ..)
    have hu : upd own k o = own := by
      funext i
      unfold upd
      split
      · rename_i hi; rw [hi, h0]
      · rfl
    unfold updL
    rw [hu]
    exact updL_eq fun p hp => h p (List.mem_cons_of_mem _ hp)
theorem effI_mem {φ : Nat → Nat} : ∀ {os : List (Own A)} {j : Nat} {p : Nat × Own A}, p ∈ effI φ os j → ∃ i o, os[i]? = some o ∧ p = (φ (j + i), renO φ o)
  | [], _, p, h => by cases h
  | o :: r, j, p, h => by
    unfold effI at h
    rcases List.mem_cons.1 h with rfl | h
    · exact ⟨0, o, rfl, rfl⟩
    · obtain ⟨i, o', h1, rfl⟩ := effI_mem h
      exact ⟨i + 1, o', h1, by rw [show j + 1 + i = j + (i + 1) by omega]⟩
theorem noLitO_noC {own : Nat → Own A} : ∀ {l : List Nat}, noLitO own l = true → ∀ id ∈ l, ∀ T xs k cs, own id ≠ .rowC T xs k cs
  | [], _, id, h, _, _, _, _ => by cases h
  | x :: r, hl, id, h, T, xs, k, cs => by
    simp only [noLitO, Bool.and_eq_true] at hl
    intro ho
    rcases List.mem_cons.1 h with rfl | h
    · have := hl.1
      rw [ho] at this
      cases this
    · exact noLitO_noC hl.2 id h T xs k cs ho
theorem noLitO_mem {own : Nat → Own A} : ∀ {l : List Nat}, noLitO own l = true → ∀ id ∈ l, ∀ cs, own id = .var cs → noLit.go cs = true
  | [], _, id, h, _, _ => by cases h
  | x :: r, hl, id, h, cs, ho => by
    simp only [noLitO, Bool.and_eq_true] at hl
    rcases List.mem_cons.1 h with rfl | h
    · have := hl.1
      rw [ho] at this
      exact this
    · exact noLitO_mem hl.2 id h cs ho
def callL (k : Nat) (own : Nat → Own A) (sp : LSpec A) (xs : List (SV A)) : HRes A := if noLitO own (reach own 32 (addN [] (ids.go xs)) 0) then (match callH k own (lookH sp) xs with
  | some (c, y, _) => some (c, y, [])
  | none => none) else none
theorem callL_sound (hclean : ∀ T x, noOwn.go (u.enc T x) = true) {w0 : W0} {O0 : Nat → Prop} {e : E A} (hr : HR P u w0 O0 e) {f k : Nat} {sp : LSpec A} (hsp : FnOkH P u f (lookH sp)) {xs : List (SV A)} {vs : List Value} {c : Option Prop} {y : SV A} {F : Eff A}
    (hx : RepL P u e xs vs) (h : callL k e.own sp xs = some (c, y, F)) (hc : holds c) :
    Calls P f vs.toArray e.w fun r w' => ∃ v e', r = .returned v ∧ e'.w = w' ∧ HR P u w0 O0 e' ∧ Ext e e' ∧ e'.own = updL e.own F ∧ RepL P u e' [y] [v] := by
  unfold callL at h
  split at h
  case isFalse => cases h
  rename_i hnl
  split at h
  case h_2 => cases h
  rename_i c' y' F' hh
  cases h
  refine (callH_sound P u hclean hr hsp hx hh hc).mono ?_
  rintro r w' ⟨v, e', h1, h2, h3, h4, h5, h6⟩
  refine ⟨v, e', h1, h2, h3, h4, ?_, h6⟩
  rw [h5]
  show updL e.own F' = e.own
  apply updL_eq
  unfold callH at hh
  generalize reach e.own 32 (addN [] (ids.go xs)) 0 = l at hh hnl
  simp only at hh
  split at hh
  case h_2 => cases hh
  rename_i c0 y0 os2 hs
  split at hh
  case isFalse => cases hh
  rename_i hchk
  cases hh
  simp only [Bool.and_eq_true] at hchk
  obtain ⟨⟨⟨⟨⟨⟨⟨k1, k2⟩, k3⟩, k4⟩, k5⟩, k6, _⟩, k7⟩, k8⟩ := hchk
  have hos2 : os2 = mapI l e.own (fun x => idxN x l 0) := by
    unfold lookH at hs
    split at hs
    · cases hs; rfl
    · cases hs
  subst hos2
  intro p hp
  obtain ⟨i, o, g1, rfl⟩ := effI_mem hp
  rw [mapI_get] at g1
  simp only [Option.map_eq_some_iff] at g1
  obtain ⟨id, g2, rfl⟩ := g1
  have hget : getN l k i = id := by unfold getN; rw [g2]
  simp only [Nat.zero_add, hget]
  cases ho : e.own id with
  | var cs =>
    simp only [renO]
    congr 1
    refine ren_go_back _ _ cs (noLitO_mem hnl id (List.mem_of_getElem? g2) cs ho) (fun q hq => ?_)
    have hlt : idxN q l 0 < l.length := by
      have hmem : renO (fun x => idxN x l 0) (e.own id) ∈ mapI l e.own (fun x => idxN x l 0) := List.mem_of_getElem? (i := i) (by rw [mapI_get, g2]; rfl)
      have hin : ∀ {os : List (Own A)} {o : Own A} {z : Nat}, o ∈ os → z ∈ idsO o → z ∈ idsOs os := by
        intro os
        induction os with
        | nil => intro o z h; cases h
        | cons a r ih =>
          intro o z h hz
          simp only [idsOs, List.mem_append]
          rcases List.mem_cons.1 h with rfl | h
          · exact .inl hz
          · exact .inr (ih h hz)
      refine allLt_mem k4 _ (hin hmem ?_)
      rw [ho]
      show _ ∈ ids.go (ren.go _ cs)
      rw [ids_go_ren]
      exact List.mem_map_of_mem hq
    have := (idxN_get (x := q) (l := l) (i := 0)).2 (by simpa using hlt)
    unfold getN
    rw [show l[idxN q l 0]? = some q by simpa using this]
  | rowC T xs q cs => exact absurd ho (noLitO_noC hnl id (List.mem_of_getElem? g2) T xs q cs)
  | _ => rfl
end
end Go.Proofs.Ytcgeccpookgoeaa.Sx
