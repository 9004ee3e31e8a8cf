/- An abstract machine over values by content, ninth part, b: calls by contract. -/
import Derived.Test.YtndacggailoogaaSxI
namespace Go.Proofs.Ytndacggailoogaa.Sx
open Go Go.RowKit

section
variable {A : Nat → Type} (P : Program) (u : U A)

/-- The rows that a callee's answer may hang of are written to no more. -/
def restS (own : Nat → Own A) : List Nat → Option (Eff A)
  | [] => some []
  | id :: r => match own id with
    | .row T xs => (match restS (upd own id (.fro T xs)) r with
      | some f => some ((id, .fro T xs) :: f)
      | none => none)
    | .var _ => none
    | .mp _ _ _ => none
    | .rowC _ _ _ _ => none
    | .nod _ => none
    | .prow _ _ => none
    | .ar _ _ => none
    | _ => restS own r
theorem rest_sound {w0 : W0} {O0 : Nat → Prop} : ∀ {L : List Nat} {e : E A} {f : Eff A}, HR P u w0 O0 e → restS e.own L = some f → ∃ e', e'.w = e.w ∧ HR P u w0 O0 e' ∧ Ext e e' ∧ e'.own = updL e.own f ∧ e'.β = e.β ∧ (∀ b, e'.O b → e.O b) ∧ (∀ id ∈ L, (e'.own id).mut = false) ∧ ∀ id, (e.own id ≠ .free ↔ e'.own id ≠ .free) ∧ (e.own id ≠ .dead ↔ e'.own id ≠ .dead) ∧ ((e'.own id).mut = true → (e.own id).mut = true)
  | [], e, f, hr, h => by cases h; exact ⟨e, rfl, hr, .refl e, rfl, rfl, fun _ h => h, by simp, fun _ => ⟨Iff.rfl, Iff.rfl, fun h => h⟩⟩
  | id :: r, e, f, hr, h => by
    unfold restS at h
    split at h
    · rename_i T xs ho
      split at h
      · rename_i f' hf
        cases h
        obtain ⟨h1, h2⟩ := hr.froze P u ho
        obtain ⟨e2, b1, b2, b3, b4, b5, b6, b7, b8⟩ := rest_sound (e := mkE O0 e.w (upd e.own id (.fro T xs)) e.β) h2 hf
        have hstep : ∀ q, (e.own q ≠ .free ↔ upd e.own id (.fro T xs) q ≠ .free) ∧ (e.own q ≠ .dead ↔ upd e.own id (.fro T xs) q ≠ .dead) ∧ ((upd e.own id (.fro T xs) q).mut = true → (e.own q).mut = true) := by
          intro q
          by_cases hq : q = id
          · subst hq; rw [upd_same, ho]; simp [Own.mut]
          · rw [upd_ne _ _ hq]; exact ⟨Iff.rfl, Iff.rfl, fun h => h⟩
        refine ⟨e2, b1, b2, h1.trans b3, b4, b5, fun b hb => ?_, fun q hq => ?_, fun q => ⟨(hstep q).1.trans (b8 q).1, (hstep q).2.1.trans (b8 q).2.1, fun h => (hstep q).2.2 ((b8 q).2.2 h)⟩⟩
        · rcases b6 b hb with h0 | ⟨q, c, g1, g2⟩
          · exact (hr.O b).2 (.inl h0)
          · exact hr.ownO P u ((hstep q).2.2 g1) g2
        · rcases List.mem_cons.1 hq with rfl | hq
          · by_cases hm : (e2.own q).mut = true
            · have := (b8 q).2.2 hm
              simp only [mkE, upd_same, Own.mut] at this
              cases this
            · simpa using hm
          · exact b7 q hq
      · cases h
    · cases h
    · cases h
    · cases h
    · cases h
    · cases h
    · cases h
    · rename_i hn1 hn2 hn3 hn4 hn5 hn6 hn7
      obtain ⟨e2, b1, b2, b3, b4, b5, b6, b7, b8⟩ := rest_sound hr h
      refine ⟨e2, b1, b2, b3, b4, b5, b6, fun q hq => ?_, b8⟩
      rcases List.mem_cons.1 hq with rfl | hq
      · by_cases hm : (e2.own q).mut = true
        · have := (b8 q).2.2 hm
          generalize he : e.own q = o at *
          cases o with
          | var c => exact absurd rfl (hn2 c)
          | row T xs => exact absurd HEq.rfl (by intro h; exact hn1 T xs (eq_of_heq h))
          | mp K V kvs => exact absurd rfl (hn3 K V kvs)
          | rowC T xs k cs => exact absurd HEq.rfl (by intro h; exact hn4 T xs k cs (eq_of_heq h))
          | nod cs => exact absurd rfl (hn5 cs)
          | prow a js => exact absurd rfl (hn6 a js)
          | _ => cases this
        · simpa using hm
      · exact b7 q hq
def callP (own : Nat → Own A) (sp : Spec A) (xs : List (SV A)) : HRes A := match sp (xs.map (argS u own)) with
  | some (c, y) => if noOwn y then (if flat y then some (c, y, []) else (match restS own (ids.go xs) with
    | some f => some (c, y, f)
    | none => none)) else none
  | none => none
/-- What lies behind a call: nothing of what was there has turned. -/
def afterE (e : E A) (w' : World) : E A := { e with w := w' }
theorem HR.after {w0 : W0} {O0 : Nat → Prop} {e : E A} (hr : HR P u w0 O0 e) {w' : World} (hb : Below e.w.heap.size e.w w') : HR P u w0 O0 (afterE e w') ∧ Ext e (afterE e w') := by
  obtain ⟨h1, h2⟩ := hr.world P u (w' := w') hb.os hb.tape hb.output hb.size (fun b hb' _ => hb.block b hb') (fun id hf hd hx => (hr.ent id).later P u hx rfl (fun b c hβ => hb.block b (hr.lt P u hf hd hβ)))
  exact ⟨h2, h1⟩
theorem callP_sound (hclean : ∀ T x, noOwn.go (u.enc T x) = true) {w0 : W0} {O0 : Nat → Prop} {e : E A} (hr : HR P u w0 O0 e) {f : Nat} {sp : Spec A} (hsp : FnOk P u f sp) {xs : List (SV A)} {vs : List Value} {c : Option Prop} {y : SV A} {F : Eff A}
    (hx : RepL P u e xs vs) (h : callP u e.own sp xs = some (c, y, F)) (hc : holds c) :
    Calls P f vs.toArray e.w fun r w' => ∃ v e', r = .returned v ∧ e'.w = w' ∧ HR P u w0 O0 e' ∧ Ext e e' ∧ e'.own = updL e.own F ∧ RepL P u e' [y] [v] := by
  unfold callP at h
  split at h
  case h_2 => cases h
  rename_i c' y' hs
  split at h
  case isFalse => cases h
  rename_i hno
  have hargs := args_rep P u hclean hr (L := ids.go xs) hx (fun id hi => hi)
  split at h
  · rename_i hfl
    cases h
    refine (hsp _ _ _ hs hc e.w (quietO e (ids.go xs)) vs (fun b hb => hr.O_lt P u b hb.1) hargs).mono ?_
    rintro r w' ⟨v, rfl, hbel, hv⟩
    obtain ⟨h1, h2⟩ := hr.after P u hbel
    exact ⟨v, _, rfl, rfl, h1, h2, rfl, hv.flat P u (by simp [flat.go, hfl])⟩
  · split at h
    case h_2 => cases h
    rename_i f' hf
    cases h
    refine (hsp _ _ _ hs hc e.w (quietO e (ids.go xs)) vs (fun b hb => hr.O_lt P u b hb.1) hargs).mono ?_
    rintro r w' ⟨v, rfl, hbel, hv⟩
    obtain ⟨h1, h2⟩ := hr.after P u hbel
    obtain ⟨e2, b1, b2, b3, b4, b5, b6, b7, b8⟩ := rest_sound P u (e := afterE e w') h1 hf
    refine ⟨v, e2, rfl, b1, b2, h2.trans b3, b4, hv.unbare P u hclean (e := outer w' (quietO e (ids.go xs))) (e' := e2) b1 (fun b hb hO => hb ⟨b6 b hO, ?_⟩) (by simp [noOwn.go, hno])⟩
    rintro ⟨id, c', hid, hf1, hd1, hβ⟩
    have hl1 := (b8 id).1.1 hf1
    have hl2 := (b8 id).2.1.1 hd1
    have hβ2 : e2.β id = some (b, c') := by rw [b5]; exact hβ
    rcases (b2.O b).1 hO with h0 | ⟨id2, c2, g1, g2⟩
    · exact b2.notO0 P u hl1 hl2 hβ2 h0
    · have := b2.inj id id2 b c' c2 hl1 hl2 (mut_live g1).1 (mut_live g1).2 hβ2 g2
      subst this
      rw [b7 id hid] at g1
      cases g1

/-! ### blocks that are handed to be written -/
def memN (x : Nat) : List Nat → Bool
  | [] => false
  | y :: r => Nat.beq x y || memN x r
def addN (l : List Nat) : List Nat → List Nat
  | [] => l
  | x :: r => addN (if memN x l then l else l ++ [x]) r
/-- The blocks that are reached, in order. -/
def reach (own : Nat → Own A) : Nat → List Nat → Nat → List Nat
  | 0, l, _ => l
  | n + 1, l, i => match l[i]? with
    | some id => (match own id with
      | .var cs => reach own n (addN l (ids.go cs)) (i + 1)
      | .prow a _ => reach own n (addN l [a]) (i + 1)
      | _ => reach own n l (i + 1))
    | none => l
def idxN (x : Nat) : List Nat → Nat → Nat
  | [], i => i
  | y :: r, i => if Nat.beq x y then i else idxN x r (i + 1)
def getN (l : List Nat) (k j : Nat) : Nat := match l[j]? with
  | some id => id
  | none => k + (j - l.length)
def nodupN : List Nat → Bool
  | [] => true
  | x :: r => !memN x r && nodupN r
def allLt (n : Nat) : List Nat → Bool
  | [] => true
  | x :: r => Nat.blt x n && allLt n r
def mapI (l : List Nat) (own : Nat → Own A) (φ : Nat → Nat) : List (Own A) := match l with
  | [] => []
  | x :: r => renO φ (own x) :: mapI r own φ
def idsO : Own A → List Nat
  | .var cs => ids.go cs
  | .rowC _ _ _ cs => ids.go cs
  | .nod cs => ids.go cs
  | .prow a _ => [a]
  | _ => []
def idsOs : List (Own A) → List Nat
  | [] => []
  | o :: r => idsO o ++ idsOs r
/-- The new numbers of a callee's blocks are free. -/
def freeB (own : Nat → Own A) (k : Nat) : Nat → Bool
  | 0 => true
  | n + 1 => (match own (k + n) with
    | .free => true
    | _ => false) && freeB own k n
def effI (φ : Nat → Nat) : List (Own A) → Nat → Eff A
  | [], _ => []
  | o :: r, j => (φ j, renO φ o) :: effI φ r (j + 1)
def handAll (own : Nat → Own A) : List Nat → Bool
  | [] => true
  | x :: r => (Nat.blt x 1073741824 && (((own x).mut && (own x).plain) || (own x).isAr)) && handAll own r
def sameAr : List (Own A) → List (Own A) → Bool
  | a :: r, b :: r2 => (!a.isAr || b.isAr) && sameAr r r2
  | _, _ => true
def callH (k : Nat) (own : Nat → Own A) (sp : HSpec A) (xs : List (SV A)) : HRes A := match reach own 32 (addN [] (ids.go xs)) 0 with
  | l => match ren.go (fun x => idxN x l 0) xs with
    | xs' => match mapI l own (fun x => idxN x l 0) with
      | os => match sp xs' os with
        | some (c, y, os2) => if nodupN l && handAll own l && allLt l.length (ids.go xs') && allLt l.length (idsOs os) && Nat.ble l.length os2.length && (freeB own k (os2.length - l.length) && Nat.ble (os2.length - l.length) 64) && allLt os2.length (ids y) && allLt os2.length (idsOs os2) && (Nat.blt (k + 64) 1073741824 && (Nat.blt os2.length 1073741824 && sameAr os os2))
            then some (c, ren (getN l k) y, effI (getN l k) os2 0) else none
        | none => none
theorem ids_ren (φ : Nat → Nat) : ∀ x : SV A, ids (ren φ x) = (ids x).map φ := by
  intro x
  apply SV.rec (motive_1 := fun x => ids (ren φ x) = (ids x).map φ) (motive_2 := fun l => ids.go (ren.go φ l) = (ids.go l).map φ)
  all_goals (intros; first | rfl | (simp only [ren, ids]; assumption) | (simp only [ren.go, ids.go, List.map_append]; simp [*]))
theorem ids_go_ren (φ : Nat → Nat) : ∀ l : List (SV A), ids.go (ren.go φ l) = (ids.go l).map φ
  | [] => rfl
  | x :: r => by simp only [ren.go, ids.go, List.map_append, ids_ren, ids_go_ren φ r]
theorem memN_iff {x : Nat} : ∀ {l : List Nat}, memN x l = true ↔ x ∈ l
  | [] => by simp [memN]
  | y :: r => by
    simp only [memN, Bool.or_eq_true, List.mem_cons, memN_iff (l := r)]
    constructor
    · rintro (h | h)
      · exact .inl (Nat.eq_of_beq_eq_true h)
      · exact .inr h
    · rintro (rfl | h)
      · exact .inl (Nat.beq_refl _)
      · exact .inr h
theorem nodup_get : ∀ {l : List Nat}, nodupN l = true → ∀ {i j x : Nat}, l[i]? = some x → l[j]? = some x → i = j
  | [], _, i, j, x, h, _ => by simp at h
  | y :: r, hn, i, j, x, hi, hj => by
    simp only [nodupN, Bool.and_eq_true, Bool.not_eq_true'] at hn
    have hno : y ∉ r := fun h => by rw [memN_iff.2 h] at hn; cases hn.1
    cases i with
    | zero =>
      cases j with
      | zero => rfl
      | succ j =>
        simp only [List.getElem?_cons_zero, Option.some.injEq] at hi
        subst hi
        exact absurd (List.mem_of_getElem? (by simpa using hj)) hno
    | succ i =>
      cases j with
      | zero =>
        simp only [List.getElem?_cons_zero, Option.some.injEq] at hj
        subst hj
        exact absurd (List.mem_of_getElem? (by simpa using hi)) hno
      | succ j => exact congrArg (· + 1) (nodup_get hn.2 (x := x) (by simpa using hi) (by simpa using hj))
theorem idxN_get {x : Nat} : ∀ {l : List Nat} {i : Nat}, i ≤ idxN x l i ∧ (idxN x l i < i + l.length → l[idxN x l i - i]? = some x)
  | [], i => by simp [idxN]
  | y :: r, i => by
    unfold idxN
    split
    · rename_i h
      have h := Nat.eq_of_beq_eq_true h
      subst h
      exact ⟨Nat.le_refl _, fun _ => by simp⟩
    · obtain ⟨h1, h2⟩ := idxN_get (x := x) (l := r) (i := i + 1)
      refine ⟨by omega, fun h => ?_⟩
      have h3 := h2 (by simp at h; omega)
      rw [show idxN x r (i + 1) - i = (idxN x r (i + 1) - (i + 1)) + 1 by omega]
      simpa using h3
theorem allLt_mem {n : Nat} : ∀ {l : List Nat}, allLt n l = true → ∀ x ∈ l, x < n
  | [], _, x, h => by cases h
  | y :: r, hn, x, h => by
    simp only [allLt, Bool.and_eq_true] at hn
    rcases List.mem_cons.1 h with rfl | h
    · have : x + 1 ≤ n := by simpa [Nat.blt] using hn.1
      omega
    · exact allLt_mem hn.2 x h
theorem mapI_get {own : Nat → Own A} {φ : Nat → Nat} : ∀ (l : List Nat) (j : Nat), (mapI l own φ)[j]? = (l[j]?).map fun id => renO φ (own id)
  | [], j => by simp [mapI]
  | x :: r, j => by
    cases j with
    | zero => simp [mapI]
    | succ j => simpa [mapI] using mapI_get r j
theorem idsOs_mem {os : List (Own A)} : ∀ {j : Nat} {o : Own A}, os[j]? = some o → ∀ id ∈ idsO o, id ∈ idsOs os := by
  induction os with
  | nil => intro j o h; simp at h
  | cons p r ih =>
    intro j o h id hid
    simp only [idsOs, List.mem_append]
    cases j with
    | zero => simp at h; subst h; exact .inl hid
    | succ j => exact .inr (ih (by simpa using h) id hid)
theorem handAll_mem {own : Nat → Own A} : ∀ {l : List Nat}, handAll own l = true → ∀ id ∈ l, id < 1073741824 ∧ (((own id).mut = true ∧ (own id).plain = true) ∨ (own id).isAr = true)
  | [], _, id, h => by cases h
  | y :: r, hn, id, h => by
    simp only [handAll, Bool.and_eq_true, Bool.or_eq_true] at hn
    rcases List.mem_cons.1 h with rfl | h
    · exact ⟨blt_iff.1 hn.1.1, hn.1.2⟩
    · exact handAll_mem hn.2 id h
theorem idxN_lt {x : Nat} : ∀ {l : List Nat} {r : Nat}, l[r]? = some x → idxN x l 0 < l.length := by
  have key : ∀ (l : List Nat) (r i : Nat), l[r]? = some x → idxN x l i < i + l.length := by
    intro l
    induction l with
    | nil => intro r i h; simp at h
    | cons y l ih =>
      intro r i h
      unfold idxN
      split
      · simp
      · rename_i hne
        cases r with
        | zero => simp at h; subst h; exact absurd (Nat.beq_refl _) hne
        | succ r => have := ih r (i + 1) (by simpa using h); simp only [List.length_cons]; omega
  intro l r h
  simpa using key l r 0 h
theorem freeB_get {own : Nat → Own A} {k : Nat} : ∀ {n i : Nat}, freeB own k n = true → i < n → own (k + i) = .free
  | n + 1, i, h, hi => by
    simp only [freeB, Bool.and_eq_true] at h
    by_cases hin : i = n
    · subst hin
      have := h.1
      generalize own (k + i) = o at *
      cases o <;> simp_all
    · exact freeB_get h.2 (by omega)
def updG {α : Type} (f : Nat → α) (g : Nat → Nat) : List α → Nat → Nat → α
  | [], _ => f
  | x :: r, j => updG (upd f (g j) x) g r (j + 1)
theorem updG_other {α : Type} {g : Nat → Nat} {id : Nat} : ∀ {hs : List α} {f : Nat → α} {j : Nat}, (∀ i, i < hs.length → id ≠ g (j + i)) → updG f g hs j id = f id
  | [], f, j, _ => rfl
  | x :: r, f, j, h => by
    rw [updG, updG_other (hs := r) (fun i hi => by rw [Nat.add_right_comm, Nat.add_assoc]; exact h (i + 1) (by simpa using hi))]
    exact upd_ne _ _ (h 0 (by simp))
theorem updG_at {α : Type} {g : Nat → Nat} : ∀ {hs : List α} {f : Nat → α} {j i : Nat} {x : α}, (∀ i i', i < hs.length → i' < hs.length → g (j + i) = g (j + i') → i = i') → hs[i]? = some x → updG f g hs j (g (j + i)) = x
  | y :: r, f, j, i, x, hg, hi => by
    cases i with
    | zero =>
      simp only [List.getElem?_cons_zero, Option.some.injEq] at hi
      subst hi
      rw [updG, updG_other (hs := r) (fun i hi h => by
        have := hg 0 (i + 1) (by simp) (by simpa using hi) (by rw [h]; congr 1; omega)
        omega), Nat.add_zero, upd_same]
    | succ i =>
      rw [updG, show j + (i + 1) = j + 1 + i by omega]
      exact updG_at (hs := r) (fun a b ha hb h => by
        have := hg (a + 1) (b + 1) (by simpa using ha) (by simpa using hb) (by rw [show j + (a + 1) = j + 1 + a by omega, show j + (b + 1) = j + 1 + b by omega]; exact h)
        omega) (by simpa using hi)
theorem renO_live {φ : Nat → Nat} {o : Own A} : (renO φ o ≠ .free ↔ o ≠ .free) ∧ (renO φ o ≠ .dead ↔ o ≠ .dead) ∧ (renO φ o).mut = o.mut := by cases o <;> simp [renO, Own.mut]
theorem renO_ar {φ : Nat → Nat} {o : Own A} : (renO φ o).isAr = o.isAr := by cases o <;> rfl
theorem renO_nod {φ : Nat → Nat} {o : Own A} : (renO φ o).isNod = o.isNod := by cases o <;> rfl
theorem later_ren {φ ψ : Nat → Nat} {a b : Own A} (h : (renO φ a).later b) : a.later (renO ψ b) := by
  cases a <;> simp only [renO] at h <;> cases h <;> first | exact .dead _ | exact .var _ _ | (exact .row _ _ _ (by assumption)) | (exact .rowF _ _ _ (by assumption)) | exact .fro _ _ | exact .mp _ _ _ _ | exact .rowC _ _ _ _ _ | exact .ar _ _ _ _ | exact .nod _ _ | (exact .prow _ _ _ _ (by assumption))
theorem nodOf_ren {φ : Nat → Nat} (q : Nat) (n : Int) (ns : List Nd) (i : Nat) : renO φ (nodOf (A := A) q n ns i) = nodOf (φ q) n ns i := by
  unfold nodOf
  cases ns[i]? with
  | none => rfl
  | some x => cases i <;> rfl
theorem nodOf_nod {q q' : Nat} {n : Int} {ns : List Nd} {i : Nat} (h : (nodOf (A := A) q n ns i).isNod = false) : nodOf (A := A) q' n ns i = .free := by
  unfold nodOf at h ⊢
  cases hx : ns[i]? with
  | none => rfl
  | some x => rw [hx] at h; cases h
theorem nodOf_ids {q : Nat} {n : Int} {ns : List Nd} {i z : Nat} (h : z ∈ idsO (nodOf (A := A) q n ns i)) : z = q := by
  unfold nodOf at h
  cases hx : ns[i]? with
  | none => rw [hx] at h; cases h
  | some x =>
    rw [hx] at h
    cases i with
    | zero => simpa [idsO, ndCells, ids.go, ids] using h
    | succ i => simpa [idsO, ndCells, ids.go, ids] using h
theorem isAr_eq {o : Own A} (h : o.isAr = true) : ∃ n ns, o = .ar n ns := by cases o <;> first | exact ⟨_, _, rfl⟩ | cases h
theorem not_ar {o : Own A} (h : ¬ o.isAr = true) : o.isAr = false := by simpa using h
theorem updL_effI_lt {φ : Nat → Nat} : ∀ (os : List (Own A)) (own : Nat → Own A) (own2 : Nat → Own A) (j : Nat), (∀ i, i < 1152921504606846976 → own i = own2 i) → ∀ i, i < 1152921504606846976 → updL own (effI φ os j) i = updG own2 φ (os.map (renO φ)) j i
  | [], _, _, _, h, i, hi => h i hi
  | o :: r, own, own2, j, h, i, hi => by
    refine updL_effI_lt r (updO own (φ j) (renO φ o)) (upd own2 (φ j) (renO φ o)) (j + 1) (fun i hi => ?_) i hi
    rw [updO_lt hi]
    unfold upd
    split
    · rfl
    · exact h i hi
theorem Lk.effI {φ : Nat → Nat} : ∀ (os : List (Own A)) (own : Nat → Own A) (j : Nat), Lk own → (∀ i, i < os.length → φ (j + i) < 1152921504606846976) → (∀ i i', i < os.length → i' < os.length → φ (j + i) = φ (j + i') → i = i') →
    (∀ i o, os[i]? = some o → (own (φ (j + i))).isAr = true → o.isAr = true) → Lk (updL own (Sx.effI φ os j))
  | [], _, _, h, _, _, _ => h
  | o :: r, own, j, h, hD, hi, ha => by
    refine Lk.effI r (Sx.updO own (φ j) (renO φ o)) (j + 1) (h.updO (hD 0 (by simp)) (fun hq => by rw [renO_ar]; exact ha 0 o rfl hq)) (fun i hil => by rw [show j + 1 + i = j + (i + 1) by omega]; exact hD (i + 1) (by simpa using hil)) (fun a b ha hb hab => ?_) (fun i o' ho' hq => ?_)
    · have := hi (a + 1) (b + 1) (by simpa using ha) (by simpa using hb) (by rw [show j + (a + 1) = j + 1 + a by omega, show j + (b + 1) = j + 1 + b by omega]; exact hab)
      omega
    · have hil := (List.getElem?_eq_some_iff.1 ho').1
      rw [show j + 1 + i = j + (i + 1) by omega] at hq
      rw [updO_ne (hD (i + 1) (by simpa using hil)) (fun hx => by
        have := hi (i + 1) 0 (by simpa using hil) (by simp) (by rw [hx]; rfl)
        omega)] at hq
      exact ha (i + 1) o' (by simpa using ho') hq
theorem sameAr_get : ∀ {os os2 : List (Own A)}, sameAr os os2 = true → ∀ {i : Nat} {o o2 : Own A}, os[i]? = some o → os2[i]? = some o2 → o.isAr = true → o2.isAr = true
  | [], _, _, i, o, o2, h, _, _ => by simp at h
  | _ :: _, [], _, i, o, o2, _, h, _ => by simp at h
  | a :: r, b :: r2, hs, i, o, o2, h1, h2, h3 => by
    simp only [sameAr, Bool.and_eq_true, Bool.or_eq_true, Bool.not_eq_true'] at hs
    cases i with
    | zero =>
      simp only [List.getElem?_cons_zero, Option.some.injEq] at h1 h2
      subst h1; subst h2
      rcases hs.1 with h | h
      · rw [h] at h3; cases h3
      · exact h
    | succ i => exact sameAr_get hs.2 (by simpa using h1) (by simpa using h2) h3
/-- The callee's numbers, with those of its arenas' nodes, and what they are called outside. -/
structure Nums (D : Nat) (l : List Nat) (own : Nat → Own A) (src : Nat → Option Nat) : Prop where
  lo : ∀ j, j < 1152921504606846976 → src j = l[j]?
  hi : ∀ r i, r < 1073741824 → src (nodeNo r i) = (match l[r]? with
    | some q => if (own (nodeNo q i)).isNod = true then some (nodeNo q i) else none
    | none => none)
def srcN (l : List Nat) (own : Nat → Own A) (j : Nat) : Option Nat := match Nat.blt j 1152921504606846976 with
  | true => l[j]?
  | false => match l[ndId j]? with
    | some q => if (own (nodeNo q (ndIx j))).isNod = true then some (nodeNo q (ndIx j)) else none
    | none => none
theorem blt_node (r i : Nat) : Nat.blt (nodeNo r i) 1152921504606846976 = false := by
  cases h : Nat.blt (nodeNo r i) 1152921504606846976 with
  | false => rfl
  | true => have := blt_iff.1 h; have := nodeNo_ge r i; omega
theorem srcN_hi (l : List Nat) (own : Nat → Own A) (j : Nat) (h : Nat.blt j 1152921504606846976 = false) : srcN l own j = (match l[ndId j]? with
    | some q => if (own (nodeNo q (ndIx j))).isNod = true then some (nodeNo q (ndIx j)) else none
    | none => none) := by
  unfold srcN
  rw [h]
theorem srcN_ok (l : List Nat) (own : Nat → Own A) : Nums 0 l own (srcN l own) := by
  refine ⟨fun j hj => by simp only [srcN, blt_iff.2 hj], fun r i hr => ?_⟩
  have h1 := srcN_hi l own _ (blt_node r i)
  rw [nodeNo_mod i hr, nodeNo_div i hr] at h1
  exact h1
def handN (β : Nat → Option (Nat × Nat)) (x : Option Nat) : Option (Option (Nat × Nat)) := match x with
  | some id => some (β id)
  | none => none
theorem Nums.hand {l : List Nat} {own : Nat → Own A} {src : Nat → Option Nat} (h : Nums 0 l own src) (f : Option Nat → Option (Option (Nat × Nat)) := handN (fun _ => none)) {r i : Nat} (hr : r < 1073741824)
    (hs : (f (src (nodeNo r i))).isSome = true) (hf : f none = none := by rfl) (hf2 : ∀ x, (f (some x)).isSome = true := by intro x; rfl) : (f (src r)).isSome = true := by
  cases hl : l[r]? with
  | none =>
    have h1 := h.hi r i hr
    rw [hl] at h1
    have h1 : src (nodeNo r i) = none := h1
    rw [h1, hf] at hs
    cases hs
  | some q =>
    rw [h.lo r (by omega), hl]
    exact hf2 q
theorem Nums.cases {l : List Nat} {own : Nat → Own A} {src : Nat → Option Nat} (h : Nums 0 l own src) (hl : ∀ id ∈ l, id < 1073741824) {j id : Nat} (hj : src j = some id) :
    (j < 1152921504606846976 ∧ l[j]? = some id ∧ id < 1073741824) ∨ (∃ r i q, j = nodeNo r i ∧ r < 1073741824 ∧ l[r]? = some q ∧ q < 1073741824 ∧ id = nodeNo q i ∧ (own id).isNod = true) := by
  rcases Nat.lt_or_ge j 1152921504606846976 with hlt | hge
  · rw [h.lo j hlt] at hj
    exact .inl ⟨hlt, hj, hl id (List.mem_of_getElem? hj)⟩
  · have hr : ndId j < 1073741824 := ndId_lt _
    have hjj := nodeNo_of hge
    generalize ndId j = r at hr hjj
    generalize ndIx j = i at hjj
    subst hjj
    rw [h.hi r i hr] at hj
    split at hj
    · rename_i q hq
      split at hj
      · rename_i hn
        cases hj
        exact .inr ⟨r, i, q, rfl, hr, hq, hl q (List.mem_of_getElem? hq), rfl, hn⟩
      · cases hj
    · cases hj
theorem callH_sound (hclean : ∀ T x, noOwn.go (u.enc T x) = true) {w0 : W0} {O0 : Nat → Prop} {e : E A} (hr : HR P u w0 O0 e) {f k : Nat} {sp : HSpec A} (hsp : FnOkH P u f sp) {xs : List (SV A)} {vs : List Value} {c : Option Prop} {y : SV A} {F : Eff A}
    (hx : RepL P u e xs vs) (h : callH k e.own sp xs = some (c, y, F)) (hc : holds c) :
    Calls P f vs.toArray e.w fun r w' => ∃ v e', r = .returned v ∧ e'.w = w' ∧ HR P u w0 O0 e' ∧ Ext e e' ∧ e'.own = updL e.own F ∧ RepL P u e' [y] [v] := by
  unfold callH at h
  generalize hl : reach e.own 32 (addN [] (ids.go xs)) 0 = l at h
  simp only at h
  split at h
  case h_2 => cases h
  rename_i c0 y0 os2 hs
  split at h
  case isFalse => cases h
  rename_i hchk
  cases h
  simp only [Bool.and_eq_true] at hchk
  obtain ⟨⟨⟨⟨⟨⟨⟨⟨k1, k2⟩, k3⟩, k4⟩, k5⟩, k6, k6'⟩, k7⟩, k8⟩, k9, k10, k11⟩ := hchk
  have k5 := Nat.le_of_ble_eq_true k5
  have k6' := Nat.le_of_ble_eq_true k6'
  have k9 := blt_iff.1 k9
  have k10 := blt_iff.1 k10
  let φ := fun x => idxN x l 0
  let back := getN l k
  have hhand := handAll_mem k2
  have hlD : ∀ id ∈ l, id < 1073741824 := fun id hid => (hhand id hid).1
  have hsrc : Nums 0 l e.own (srcN l e.own) := srcN_ok l e.own
  generalize srcN l e.own = src at hsrc
  have hcs := fun {j id : Nat} (hj : src j = some id) => hsrc.cases hlD hj
  have hlive : ∀ {j id : Nat}, src j = some id → e.own id ≠ .free ∧ e.own id ≠ .dead := by
    intro j id hj
    rcases hcs hj with ⟨_, h2, _⟩ | ⟨r, i, q, _, _, _, _, _, hn⟩
    · rcases (hhand id (List.mem_of_getElem? h2)).2 with h3 | h3
      · exact mut_live h3.1
      · obtain ⟨n, ns, h4⟩ := isAr_eq h3
        rw [h4]; simp
    · constructor <;> intro hf <;> rw [hf] at hn <;> cases hn
  have hφ : ∀ id, φ id < l.length → l[φ id]? = some id := fun id h => by
    have := (idxN_get (x := id) (l := l) (i := 0)).2 (by simpa using h)
    simpa using this
  have hφ' : ∀ {r q : Nat}, l[r]? = some q → φ q = r := by
    intro r q hq
    have h1 : φ q < l.length := idxN_lt hq
    exact nodup_get k1 (hφ q h1) hq
  have hφx : ∀ id ∈ ids.go xs, φ id < l.length := fun id hid => allLt_mem k3 _ (by rw [ids_go_ren]; exact List.mem_map_of_mem hid)
  have hos : ∀ j, (mapI l e.own φ)[j]? = (l[j]?).map fun id => renO φ (e.own id) := fun j => mapI_get l j
  have hlk := hr.lk
  have hlkc : Lk (ownL (mapI l e.own φ)) := ownL_lk _
  have hownlo : ∀ {j id : Nat}, j < 1152921504606846976 → l[j]? = some id → ownL (mapI l e.own φ) j = renO φ (e.own id) := by
    intro j id hjH hj
    rw [ownL_lt hjH]
    unfold ownB
    rw [hos, hj]
    rfl
  have hownloN : ∀ {j : Nat}, j < 1152921504606846976 → l[j]? = none → ownL (mapI l e.own φ) j = .free := by
    intro j hjH hj
    rw [ownL_lt hjH]
    unfold ownB
    rw [hos, hj]
    rfl
  have hown : ∀ {j id : Nat}, src j = some id → ownL (mapI l e.own φ) j = renO φ (e.own id) := by
    intro j id hj
    rcases hcs hj with ⟨h1, h2, _⟩ | ⟨r, i, q, rfl, h2, h3, h4, rfl, hn⟩
    · exact hownlo h1 h2
    · have hrl := hownlo (j := r) (by omega) h3
      by_cases har : (e.own q).isAr = true
      · obtain ⟨n, ns, ho⟩ := isAr_eq har
        rw [ho] at hrl
        rw [hlkc.node i h2 hrl, hlk.node i h4 ho, nodOf_ren, hφ' h3]
      · rw [hlk.noNode i h4 (not_ar har)] at hn
        cases hn
  have hownN : ∀ {j : Nat}, src j = none → ownL (mapI l e.own φ) j = .free := by
    intro j hj
    rcases Nat.lt_or_ge j 1152921504606846976 with hlt | hge
    · rw [hsrc.lo j hlt] at hj
      exact hownloN hlt hj
    · have hrD : ndId j < 1073741824 := ndId_lt _
      have hjj := nodeNo_of hge
      generalize ndId j = r at hrD hjj
      generalize ndIx j = i at hjj
      subst hjj
      rw [hsrc.hi r i hrD] at hj
      split at hj
      · rename_i q hq
        split at hj
        · cases hj
        · rename_i hn
          have hqD := hlD q (List.mem_of_getElem? hq)
          have hrl := hownlo (j := r) (by omega) hq
          by_cases har : (e.own q).isAr = true
          · obtain ⟨n, ns, ho⟩ := isAr_eq har
            rw [ho] at hrl
            rw [hlk.node i hqD ho] at hn
            rw [hlkc.node i hrD hrl]
            exact nodOf_nod (by simpa using hn)
          · exact hlkc.noNode i hrD (by rw [hrl, renO_ar]; exact not_ar har)
      · rename_i hq
        exact hlkc.noNode i hrD (by rw [hownloN (by omega) hq]; rfl)
  have hSinj : ∀ {j j' id : Nat}, src j = some id → src j' = some id → j = j' := by
    intro j j' id hj hj'
    rcases hcs hj with ⟨h1, h2, h3⟩ | ⟨r, i, q, rfl, h2, h3, h4, rfl, hn⟩ <;> rcases hcs hj' with ⟨g1, g2, g3⟩ | ⟨r', i', q', rfl, g2, g3, g4, g5, gn⟩
    · exact nodup_get k1 h2 g2
    · subst g5; have := nodeNo_ge q' i'; omega
    · have := nodeNo_ge q i; omega
    · obtain ⟨rfl, rfl⟩ := nodeNo_inj h4 g4 g5
      rw [nodup_get k1 h3 g3]
  have hmutS : ∀ {j id b c : Nat}, src j = some id → e.β id = some (b, c) → (e.own id).mut = true := by
    intro j id b c hj hβ
    rcases hcs hj with ⟨_, h2, _⟩ | ⟨r, i, q, _, _, _, _, _, hn⟩
    · rcases (hhand id (List.mem_of_getElem? h2)).2 with h3 | h3
      · exact h3.1
      · obtain ⟨n, ns, h4⟩ := isAr_eq h3
        have := hr.ent id
        rw [h4] at this
        rw [show e.β id = none from this] at hβ
        cases hβ
    · generalize e.own id = o at hn
      cases o <;> first | rfl | cases hn
  let M : Nat → Prop := fun b => ∃ j id c, src j = some id ∧ e.β id = some (b, c)
  let w0c : W0 := ⟨e.w, M, fun j => handN e.β l[j]?, fun r i => handN e.β (src (nodeNo r i))⟩
  let ec : E A := { w := e.w, O := e.O, own := ownL (mapI l e.own φ), β := fun j => match src j with | some id => e.β id | none => none }
  have hβc : ∀ {j id : Nat}, src j = some id → ec.β j = e.β id := by intro j id hj; show (match src j with | some id => e.β id | none => none) = _; rw [hj]
  have hβcN : ∀ {j : Nat}, src j = none → ec.β j = none := by intro j hj; show (match src j with | some id => e.β id | none => none) = _; rw [hj]
  have hllen : l.length < 1073741824 := by omega
  have hsφ : ∀ {id : Nat}, φ id < l.length → src (φ id) = some id := by
    intro id h
    rw [hsrc.lo _ (by omega)]
    exact hφ id h
  have hsφN : ∀ {id : Nat} (i : Nat), φ id < l.length → (e.own (nodeNo id i)).isNod = true → src (nodeNo (φ id) i) = some (nodeNo id i) := by
    intro id i h hn
    rw [hsrc.hi _ i (by omega), hφ id h]
    simp only [hn, if_true]
  have hren : ∀ L : List Nat, (∀ id ∈ L, φ id < l.length) → Ren φ e ec L := fun L hL => ⟨rfl, fun _ h => h, fun id hid => hown (hsφ (hL id hid)), fun id hid _ _ => hβc (hsφ (hL id hid)),
    fun id hid i hn => ⟨by show (ownL (mapI l e.own φ) _).isNod = true; rw [hown (hsφN i (hL id hid) hn), renO_nod]; exact hn, hβc (hsφN i (hL id hid) hn)⟩, hlk⟩
  have hMfr : ∀ b, M b → w0.fr b := by
    rintro b ⟨j, id, c, hid, hβ⟩
    exact hr.frb P u (hlive hid).1 (hlive hid).2 hβ
  have hMmut : ∀ j b id c, src j = some id → e.β id = some (b, c) → e.O b → (e.own id).mut = true := by
    intro j b id c hid hβ hO
    rcases (hr.O b).1 hO with h0 | ⟨id2, c2, g1, g2⟩
    · exact absurd h0 (hr.notO0 P u (hlive hid).1 (hlive hid).2 hβ)
    · have := hr.inj id id2 b c c2 (hlive hid).1 (hlive hid).2 (mut_live g1).1 (mut_live g1).2 hβ g2
      subst this
      exact g1
  have hrc : HR P u w0c (fun b => e.O b ∧ ¬ M b) ec := by
    refine ⟨.refl w0c, fun b hb => ⟨hr.O_lt P u b hb.1, hb.2⟩, ?_, ?_, ?_, ?_, hlkc, fun r i hr' hs => ?_, fun j p hp => ?_, fun r i p hr' hp => ?_⟩
    · intro j j' b c1 c2 g1 g2 g3 g4 g5 g6
      cases hj : src j with
      | none => exact absurd (hownN hj) g1
      | some id =>
        cases hj' : src j' with
        | none => exact absurd (hownN hj') g3
        | some id' =>
          rw [hβc hj] at g5
          rw [hβc hj'] at g6
          have h1 := hlive hj
          have h2 := hlive hj'
          have := hr.inj id id' b c1 c2 h1.1 h1.2 h2.1 h2.2 g5 g6
          subst this
          exact hSinj hj hj'
    · intro b
      constructor
      · intro hO
        by_cases hM : M b
        · obtain ⟨j, id, c, hj, hβ⟩ := hM
          refine .inr ⟨j, c, ?_, (hβc hj).trans hβ⟩
          show (ownL (mapI l e.own φ) j).mut = true
          rw [hown hj, renO_live.2.2]
          exact hMmut j b id c hj hβ hO
        · exact .inl ⟨hO, hM⟩
      · rintro (h | ⟨j, c, g1, g2⟩)
        · exact h.1
        · cases hj : src j with
          | none => rw [show ec.own j = .free from hownN hj] at g1; cases g1
          | some id =>
            rw [show ec.own j = renO φ (e.own id) from hown hj, renO_live.2.2] at g1
            rw [hβc hj] at g2
            exact hr.ownO P u g1 g2
    · intro j
      cases hj : src j with
      | none => rw [show ec.own j = .free from hownN hj]; trivial
      | some id =>
        rw [show ec.own j = renO φ (e.own id) from hown hj]
        have hent := hr.ent id
        have hrow : ∀ {T : Nat} {xs : List (A T)}, ((xs = [] ∧ e.β id = none) ∨ RowAt P u e w0.fr id T xs) → (xs = [] ∧ ec.β j = none) ∨ RowAt P u ec w0c.fr j T xs := by
          intro T xs h
          rcases h with ⟨h1, h2⟩ | ⟨b, c, arr, T', fz, vss, h1, h2, h3, h3', h4, h5, h6⟩
          · exact .inl ⟨h1, (hβc hj).trans h2⟩
          · exact .inr ⟨b, c, arr, T', fz, vss, (hβc hj).trans h1, .inr ⟨j, id, c, hj, h1⟩, h3, h3', h4, h5, fun i x hi => ⟨(h6 i x hi).1.unbare P u hclean (e := e) (e' := ec) rfl (fun _ h => h) (hclean _ _), (h6 i x hi).2⟩⟩
        have hids : ∀ q ∈ idsO (e.own id), φ q < l.length := by
          intro q hq
          rcases hcs hj with ⟨_, h2, _⟩ | ⟨r, i, q', rfl, h2, h3, h4, rfl, hn⟩
          · refine allLt_mem k4 _ (idsOs_mem (j := j) (o := renO φ (e.own id)) (by rw [hos, h2]; rfl) _ ?_)
            generalize e.own id = o at hq ⊢
            cases o with
            | var cs => simp only [renO, idsO]; rw [ids_go_ren]; exact List.mem_map_of_mem hq
            | rowC T xs k cs => simp only [renO, idsO]; rw [ids_go_ren]; exact List.mem_map_of_mem hq
            | nod cs => simp only [renO, idsO]; rw [ids_go_ren]; exact List.mem_map_of_mem hq
            | prow a js => simp only [idsO, List.mem_singleton] at hq; subst hq; simp [renO, idsO]
            | _ => cases hq
          · by_cases har : (e.own q').isAr = true
            · obtain ⟨n, ns, ho⟩ := isAr_eq har
              rw [hlk.node i h4 ho] at hq
              rw [nodOf_ids hq, hφ' h3]
              exact (List.getElem?_eq_some_iff.1 h3).1
            · rw [hlk.noNode i h4 (not_ar har)] at hn
              cases hn
        generalize hoe : e.own id = o at *
        cases o with
        | free => trivial
        | dead => trivial
        | var cs =>
          obtain ⟨b, c, vs', T, h1, h2, h3, h4⟩ := hent
          exact ⟨b, c, vs', T, (hβc hj).trans h1, .inr ⟨j, id, c, hj, h1⟩, h3, h4.ren P u hclean (hren _ hids)⟩
        | row T xs => exact hrow hent
        | fro T xs => exact hrow hent
        | mp K V kvs =>
          obtain ⟨b, c, clock, es, h1, h2, h3, h4, h5⟩ := hent
          refine ⟨b, c, clock, es, (hβc hj).trans h1, .inr ⟨j, id, c, hj, h1⟩, h3, h4, fun i p hp => ?_⟩
          obtain ⟨en, g1, g2, g3⟩ := h5 i p hp
          exact ⟨en, g1, g2, g3.unbare P u hclean (e := e) (e' := ec) rfl (fun _ h => h) (valS_clean P u hclean V p.2)⟩
        | rowC T xs k cs =>
          obtain ⟨b, c, arr, T', fz, vss, h1, h2, h3, h3', h4, h5, h6, h7⟩ := hent
          refine ⟨b, c, arr, T', fz, vss, (hβc hj).trans h1, .inr ⟨j, id, c, hj, h1⟩, h3, h3', h4, h5, h6, fun i x hi => ?_⟩
          have h8 := h7 i x hi
          split at h8
          · rename_i hik
            rw [if_pos hik]
            exact ⟨h8.1.ren P u hclean (hren _ hids), h8.2⟩
          · rename_i hik
            rw [if_neg hik]
            exact ⟨h8.1.unbare P u hclean (e := e) (e' := ec) rfl (fun _ h => h) (hclean _ _), h8.2⟩
        | ar n ns => exact (hβc hj).trans hent
        | nod cs =>
          obtain ⟨b, c, vs', T, h1, h2, h3, h4⟩ := hent
          exact ⟨b, c, vs', T, (hβc hj).trans h1, .inr ⟨j, id, c, hj, h1⟩, h3, h4.ren P u hclean (hren _ hids)⟩
        | prow a js =>
          obtain ⟨b, c, arr, T', fz, h1, h2, h3, h4, h5, h6, h7⟩ := hent
          refine ⟨b, c, arr, T', fz, (hβc hj).trans h1, .inr ⟨j, id, c, hj, h1⟩, h3, h4, h5, h6, fun i q hq => ?_⟩
          obtain ⟨v, g1, g2⟩ := h7 i q hq
          have := g2.ren P u hclean (hren [a] (fun q hq => hids q (by simpa [idsO] using hq)))
          exact ⟨v, g1, by simpa [ren.go, ren] using this⟩
    · intro j p hp
      have hp' : handN e.β l[j]? = some p := hp
      cases hj0 : l[j]? with
      | none => rw [hj0] at hp'; cases hp'
      | some id =>
        have hjl := (List.getElem?_eq_some_iff.1 hj0).1
        have hj : src j = some id := by rw [hsrc.lo j (by omega)]; exact hj0
        rw [hj0] at hp'
        cases hp'
        refine .inr ⟨?_, hβc hj⟩
        show ownL (mapI l e.own φ) j ≠ .free
        rw [hown hj]
        exact renO_live.1.2 (hlive hj).1
    · have h1 := hsrc.hand (handN e.β) hr' hs
      rw [hsrc.lo r (by omega)] at h1
      exact h1
    · have hp' : handN e.β l[j]? = some p := hp
      cases hj0 : l[j]? with
      | none => rw [hj0] at hp'; cases hp'
      | some id => have hjl := (List.getElem?_eq_some_iff.1 hj0).1; omega
    · have hp' : handN e.β (src (nodeNo r i)) = some p := hp
      cases hj : src (nodeNo r i) with
      | none => rw [hj] at hp'; cases hp'
      | some id =>
        rw [hj] at hp'
        cases hp'
        refine .inr ⟨?_, hβc hj⟩
        show ownL (mapI l e.own φ) (nodeNo r i) ≠ .free
        rw [hown hj]
        exact renO_live.1.2 (hlive hj).1
  have hxc : RepL P u ec (ren.go φ xs) vs := hx.ren P u hclean (hren _ hφx)
  refine (hsp _ _ _ _ _ hs hc w0c _ ec vs hrc rfl hxc).mono ?_
  rintro r w' ⟨v, e2, rfl, hw2, hr2, hlat, ho2, hv⟩
  have hlk2 := hr2.lk
  have hback : ∀ {j id : Nat}, l[j]? = some id → back j = id := by intro j id hj; show getN l k j = id; unfold getN; rw [hj]
  have hbackN : ∀ {j : Nat}, l.length ≤ j → back j = k + (j - l.length) := by intro j hj; show getN l k j = _; unfold getN; rw [List.getElem?_eq_none hj]
  have hbD : ∀ {r : Nat}, r < os2.length → back r < 1073741824 := by
    intro r hr'
    by_cases hrl : r < l.length
    · rw [hback (List.getElem?_eq_getElem hrl)]
      exact hlD _ (List.getElem_mem hrl)
    · rw [hbackN (by omega)]
      omega
  have hfree : ∀ {j : Nat}, l.length ≤ j → j < os2.length → e.own (back j) = .free := by
    intro j h1 h2
    rw [hbackN h1]
    exact freeB_get k6 (by omega)
  have hliveL : ∀ {id : Nat}, id ∈ l → e.own id ≠ .free := by
    intro id hid
    obtain ⟨j, hj⟩ := List.getElem?_of_mem hid
    have hjl := (List.getElem?_eq_some_iff.1 hj).1
    exact (hlive (j := j) (by rw [hsrc.lo j (by omega)]; exact hj)).1
  have hbinj : ∀ i i', i < os2.length → i' < os2.length → back i = back i' → i = i' := by
    intro i i' hi hi' hb
    by_cases h1 : i < l.length <;> by_cases h2 : i' < l.length
    · rw [hback (List.getElem?_eq_getElem h1), hback (List.getElem?_eq_getElem h2)] at hb
      exact nodup_get k1 (List.getElem?_eq_getElem h1) (by rw [hb]; exact List.getElem?_eq_getElem h2)
    · have h3 := hfree (by omega) hi'
      rw [← hb, hback (List.getElem?_eq_getElem h1)] at h3
      exact absurd h3 (hliveL (List.getElem_mem h1))
    · have h3 := hfree (by omega) hi
      rw [hb, hback (List.getElem?_eq_getElem h2)] at h3
      exact absurd h3 (hliveL (List.getElem_mem h2))
    · rw [hbackN (by omega), hbackN (by omega)] at hb
      omega
  have hbinj0 : ∀ i i', i < os2.length → i' < os2.length → back (0 + i) = back (0 + i') → i = i' := by
    intro i i' hi hi' hb
    rw [Nat.zero_add, Nat.zero_add] at hb
    exact hbinj i i' hi hi' hb
  -- the callee's numbers behind the call
  let valid : Nat → Prop := fun j => j < os2.length ∨ ∃ r i, r < os2.length ∧ j = nodeNo r i
  let backX : Nat → Nat := fun j => if j < 1152921504606846976 then back j else nodeNo (back (ndId j)) (ndIx j)
  have hbXlo : ∀ {j : Nat}, j < os2.length → backX j = back j := fun {j} hj => if_pos (by omega)
  have hbXhi : ∀ {r : Nat} (i : Nat), r < os2.length → backX (nodeNo r i) = nodeNo (back r) i := by
    intro r i hr'
    have hge := nodeNo_ge r i
    show (if nodeNo r i < 1152921504606846976 then _ else _) = _
    rw [if_neg (by omega), nodeNo_mod i (by omega), nodeNo_div i (by omega)]
  have hXinj : ∀ {i i' : Nat}, valid i → valid i' → backX i = backX i' → i = i' := by
    intro a a' ha ha' hb
    rcases ha with ha | ⟨r, i, hr', rfl⟩ <;> rcases ha' with ha' | ⟨r', i', hr'', rfl⟩
    · rw [hbXlo ha, hbXlo ha'] at hb
      exact hbinj _ _ ha ha' hb
    · rw [hbXlo ha, hbXhi i' hr''] at hb
      have := nodeNo_ge (back r') i'
      have := hbD ha
      omega
    · rw [hbXlo ha', hbXhi i hr'] at hb
      have := nodeNo_ge (back r) i
      have := hbD ha'
      omega
    · rw [hbXhi i hr', hbXhi i' hr''] at hb
      obtain ⟨h1, rfl⟩ := nodeNo_inj (hbD hr') (hbD hr'') hb
      rw [hbinj _ _ hr' hr'' h1]
  let own' := updL e.own (effI back os2 0)
  have ho'lt : ∀ {id : Nat}, id < 1152921504606846976 → own' id = updG e.own back (os2.map (renO back)) 0 id := fun {id} hid => updL_effI_lt os2 e.own e.own 0 (fun _ _ => rfl) id hid
  have hlk' : Lk own' := by
    refine Lk.effI os2 e.own 0 hlk (fun i hi => by rw [Nat.zero_add]; have := hbD hi; omega) hbinj0 (fun i o ho har => ?_)
    rw [Nat.zero_add] at har
    by_cases hil : i < l.length
    · have hli := List.getElem?_eq_getElem hil
      rw [hback hli] at har
      exact sameAr_get k11 (i := i) (o := renO φ (e.own l[i])) (o2 := o) (by rw [hos, hli]; rfl) ho (by rw [renO_ar]; exact har)
    · rw [hfree (by omega) (List.getElem?_eq_some_iff.1 ho).1] at har
      cases har
  have hown2 : ∀ {j : Nat} {o : Own A}, os2[j]? = some o → e2.own j = o := by
    intro j o hj
    have := (List.getElem?_eq_some_iff.1 hj).1
    rw [ho2, ownL_lt (by omega)]; unfold ownB; rw [hj]
  have hatlo : ∀ {j : Nat}, j < os2.length → own' (back j) = renO back (e2.own j) := by
    intro j hj
    have hjo := List.getElem?_eq_getElem hj
    rw [ho'lt (by have := hbD hj; omega), hown2 hjo]
    have := updG_at (f := e.own) (g := back) (hs := os2.map (renO back)) (j := 0) (i := j) (x := renO back os2[j]) (by simpa using hbinj0) (by rw [List.getElem?_map, hjo]; rfl)
    simpa using this
  have hat1 : ∀ {j : Nat}, valid j → own' (backX j) = renO back (e2.own j) := by
    intro j hj
    rcases hj with hj | ⟨r, i, hr', rfl⟩
    · rw [hbXlo hj]; exact hatlo hj
    · rw [hbXhi i hr']
      have hlo := hatlo hr'
      by_cases har : (e2.own r).isAr = true
      · obtain ⟨n, ns, ho⟩ := isAr_eq har
        rw [ho] at hlo
        rw [hlk'.node i (hbD hr') hlo, hlk2.node i (by omega) ho, nodOf_ren]
      · rw [hlk'.noNode i (hbD hr') (by rw [hlo, renO_ar]; exact not_ar har), hlk2.noNode i (by omega) (not_ar har)]
        rfl
  obtain ⟨β', hβ1, hβ2⟩ : ∃ β' : Nat → Option (Nat × Nat), (∀ j, valid j → β' (backX j) = e2.β j) ∧ (∀ id, (∀ j, valid j → id ≠ backX j) → β' id = e.β id) := by
    classical
    refine ⟨fun id => if h : ∃ j, valid j ∧ id = backX j then e2.β h.choose else e.β id, fun j hj => ?_, fun id hid => ?_⟩
    · have h : ∃ j', valid j' ∧ backX j = backX j' := ⟨j, hj, rfl⟩
      show (if h : ∃ j', valid j' ∧ backX j = backX j' then e2.β h.choose else e.β (backX j)) = e2.β j
      rw [dif_pos h]
      obtain ⟨g1, g2⟩ := h.choose_spec
      rw [hXinj g1 hj g2.symm]
    · exact dif_neg (by rintro ⟨j, h1, h2⟩; exact hid j h1 h2)
  have hat : ∀ {j : Nat}, valid j → own' (backX j) = renO back (e2.own j) ∧ β' (backX j) = e2.β j := fun hj => ⟨hat1 hj, hβ1 _ hj⟩
  have houtlo : ∀ {id : Nat}, id < 1152921504606846976 → (∀ j, j < os2.length → id ≠ back j) → own' id = e.own id := by
    intro id hlt hid
    rw [ho'lt hlt]
    exact updG_other (by intro i hi; rw [Nat.zero_add]; exact hid i (by simpa using hi))
  have hout : ∀ {id : Nat}, (∀ j, valid j → id ≠ backX j) → own' id = e.own id ∧ β' id = e.β id := by
    intro id hid
    refine ⟨?_, hβ2 id hid⟩
    rcases Nat.lt_or_ge id 1152921504606846976 with hlt | hge
    · exact houtlo hlt (fun j hj => by rw [← hbXlo hj]; exact hid j (.inl hj))
    · rw [hlk' id hge, hlk id hge]
      have hrD : ndId id < 1073741824 := ndId_lt _
      refine hidO_eq (houtlo (by omega) (fun j hj hq => ?_))
      refine hid (nodeNo j (ndIx id)) (.inr ⟨j, _, hj, rfl⟩) ?_
      rw [hbXhi _ hj, ← hq, nodeNo_of hge]
  have hown2N : ∀ {j : Nat}, ¬ valid j → e2.own j = .free := by
    intro j hj
    have hlo : ∀ {j : Nat}, j < 1152921504606846976 → ¬ j < os2.length → e2.own j = .free := by
      intro j hjH hj
      rw [ho2, ownL_lt hjH]; unfold ownB; rw [List.getElem?_eq_none (by omega)]
    rcases Nat.lt_or_ge j 1152921504606846976 with hlt | hge
    · exact hlo hlt (fun h => hj (.inl h))
    · have hrD : ndId j < 1073741824 := ndId_lt _
      have hjj := nodeNo_of hge
      rw [← hjj]
      refine hlk2.noNode _ hrD ?_
      rw [hlo (by omega) (fun h => hj (.inr ⟨_, _, h, hjj.symm⟩))]
      rfl
  have hsX : ∀ {j id : Nat}, src j = some id → valid j ∧ backX j = id := by
    intro j id hj
    rcases hcs hj with ⟨h1, h2, _⟩ | ⟨r, i, q, rfl, h2, h3, h4, rfl, hn⟩
    · have := (List.getElem?_eq_some_iff.1 h2).1
      exact ⟨.inl (by omega), by rw [hbXlo (by omega)]; exact hback h2⟩
    · have := (List.getElem?_eq_some_iff.1 h3).1
      exact ⟨.inr ⟨r, i, by omega, rfl⟩, by rw [hbXhi i (by omega), hback h3]⟩
  have hsXN : ∀ {j : Nat}, valid j → src j = none → e.own (backX j) = .free := by
    intro j hj hs
    rcases hj with hj | ⟨r, i, hr', rfl⟩
    · rw [hbXlo hj]
      rw [hsrc.lo j (by omega)] at hs
      exact hfree (List.getElem?_eq_none_iff.1 hs) hj
    · rw [hbXhi i hr']
      rw [hsrc.hi r i (by omega)] at hs
      split at hs
      · rename_i q hq
        split at hs
        · cases hs
        · rename_i hn
          rw [hback hq]
          have hge := nodeNo_ge q i
          rw [hlk _ hge] at hn ⊢
          exact (hidO_nod e.own (nodeNo q i)).elim id (fun h => absurd h hn)
      · rename_i hq
        exact hlk.noNode i (hbD hr') (by rw [hfree (List.getElem?_eq_none_iff.1 hq) hr']; rfl)
  have hfrc : ∀ b, w0c.fr b → w0.fr b := by
    intro b hb
    rcases hb with hb | hb
    · exact .inl (Nat.le_trans hr.below.size hb)
    · exact hMfr b hb
  have hO0c : ∀ b, O0 b → e.O b ∧ ¬ M b := fun b hb => ⟨(hr.O b).2 (.inl hb), fun hM => hr.o0f P u hb (hMfr b hM)⟩
  have hnotM : ∀ {id b c : Nat}, (∀ j, valid j → id ≠ backX j) → e.own id ≠ .free → e.own id ≠ .dead → e.β id = some (b, c) → ¬ M b := by
    rintro id b c hid h1 h2 hβ ⟨j2, id2, c2, hid2, hβ2⟩
    have := hr.inj id id2 b c c2 h1 h2 (hlive hid2).1 (hlive hid2).2 hβ hβ2
    subst this
    obtain ⟨g1, g3⟩ := hsX hid2
    exact hid j2 g1 g3.symm
  have hrange : ∀ id, (∃ j, valid j ∧ id = backX j) ∨ (∀ j, valid j → id ≠ backX j) := by
    intro id
    by_cases h : ∃ j, valid j ∧ id = backX j
    · exact .inl h
    · exact .inr (fun j hj he => h ⟨j, hj, he⟩)
  let e' : E A := mkE O0 e2.w own' β'
  have hO : ∀ b, ¬ e2.O b → ¬ e'.O b := by
    intro b hb hb'
    apply hb
    rcases hb' with h0 | ⟨id, c, g1, g2⟩
    · exact (hr2.O b).2 (.inl (hO0c b h0))
    · rcases hrange id with ⟨j, hj, rfl⟩ | hno
      · rw [(hat hj).1, renO_live.2.2] at g1
        rw [(hat hj).2] at g2
        exact (hr2.O b).2 (.inr ⟨j, c, g1, g2⟩)
      · rw [(hout hno).1] at g1
        rw [(hout hno).2] at g2
        exact (hr2.O b).2 (.inl ⟨hr.ownO P u g1 g2, hnotM hno (mut_live g1).1 (mut_live g1).2 g2⟩)
  have hren2 : ∀ L : List Nat, (∀ id ∈ L, id < os2.length) → Ren back e2 e' L := fun L hL => ⟨rfl, hO, fun id hid => hatlo (hL id hid),
    fun id hid _ _ => by rw [← hbXlo (hL id hid)]; exact (hat (.inl (hL id hid))).2,
    fun id hid i hn => by
      have hv' : valid (nodeNo id i) := .inr ⟨id, i, hL id hid, rfl⟩
      have := hat hv'
      rw [hbXhi i (hL id hid)] at this
      exact ⟨by show (own' _).isNod = true; rw [this.1, renO_nod]; exact hn, this.2⟩, hlk2⟩
  have hids2 : ∀ {j : Nat}, valid j → ∀ q ∈ idsO (e2.own j), q < os2.length := by
    intro j hj q hq
    rcases hj with hj | ⟨r, i, hr', rfl⟩
    · have hjo := List.getElem?_eq_getElem hj
      rw [hown2 hjo] at hq
      exact allLt_mem k8 _ (idsOs_mem hjo _ hq)
    · by_cases har : (e2.own r).isAr = true
      · obtain ⟨n, ns, ho⟩ := isAr_eq har
        rw [hlk2.node i (by omega) ho] at hq
        rw [nodOf_ids hq]
        exact hr'
      · rw [hlk2.noNode i (by omega) (not_ar har)] at hq
        cases hq
  have hMO : ∀ b, M b → e.O b := by
    rintro b ⟨j, id, c, hid, hβ⟩
    exact hr.ownO P u (hmutS hid hβ) hβ
  have hnot2 : ∀ b, b < e.w.heap.size → ¬ e.O b → ¬ e2.O b := by
    intro b hb hbO h2
    rcases (hr2.O b).1 h2 with h0 | ⟨j, c, g1, g2⟩
    · exact hbO h0.1
    · rcases hr2.frb P u (mut_live g1).1 (mut_live g1).2 g2 with hfr | hfr
      · have hfr : e.w.heap.size ≤ b := hfr
        omega
      · exact hbO (hMO b hfr)
  have hext : Ext e e' := by
    refine ⟨hr2.below.size, fun b hb hbO => ⟨hO b (hnot2 b hb hbO), hr2.below.block b hb (fun hM => hbO (hMO b hM))⟩, fun id hid => ?_⟩
    rcases hrange id with ⟨j, hj, rfl⟩ | hno
    · cases hsj : src j with
      | some id0 =>
        have hbj := (hsX hsj).2
        have hcj : ec.own j = renO φ (e.own (backX j)) := by rw [hbj]; exact hown hsj
        have g1 := hlat j (by rw [hcj]; exact renO_live.1.2 hid)
        rw [hcj] at g1
        refine ⟨by show (e.own (backX j)).later (own' (backX j)); rw [(hat hj).1]; exact later_ren g1, fun hd => ?_⟩
        have hd' : e2.own j ≠ .dead := by
          intro h
          apply hd
          show own' (backX j) = .dead
          rw [(hat hj).1, h]
          rfl
        show β' (backX j) = _
        rcases hcs hsj with ⟨q1, q2, _⟩ | ⟨r, i, q, rfl, q2, q3, q4, rfl, hn⟩
        · have hh : w0c.hand j = some (e.β (backX j)) := by show handN e.β l[j]? = _; rw [q2, hbj]; rfl
          rcases hr2.hand j _ hh with h | ⟨_, h⟩
          · exact absurd h hd'
          · rw [(hat hj).2, h]
        · have hh : w0c.handN r i = some (e.β (backX (nodeNo r i))) := by show handN e.β (src (nodeNo r i)) = _; rw [hsj, hbj]; rfl
          rcases hr2.handN r i _ q2 hh with h | ⟨_, h⟩
          · exfalso
            have hrl := (List.getElem?_eq_some_iff.1 q3).1
            have har : (e.own q).isAr = true := by
              by_cases har : (e.own q).isAr = true
              · exact har
              · rw [hlk.noNode i q4 (not_ar har)] at hn; cases hn
            have hro : r < os2.length := by omega
            have := sameAr_get k11 (i := r) (o := renO φ (e.own q)) (o2 := os2[r]) (by rw [hos, q3]; rfl) (List.getElem?_eq_getElem hro) (by rw [renO_ar]; exact har)
            rw [← hown2 (List.getElem?_eq_getElem hro), h] at this
            cases this
          · rw [(hat hj).2, h]
      | none => exact absurd (hsXN hj hsj) hid
    · show (e.own id).later (own' id) ∧ (own' id ≠ .dead → β' id = e.β id)
      rw [(hout hno).1, (hout hno).2]
      exact ⟨.refl hid, fun _ => rfl⟩
  have hr' : HR P u w0 O0 e' := by
    refine hr.of P u hext (hr.below.step hr2.below.os hr2.below.tape hr2.below.output hr2.below.size (fun b hb hnf => hr2.below.block b hb (fun hM => hnf (hMfr b hM)))) ?_ ?_ hlk'
    · have hmix : ∀ {j a' b c c' : Nat}, e2.own j ≠ .free → e2.own j ≠ .dead → e2.β j = some (b, c) → (∀ j, valid j → a' ≠ backX j) → e.own a' ≠ .free → e.own a' ≠ .dead → e.β a' = some (b, c') → False := by
        intro j a' b c c' h1 h2 h3 h4 h5 h6 h7
        have hfr := hr2.frb P u (id := j) h1 h2 h3
        rcases hfr with hfr | hfr
        · have := hr.lt P u h5 h6 h7
          have hfr : e.w.heap.size ≤ b := hfr
          omega
        · exact hnotM h4 h5 h6 h7 hfr
      intro a a' b c1 c2 g1 g2 g3 g4 g5 g6
      rcases hrange a with ⟨j, hj, rfl⟩ | hno <;> rcases hrange a' with ⟨j', hj', rfl⟩ | hno'
      · rw [(hat hj).1] at g1 g2
        rw [(hat hj).2] at g5
        rw [(hat hj').1] at g3 g4
        rw [(hat hj').2] at g6
        have := hr2.inj j j' b c1 c2 (renO_live.1.1 g1) (renO_live.2.1.1 g2) (renO_live.1.1 g3) (renO_live.2.1.1 g4) g5 g6
        rw [this]
      · rw [(hat hj).1] at g1 g2
        rw [(hat hj).2] at g5
        rw [(hout hno').1] at g3 g4
        rw [(hout hno').2] at g6
        exact (hmix (renO_live.1.1 g1) (renO_live.2.1.1 g2) g5 hno' g3 g4 g6).elim
      · rw [(hout hno).1] at g1 g2
        rw [(hout hno).2] at g5
        rw [(hat hj').1] at g3 g4
        rw [(hat hj').2] at g6
        exact (hmix (renO_live.1.1 g3) (renO_live.2.1.1 g4) g6 hno g1 g2 g5).elim
      · rw [(hout hno).1] at g1 g2
        rw [(hout hno).2] at g5
        rw [(hout hno').1] at g3 g4
        rw [(hout hno').2] at g6
        exact hr.inj a a' b c1 c2 g1 g2 g3 g4 g5 g6
    · intro a
      rcases hrange a with ⟨j, hj, rfl⟩ | hno
      · rw [(hat hj).1]
        have hent := hr2.ent j
        have hids := hids2 hj
        have hrow : ∀ {T : Nat} {xs : List (A T)}, ((xs = [] ∧ e2.β j = none) ∨ RowAt P u e2 w0c.fr j T xs) → (xs = [] ∧ e'.β (backX j) = none) ∨ RowAt P u e' w0.fr (backX j) T xs := by
          intro T xs h
          rcases h with ⟨h1, h2⟩ | ⟨b, c, arr, T', fz, vss, h1, h2, h3, h3', h4, h5, h6⟩
          · exact .inl ⟨h1, (hat hj).2.trans h2⟩
          · exact .inr ⟨b, c, arr, T', fz, vss, (hat hj).2.trans h1, hfrc b h2, h3, h3', h4, h5, fun i x hi => ⟨(h6 i x hi).1.unbare P u hclean (e := e2) (e' := e') rfl hO (hclean _ _), (h6 i x hi).2⟩⟩
        generalize e2.own j = o at hent hids
        cases o with
        | free => trivial
        | dead => trivial
        | var cs =>
          obtain ⟨b, c, vs', T, h1, h2, h3, h4⟩ := hent
          exact ⟨b, c, vs', T, (hat hj).2.trans h1, hfrc b h2, h3, h4.ren P u hclean (hren2 _ hids)⟩
        | row T xs => exact hrow hent
        | fro T xs => exact hrow hent
        | mp K V kvs =>
          obtain ⟨b, c, clock, es, h1, h2, h3, h4, h5⟩ := hent
          refine ⟨b, c, clock, es, (hat hj).2.trans h1, hfrc b h2, h3, h4, fun i p hp => ?_⟩
          obtain ⟨en, g1, g2, g3⟩ := h5 i p hp
          exact ⟨en, g1, g2, g3.unbare P u hclean (e := e2) (e' := e') rfl hO (valS_clean P u hclean V p.2)⟩
        | rowC T xs q cs =>
          obtain ⟨b, c, arr, T', fz, vss, h1, h2, h3, h3', h4, h5, h6, h7⟩ := hent
          refine ⟨b, c, arr, T', fz, vss, (hat hj).2.trans h1, hfrc b h2, h3, h3', h4, h5, h6, fun i x hi => ?_⟩
          have h8 := h7 i x hi
          split at h8
          · rename_i hik
            rw [if_pos hik]
            exact ⟨h8.1.ren P u hclean (hren2 _ hids), h8.2⟩
          · rename_i hik
            rw [if_neg hik]
            exact ⟨h8.1.unbare P u hclean (e := e2) (e' := e') rfl hO (hclean _ _), h8.2⟩
        | ar n ns => exact (hat hj).2.trans hent
        | nod cs =>
          obtain ⟨b, c, vs', T, h1, h2, h3, h4⟩ := hent
          exact ⟨b, c, vs', T, (hat hj).2.trans h1, hfrc b h2, h3, h4.ren P u hclean (hren2 _ hids)⟩
        | prow a js =>
          obtain ⟨b, c, arr, T', fz, h1, h2, h3, h4, h5, h6, h7⟩ := hent
          refine ⟨b, c, arr, T', fz, (hat hj).2.trans h1, hfrc b h2, h3, h4, h5, h6, fun i q hq => ?_⟩
          obtain ⟨v, g1, g2⟩ := h7 i q hq
          have := g2.ren P u hclean (hren2 [a] (fun q hq => hids q (by simpa [idsO] using hq)))
          exact ⟨v, g1, by simpa [ren.go, ren] using this⟩
      · rw [(hout hno).1]
        by_cases hf : e.own a = .free
        · rw [hf]; trivial
        · by_cases hd : e.own a = .dead
          · rw [hd]; trivial
          · exact (hr.ent a).later P u hext (hout hno).2 (fun b c hβ => hr2.below.block b (hr.lt P u hf hd hβ) (hnotM hno hf hd hβ))
  refine ⟨v, e', rfl, hw2, hr', hext, rfl, ?_⟩
  have := hv.ren P u hclean (e' := e') (hren2 _ (fun id hid => allLt_mem k7 _ (by simpa [ids.go] using hid)))
  simpa [ren.go] using this
/-- A call that is handed rows by content, too: these are written to no more. -/
def callF (k : Nat) (own : Nat → Own A) (sp : HSpec A) (xs : List (SV A)) : HRes A := match callH k own sp xs with
  | some r => some r
  | none => match (frzL own xs).2 with
    | [] => none
    | _ => match callH k (updL own (frzL own xs).2) sp (frzL own xs).1 with
      | some (c, y, F) => some (c, y, (frzL own xs).2 ++ F)
      | none => none
theorem callF_sound (hclean : ∀ T x, noOwn.go (u.enc T x) = true) {w0 : W0} {O0 : Nat → Prop} {e : E A} (hr : HR P u w0 O0 e) {f k : Nat} {sp : HSpec A} (hsp : FnOkH P u f sp) {xs : List (SV A)} {vs : List Value} {c : Option Prop} {y : SV A} {F : Eff A}
    (hx : RepL P u e xs vs) (h : callF k e.own sp xs = some (c, y, F)) (hc : holds c) :
    Calls P f vs.toArray e.w fun r w' => ∃ v e', r = .returned v ∧ e'.w = w' ∧ HR P u w0 O0 e' ∧ Ext e e' ∧ e'.own = updL e.own F ∧ RepL P u e' [y] [v] := by
  unfold callF at h
  split at h
  · rename_i r hr'
    cases h
    exact callH_sound P u hclean hr hsp hx hr' hc
  · split at h
    · cases h
    · split at h
      case h_2 => cases h
      rename_i c1 y1 F1 hh
      cases h
      obtain ⟨e1, a1, a2, a3, a4, a5⟩ := frzL_sound P u hclean hr hx (ys := (frzL e.own xs).1) (f := (frzL e.own xs).2) rfl
      rw [← a4] at hh
      rw [← a1]
      refine (callH_sound P u hclean a2 hsp a5 hh hc).mono ?_
      rintro r w' ⟨v, e', h1, h2, h3, h4, h5, h6⟩
      exact ⟨v, e', h1, h2, h3, a3.trans h4, by rw [h5, a4, updL_app], h6⟩
/-! ### blocks that are only looked at -/
def noLit : SV A → Bool
  | .lit _ => false
  | .agg l => go l
  | .tup l => go l
  | .fn _ l => go l
  | .cptr l _ => go l
  | .wh _ _ x => noLit x
  | _ => true
where go : List (SV A) → Bool
  | [] => true
  | x :: r => noLit x && go r
def noLitO (own : Nat → Own A) : List Nat → Bool
  | [] => true
  | id :: r => (match own id with
    | .var cs => noLit.go cs
    | .rowC _ _ _ _ => false
    | _ => true) && noLitO own r
theorem ren_back (φ ψ : Nat → Nat) : ∀ x : SV A, noLit x = true → (∀ id ∈ ids x, ψ (φ id) = id) → ren ψ (ren φ x) = x := by
  intro x
  apply SV.rec (motive_1 := fun x => noLit x = true → (∀ id ∈ ids x, ψ (φ id) = id) → ren ψ (ren φ x) = x) (motive_2 := fun l => noLit.go l = true → (∀ id ∈ ids.go l, ψ (φ id) = id) → ren.go ψ (ren.go φ l) = l)
  all_goals (intros; first
    | rfl
    | (rename_i h _; simp only [noLit] at h; cases h; done)
    | (rename_i h; simp only [ren]; rw [h _ (by simp [ids])]; done)
    | (rename_i ih h1 h2; simp only [noLit, ids] at h1 h2; simp only [ren]; rw [ih h1 h2]; done)
    | (rename_i ih1 ih2 h1 h2; simp only [noLit.go, Bool.and_eq_true, ids.go, List.mem_append] at h1 h2; simp only [ren.go]; rw [ih1 h1.1 (fun id hi => h2 id (.inl hi)), ih2 h1.2 (fun id hi => h2 id (.inr hi))]; done))
theorem ren_go_back (φ ψ : Nat → Nat) : ∀ l : List (SV A), noLit.go l = true → (∀ id ∈ ids.go l, ψ (φ id) = id) → ren.go ψ (ren.go φ l) = l
  | [], _, _ => rfl
  | x :: r, h1, h2 => by
    simp only [noLit.go, Bool.and_eq_true, ids.go, List.mem_append] at h1 h2
    simp only [ren.go]
    rw [ren_back φ ψ x h1.1 (fun id hi => h2 id (.inl hi)), ren_go_back φ ψ r h1.2 (fun id hi => h2 id (.inr hi))]
theorem updL_eq : ∀ {F : Eff A} {own : Nat → Own A}, Lk own → (∀ p ∈ F, p.2 = own p.1) → updL own F = own
  | [], _, _, _ => rfl
  | (k, o) :: r, own, hlk, h => by
    have h0 : o = own k := h (k, o) (List.mem_cons_self ..)
    have hu0 : upd own k o = own := by
      funext i
      unfold upd
      split
      · rename_i hi; rw [hi, h0]
      · rfl
    have hu : updO own k o = own := by
      by_cases har : o.isAr = true
      · obtain ⟨n, ns, rfl⟩ := isAr_eq har
        funext i
        rcases Nat.lt_or_ge i 1152921504606846976 with hi | hi
        · rw [updO_lt hi, hu0]
        · rw [updO_ge hi]
          split
          · rename_i hq
            have hr : ndId i < 1073741824 := ndId_lt _
            rw [hlk i hi, hidO_ar (n := n) (ns := ns) (by rw [hq]; exact h0.symm), hq]
          · rfl
      · rw [updO_plain (not_ar har), hu0]
    unfold updL
    rw [hu]
    exact updL_eq hlk fun p hp => h p (List.mem_cons_of_mem _ hp)
theorem effI_mem {φ : Nat → Nat} : ∀ {os : List (Own A)} {j : Nat} {p : Nat × Own A}, p ∈ effI φ os j → ∃ i o, os[i]? = some o ∧ p = (φ (j + i), renO φ o)
  | [], _, p, h => by cases h
  | o :: r, j, p, h => by
    unfold effI at h
    rcases List.mem_cons.1 h with rfl | h
    · exact ⟨0, o, rfl, rfl⟩
    · obtain ⟨i, o', h1, rfl⟩ := effI_mem h
      exact ⟨i + 1, o', h1, by rw [show j + 1 + i = j + (i + 1) by omega]⟩
theorem noLitO_noC {own : Nat → Own A} : ∀ {l : List Nat}, noLitO own l = true → ∀ id ∈ l, ∀ T xs k cs, own id ≠ .rowC T xs k cs
  | [], _, id, h, _, _, _, _ => by cases h
  | x :: r, hl, id, h, T, xs, k, cs => by
    simp only [noLitO, Bool.and_eq_true] at hl
    intro ho
    rcases List.mem_cons.1 h with rfl | h
    · have := hl.1
      rw [ho] at this
      cases this
    · exact noLitO_noC hl.2 id h T xs k cs ho
theorem noLitO_mem {own : Nat → Own A} : ∀ {l : List Nat}, noLitO own l = true → ∀ id ∈ l, ∀ cs, own id = .var cs → noLit.go cs = true
  | [], _, id, h, _, _ => by cases h
  | x :: r, hl, id, h, cs, ho => by
    simp only [noLitO, Bool.and_eq_true] at hl
    rcases List.mem_cons.1 h with rfl | h
    · have := hl.1
      rw [ho] at this
      exact this
    · exact noLitO_mem hl.2 id h cs ho
def callL (k : Nat) (own : Nat → Own A) (sp : LSpec A) (xs : List (SV A)) : HRes A := if noLitO own (reach own 32 (addN [] (ids.go xs)) 0) then (match callH k own (lookH sp) xs with
  | some (c, y, _) => some (c, y, [])
  | none => none) else none
theorem callL_sound (hclean : ∀ T x, noOwn.go (u.enc T x) = true) {w0 : W0} {O0 : Nat → Prop} {e : E A} (hr : HR P u w0 O0 e) {f k : Nat} {sp : LSpec A} (hsp : FnOkH P u f (lookH sp)) {xs : List (SV A)} {vs : List Value} {c : Option Prop} {y : SV A} {F : Eff A}
    (hx : RepL P u e xs vs) (h : callL k e.own sp xs = some (c, y, F)) (hc : holds c) :
    Calls P f vs.toArray e.w fun r w' => ∃ v e', r = .returned v ∧ e'.w = w' ∧ HR P u w0 O0 e' ∧ Ext e e' ∧ e'.own = updL e.own F ∧ RepL P u e' [y] [v] := by
  unfold callL at h
  split at h
  case isFalse => cases h
  rename_i hnl
  split at h
  case h_2 => cases h
  rename_i c' y' F' hh
  cases h
  refine (callH_sound P u hclean hr hsp hx hh hc).mono ?_
  rintro r w' ⟨v, e', h1, h2, h3, h4, h5, h6⟩
  refine ⟨v, e', h1, h2, h3, h4, ?_, h6⟩
  rw [h5]
  show updL e.own F' = e.own
  apply updL_eq hr.lk
  unfold callH at hh
  generalize reach e.own 32 (addN [] (ids.go xs)) 0 = l at hh hnl
  simp only at hh
  split at hh
  case h_2 => cases hh
  rename_i c0 y0 os2 hs
  split at hh
  case isFalse => cases hh
  rename_i hchk
  cases hh
  simp only [Bool.and_eq_true] at hchk
  obtain ⟨⟨⟨⟨⟨⟨⟨⟨k1, k2⟩, k3⟩, k4⟩, k5⟩, k6, _⟩, k7⟩, k8⟩, _⟩ := hchk
  have hos2 : os2 = mapI l e.own (fun x => idxN x l 0) := by
    unfold lookH at hs
    split at hs
    · cases hs; rfl
    · cases hs
  subst hos2
  intro p hp
  obtain ⟨i, o, g1, rfl⟩ := effI_mem hp
  rw [mapI_get] at g1
  simp only [Option.map_eq_some_iff] at g1
  obtain ⟨id, g2, rfl⟩ := g1
  have hget : getN l k i = id := by unfold getN; rw [g2]
  simp only [Nat.zero_add, hget]
  have hqq : ∀ q ∈ idsO (e.own id), getN l k (idxN q l 0) = q := by
    intro q hq
    have hlt : idxN q l 0 < l.length := by
      have hmem : renO (fun x => idxN x l 0) (e.own id) ∈ mapI l e.own (fun x => idxN x l 0) := List.mem_of_getElem? (i := i) (by rw [mapI_get, g2]; rfl)
      have hin : ∀ {os : List (Own A)} {o : Own A} {z : Nat}, o ∈ os → z ∈ idsO o → z ∈ idsOs os := by
        intro os
        induction os with
        | nil => intro o z h; cases h
        | cons a r ih =>
          intro o z h hz
          simp only [idsOs, List.mem_append]
          rcases List.mem_cons.1 h with rfl | h
          · exact .inl hz
          · exact .inr (ih h hz)
      refine allLt_mem k4 _ (hin hmem ?_)
      generalize e.own id = o at hq ⊢
      cases o with
      | var cs => simp only [renO, idsO]; rw [ids_go_ren]; exact List.mem_map_of_mem hq
      | rowC T xs k cs => simp only [renO, idsO]; rw [ids_go_ren]; exact List.mem_map_of_mem hq
      | nod cs => simp only [renO, idsO]; rw [ids_go_ren]; exact List.mem_map_of_mem hq
      | prow a js => simp only [idsO, List.mem_singleton] at hq; subst hq; simp [renO, idsO]
      | _ => cases hq
    have := (idxN_get (x := q) (l := l) (i := 0)).2 (by simpa using hlt)
    unfold getN
    rw [show l[idxN q l 0]? = some q by simpa using this]
  cases ho : e.own id with
  | var cs =>
    simp only [renO]
    congr 1
    exact ren_go_back _ _ cs (noLitO_mem hnl id (List.mem_of_getElem? g2) cs ho) (fun q hq => hqq q (by rw [ho]; exact hq))
  | rowC T xs q cs => exact absurd ho (noLitO_noC hnl id (List.mem_of_getElem? g2) T xs q cs)
  | nod cs =>
    rcases (handAll_mem k2 id (List.mem_of_getElem? g2)).2 with h | h
    · rw [ho] at h; cases h.2
    · rw [ho] at h; cases h
  | prow a js =>
    simp only [renO]
    rw [hqq a (by rw [ho]; exact List.mem_singleton.2 rfl)]
  | _ => rfl
end
end Go.Proofs.Ytndacggailoogaa.Sx
