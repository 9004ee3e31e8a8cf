/- An abstract machine over values by content, eighth part: how the call's own blocks may turn. -/
import Derived.Test.YtndacggailoogaaSxG
import Derived.Laws.CopyRow
import Derived.Laws.CopyOwn
import Derived.Laws.MakeOwn
import Derived.Great.FillDense
namespace Go.Proofs.Ytndacggailoogaa.Sx
open Go Go.RowKit

section
variable {A : Nat → Type} (P : Program) (u : U A)

def upd {α : Type} (f : Nat → α) (k : Nat) (x : α) : Nat → α := fun i => if i = k then x else f i
theorem upd_same {α : Type} (f : Nat → α) (k : Nat) (x : α) : upd f k x k = x := by simp [upd]
theorem upd_ne {α : Type} (f : Nat → α) {k i : Nat} (x : α) (h : i ≠ k) : upd f k x i = f i := by simp [upd, h]
/-- What an operation does to the own blocks: a list of blocks that turn. -/
abbrev Eff (A : Nat → Type) := List (Nat × Own A)
/-- A block turns; with an arena turn its nodes. -/
def updO (own : Nat → Own A) (k : Nat) (o : Own A) : Nat → Own A := match o with
  | .ar n ns => fun i => match Nat.blt i 1152921504606846976 with
    | true => upd own k (.ar n ns) i
    | false => if ndId i = k then nodOf k n ns (ndIx i) else own i
  | o => upd own k o
def updL (own : Nat → Own A) : Eff A → Nat → Own A
  | [] => own
  | (k, o) :: r => updL (updO own k o) r
theorem updO_plain {own : Nat → Own A} {k : Nat} {o : Own A} (h : o.isAr = false) : updO own k o = upd own k o := by cases o <;> first | rfl | cases h
@[simp] theorem updO_dead {own : Nat → Own A} {k : Nat} : updO own k .dead = upd own k .dead := rfl
@[simp] theorem updO_var {own : Nat → Own A} {k : Nat} {c : List (SV A)} : updO own k (.var c) = upd own k (.var c) := rfl
@[simp] theorem updO_row {own : Nat → Own A} {k T : Nat} {c : List (A T)} : updO own k (.row T c) = upd own k (.row T c) := rfl
@[simp] theorem updO_fro {own : Nat → Own A} {k T : Nat} {c : List (A T)} : updO own k (.fro T c) = upd own k (.fro T c) := rfl
@[simp] theorem updO_mp {own : Nat → Own A} {k V : Nat} {K : IntKind} {c : List (Int × A V)} : updO own k (.mp K V c) = upd own k (.mp K V c) := rfl
@[simp] theorem updO_rowC {own : Nat → Own A} {k T q : Nat} {c : List (A T)} {l : List (SV A)} : updO own k (.rowC T c q l) = upd own k (.rowC T c q l) := rfl
@[simp] theorem updO_prow {own : Nat → Own A} {k a : Nat} {js : List Nat} : updO own k (.prow a js) = upd own k (.prow a js) := rfl
theorem blt_iff {a b : Nat} : Nat.blt a b = true ↔ a < b := by
  constructor
  · intro h; exact Nat.lt_of_succ_le (Nat.le_of_ble_eq_true h)
  · intro h; exact Nat.ble_eq_true_of_le h
theorem updO_lt {own : Nat → Own A} {k : Nat} {o : Own A} {i : Nat} (hi : i < 1152921504606846976) : updO own k o i = upd own k o i := by
  cases o <;> first | rfl | (simp only [updO, blt_iff.2 hi])
theorem updO_same {own : Nat → Own A} {k : Nat} {o : Own A} (hi : k < 1152921504606846976) : updO own k o k = o := by rw [updO_lt hi, upd_same]
theorem updO_ne {own : Nat → Own A} {k i : Nat} {o : Own A} (hi : i < 1152921504606846976) (h : i ≠ k) : updO own k o i = own i := by rw [updO_lt hi, upd_ne _ _ h]

/-- A block that is there, and no arena nor an arena's node. -/
def Own.plain : Own A → Bool
  | .var _ | .row _ _ | .fro _ _ | .mp _ _ _ | .rowC _ _ _ _ | .prow _ _ => true
  | _ => false
theorem Own.later.plain {a b : Own A} (h : a.later b) (hb : b.plain = true) : a.plain = true := by cases h <;> first | rfl | (cases hb)
theorem plain_live {o : Own A} (h : o.plain = true) : o ≠ .free ∧ o ≠ .dead ∧ o.isNod = false ∧ o.isAr = false := by cases o <;> simp_all [Own.plain, Own.isNod, Own.isAr]
theorem hidO_not {own own' : Nat → Own A} {k : Nat} (h : ∀ r, (own r).isAr = false → (own' r).isAr = false) (h2 : ∀ r, (own r).isAr = true → own' r = own r) : hidO own' k = hidO own k := by
  unfold hidO
  generalize hq : ndId k = r
  cases hr : (own r).isAr with
  | true => rw [h2 r hr]
  | false =>
    have := h r hr
    generalize own r = a at hr
    generalize own' r = b at this
    cases a <;> first | (cases hr; done) | (cases b <;> first | (cases this; done) | rfl)
theorem Lk.upd {own : Nat → Own A} {k : Nat} {o : Own A} (h : Lk own) (hk : k < 1152921504606846976) (h1 : (own k).isAr = false) (h2 : o.isAr = false) : Lk (Sx.upd own k o) := by
  intro i hi
  rw [Sx.upd_ne _ _ (show i ≠ k by omega), h i hi]
  refine (hidO_not (fun r hr => ?_) (fun r hr => ?_)).symm
  · by_cases hk : r = k
    · subst hk; rw [Sx.upd_same]; exact h2
    · rw [Sx.upd_ne _ _ hk]; exact hr
  · by_cases hk : r = k
    · subst hk; rw [h1] at hr; cases hr
    · rw [Sx.upd_ne _ _ hk]
theorem hidO_nod (own : Nat → Own A) (k : Nat) : hidO own k = .free ∨ (hidO own k).isNod = true := by
  unfold hidO
  split
  · unfold nodOf
    split
    · exact .inr rfl
    · exact .inl rfl
  · exact .inl rfl
theorem hidO_eq {own own' : Nat → Own A} {k : Nat} (h : own (ndId k) = own' (ndId k)) : hidO own k = hidO own' k := by
  unfold hidO
  rw [h]
theorem hidO_ar {own : Nat → Own A} {k : Nat} {n : Int} {ns : List Nd} (h : own (ndId k) = .ar n ns) : hidO own k = nodOf (ndId k) n ns (ndIx k) := by
  unfold hidO
  simp only [h]
theorem updO_ge {own : Nat → Own A} {k i : Nat} {n : Int} {ns : List Nd} (hi : 1152921504606846976 ≤ i) : updO own k (.ar n ns) i = if ndId i = k then nodOf k n ns (ndIx i) else own i := by
  have : Nat.blt i 1152921504606846976 = false := by
    cases h : Nat.blt i 1152921504606846976 with
    | false => rfl
    | true => have := blt_iff.1 h; omega
  simp only [updO, this]
theorem Lk.updO {own : Nat → Own A} {k : Nat} {o : Own A} (h : Lk own) (hk : k < 1152921504606846976) (h1 : (own k).isAr = true → o.isAr = true) : Lk (Sx.updO own k o) := by
  cases ho : o.isAr with
  | false =>
    rw [updO_plain ho]
    refine h.upd hk ?_ ho
    cases hq : (own k).isAr with
    | false => rfl
    | true => rw [h1 hq] at ho; cases ho
  | true =>
    cases o <;> try (cases ho; done)
    rename_i n ns
    intro i hi
    rw [updO_ge hi]
    have hr : ndId i < 1073741824 := ndId_lt _
    by_cases hq : ndId i = k
    · rw [if_pos hq]
      rw [hidO_ar (n := n) (ns := ns) (by rw [updO_lt (by omega), hq, upd_same]), hq]
    · rw [if_neg hq, h i hi]
      exact (hidO_eq (updO_ne (by omega) hq)).symm
/-- Own blocks by their low numbers. -/
def hid (own : Nat → Own A) (k : Nat) : Own A := match Nat.blt k 1152921504606846976 with
  | true => own k
  | false => hidO own k
theorem hid_lt {own : Nat → Own A} {k : Nat} (h : k < 1152921504606846976) : hid own k = own k := by simp only [hid, blt_iff.2 h]
theorem hid_ge {own : Nat → Own A} {k : Nat} (h : 1152921504606846976 ≤ k) : hid own k = hidO own k := by
  have : Nat.blt k 1152921504606846976 = false := by
    cases h : Nat.blt k 1152921504606846976 with
    | false => rfl
    | true => have := blt_iff.1 h; omega
  simp only [hid, this]
theorem Lk.hid (own : Nat → Own A) : Lk (Sx.hid own) := by
  intro k hk
  rw [hid_ge hk]
  have hr : ndId k < 1073741824 := ndId_lt _
  exact hidO_eq (hid_lt (by omega)).symm
theorem Lk.ext {own own' : Nat → Own A} (h : Lk own) (h' : Lk own') (heq : ∀ k, k < 1152921504606846976 → own k = own' k) : own = own' := by
  funext k
  rcases Nat.lt_or_ge k 1152921504606846976 with hk | hk
  · exact heq k hk
  · rw [h k hk, h' k hk]
    have hr : ndId k < 1073741824 := ndId_lt _
    exact hidO_eq (heq _ (by omega))
theorem nodeNo_ge (id j : Nat) : 1152921504606846976 ≤ nodeNo id j := by have := bigN_eq; unfold nodeNo; omega
theorem nodeNo_mod {id : Nat} (j : Nat) (h : id < 1073741824) : ndId (nodeNo id j) = id := by unfold ndId nodeNo; omega
theorem nodeNo_div {id : Nat} (j : Nat) (h : id < 1073741824) : ndIx (nodeNo id j) = j := by unfold ndIx nodeNo; omega
theorem nodeNo_of {k : Nat} (h : 1152921504606846976 ≤ k) : nodeNo (ndId k) (ndIx k) = k := by have := bigN_eq; unfold nodeNo ndId ndIx; omega
theorem nodeNo_inj {id id' j j' : Nat} (h : id < 1073741824) (h' : id' < 1073741824) (he : nodeNo id j = nodeNo id' j') : id = id' ∧ j = j' := by unfold nodeNo at he; omega
theorem Lk.node {own : Nat → Own A} (h : Lk own) {id : Nat} (j : Nat) {n : Int} {ns : List Nd} (hid : id < 1073741824) (ho : own id = .ar n ns) : own (nodeNo id j) = nodOf id n ns j := by
  rw [h _ (nodeNo_ge id j)]
  unfold hidO
  rw [nodeNo_mod j hid, nodeNo_div j hid, ho]
theorem Lk.noNode {own : Nat → Own A} (h : Lk own) {id : Nat} (j : Nat) (hid : id < 1073741824) (ho : (own id).isAr = false) : own (nodeNo id j) = .free := by
  rw [h _ (nodeNo_ge id j)]
  unfold hidO
  rw [nodeNo_mod j hid]
  generalize own id = o at ho
  cases o <;> first | rfl | cases ho
theorem Lk.lt {own : Nat → Own A} {k : Nat} (h : Lk own) (h1 : own k ≠ .free) (h2 : (own k).isNod = false) : k < 1152921504606846976 := by
  rcases Nat.lt_or_ge k 1152921504606846976 with hk | hk
  · exact hk
  · rw [h k hk] at h1 h2
    rcases hidO_nod own k with g | g
    · exact absurd g h1
    · rw [g] at h2; cases h2
theorem Lk.pl {own : Nat → Own A} {k : Nat} (h : Lk own) (h1 : (own k).plain = true) : k < 1152921504606846976 := h.lt (plain_live h1).1 (plain_live h1).2.2.1
/-- A value that names no block of the call's own. -/
def noOwn : SV A → Bool
  | .agg l => go l
  | .tup l => go l
  | .fn _ l => go l
  | .cptr l _ => go l
  | .optr _ _ | .rptr _ _ _ | .osl _ _ _ | .esl _ _ _ _ _ _ | .bptr _ _ _ _ _ | .omap _ | .cx _ _ _ | .np _ _ _ | .orow _ | .vsl _ _ _ | .wh _ _ _ => false
  | _ => true
where go : List (SV A) → Bool
  | [] => true
  | x :: r => noOwn x && go r
/-- The environment of a callee: no own block yet. -/
def bareE (e : E A) : E A := { e with own := fun _ => .dead, β := fun _ => none }
theorem RepL.bare {e : E A} {xs : List (SV A)} {vs : List Value} (h : RepL P u e xs vs) : RepL P u (bareE e) xs vs :=
  h.ext P u (e := e) (e' := bareE e) ⟨Nat.le_refl _, fun _ _ ho => ⟨ho, rfl⟩, fun _ _ => ⟨.dead _, fun hd => absurd rfl hd⟩⟩
theorem RepL.unbare (hp : ∀ T x, noOwn.go (u.enc T x) = true) {e e' : E A} (hw : e'.w = e.w) (hO : ∀ b, ¬ e.O b → ¬ e'.O b) {xs : List (SV A)} {vs : List Value} (h : RepL P u e xs vs) : noOwn.go xs = true → RepL P u e' xs vs := by
  induction h with
  | nil => intro _; exact .nil
  | top v _ ih => intro hn; exact .top v (ih (by simpa [noOwn.go, noOwn] using hn))
  | undef _ ih => intro hn; exact .undef (ih (by simpa [noOwn.go, noOwn] using hn))
  | int k n _ ih => intro hn; exact .int k n (ih (by simpa [noOwn.go, noOwn] using hn))
  | bool b _ ih => intro hn; exact .bool b (ih (by simpa [noOwn.go, noOwn] using hn))
  | lit b _ ih => intro hn; exact .lit b (ih (by simpa [noOwn.go, noOwn] using hn))
  | str s _ ih => intro hn; exact .str s (ih (by simpa [noOwn.go, noOwn] using hn))
  | nilp _ ih => intro hn; exact .nilp (ih (by simpa [noOwn.go, noOwn] using hn))
  | nils _ ih => intro hn; exact .nils (ih (by simpa [noOwn.go, noOwn] using hn))
  | fn f cap caps _ _ ih1 ih2 => intro hn; simp only [noOwn.go, noOwn, Bool.and_eq_true] at hn; exact .fn f cap caps (ih1 hn.1) (ih2 hn.2)
  | agg l cs _ _ ih1 ih2 => intro hn; simp only [noOwn.go, noOwn, Bool.and_eq_true] at hn; exact .agg l cs (ih1 hn.1) (ih2 hn.2)
  | tup l cs _ _ ih1 ih2 => intro hn; simp only [noOwn.go, noOwn, Bool.and_eq_true] at hn; exact .tup l cs (ih1 hn.1) (ih2 hn.2)
  | csl T ys a len cap vss hl hc hm hz hx _ ihx ih =>
    intro hn
    exact .csl T ys a len cap vss hl hc (hm.imp id fun ⟨b, o, h1, h2, h3, h4⟩ => ⟨b, o, h1, by rw [hw]; exact h2, hO b h3, by rw [hw]; exact h4⟩) hz (fun i x hi => ihx i x hi (hp T x)) (ih (by simpa [noOwn.go, noOwn] using hn))
  | nsl q T ys a len cap vss hl hc hm hz hx hq _ ihx ih =>
    intro hn
    exact .nsl q T ys a len cap vss hl hc (hm.imp id fun ⟨b, o, h1, h2, h3, h4⟩ => ⟨b, o, h1, by rw [hw]; exact h2, hO b h3, by rw [hw]; exact h4⟩) hz (fun i x hi => ihx i x hi (hp T x)) hq (ih (by simpa [noOwn.go, noOwn] using hn))
  | cptr cs off b o cv hb ho hm _ _ ihx ih =>
    intro hn
    simp only [noOwn.go, noOwn, Bool.and_eq_true] at hn
    exact .cptr cs off b o cv (by rw [hw]; exact hb) (hO b ho) (by rw [hw]; exact hm) (ihx hn.1) (ih hn.2)
  | optr => intro hn; simp [noOwn.go, noOwn] at hn
  | optrD => intro hn; simp [noOwn.go, noOwn] at hn
  | rptr => intro hn; simp [noOwn.go, noOwn] at hn
  | rptrD => intro hn; simp [noOwn.go, noOwn] at hn
  | osl => intro hn; simp [noOwn.go, noOwn] at hn
  | oslD => intro hn; simp [noOwn.go, noOwn] at hn
  | oslZ => intro hn; simp [noOwn.go, noOwn] at hn
  | esl => intro hn; simp [noOwn.go, noOwn] at hn
  | bptr => intro hn; simp [noOwn.go, noOwn] at hn
  | bptrD => intro hn; simp [noOwn.go, noOwn] at hn
  | omap => intro hn; simp [noOwn.go, noOwn] at hn
  | omapD => intro hn; simp [noOwn.go, noOwn] at hn
  | cx => intro hn; simp [noOwn.go, noOwn] at hn
  | cxD => intro hn; simp [noOwn.go, noOwn] at hn
  | np => intro hn; simp [noOwn.go, noOwn] at hn
  | npD => intro hn; simp [noOwn.go, noOwn] at hn
  | eslD => intro hn; simp [noOwn.go, noOwn] at hn
  | orow => intro hn; simp [noOwn.go, noOwn] at hn
  | orowN => intro hn; simp [noOwn.go, noOwn] at hn
  | orowD => intro hn; simp [noOwn.go, noOwn] at hn
  | zsl a _ ih => intro hn; exact .zsl a (ih (by simpa [noOwn.go, noOwn] using hn))
  | vsl => intro hn; simp [noOwn.go, noOwn] at hn
  | vslD => intro hn; simp [noOwn.go, noOwn] at hn
  | el T x cs _ _ ih1 ih2 => intro hn; exact .el T x cs (ih1 (hp T x)) (ih2 (by simpa [noOwn.go, noOwn] using hn))


theorem RowAt.later {e e' : E A} {fr : Nat → Prop} {id T : Nat} {xs : List (A T)} (h : RowAt P u e fr id T xs) (hx : Ext e e') (hβ : e'.β id = e.β id) (hh : ∀ b c, e.β id = some (b, c) → e'.w.heap[b]? = e.w.heap[b]?) : RowAt P u e' fr id T xs := by
  obtain ⟨b, c, arr, T', fz, vss, h1, h2, h3, h3', h4, h5, h6⟩ := h
  exact ⟨b, c, arr, T', fz, vss, hβ.trans h1, h2, (hh b c h1).trans h3, h3', h4, h5, fun i x hi => ⟨(h6 i x hi).1.ext P u hx, (h6 i x hi).2⟩⟩
theorem EntOk.later {e e' : E A} {fr : Nat → Prop} {id : Nat} {o : Own A} (h : EntOk P u e fr id o) (hx : Ext e e') (hβ : e'.β id = e.β id) (hh : ∀ b c, e.β id = some (b, c) → e'.w.heap[b]? = e.w.heap[b]?) : EntOk P u e' fr id o := by
  cases o with
  | free => trivial
  | dead => trivial
  | var cells =>
    obtain ⟨b, c, vs, T, h1, h2, h3, h4⟩ := h
    exact ⟨b, c, vs, T, hβ.trans h1, h2, (hh b c h1).trans h3, h4.ext P u hx⟩
  | row T xs =>
    rcases h with ⟨h1, h2⟩ | h
    · exact .inl ⟨h1, hβ.trans h2⟩
    · exact .inr (h.later P u hx hβ hh)
  | fro T xs =>
    rcases h with ⟨h1, h2⟩ | h
    · exact .inl ⟨h1, hβ.trans h2⟩
    · exact .inr (h.later P u hx hβ hh)
  | mp K V kvs =>
    obtain ⟨b, c, clock, es, h1, h2, h3, h4, h5⟩ := h
    refine ⟨b, c, clock, es, hβ.trans h1, h2, (hh b c h1).trans h3, h4, fun i p hp => ?_⟩
    obtain ⟨en, g1, g2, g3⟩ := h5 i p hp
    exact ⟨en, g1, g2, g3.ext P u hx⟩
  | rowC T xs k cs =>
    obtain ⟨b, c, arr, T', fz, vss, h1, h2, h3, h3', h4, h5, h6, h7⟩ := h
    refine ⟨b, c, arr, T', fz, vss, hβ.trans h1, h2, (hh b c h1).trans h3, h3', h4, h5, h6, fun i x hi => ?_⟩
    have h8 := h7 i x hi
    split at h8
    · rename_i hik
      rw [if_pos hik]
      exact ⟨h8.1.ext P u hx, h8.2⟩
    · rename_i hik
      rw [if_neg hik]
      exact ⟨h8.1.ext P u hx, h8.2⟩
  | ar n ns => exact hβ.trans h
  | nod cells =>
    obtain ⟨b, c, vs, T, h1, h2, h3, h4⟩ := h
    exact ⟨b, c, vs, T, hβ.trans h1, h2, (hh b c h1).trans h3, h4.ext P u hx⟩
  | prow a js =>
    obtain ⟨b, c, arr, T', fz, h1, h2, h3, h3', h4, h5, h6⟩ := h
    exact ⟨b, c, arr, T', fz, hβ.trans h1, h2, (hh b c h1).trans h3, h3', h4, h5, fun i j hj => (h6 i j hj).imp fun v k => ⟨k.1, k.2.ext P u hx⟩⟩
/-- Where a block of the call's own lies. -/
theorem EntOk.place {e : E A} {fr : Nat → Prop} {id : Nat} {o : Own A} (h : EntOk P u e fr id o) {b c : Nat} (hβ : e.β id = some (b, c)) (hf : o ≠ .free) (hd : o ≠ .dead) : fr b ∧ ∃ ob, e.w.heap[b]? = some ob := by
  have hrow : ∀ {T : Nat} {xs : List (A T)}, ((xs = [] ∧ e.β id = none) ∨ RowAt P u e fr id T xs) → fr b ∧ ∃ ob, e.w.heap[b]? = some ob := by
    intro T xs h
    rcases h with ⟨_, hn⟩ | ⟨b', c', arr, T', fz, vss, h1, h2, h3, _⟩
    · rw [hn] at hβ; cases hβ
    · rw [hβ] at h1; cases h1
      exact ⟨h2, _, h3⟩
  cases o with
  | free => exact absurd rfl hf
  | dead => exact absurd rfl hd
  | var cells =>
    obtain ⟨b', c', vs, T, h1, h2, h3, _⟩ := h
    rw [hβ] at h1; cases h1
    exact ⟨h2, _, h3⟩
  | row T xs => exact hrow h
  | fro T xs => exact hrow h
  | mp K V kvs =>
    obtain ⟨b', c', clock, es, h1, h2, h3, _⟩ := h
    rw [hβ] at h1; cases h1
    exact ⟨h2, _, h3⟩
  | rowC T xs k cs =>
    obtain ⟨b', c', arr, T', fz, vss, h1, h2, h3, _⟩ := h
    rw [hβ] at h1; cases h1
    exact ⟨h2, _, h3⟩
  | ar n ns => rw [show e.β id = none from h] at hβ; cases hβ
  | nod cells =>
    obtain ⟨b', c', vs, T, h1, h2, h3, _⟩ := h
    rw [hβ] at h1; cases h1
    exact ⟨h2, _, h3⟩
  | prow a js =>
    obtain ⟨b', c', arr, T', fz, h1, h2, h3, _⟩ := h
    rw [hβ] at h1; cases h1
    exact ⟨h2, _, h3⟩
theorem alloc_size (w : World) (o : Obj) : (w.alloc o).heap.size = w.heap.size + 1 := by show (w.heap.push o).size = _; simp
theorem alloc_get (w : World) (o : Obj) : (w.alloc o).heap[w.heap.size]? = some o := by show (w.heap.push o)[w.heap.size]? = _; simp
theorem lt_of_get {w : World} {b : Nat} {o : Obj} (h : w.heap[b]? = some o) : b < w.heap.size := (Array.getElem?_eq_some_iff.1 h).1

/-- A state of memory, whose written blocks are those that it names. -/
def mkE (O0 : Nat → Prop) (w : World) (own : Nat → Own A) (β : Nat → Option (Nat × Nat)) : E A :=
  { w := w, O := fun b => O0 b ∨ ∃ id c, (own id).mut = true ∧ β id = some (b, c), own := own, β := β }
theorem mut_live {o : Own A} (h : o.mut = true) : o ≠ .free ∧ o ≠ .dead := by cases o <;> simp_all [Own.mut]
theorem HR.lt {w0 : W0} {O0 : Nat → Prop} {e : E A} (hr : HR P u w0 O0 e) {id b c : Nat} (h1 : e.own id ≠ .free) (h2 : e.own id ≠ .dead) (hβ : e.β id = some (b, c)) : b < e.w.heap.size := by
  obtain ⟨_, ob, h⟩ := (hr.ent id).place P u hβ h1 h2
  exact lt_of_get h
theorem HR.frb {w0 : W0} {O0 : Nat → Prop} {e : E A} (hr : HR P u w0 O0 e) {id b c : Nat} (h1 : e.own id ≠ .free) (h2 : e.own id ≠ .dead) (hβ : e.β id = some (b, c)) : w0.fr b := ((hr.ent id).place P u hβ h1 h2).1
/-- A block that is written to by others is not one of the call's own. -/
theorem HR.notO0 {w0 : W0} {O0 : Nat → Prop} {e : E A} (hr : HR P u w0 O0 e) {id b c : Nat} (h1 : e.own id ≠ .free) (h2 : e.own id ≠ .dead) (hβ : e.β id = some (b, c)) : ¬ O0 b := fun h => hr.o0f P u h (hr.frb P u h1 h2 hβ)
theorem HR.O_lt {w0 : W0} {O0 : Nat → Prop} {e : E A} (hr : HR P u w0 O0 e) : ∀ b, e.O b → b < e.w.heap.size := by
  intro b hb
  rcases (hr.O b).1 hb with h | ⟨id, c, h1, h2⟩
  · exact Nat.lt_of_lt_of_le (hr.o0 b h).1 hr.below.size
  · exact hr.lt P u (mut_live h1).1 (mut_live h1).2 h2
theorem hand_ext {w0 : W0} {e e' : E A} (h : ∀ id p, w0.hand id = some p → e.own id = .dead ∨ (e.own id ≠ .free ∧ e.β id = p)) (hx : Ext e e') : ∀ id p, w0.hand id = some p → e'.own id = .dead ∨ (e'.own id ≠ .free ∧ e'.β id = p) := by
  intro id p hp
  rcases h id p hp with h | ⟨h1, h2⟩
  · left
    obtain ⟨g, _⟩ := hx.own id (by rw [h]; simp)
    rw [h] at g
    generalize e'.own id = o at g
    cases g
    rfl
  · obtain ⟨g1, g2⟩ := hx.own id h1
    by_cases hd : e'.own id = .dead
    · exact .inl hd
    · exact .inr ⟨g1.not_free, (g2 hd).trans h2⟩
theorem Lk.not_dead {own : Nat → Own A} (h : Lk own) (id j : Nat) : own (nodeNo id j) ≠ .dead := by
  rw [h _ (nodeNo_ge id j)]
  rcases hidO_nod own (nodeNo id j) with g | g
  · rw [g]; simp
  · intro hd; rw [hd] at g; cases g
theorem handN_ext {w0 : W0} {e e' : E A} (hlk : Lk e'.own) (h : ∀ id j p, id < 1073741824 → w0.handN id j = some p → e.own id = .dead ∨ (e.own (nodeNo id j) ≠ .free ∧ e.β (nodeNo id j) = p)) (hx : Ext e e') :
    ∀ id j p, id < 1073741824 → w0.handN id j = some p → e'.own id = .dead ∨ (e'.own (nodeNo id j) ≠ .free ∧ e'.β (nodeNo id j) = p) := by
  intro id j p hid hp
  rcases h id j p hid hp with h | ⟨h1, h2⟩
  · left
    obtain ⟨g, _⟩ := hx.own id (by rw [h]; simp)
    rw [h] at g
    generalize e'.own id = o at g
    cases g
    rfl
  · obtain ⟨g1, g2⟩ := hx.own _ h1
    exact .inr ⟨g1.not_free, (g2 (hlk.not_dead id j)).trans h2⟩
theorem HR.of {w0 : W0} {O0 : Nat → Prop} {e : E A} (hr : HR P u w0 O0 e) {w' : World} {own' : Nat → Own A} {β' : Nat → Option (Nat × Nat)} (hx : Ext e (mkE O0 w' own' β')) (hb : BelowM w0 w')
    (hinj : ∀ id id' b c c', own' id ≠ .free → own' id ≠ .dead → own' id' ≠ .free → own' id' ≠ .dead → β' id = some (b, c) → β' id' = some (b, c') → id = id')
    (hent : ∀ id, EntOk P u (mkE O0 w' own' β') w0.fr id (own' id)) (hlk : Lk own') : HR P u w0 O0 (mkE O0 w' own' β') := ⟨hb, hr.o0, hinj, fun _ => Iff.rfl, hent, hand_ext hr.hand hx, hlk, hr.hn, hr.hlo, handN_ext hlk hr.handN hx⟩
theorem HR.extOf {w0 : W0} {O0 : Nat → Prop} {e : E A} (hr : HR P u w0 O0 e) {w' : World} {own' : Nat → Own A} {β' : Nat → Option (Nat × Nat)} (hs : e.w.heap.size ≤ w'.heap.size)
    (hh : ∀ b, b < e.w.heap.size → ¬ e.O b → w'.heap[b]? = e.w.heap[b]?) (hown : ∀ id, e.own id ≠ .free → (e.own id).later (own' id) ∧ (own' id ≠ .dead → β' id = e.β id))
    (hO : ∀ id b c, (own' id).mut = true → β' id = some (b, c) → b < e.w.heap.size → e.O b) : Ext e (mkE O0 w' own' β') := by
  refine ⟨hs, fun b hb ho => ⟨?_, hh b hb ho⟩, hown⟩
  rintro (h | ⟨id, c, h1, h2⟩)
  · exact ho ((hr.O b).2 (.inl h))
  · exact ho (hO id b c h1 h2 hb)
theorem HR.ownO {w0 : W0} {O0 : Nat → Prop} {e : E A} (hr : HR P u w0 O0 e) {id b c : Nat} (h1 : (e.own id).mut = true) (h2 : e.β id = some (b, c)) : e.O b := (hr.O b).2 (.inr ⟨id, c, h1, h2⟩)

/-- A new block. -/
theorem HR.new {w0 : W0} {O0 : Nat → Prop} {e : E A} (hr : HR P u w0 O0 e) {w' : World} {k c : Nat} {o : Own A} (hk : e.own k = .free) (hkH : k < 1152921504606846976) (hof : o ≠ .free) (hod : o ≠ .dead)
    (h1 : w'.os = e.w.os) (h2 : w'.tape = e.w.tape) (h3 : w'.output = e.w.output) (h4 : e.w.heap.size ≤ w'.heap.size) (h5 : ∀ b, b < e.w.heap.size → w'.heap[b]? = e.w.heap[b]?) :
    Ext e (mkE O0 w' (upd e.own k o) (upd e.β k (some (e.w.heap.size, c)))) ∧
    (EntOk P u (mkE O0 w' (upd e.own k o) (upd e.β k (some (e.w.heap.size, c)))) w0.fr k o → (hna : o.isAr = false := by rfl) → HR P u w0 O0 (mkE O0 w' (upd e.own k o) (upd e.β k (some (e.w.heap.size, c))))) := by
  have hext : Ext e (mkE O0 w' (upd e.own k o) (upd e.β k (some (e.w.heap.size, c)))) := by
    refine hr.extOf P u h4 (fun b hb _ => h5 b hb) (fun id hid => ?_) (fun id b c' hm hβ hb => ?_)
    · have hne : id ≠ k := by rintro rfl; exact hid hk
      rw [upd_ne _ _ hne, upd_ne _ _ hne]
      exact ⟨.refl hid, fun _ => rfl⟩
    · by_cases hne : id = k
      · subst hne
        rw [upd_same] at hβ; cases hβ
        omega
      · rw [upd_ne _ _ hne] at hm hβ
        exact hr.ownO P u hm hβ
  refine ⟨hext, fun hent hna => hr.of P u hext (hr.below.step h1 h2 h3 h4 (fun b hb _ => h5 b hb)) ?_ ?_ (hr.lk.upd hkH (by rw [hk]; rfl) hna)⟩
  · intro id id' b c1 c2 g1 g2 g3 g4 g5 g6
    by_cases e1 : id = k <;> by_cases e2 : id' = k
    · rw [e1, e2]
    · subst e1
      rw [upd_same] at g5; cases g5
      rw [upd_ne _ _ e2] at g3 g4 g6
      have := hr.lt P u g3 g4 g6
      omega
    · subst e2
      rw [upd_same] at g6; cases g6
      rw [upd_ne _ _ e1] at g1 g2 g5
      have := hr.lt P u g1 g2 g5
      omega
    · rw [upd_ne _ _ e1] at g1 g2 g5
      rw [upd_ne _ _ e2] at g3 g4 g6
      exact hr.inj id id' b c1 c2 g1 g2 g3 g4 g5 g6
  · intro id
    by_cases hne : id = k
    · subst hne; rw [upd_same]; exact hent
    · rw [upd_ne _ _ hne]
      by_cases hf : e.own id = .free
      · rw [hf]; trivial
      · by_cases hd : e.own id = .dead
        · rw [hd]; trivial
        · exact (hr.ent id).later P u hext (by show upd e.β k _ id = _; rw [upd_ne _ _ hne]) (fun b c' hβ => h5 b (hr.lt P u hf hd hβ))
theorem setRow_size' (w : World) (b : Nat) (cs : Array Value) : (w.setRow b cs).heap.size = w.heap.size := by simp
/-- Another content of a block of the call's own, which goes by the same number or by a new one. -/
theorem HR.set {w0 : W0} {O0 : Nat → Prop} {e : E A} (hr : HR P u w0 O0 e) {k b c : Nat} {o : Own A} {cs : Array Value} (hm0 : (e.own k).mut = true) (hβ : e.β k = some (b, c)) (hm : o.mut = true) (hl : (e.own k).later o) (hpl : o.plain = true := by rfl) :
    Ext e (mkE O0 (e.w.setRow b cs) (upd e.own k o) e.β) ∧ (EntOk P u (mkE O0 (e.w.setRow b cs) (upd e.own k o) e.β) w0.fr k o → HR P u w0 O0 (mkE O0 (e.w.setRow b cs) (upd e.own k o) e.β)) := by
  have hbO : e.O b := hr.ownO P u hm0 hβ
  obtain ⟨hkf, hkd⟩ := mut_live hm0
  have hfr := hr.frb P u hkf hkd hβ
  have hext : Ext e (mkE O0 (e.w.setRow b cs) (upd e.own k o) e.β) := by
    refine hr.extOf P u (by simp) (fun b' hb' hO => setRow_other _ _ _ _ (by rintro rfl; exact hO hbO)) (fun id hid => ?_) (fun id b' c' h1 h2 _ => ?_)
    · by_cases hne : id = k
      · subst hne; rw [upd_same]; exact ⟨hl, fun _ => rfl⟩
      · rw [upd_ne _ _ hne]; exact ⟨.refl hid, fun _ => rfl⟩
    · by_cases hne : id = k
      · subst hne; exact hr.ownO P u hm0 h2
      · rw [upd_ne _ _ hne] at h1; exact hr.ownO P u h1 h2
  refine ⟨hext, fun hent => hr.of P u hext (hr.below.step rfl rfl rfl (by simp) (fun k' hk' hnf => setRow_other _ _ _ _ (by rintro rfl; exact hnf hfr))) ?_ ?_ (hr.lk.upd (hr.lk.pl (hl.plain hpl)) (plain_live (hl.plain hpl)).2.2.2 (plain_live hpl).2.2.2)⟩
  · intro id id' b' c1 c2 g1 g2 g3 g4 g5 g6
    refine hr.inj id id' b' c1 c2 ?_ ?_ ?_ ?_ g5 g6
    · by_cases e1 : id = k
      · rw [e1]; exact hkf
      · rwa [upd_ne _ _ e1] at g1
    · by_cases e1 : id = k
      · rw [e1]; exact hkd
      · rwa [upd_ne _ _ e1] at g2
    · by_cases e1 : id' = k
      · rw [e1]; exact hkf
      · rwa [upd_ne _ _ e1] at g3
    · by_cases e1 : id' = k
      · rw [e1]; exact hkd
      · rwa [upd_ne _ _ e1] at g4
  · intro id
    by_cases hne : id = k
    · subst hne; rw [upd_same]; exact hent
    · rw [upd_ne _ _ hne]
      by_cases hf : e.own id = .free
      · rw [hf]; trivial
      · by_cases hd : e.own id = .dead
        · rw [hd]; trivial
        · refine (hr.ent id).later P u hext rfl (fun b' c' hβ' => setRow_other _ _ _ _ ?_)
          rintro rfl
          exact hne (hr.inj id k b' c' c hf hd hkf hkd hβ' hβ)
/-- Another content of a map of the call's own. -/
theorem HR.setM {w0 : W0} {O0 : Nat → Prop} {e : E A} (hr : HR P u w0 O0 e) {k b c : Nat} {o : Own A} {ob : Obj} (hm0 : (e.own k).mut = true) (hβ : e.β k = some (b, c)) (hl : (e.own k).later o) (hpl : o.plain = true := by rfl) :
    Ext e (mkE O0 { e.w with heap := e.w.heap.setIfInBounds b ob } (upd e.own k o) e.β) ∧ (EntOk P u (mkE O0 { e.w with heap := e.w.heap.setIfInBounds b ob } (upd e.own k o) e.β) w0.fr k o → HR P u w0 O0 (mkE O0 { e.w with heap := e.w.heap.setIfInBounds b ob } (upd e.own k o) e.β)) := by
  have hbO : e.O b := hr.ownO P u hm0 hβ
  obtain ⟨hkf, hkd⟩ := mut_live hm0
  have hfr := hr.frb P u hkf hkd hβ
  have hoth : ∀ b', b' ≠ b → (e.w.heap.setIfInBounds b ob)[b']? = e.w.heap[b']? := fun b' hne => by simp [Ne.symm hne]
  have hext : Ext e (mkE O0 { e.w with heap := e.w.heap.setIfInBounds b ob } (upd e.own k o) e.β) := by
    refine hr.extOf P u (by simp) (fun b' hb' hO => hoth b' (by rintro rfl; exact hO hbO)) (fun id hid => ?_) (fun id b' c' h1 h2 _ => ?_)
    · by_cases hne : id = k
      · subst hne; rw [upd_same]; exact ⟨hl, fun _ => rfl⟩
      · rw [upd_ne _ _ hne]; exact ⟨.refl hid, fun _ => rfl⟩
    · by_cases hne : id = k
      · subst hne; exact hr.ownO P u hm0 h2
      · rw [upd_ne _ _ hne] at h1; exact hr.ownO P u h1 h2
  refine ⟨hext, fun hent => hr.of P u hext (hr.below.step rfl rfl rfl (by simp) (fun k' hk' hnf => hoth k' (by rintro rfl; exact hnf hfr))) ?_ ?_ (hr.lk.upd (hr.lk.pl (hl.plain hpl)) (plain_live (hl.plain hpl)).2.2.2 (plain_live hpl).2.2.2)⟩
  · intro id id' b' c1 c2 g1 g2 g3 g4 g5 g6
    refine hr.inj id id' b' c1 c2 ?_ ?_ ?_ ?_ g5 g6
    · by_cases e1 : id = k
      · rw [e1]; exact hkf
      · rwa [upd_ne _ _ e1] at g1
    · by_cases e1 : id = k
      · rw [e1]; exact hkd
      · rwa [upd_ne _ _ e1] at g2
    · by_cases e1 : id' = k
      · rw [e1]; exact hkf
      · rwa [upd_ne _ _ e1] at g3
    · by_cases e1 : id' = k
      · rw [e1]; exact hkd
      · rwa [upd_ne _ _ e1] at g4
  · intro id
    by_cases hne : id = k
    · subst hne; rw [upd_same]; exact hent
    · rw [upd_ne _ _ hne]
      by_cases hf : e.own id = .free
      · rw [hf]; trivial
      · by_cases hd : e.own id = .dead
        · rw [hd]; trivial
        · refine (hr.ent id).later P u hext rfl (fun b' c' hβ' => hoth b' ?_)
          rintro rfl
          exact hne (hr.inj id k b' c' c hf hd hkf hkd hβ' hβ)
/-- A block of the call's own turns, and goes by a new number from here on. -/
theorem HR.move {w0 : W0} {O0 : Nat → Prop} {e : E A} (hr : HR P u w0 O0 e) {k k' b c : Nat} {o : Own A} {cs : Array Value} (hm0 : (e.own k).mut = true) (hβ : e.β k = some (b, c)) (hk' : e.own k' = .free) (hkH : k' < 1152921504606846976) (hm : o.mut = true) (hpl0 : (e.own k).plain = true) (hpl : o.plain = true := by rfl) :
    Ext e (mkE O0 (e.w.setRow b cs) (upd (upd e.own k .dead) k' o) (upd e.β k' (some (b, c)))) ∧
    (EntOk P u (mkE O0 (e.w.setRow b cs) (upd (upd e.own k .dead) k' o) (upd e.β k' (some (b, c)))) w0.fr k' o → HR P u w0 O0 (mkE O0 (e.w.setRow b cs) (upd (upd e.own k .dead) k' o) (upd e.β k' (some (b, c))))) := by
  have hbO : e.O b := hr.ownO P u hm0 hβ
  obtain ⟨hkf, hkd⟩ := mut_live hm0
  have hfr := hr.frb P u hkf hkd hβ
  have hkk : k ≠ k' := by rintro rfl; exact hkf hk'
  have hother : ∀ id, id ≠ k → id ≠ k' → upd (upd e.own k .dead) k' o id = e.own id ∧ upd e.β k' (some (b, c)) id = e.β id := by
    intro id h1 h2; rw [upd_ne _ _ h2, upd_ne _ _ h2, upd_ne _ _ h1]; exact ⟨rfl, rfl⟩
  have hdead : upd (upd e.own k .dead) k' o k = .dead := by rw [upd_ne _ _ hkk, upd_same]
  have hext : Ext e (mkE O0 (e.w.setRow b cs) (upd (upd e.own k .dead) k' o) (upd e.β k' (some (b, c)))) := by
    refine hr.extOf P u (by simp) (fun b' hb' hO => setRow_other _ _ _ _ (by rintro rfl; exact hO hbO)) (fun id hid => ?_) (fun id b' c' h1 h2 _ => ?_)
    · by_cases e1 : id = k
      · subst e1; rw [hdead]; exact ⟨.dead _, fun h => absurd rfl h⟩
      · have e2 : id ≠ k' := by rintro rfl; exact hid hk'
        rw [(hother id e1 e2).1, (hother id e1 e2).2]; exact ⟨.refl hid, fun _ => rfl⟩
    · by_cases e1 : id = k
      · subst e1; rw [hdead] at h1; cases h1
      · by_cases e2 : id = k'
        · subst e2; rw [upd_same] at h2; cases h2; exact hbO
        · rw [(hother id e1 e2).1] at h1; rw [(hother id e1 e2).2] at h2; exact hr.ownO P u h1 h2
  refine ⟨hext, fun hent => hr.of P u hext (hr.below.step rfl rfl rfl (by simp) (fun k' hk' hnf => setRow_other _ _ _ _ (by rintro rfl; exact hnf hfr))) ?_ ?_ ((hr.lk.upd (o := .dead) (hr.lk.pl hpl0) (plain_live hpl0).2.2.2 rfl).upd hkH (by rw [upd_ne _ _ (Ne.symm hkk), hk']; rfl) (plain_live hpl).2.2.2)⟩
  · intro id id' b' c1 c2 g1 g2 g3 g4 g5 g6
    have e1 : id ≠ k := by rintro rfl; exact g2 hdead
    have e2 : id' ≠ k := by rintro rfl; exact g4 hdead
    by_cases f1 : id = k' <;> by_cases f2 : id' = k'
    · rw [f1, f2]
    · subst f1
      rw [upd_same] at g5; cases g5
      rw [(hother id' e2 f2).1] at g3 g4
      rw [(hother id' e2 f2).2] at g6
      exact absurd (hr.inj id' k b c2 c g3 g4 hkf hkd g6 hβ) e2
    · subst f2
      rw [upd_same] at g6; cases g6
      rw [(hother id e1 f1).1] at g1 g2
      rw [(hother id e1 f1).2] at g5
      exact absurd (hr.inj id k b c1 c g1 g2 hkf hkd g5 hβ) e1
    · rw [(hother id e1 f1).1] at g1 g2
      rw [(hother id e1 f1).2] at g5
      rw [(hother id' e2 f2).1] at g3 g4
      rw [(hother id' e2 f2).2] at g6
      exact hr.inj id id' b' c1 c2 g1 g2 g3 g4 g5 g6
  · intro id
    by_cases f1 : id = k'
    · subst f1; rw [upd_same]; exact hent
    · by_cases e1 : id = k
      · subst e1; rw [hdead]; trivial
      · rw [(hother id e1 f1).1]
        by_cases hf : e.own id = .free
        · rw [hf]; trivial
        · by_cases hd : e.own id = .dead
          · rw [hd]; trivial
          · refine (hr.ent id).later P u hext (hother id e1 f1).2 (fun b' c' hβ' => setRow_other _ _ _ _ ?_)
            rintro rfl
            exact e1 (hr.inj id k b' c' c hf hd hkf hkd hβ' hβ)
/-- A block is let go of, or written to no more; the world stays. -/
theorem HR.rest {w0 : W0} {O0 : Nat → Prop} {e : E A} (hr : HR P u w0 O0 e) {k : Nat} {o : Own A} (hpl : (e.own k).plain = true) (hl : (e.own k).later o) (hm : o.mut = true → (e.own k).mut = true) (hent0 : ∀ e' : E A, Ext e e' → e'.w = e.w → e'.β k = e.β k → EntOk P u e' w0.fr k o) :
    Ext e (mkE O0 e.w (upd e.own k o) e.β) ∧ HR P u w0 O0 (mkE O0 e.w (upd e.own k o) e.β) := by
  have hk : e.own k ≠ .free := (plain_live hpl).1
  have hext : Ext e (mkE O0 e.w (upd e.own k o) e.β) := by
    refine hr.extOf P u (Nat.le_refl _) (fun b' hb' hO => rfl) (fun id hid => ?_) (fun id b' c' h1 h2 _ => ?_)
    · by_cases hne : id = k
      · subst hne; rw [upd_same]; exact ⟨hl, fun _ => rfl⟩
      · rw [upd_ne _ _ hne]; exact ⟨.refl hid, fun _ => rfl⟩
    · by_cases hne : id = k
      · subst hne; rw [upd_same] at h1; exact hr.ownO P u (hm h1) h2
      · rw [upd_ne _ _ hne] at h1; exact hr.ownO P u h1 h2
  have hlive : ∀ id, upd e.own k o id ≠ .free → upd e.own k o id ≠ .dead → e.own id ≠ .free ∧ e.own id ≠ .dead := by
    intro id h1 h2
    by_cases hne : id = k
    · subst hne
      rw [upd_same] at h1 h2
      refine ⟨hk, fun hd => ?_⟩
      rw [hd] at hl
      cases hl
      exact h2 rfl
    · rw [upd_ne _ _ hne] at h1 h2; exact ⟨h1, h2⟩
  have hoA : o.isAr = false := by
    generalize e.own k = q at hl hpl
    cases hl <;> first | rfl | (cases hpl; done)
  refine ⟨hext, hr.of P u hext hr.below ?_ ?_ (hr.lk.upd (hr.lk.pl hpl) (plain_live hpl).2.2.2 hoA)⟩
  · intro id id' b' c1 c2 g1 g2 g3 g4 g5 g6
    exact hr.inj id id' b' c1 c2 (hlive id g1 g2).1 (hlive id g1 g2).2 (hlive id' g3 g4).1 (hlive id' g3 g4).2 g5 g6
  · intro id
    by_cases hne : id = k
    · subst hne; rw [upd_same]; exact hent0 _ hext rfl rfl
    · rw [upd_ne _ _ hne]
      by_cases hf : e.own id = .free
      · rw [hf]; trivial
      · by_cases hd : e.own id = .dead
        · rw [hd]; trivial
        · exact (hr.ent id).later P u hext rfl (fun b' c' hβ' => rfl)
theorem HR.drop {w0 : W0} {O0 : Nat → Prop} {e : E A} (hr : HR P u w0 O0 e) {k : Nat} (hk : (e.own k).plain = true) : Ext e (mkE O0 e.w (upd e.own k .dead) e.β) ∧ HR P u w0 O0 (mkE O0 e.w (upd e.own k .dead) e.β) :=
  hr.rest P u hk (.dead _) (fun h => by cases h) (fun _ _ _ _ => trivial)
theorem HR.froze {w0 : W0} {O0 : Nat → Prop} {e : E A} (hr : HR P u w0 O0 e) {k T : Nat} {xs : List (A T)} (hk : e.own k = .row T xs) : Ext e (mkE O0 e.w (upd e.own k (.fro T xs)) e.β) ∧ HR P u w0 O0 (mkE O0 e.w (upd e.own k (.fro T xs)) e.β) :=
  hr.rest P u (by rw [hk]; rfl) (by rw [hk]; exact .rowF _ _ _ rfl) (fun h => by cases h) (fun e' hx hw hβ => by
    have h := hr.ent k
    rw [hk] at h
    exact EntOk.later (o := .fro T xs) P u h hx hβ (fun b c _ => by rw [hw]))
/-- A row of nothing, that lies nowhere. -/
theorem HR.newNil {w0 : W0} {O0 : Nat → Prop} {e : E A} (hr : HR P u w0 O0 e) {k : Nat} (T : Nat) (hk : e.own k = .free) (hkH : k < 1152921504606846976) :
    Ext e (mkE O0 e.w (upd e.own k (.row T [])) (upd e.β k none)) ∧ HR P u w0 O0 (mkE O0 e.w (upd e.own k (.row T [])) (upd e.β k none)) := by
  have hext : Ext e (mkE O0 e.w (upd e.own k (.row T [])) (upd e.β k none)) := by
    refine hr.extOf P u (Nat.le_refl _) (fun b' hb' hO => rfl) (fun id hid => ?_) (fun id b' c' h1 h2 _ => ?_)
    · have hne : id ≠ k := by rintro rfl; exact hid hk
      rw [upd_ne _ _ hne, upd_ne _ _ hne]; exact ⟨.refl hid, fun _ => rfl⟩
    · by_cases hne : id = k
      · subst hne; rw [upd_same] at h2; cases h2
      · rw [upd_ne _ _ hne] at h1 h2; exact hr.ownO P u h1 h2
  refine ⟨hext, hr.of P u hext hr.below ?_ ?_ (hr.lk.upd hkH (by rw [hk]; rfl) rfl)⟩
  · intro id id' b' c1 c2 g1 g2 g3 g4 g5 g6
    have e1 : id ≠ k := by rintro rfl; rw [upd_same] at g5; cases g5
    have e2 : id' ≠ k := by rintro rfl; rw [upd_same] at g6; cases g6
    rw [upd_ne _ _ e1] at g1 g2 g5
    rw [upd_ne _ _ e2] at g3 g4 g6
    exact hr.inj id id' b' c1 c2 g1 g2 g3 g4 g5 g6
  · intro id
    by_cases hne : id = k
    · subst hne
      rw [upd_same]
      exact .inl ⟨rfl, by show upd e.β id none id = none; rw [upd_same]⟩
    · rw [upd_ne _ _ hne]
      by_cases hf : e.own id = .free
      · rw [hf]; trivial
      · by_cases hd : e.own id = .dead
        · rw [hd]; trivial
        · exact (hr.ent id).later P u hext (by show upd e.β k none id = _; rw [upd_ne _ _ hne]) (fun b' c' hβ' => rfl)
/-- Another world, in which no block has turned but in its mark. -/
theorem HR.world {w0 : W0} {O0 : Nat → Prop} {e : E A} (hr : HR P u w0 O0 e) {w' : World} (h1 : w'.os = e.w.os) (h2 : w'.tape = e.w.tape) (h3 : w'.output = e.w.output) (h4 : e.w.heap.size ≤ w'.heap.size)
    (h5 : ∀ b, b < e.w.heap.size → ¬ (w0.fr b ∧ e.O b) → w'.heap[b]? = e.w.heap[b]?) (hent : ∀ id, e.own id ≠ .free → e.own id ≠ .dead → Ext e { e with w := w' } → EntOk P u { e with w := w' } w0.fr id (e.own id)) :
    Ext e { e with w := w' } ∧ HR P u w0 O0 { e with w := w' } := by
  have hext : Ext e { e with w := w' } := ⟨h4, fun b hb hO => ⟨hO, h5 b hb (fun h => hO h.2)⟩, fun id hid => ⟨.refl hid, fun _ => rfl⟩⟩
  refine ⟨hext, ⟨hr.below.step h1 h2 h3 h4 (fun b hb hnf => h5 b hb (fun h => hnf h.1)), hr.o0, hr.inj, hr.O, fun id => ?_, hand_ext hr.hand hext, hr.lk, hr.hn, hr.hlo, hr.handN⟩⟩
  by_cases hf : e.own id = .free
  · show EntOk P u _ _ _ (e.own id); rw [hf]; trivial
  · by_cases hd : e.own id = .dead
    · show EntOk P u _ _ _ (e.own id); rw [hd]; trivial
    · exact hent id hf hd hext
theorem HR.drew {w0 : W0} {O0 : Nat → Prop} {e : E A} (hr : HR P u w0 O0 e) : Ext e { e with w := e.w.drew } ∧ HR P u w0 O0 { e with w := e.w.drew } :=
  hr.world P u rfl rfl rfl (Nat.le_refl _) (fun _ _ _ => rfl) (fun id _ _ hx => (hr.ent id).later P u hx rfl (fun _ _ _ => rfl))
theorem valS_clean (hclean : ∀ T x, noOwn.go (u.enc T x) = true) (V : Nat) (y : A V) : noOwn.go [valS P u V y] = true := by
  unfold valS
  split
  · rfl
  · split
    · rename_i c hc
      have := hclean V y
      rw [hc] at this
      exact this
    · rfl
end
end Go.Proofs.Ytndacggailoogaa.Sx
