/- An abstract machine over values by content, eighth part: operations that lay blocks or write into blocks of the call's own. -/
import Derived.Test.YtacafjapnppacaaSxG
import Derived.Laws.CopyRow
import Derived.Laws.CopyOwn
import Derived.Great.FillDense
namespace Go.Proofs.Ytacafjapnppacaa.Sx
open Go Go.RowKit

section
variable {A : Nat → Type} (P : Program) (u : U A)

def upd {α : Type} (f : Nat → α) (k : Nat) (x : α) : Nat → α := fun i => if i = k then x else f i
theorem upd_same {α : Type} (f : Nat → α) (k : Nat) (x : α) : upd f k x k = x := by simp [upd]
theorem upd_ne {α : Type} (f : Nat → α) {k i : Nat} (x : α) (h : i ≠ k) : upd f k x i = f i := by simp [upd, h]

/-- What is read back is what was put together. -/
structure Law : Prop where
  dec : ∀ (e : E A) T l vs x, u.dec T l = some x → RepL P u e l vs → RepL P u e (u.enc T x) vs
  len : ∀ T l x, u.dec T l = some x → l.length = P.cellsOf T

theorem EntOk.later {e e' : E A} {lo id : Nat} {o : Own A} (h : EntOk P u e lo id o) (hx : Ext e e') (hβ : e'.β id = e.β id) (hh : ∀ b c, e.β id = some (b, c) → e'.w.heap[b]? = e.w.heap[b]?) : EntOk P u e' lo id o := by
  cases o with
  | free => trivial
  | dead => trivial
  | var cells =>
    obtain ⟨b, c, vs, T, h1, h2, h3, h4⟩ := h
    exact ⟨b, c, vs, T, hβ.trans h1, h2, (hh b c h1).trans h3, h4.ext P u hx⟩
  | row T xs =>
    obtain ⟨b, c, arr, T', vss, h1, h2, h3, h4, h5, h6⟩ := h
    exact ⟨b, c, arr, T', vss, hβ.trans h1, h2, (hh b c h1).trans h3, h4, h5, fun i x hi => ⟨(h6 i x hi).1.ext P u hx, (h6 i x hi).2⟩⟩
  | fro T xs =>
    obtain ⟨b, c, arr, T', vss, h1, h2, h3, h4, h5, h6⟩ := h
    exact ⟨b, c, arr, T', vss, hβ.trans h1, h2, (hh b c h1).trans h3, h4, h5, fun i x hi => ⟨(h6 i x hi).1.ext P u hx, (h6 i x hi).2⟩⟩
/-- Where a block of the call's own lies. -/
theorem EntOk.place {e : E A} {lo id : Nat} {o : Own A} (h : EntOk P u e lo id o) (hf : o ≠ .free) (hd : o ≠ .dead) : ∃ b c arr T, e.β id = some (b, c) ∧ lo ≤ b ∧ e.w.heap[b]? = some (.cells arr T (0, 0)) := by
  cases o with
  | free => exact absurd rfl hf
  | dead => exact absurd rfl hd
  | var cells => obtain ⟨b, c, vs, T, h1, h2, h3, _⟩ := h; exact ⟨b, c, _, T, h1, h2, h3⟩
  | row T xs => obtain ⟨b, c, arr, T', vss, h1, h2, h3, _⟩ := h; exact ⟨b, c, _, T', h1, h2, h3⟩
  | fro T xs => obtain ⟨b, c, arr, T', vss, h1, h2, h3, _⟩ := h; exact ⟨b, c, _, T', h1, h2, h3⟩
theorem alloc_size (w : World) (o : Obj) : (w.alloc o).heap.size = w.heap.size + 1 := by show (w.heap.push o).size = _; simp
theorem alloc_get (w : World) (o : Obj) : (w.alloc o).heap[w.heap.size]? = some o := by show (w.heap.push o)[w.heap.size]? = _; simp
theorem lt_of_get {w : World} {b : Nat} {o : Obj} (h : w.heap[b]? = some o) : b < w.heap.size := (Array.getElem?_eq_some_iff.1 h).1

/-- A new block of the call's own. -/
def newE (e : E A) (k c : Nat) (o : Own A) (obj : Obj) : E A :=
  { w := e.w.alloc obj, O := fun b => e.O b ∨ b = e.w.heap.size, own := upd e.own k o, β := upd e.β k (some (e.w.heap.size, c)) }
theorem HR.new {w0 : World} {O0 : Nat → Prop} {e : E A} (hr : HR P u w0 O0 e) {k c : Nat} {o : Own A} {arr : Array Value} {T : TypeId} (hk : e.own k = .free) (hm : o.mut = true) :
    Ext e (newE e k c o (.cells arr T)) ∧ (EntOk P u (newE e k c o (.cells arr T)) w0.heap.size k o → HR P u w0 O0 (newE e k c o (.cells arr T))) := by
  have hext : Ext e (newE e k c o (.cells arr T)) := by
    refine ⟨by show _ ≤ (e.w.alloc _).heap.size; rw [alloc_size]; omega, fun b hb hO => ⟨?_, Below.heap_alloc _ _ _ hb⟩, fun id hid => ?_⟩
    · rintro (h | h)
      · exact hO h
      · omega
    · have hne : id ≠ k := by rintro rfl; exact hid hk
      simp only [newE, upd_ne _ _ hne]
      exact ⟨.refl hid, fun _ => by first | rfl | trivial⟩
  refine ⟨hext, fun hent => ?_⟩
  have hold : ∀ id, id ≠ k → e.own id ≠ .free → e.own id ≠ .dead → ∀ b c', e.β id = some (b, c') → b < e.w.heap.size := by
    intro id _ h1 h2 b c' hβ
    obtain ⟨b', c'', arr', T', h3, _, h4⟩ := (hr.ent id).place P u h1 h2
    rw [h3] at hβ; cases hβ
    exact lt_of_get h4
  refine ⟨hr.below.alloc hr.below.size _, hr.o0, ?_, ?_, ?_⟩
  · intro id id' b c1 c2 h1 h2 h3 h4 h5 h6
    by_cases e1 : id = k <;> by_cases e2 : id' = k
    · rw [e1, e2]
    · subst e1
      simp only [newE, upd_same, upd_ne _ _ e2] at *
      cases h5
      have := hold id' e2 h3 h4 _ _ h6
      omega
    · subst e2
      simp only [newE, upd_same, upd_ne _ _ e1] at *
      cases h6
      have := hold id e1 h1 h2 _ _ h5
      omega
    · simp only [newE, upd_ne _ _ e1, upd_ne _ _ e2] at *
      exact hr.inj id id' b c1 c2 h1 h2 h3 h4 h5 h6
  · intro b
    show (e.O b ∨ b = e.w.heap.size) ↔ _
    rw [hr.O b]
    constructor
    · rintro ((h | ⟨id, c', h1, h2⟩) | rfl)
      · exact .inl h
      · have hne : id ≠ k := by rintro rfl; rw [hk] at h1; cases h1
        exact .inr ⟨id, c', by simpa [newE, upd_ne _ _ hne] using h1, by simpa [newE, upd_ne _ _ hne] using h2⟩
      · exact .inr ⟨k, c, by simpa [newE, upd_same] using hm, by simp [newE, upd_same]⟩
    · rintro (h | ⟨id, c', h1, h2⟩)
      · exact .inl (.inl h)
      · by_cases hne : id = k
        · subst hne
          simp only [newE, upd_same, Option.some.injEq, Prod.mk.injEq] at h2
          exact .inr h2.1.symm
        · simp only [newE, upd_ne _ _ hne] at h1 h2
          exact .inl (.inr ⟨id, c', h1, h2⟩)
  · intro id
    by_cases hne : id = k
    · subst hne
      simpa [newE, upd_same] using hent
    · have h1 : (newE e k c o (.cells arr T)).own id = e.own id := by simp [newE, upd_ne _ _ hne]
      rw [h1]
      by_cases hf : e.own id = .free
      · rw [hf]; trivial
      · by_cases hd : e.own id = .dead
        · rw [hd]; trivial
        · exact (hr.ent id).later P u hext (by simp [newE, upd_ne _ _ hne]) (fun b c' hβ => Below.heap_alloc _ _ _ (hold id hne hf hd b c' hβ))

/-- Another content of a block of the call's own. -/
def setE (e : E A) (k b : Nat) (o : Own A) (cs : Array Value) : E A := { e with w := e.w.setRow b cs, own := upd e.own k o }
theorem HR.set {w0 : World} {O0 : Nat → Prop} {e : E A} (hr : HR P u w0 O0 e) {k b c : Nat} {o : Own A} {arr cs : Array Value} {T : TypeId} (hm0 : (e.own k).mut = true) (hβ : e.β k = some (b, c))
    (hh : e.w.heap[b]? = some (.cells arr T (0, 0))) (hlo : w0.heap.size ≤ b) (hm : o.mut = true) (hl : (e.own k).later o) :
    Ext e (setE e k b o cs) ∧ (EntOk P u (setE e k b o cs) w0.heap.size k o → HR P u w0 O0 (setE e k b o cs)) := by
  have hbO : e.O b := (hr.O b).2 (.inr ⟨k, c, hm0, hβ⟩)
  have hkf : e.own k ≠ .free := by intro h; rw [h] at hm0; cases hm0
  have hkd : e.own k ≠ .dead := by intro h; rw [h] at hm0; cases hm0
  have hext : Ext e (setE e k b o cs) := by
    refine ⟨by simp [setE], fun b' hb' hO => ⟨hO, ?_⟩, fun id hid => ?_⟩
    · exact setRow_other _ _ _ _ (by rintro rfl; exact hO hbO)
    · by_cases hne : id = k
      · subst hne
        simp only [setE, upd_same]
        exact ⟨hl, fun _ => by first | rfl | trivial⟩
      · simp only [setE, upd_ne _ _ hne]
        exact ⟨.refl hid, fun _ => by first | rfl | trivial⟩
  refine ⟨hext, fun hent => ?_⟩
  have hof : o ≠ .free := by intro h; rw [h] at hm; cases hm
  have hod : o ≠ .dead := by intro h; rw [h] at hm; cases hm
  refine ⟨below_setRow hr.below hlo cs, hr.o0, ?_, ?_, ?_⟩
  · intro id id' b' c1 c2 h1 h2 h3 h4 h5 h6
    refine hr.inj id id' b' c1 c2 ?_ ?_ ?_ ?_ h5 h6
    · by_cases e1 : id = k
      · rw [e1]; exact hkf
      · simpa [setE, upd_ne _ _ e1] using h1
    · by_cases e1 : id = k
      · rw [e1]; exact hkd
      · simpa [setE, upd_ne _ _ e1] using h2
    · by_cases e1 : id' = k
      · rw [e1]; exact hkf
      · simpa [setE, upd_ne _ _ e1] using h3
    · by_cases e1 : id' = k
      · rw [e1]; exact hkd
      · simpa [setE, upd_ne _ _ e1] using h4
  · intro b'
    show e.O b' ↔ _
    rw [hr.O b']
    constructor
    · rintro (h | ⟨id, c', h1, h2⟩)
      · exact .inl h
      · refine .inr ⟨id, c', ?_, h2⟩
        by_cases e1 : id = k
        · subst e1; simpa [setE, upd_same] using hm
        · simpa [setE, upd_ne _ _ e1] using h1
    · rintro (h | ⟨id, c', h1, h2⟩)
      · exact .inl h
      · refine .inr ⟨id, c', ?_, h2⟩
        by_cases e1 : id = k
        · subst e1; exact hm0
        · simpa [setE, upd_ne _ _ e1] using h1
  · intro id
    by_cases hne : id = k
    · subst hne
      simpa [setE, upd_same] using hent
    · have h1 : (setE e k b o cs).own id = e.own id := by simp [setE, upd_ne _ _ hne]
      rw [h1]
      by_cases hf : e.own id = .free
      · rw [hf]; trivial
      · by_cases hd : e.own id = .dead
        · rw [hd]; trivial
        · refine (hr.ent id).later P u hext rfl (fun b' c' hβ' => setRow_other _ _ _ _ ?_)
          rintro rfl
          exact hne (hr.inj id k b' c' c hf hd hkf hkd hβ' hβ)

theorem splice_get {α : Type} (l v : List α) (o k : Nat) (h : o + v.length ≤ l.length) : (l.take o ++ v ++ l.drop (o + v.length))[k]? = if k < o then l[k]? else if k < o + v.length then v[k - o]? else l[k]? := by
  by_cases hk : k < o
  · rw [if_pos hk, List.append_assoc, List.getElem?_append_left (by simp; omega), List.getElem?_take, if_pos hk]
  · rw [if_neg hk]
    by_cases hk2 : k < o + v.length
    · rw [if_pos hk2, List.append_assoc, List.getElem?_append_right (by simp; omega), List.getElem?_append_left (by simp; omega)]
      congr 1
      simp; omega
    · rw [if_neg hk2, List.getElem?_append_right (by simp; omega), List.getElem?_drop]
      congr 1
      simp; omega
theorem run_newVar {t : TypeId} {v : Value} (w : World) : (newVar t v).run P w = .ok ⟨w.heap.size, 0, none⟩ (w.alloc (.cells v.cells t)) := rfl

/-- The elements of a slice that is written out. -/
def rowS (own : Nat → Own A) (ev : Operand → SV A) (el : Nat) : Nat → List (Nat × Operand) → Option (List (A el))
  | _, [] => some []
  | i, (j, x) :: r => if Nat.beq j i then (match cellsV own (ev x) with
    | some l => match u.dec el l, rowS own ev el (i + 1) r with
      | some y, some ys => some (y :: ys)
      | _, _ => none
    | none => none) else none
theorem rowS_rep {e : E A} {ρ : Operand → Value} {ev : Operand → SV A} (hu : Law P u) (hev : ∀ x, RepL P u e [ev x] [ρ x]) {el : Nat} : ∀ (ps : List (Nat × Operand)) (i : Nat) (xs : List (A el)), rowS u e.own ev el i ps = some xs →
    ∃ vs : List Value, ps.map (fun p => (p.1, ρ p.2)) = (vs.zipIdx i).map (fun x => (x.2, x.1)) ∧ vs.length = xs.length ∧ (∀ v ∈ vs, v.cells.size = P.cellsOf el) ∧ ∀ (j : Nat) (x : A el), xs[j]? = some x → ∃ v : Value, vs[j]? = some v ∧ RepL P u e (u.enc el x) v.cells.toList := by
  intro ps
  induction ps with
  | nil =>
    intro i xs h
    cases h
    exact ⟨[], rfl, rfl, by simp, by simp⟩
  | cons p ps ih =>
    obtain ⟨j, x⟩ := p
    intro i xs h
    unfold rowS at h
    split at h
    · rename_i hji
      have hji := Nat.eq_of_beq_eq_true hji
      subst hji
      split at h
      · rename_i l hl
        split at h
        · rename_i y ys hy hys
          cases h
          obtain ⟨h1, _⟩ := cellsV_rep P u (hev x) hl
          obtain ⟨vs, g1, g2, g3, g4⟩ := ih (j + 1) ys hys
          refine ⟨ρ x :: vs, by simp [g1], by simp [g2], ?_, ?_⟩
          · intro v hv
            rcases List.mem_cons.1 hv with rfl | hv
            · have := hu.len _ _ _ hy
              rw [← this, h1.length]; simp
            · exact g3 v hv
          · intro k z hk
            cases k with
            | zero => cases hk; exact ⟨ρ x, rfl, hu.dec _ _ _ _ _ hy h1⟩
            | succ k => exact g4 k z hk
        · cases h
      · cases h
    · cases h

/-- What an operation gives that lays a block (its number: k) or writes into one. -/
def heapS (k : Nat) (own : Nat → Own A) (o : Oper) (ev : Operand → SV A) : Option (SV A × (Nat → Own A)) :=
  match o.op with
  | .box _ x => match cellsV own (ev x), own k with
    | some cells, .free => some (.optr k 0, upd own k (.var cells))
    | _, _ => none
  | .alloc t => match zeroS P t, own k with
    | some cells, .free => some (.optr k 0, upd own k (.var cells))
    | _, _ => none
  | .store t a x => match cellsV own (ev x) with
    | some l => if l.length = P.cellsOf t ∧ (aggT P t).isSome then (match ev a with
      | .optr id off => match own id with
        | .var cs => if off + l.length ≤ cs.length then some (.undef, upd own id (.var (setAt cs off l))) else none
        | _ => none
      | .rptr id idx off => match own id with
        | .row T xs => if off + l.length ≤ P.cellsOf T then (match u.dec T (setAt (u.enc T (xs.getD idx (u.dflt T))) off l) with
          | some y => some (.undef, upd own id (.row T (xs.set idx y)))
          | none => none) else none
        | _ => none
      | _ => none) else none
    | none => none
  | .buildSlice t len ps => match P.underlying t with
    | some (.slice el) => match rowS u own ev el 0 ps.toList, own k, aggT P el, (P.info? el).bind (·.zero) with
      | some xs, .free, some _, some z => if Nat.beq xs.length len && Nat.blt 0 (P.cellsOf el) && Nat.ble (len * P.cellsOf el) 16777216 && Nat.beq z.cells.size (P.cellsOf el) then some (.osl k 0 len, upd own k (.row el xs)) else none
      | _, _, _, _ => none
    | _ => none
  | _ => none

inductive Yield : Next → Value → Prop
  | value (v : Value) : Yield (.value v) v
  | skip : Yield .skip Go.undef

theorem heap_sound {w0 : World} {O0 : Nat → Prop} {e : E A} {o : Oper} {ρ : Operand → Value} {ev : Operand → SV A} {k : Nat} {y : SV A} {own' : Nat → Own A} (hu : Law P u) (hr : HR P u w0 O0 e) (hev : ∀ x, RepL P u e [ev x] [ρ x])
    (h : heapS P u k e.own o ev = some (y, own')) : ∃ n r e', (execOp ρ o).run P e.w = .ok n e'.w ∧ Yield n r ∧ HR P u w0 O0 e' ∧ Ext e e' ∧ e'.own = own' ∧ RepL P u e' [y] [r] := by
  unfold heapS at h
  unfold execOp
  split at h <;> (first | (rename_i hop; rw [hop]) | skip)
  · rename_i t x
    split at h
    · rename_i cells hc hk
      cases h
      obtain ⟨h1, _⟩ := cellsV_rep P u (hev x) hc
      obtain ⟨hext, hmk⟩ := hr.new P u (k := k) (c := 0) (o := .var cells) (arr := (ρ x).cells) (T := t) hk rfl
      refine ⟨_, _, newE e k 0 (.var cells) (.cells (ρ x).cells t), ?_, .value _, hmk ?_, hext, rfl, .optr k 0 e.w.heap.size 0 (by simp [newE, upd_same, Own.isVar]) (by simp [newE, upd_same]) .nil⟩
      · simp only [Instr.box, Sem.run_bind, run_newVar, Result.andThen, Sem.run_pure]; rfl
      · exact ⟨e.w.heap.size, 0, (ρ x).cells.toList, t, by simp [newE, upd_same], hr.below.size, alloc_get _ _, h1.ext P u hext⟩
    · cases h
  · rename_i t
    split at h
    · rename_i cells hc hk
      cases h
      unfold zeroS at hc
      cases hi : P.info? t with
      | none => simp [hi] at hc
      | some it =>
        cases hz : it.zero with
        | none => simp [hi, hz] at hc
        | some zv =>
          simp only [hi, hz, Option.bind_some] at hc
          have h1 := cellsS_rep P u (e := e) hc
          obtain ⟨hext, hmk⟩ := hr.new P u (k := k) (c := 0) (o := .var cells) (arr := zv.cells) (T := t) hk rfl
          refine ⟨_, _, newE e k 0 (.var cells) (.cells zv.cells t), ?_, .value _, hmk ?_, hext, rfl, .optr k 0 e.w.heap.size 0 (by simp [newE, upd_same, Own.isVar]) (by simp [newE, upd_same]) .nil⟩
          · have hzr : (zeroValue t).run P e.w = .ok zv e.w := by simp [zeroValue, typeInfo, hi, hz]
            simp only [Instr.alloc, Sem.run_bind, hzr, Result.andThen, run_newVar, Sem.run_pure]
            rfl
          · exact ⟨e.w.heap.size, 0, zv.cells.toList, t, by simp [newE, upd_same], hr.below.size, alloc_get _ _, h1.ext P u hext⟩
    · cases h
  · rename_i t a x
    split at h
    · rename_i l hl
      split at h
      · rename_i hlen
        obtain ⟨hlen, hagg⟩ := hlen
        obtain ⟨h1, h1c⟩ := cellsV_rep P u (hev x) hl
        have hvl : (ρ x).cells.toList.length = l.length := h1.length.symm
        have hsz : (ρ x).cells.size = P.cellsOf t := by rw [← hlen, ← hvl]; simp
        have hagg' : aggT P t ≠ none := by intro hn; rw [hn] at hagg; cases hagg
        have hrun : ∀ b o arr T, e.w.heap[b]? = some (.cells arr T (0, 0)) → o + l.length ≤ arr.size → ρ a = .pointer (some ⟨b, o, none⟩) →
            (Instr.storeAt t (ρ a) (ρ x)).run P e.w = .ok () (e.w.setRow b (arr.toList.take o ++ (ρ x).cells.toList ++ arr.toList.drop (o + l.length)).toArray) := by
          intro b o arr T hh hle hρ
          have := run_storeCells_at (P := P) b o T (ρ x).cells.toList 0 arr e.w hh (by rw [hvl]; simpa using hle) h1c
          simp only [Nat.add_zero, hvl] at this
          rw [hρ]
          simp only [Instr.storeAt, Instr.sureAddr, storeVar, Sem.run_bind, Sem.run_pure, Result.andThen, run_sizeOf P hagg' e.w]
          rw [if_neg (by simpa using hsz)]
          exact this
        have hea := hev a
        split at h
        · rename_i id off hx
          rw [hx] at hea
          split at h
          · rename_i cs ho
            split at h
            · rename_i hle
              cases h
              have hent := hr.ent id
              rw [ho] at hent
              obtain ⟨b, c, vs, T, hβ, hlo, hheap, hrep⟩ := hent
              generalize hva : ρ a = va at hea
              cases hea with
              | optr _ _ b' c' _ hβ' _ =>
                rw [hβ] at hβ'; cases hβ'
                have hvs : cs.length = vs.length := hrep.length
                obtain ⟨hext, hmk⟩ := hr.set P u (k := id) (o := .var (setAt cs off l)) (cs := ((Array.mk vs).toList.take off ++ (ρ x).cells.toList ++ (Array.mk vs).toList.drop (off + l.length)).toArray) (by rw [ho]; rfl) hβ hheap hlo rfl (by rw [ho]; exact .var _ _)
                refine ⟨_, _, _, ?_, .skip, hmk ?_, hext, rfl, .undef .nil⟩
                · simp only [Sem.run_bind, hrun b off ⟨vs⟩ T hheap (by simp only [List.size_toArray]; omega) hva, Result.andThen, Sem.run_pure]; rfl
                · refine ⟨b, c, _, T, hβ, hlo, setRow_heap _ _ _ _ _ _ hheap, ?_⟩
                  have h5 := ((hrep.take P u off).append P u h1).append P u (hrep.drop P u (off + l.length))
                  exact h5.ext P u hext
              | optrD _ _ _ hd _ => rw [ho] at hd; cases hd
            · cases h
          · cases h
        · rename_i id idx off hx
          rw [hx] at hea
          split at h
          · rename_i T xs ho
            split at h
            · rename_i hle
              split at h
              · rename_i y' hdec
                cases h
                have hent := hr.ent id
                rw [ho] at hent
                obtain ⟨b, c, arr, T', vss, hβ, hlo, hheap, harr, hc, hel⟩ := hent
                generalize hva : ρ a = va at hea
                cases hea with
                | rptr _ _ _ b' c' T2 ys hv hβ' hi _ =>
                  rw [hβ] at hβ'; cases hβ'
                  have hsame : T2 = T ∧ HEq ys xs := by
                    rw [ho] at hv; rcases hv with hv | hv <;> cases hv; exact ⟨rfl, HEq.rfl⟩
                  obtain ⟨rfl, hys⟩ := hsame
                  cases hys
                  have hget : ys[idx]? = some (ys.getD idx (u.dflt T2)) := by simp [List.getD, List.getElem?_eq_getElem hi]
                  obtain ⟨g1, g2, g3⟩ := hel idx _ hget
                  have hidx : idx + 1 ≤ c := by omega
                  have hbound : idx * P.cellsOf T2 + P.cellsOf T2 ≤ arr.length := by
                    rw [harr]
                    calc idx * P.cellsOf T2 + P.cellsOf T2 = (idx + 1) * P.cellsOf T2 := by rw [Nat.add_mul, Nat.one_mul]
                      _ ≤ c * P.cellsOf T2 := Nat.mul_le_mul_right _ hidx
                  obtain ⟨hext, hmk⟩ := hr.set P u (k := id) (o := .row T2 (ys.set idx y')) (cs := ((Array.mk arr).toList.take (idx * P.cellsOf T2 + off) ++ (ρ x).cells.toList ++ (Array.mk arr).toList.drop (idx * P.cellsOf T2 + off + l.length)).toArray) (by rw [ho]; rfl) hβ hheap hlo rfl (by rw [ho]; exact .row _ _ _ (by simp))
                  refine ⟨_, _, _, ?_, .skip, hmk ?_, hext, rfl, .undef .nil⟩
                  · simp only [Sem.run_bind, hrun b (idx * P.cellsOf T2 + off) ⟨arr⟩ T' hheap (by simp only [List.size_toArray]; omega) (by rw [hva, Nat.add_comm]), Result.andThen, Sem.run_pure]; rfl
                  · have hcells := hu.dec _ _ _ _ _ hdec (((g1.take P u off).append P u h1).append P u (g1.drop P u (off + l.length)))
                    refine ⟨b, c, _, T', fun i => if i = idx then (vss idx).take off ++ (ρ x).cells.toList ++ (vss idx).drop (off + l.length) else vss i, hβ, hlo, setRow_heap _ _ _ _ _ _ hheap, ?_, by simpa using hc, ?_⟩
                    · simp only [List.length_append, List.length_take, List.length_drop, hvl]
                      omega
                    · intro i z hz
                      have hln : (ρ x).cells.toList.length = l.length := hvl
                      by_cases hii : i = idx
                      · subst hii
                        simp only [List.getElem?_set_self hi, Option.some.injEq] at hz
                        subst hz
                        simp only [if_true]
                        refine ⟨hcells.ext P u hext, ?_, ?_⟩
                        · simp only [List.length_append, List.length_take, List.length_drop, hvl]; omega
                        · intro j v hj
                          rw [← hln] at hj ⊢
                          rw [splice_get _ _ _ _ (by rw [g2, hln]; exact hle)] at hj
                          rw [splice_get _ _ _ _ (by rw [hln]; omega)]
                          split at hj
                          · rename_i h7; rw [if_pos (by omega)]; exact g3 j v hj
                          · rename_i h7
                            rw [if_neg (by omega)]
                            split at hj
                            · rename_i h8; rw [if_pos (by omega), show i * P.cellsOf T2 + j - (i * P.cellsOf T2 + off) = j - off by omega]; exact hj
                            · rename_i h8; rw [if_neg (by omega)]; exact g3 j v hj
                      · rw [List.getElem?_set_ne (Ne.symm hii)] at hz
                        simp only [if_neg hii]
                        obtain ⟨f1, f2, f3⟩ := hel i z hz
                        refine ⟨f1.ext P u hext, f2, fun j v hj => ?_⟩
                        have hjl : j < P.cellsOf T2 := by rw [← f2]; exact (List.getElem?_eq_some_iff.1 hj).1
                        have hold := f3 j v hj
                        rw [← hln, splice_get _ _ _ _ (by rw [hln]; omega)]
                        rcases Nat.lt_or_gt_of_ne hii with hlt | hgt
                        · have h9 : (i + 1) * P.cellsOf T2 ≤ idx * P.cellsOf T2 := Nat.mul_le_mul_right _ hlt
                          rw [Nat.add_mul, Nat.one_mul] at h9
                          rw [if_pos (by omega)]; exact hold
                        · have h9 : (idx + 1) * P.cellsOf T2 ≤ i * P.cellsOf T2 := Nat.mul_le_mul_right _ hgt
                          rw [Nat.add_mul, Nat.one_mul] at h9
                          rw [if_neg (by omega), if_neg (by omega)]; exact hold
                | rptrD _ _ _ _ hd _ => rw [ho] at hd; cases hd
              · cases h
            · cases h
          · cases h
        · cases h
      · cases h
    · cases h
  · rename_i t len ps
    split at h
    · rename_i el hu'
      split at h
      · rename_i xs ag z hxs hk hag hz
        split at h
        · rename_i hb
          simp only [Bool.and_eq_true] at hb
          obtain ⟨⟨⟨h1, h2⟩, h3⟩, h4⟩ := hb
          have hlen := Nat.eq_of_beq_eq_true h1
          have hpos : 0 < P.cellsOf el := by
            have : 1 ≤ P.cellsOf el := by simpa [Nat.blt] using h2
            omega
          have hle : len * P.cellsOf el ≤ 16777216 := Nat.le_of_ble_eq_true h3
          have hzc := Nat.eq_of_beq_eq_true h4
          cases h
          obtain ⟨vs, g1, g2, g3, g4⟩ := rowS_rep P u hu hev ps.toList 0 xs hxs
          have hsz := run_sizeOf P (t := el) (by rw [hag]; simp) e.w
          have hzr : (zeroValue el).run P e.w = .ok z e.w := by
            cases hi : P.info? el with
            | none => simp [hi] at hz
            | some it => simp only [hi, Option.bind_some] at hz; simp [zeroValue, typeInfo, hi, hz]
          obtain ⟨r, f1, f2, f3⟩ := Great.fill_dense hpos vs 0 ((Array.range (len * P.cellsOf el)).map (z.cells[· % z.cells.size]!)) g3 (by simp [g2, hlen])
          have hparts : (ps.map fun (i, x) => (i, ρ x)).toList = (vs.zipIdx 0).map fun x => (x.2, x.1) := by rw [← g1]; simp
          obtain ⟨hext, hmk⟩ := hr.new P u (k := k) (c := len) (o := .row el xs) (arr := r) (T := el) hk rfl
          have hrsz : r.size = len * P.cellsOf el := by rw [f2]; simp
          refine ⟨_, .slice (some ⟨e.w.heap.size, 0, none⟩) len len, newE e k len (.row el xs) (.cells r el), ?_, .value _, hmk ?_, hext, rfl, ?_⟩
          · have hrun : (Instr.buildSlice t len (ps.map fun (i, x) => (i, ρ x))).run P e.w = .ok (.slice (some ⟨e.w.heap.size, 0, none⟩) len len) (e.w.alloc (.cells r el)) := by
              simp only [Instr.buildSlice, Sem.run_bind, run_underlying hu', Result.andThen, hsz]
              rw [if_neg (by omega)]
              simp only [hparts]
              by_cases h0 : len * P.cellsOf el = 0
              · rw [if_pos h0]
                have f1' : Instr.fill (fun i => some (i * P.cellsOf el, P.cellsOf el)) ((Array.range (len * P.cellsOf el)).map ((#[] : Array Value)[· % (#[] : Array Value).size]!)) ((vs.zipIdx 0).map fun x => (x.2, x.1)) = some r := by
                  have e0 : ∀ f : Nat → Value, (Array.range 0).map f = #[] := fun f => by rw [show Array.range 0 = #[] from rfl]; simp
                  rw [h0, e0] at f1 ⊢
                  exact f1
                simp only [Sem.run_bind, Sem.run_pure, Result.andThen]
                rw [f1']
                rfl
              · rw [if_neg h0]
                simp only [Sem.run_bind, Sem.run_pure, hzr, Result.andThen]
                rw [f1]
                rfl
            simp only [Sem.run_bind, hrun, Result.andThen, Sem.run_pure]; rfl
          · refine ⟨e.w.heap.size, len, r.toList, el, fun i => (vs.getD i (.tuple #[])).cells.toList, by simp [newE, upd_same], hr.below.size, alloc_get _ _, by simpa using hrsz, by omega, ?_⟩
            intro i x hi
            obtain ⟨v, hv, hrep⟩ := g4 i x hi
            have hgd : vs.getD i (.tuple #[]) = v := by simp [List.getD, hv]
            simp only [hgd]
            refine ⟨hrep.ext P u hext, by simpa using g3 v (List.mem_of_getElem? hv), fun j w hj => ?_⟩
            have hj2 : v.cells[j]? = some w := by simpa using hj
            have hjl : j < P.cellsOf el := by
              have := (Array.getElem?_eq_some_iff.1 hj2).1
              rw [g3 v (List.mem_of_getElem? hv)] at this
              exact this
            have hil : i < vs.length := (List.getElem?_eq_some_iff.1 hv).1
            have hkl : i * P.cellsOf el + j < (0 + vs.length) * P.cellsOf el := by
              have : (i + 1) * P.cellsOf el ≤ vs.length * P.cellsOf el := Nat.mul_le_mul_right _ hil
              rw [Nat.add_mul, Nat.one_mul] at this
              rw [Nat.zero_add]; omega
            have h5 := f3 (i * P.cellsOf el + j)
            rw [if_pos ⟨by simp, hkl⟩] at h5
            have hdiv : (i * P.cellsOf el + j) / P.cellsOf el = i := by
              rw [Nat.mul_comm, Nat.mul_add_div hpos, Nat.div_eq_of_lt hjl, Nat.add_zero]
            have hmod : (i * P.cellsOf el + j) % P.cellsOf el = j := by
              rw [Nat.mul_comm, Nat.mul_add_mod, Nat.mod_eq_of_lt hjl]
            rw [hdiv, hmod, Nat.sub_zero, hv] at h5
            simp only [Option.bind_some, hj2] at h5
            simpa using h5
          · have := RepL.osl (P := P) (u := u) (e := newE e k len (.row el xs) (.cells r el)) (xs := []) (vs := []) k 0 len e.w.heap.size len el xs (.inl (by simp [newE, upd_same])) (by simp [newE, upd_same]) (by omega) .nil
            simpa using this
        · cases h
      · cases h
    · cases h
  · cases h
/-- A block that is marked behind its last cell. -/
theorem freeze_heap (w : World) (b n : Nat) {arr : Array Value} {T : TypeId} (h : w.heap[b]? = some (.cells arr T (0, 0))) : (w.freeze ⟨b, n, none⟩ 1).heap[b]? = some (.cells arr T (n, n + 1)) := by
  unfold World.freeze
  rw [if_neg (by decide)]
  show (w.heap.modify b _)[b]? = _
  rw [Array.getElem?_modify, if_pos rfl, h]
  rfl
theorem freeze_other (w : World) (b n b' : Nat) (h : b' ≠ b) : (w.freeze ⟨b, n, none⟩ 1).heap[b']? = w.heap[b']? := by
  unfold World.freeze
  rw [if_neg (by decide)]
  show (w.heap.modify b _)[b']? = _
  rw [Array.getElem?_modify, if_neg (Ne.symm h)]
theorem freeze_size (w : World) (b n : Nat) : (w.freeze ⟨b, n, none⟩ 1).heap.size = w.heap.size := by
  unfold World.freeze
  rw [if_neg (by decide)]
  show (w.heap.modify b _).size = _
  simp
theorem freeze_below {w0 w : World} {b : Nat} (n : Nat) (h : Below w0.heap.size w0 w) (hb : w0.heap.size ≤ b) : Below w0.heap.size w0 (w.freeze ⟨b, n, none⟩ 1) := by
  refine ⟨?_, ?_, ?_, by rw [freeze_size]; exact h.size, fun k hk => ?_⟩
  · rw [← h.os]; unfold World.freeze; rw [if_neg (by decide)]
  · rw [← h.tape]; unfold World.freeze; rw [if_neg (by decide)]
  · rw [← h.output]; unfold World.freeze; rw [if_neg (by decide)]
  · rw [freeze_other _ _ _ _ (by omega)]; exact h.block k hk
def killE (e : E A) (k b n : Nat) : E A := { w := e.w.freeze ⟨b, n, none⟩ 1, O := fun x => e.O x ∧ x ≠ b, own := upd e.own k .dead, β := e.β }
/-- A row of the call's own is let go of: nobody writes to it any more. -/
theorem HR.kill {w0 : World} {O0 : Nat → Prop} {e : E A} (hr : HR P u w0 O0 e) {k b c : Nat} (n : Nat) (hm0 : (e.own k).mut = true) (hβ : e.β k = some (b, c)) (hlo : w0.heap.size ≤ b) :
    Ext e (killE e k b n) ∧ HR P u w0 O0 (killE e k b n) := by
  have hbO : e.O b := (hr.O b).2 (.inr ⟨k, c, hm0, hβ⟩)
  have hkf : e.own k ≠ .free := by intro h; rw [h] at hm0; cases hm0
  have hkd : e.own k ≠ .dead := by intro h; rw [h] at hm0; cases hm0
  have hext : Ext e (killE e k b n) := by
    refine ⟨by show _ ≤ (e.w.freeze _ _).heap.size; rw [freeze_size]; exact Nat.le_refl _, fun b' hb' hO => ⟨fun h => hO h.1, ?_⟩, fun id hid => ?_⟩
    · exact freeze_other _ _ _ _ (by rintro rfl; exact hO hbO)
    · by_cases hne : id = k
      · subst hne
        simp only [killE, upd_same]
        exact ⟨.dead _, fun h => absurd rfl h⟩
      · simp only [killE, upd_ne _ _ hne]
        exact ⟨.refl hid, fun _ => by first | rfl | trivial⟩
  refine ⟨hext, ⟨freeze_below n hr.below hlo, hr.o0, ?_, ?_, ?_⟩⟩
  · intro id id' b' c1 c2 h1 h2 h3 h4 h5 h6
    have e1 : id ≠ k := by rintro rfl; exact h2 (by simp [killE, upd_same])
    have e2 : id' ≠ k := by rintro rfl; exact h4 (by simp [killE, upd_same])
    simp only [killE, upd_ne _ _ e1, upd_ne _ _ e2] at *
    exact hr.inj id id' b' c1 c2 h1 h2 h3 h4 h5 h6
  · intro x
    constructor
    · rintro ⟨h1, h2⟩
      rcases (hr.O x).1 h1 with h | ⟨id, c', h3, h4⟩
      · exact .inl h
      · have e1 : id ≠ k := by rintro rfl; rw [hβ] at h4; cases h4; exact h2 rfl
        exact .inr ⟨id, c', by simp only [killE, upd_ne _ _ e1]; exact h3, h4⟩
    · rintro (h | ⟨id, c', h3, h4⟩)
      · exact ⟨(hr.O x).2 (.inl h), by have := hr.o0 x h; omega⟩
      · have e1 : id ≠ k := by rintro rfl; simp [killE, upd_same, Own.mut] at h3
        simp only [killE, upd_ne _ _ e1] at h3 h4
        refine ⟨(hr.O x).2 (.inr ⟨id, c', h3, h4⟩), ?_⟩
        rintro rfl
        exact e1 (hr.inj id k x c' c (by intro h; rw [h] at h3; cases h3) (by intro h; rw [h] at h3; cases h3) hkf hkd h4 hβ)
  · intro id
    by_cases e1 : id = k
    · subst e1
      show EntOk P u _ _ _ (upd e.own id .dead id)
      rw [upd_same]; trivial
    · show EntOk P u _ _ _ (upd e.own k .dead id)
      rw [upd_ne _ _ e1]
      by_cases hf : e.own id = .free
      · rw [hf]; trivial
      · by_cases hd : e.own id = .dead
        · rw [hd]; trivial
        · refine (hr.ent id).later P u hext rfl (fun b' c' hβ' => freeze_other _ _ _ _ ?_)
          rintro rfl
          exact e1 (hr.inj id k b' c' c hf hd hkf hkd hβ' hβ)
/-- A row that is turned to its own type ('[]byte' of a constant text): read only, by its content, from here on. -/
def killS (own : Nat → Own A) (s d : TypeId) (x : SV A) : Option (SV A × (Nat → Own A)) := match P.underlying d with
  | some (.slice e) => match P.underlying e with
    | some (.int .u8) => match x with
      | .osl id lo len => match own id with
        | .row T xs => if Nat.beq s d then some (.csl T ((xs.drop lo).take len), upd own id .dead) else none
        | _ => none
      | _ => none
    | _ => none
  | _ => none
theorem kill_sound {w0 : World} {O0 : Nat → Prop} {e : E A} (hr : HR P u w0 O0 e) {s d : TypeId} {x y : SV A} {v : Value} {own' : Nat → Own A} (hx : RepL P u e [x] [v]) (h : killS P e.own s d x = some (y, own')) :
    ∃ e', (convert s d v).run P e.w = .ok v e'.w ∧ HR P u w0 O0 e' ∧ Ext e e' ∧ e'.own = own' ∧ RepL P u e' [y] [v] := by
  unfold killS at h
  split at h
  case h_2 => cases h
  rename_i el hel
  split at h
  case h_2 => cases h
  rename_i hu8
  split at h
  case h_2 => cases h
  rename_i id lo len
  split at h
  case h_2 => cases h
  rename_i T xs ho
  split at h
  case isFalse => cases h
  rename_i hsd
  have hsd := Nat.eq_of_beq_eq_true hsd
  subst hsd
  cases h
  have hent := hr.ent id
  rw [ho] at hent
  obtain ⟨b, c, arr, T', vss, hβ, hlo, hheap, harr, hc, hel2⟩ := hent
  cases hx with
  | oslD _ _ _ _ hd _ => rw [ho] at hd; cases hd
  | osl _ _ _ b' c' T2 ys hv hβ' hle _ =>
    rw [hβ] at hβ'; cases hβ'
    have hsame : T2 = T ∧ HEq ys xs := by
      rw [ho] at hv; rcases hv with hv | hv <;> cases hv; exact ⟨rfl, HEq.rfl⟩
    obtain ⟨rfl, hys⟩ := hsame
    cases hys
    obtain ⟨hext, hr'⟩ := hr.kill P u arr.length (k := id) (by rw [ho]; rfl) hβ hlo
    have hsh : e.w.shape? b = some (T', arr.length) := by
      unfold World.shape?
      rw [hheap]
      rfl
    refine ⟨killE e id b arr.length, ?_, hr', hext, rfl, ?_⟩
    · simp [convert, run_underlying hel, run_underlying hu8, markStringish, hsh, killE]
    · have hheap' := freeze_heap e.w b arr.length hheap
      refine .csl T2 _ _ len (c - lo) (fun i => vss (lo + i)) (by simp; omega) (by omega) (.inr ⟨b, lo * P.cellsOf T2, rfl, lt_of_get hheap', fun hO => hO.2 rfl, fun i hi => ?_⟩) ?_ .nil
      · have hi' : i < len := by simp at hi; omega
        intro j v hj
        have hlt : lo + i < ys.length := by omega
        obtain ⟨_, _, h3⟩ := hel2 (lo + i) _ (List.getElem?_eq_getElem hlt)
        have := h3 j v hj
        have hcell : (killE e id b arr.length).w.cell? ⟨b, 0 + ((lo + i) * P.cellsOf T2 + j), none⟩ = some v := by
          simp only [World.cell?, killE, hheap', Nat.zero_add]
          simpa using this
        rw [Nat.zero_add, Nat.add_mul, Nat.add_assoc] at hcell
        rw [Nat.add_assoc]
        exact hcell
      · intro i x hi
        rw [List.getElem?_take] at hi
        split at hi
        · rw [List.getElem?_drop] at hi
          obtain ⟨h1, _, _⟩ := hel2 (lo + i) x hi
          exact h1.ext P u hext
        · cases hi
end
end Go.Proofs.Ytacafjapnppacaa.Sx
