/- An abstract machine over values by content, second part: operations that only reckon or read, and that they give what the abstract machine gives. -/
import Derived.Test.YtndacggailoogaaSxA
import Derived.Laws.Entries
import Derived.Laws.Small
import Derived.Laws.Shifts
import Derived.Laws.Tables
import Derived.Laws.StructEq
import Derived.Laws.IdiomCopy
namespace Go.Proofs.Ytndacggailoogaa.Sx
open Go Go.RowKit

section
variable {A : Nat → Type} (P : Program) (u : U A)

/-- A call's beginning: the world, the blocks of it that are handed to the call to be written, and where those lie that are handed by number. -/
structure W0 where
  w : World
  M : Nat → Prop
  hand : Nat → Option (Option (Nat × Nat))
  handN : Nat → Nat → Option (Option (Nat × Nat)) := fun _ _ => none
/-- A block that the call may write: a new one, or one that was handed to it. -/
def W0.fr (w0 : W0) (b : Nat) : Prop := w0.w.heap.size ≤ b ∨ w0.M b
/-- Nothing of what was there has turned, but what was handed over. -/
structure BelowM (w0 : W0) (w : World) : Prop where
  os : w.os = w0.w.os
  tape : w.tape = w0.w.tape
  output : w.output = w0.w.output
  size : w0.w.heap.size ≤ w.heap.size
  block : ∀ k, k < w0.w.heap.size → ¬ w0.M k → w.heap[k]? = w0.w.heap[k]?
theorem BelowM.refl (w0 : W0) : BelowM w0 w0.w := ⟨rfl, rfl, rfl, Nat.le_refl _, fun _ _ _ => rfl⟩
/-- A step that leaves all blocks but some that may be written. -/
theorem BelowM.step {w0 : W0} {w w' : World} (h : BelowM w0 w) (h1 : w'.os = w.os) (h2 : w'.tape = w.tape) (h3 : w'.output = w.output) (h4 : w.heap.size ≤ w'.heap.size)
    (h5 : ∀ k, k < w.heap.size → ¬ w0.fr k → w'.heap[k]? = w.heap[k]?) : BelowM w0 w' :=
  ⟨h1.trans h.os, h2.trans h.tape, h3.trans h.output, Nat.le_trans h.size h4, fun k hk hm => (h5 k (Nat.lt_of_lt_of_le hk h.size) (fun hf => hf.elim (fun h => absurd hk (by omega)) hm)).trans (h.block k hk hm)⟩

/-- No cell of a block of so many is marked. -/
def Fz (n : Nat) (fz : Nat × Nat) : Prop := fz = (0, 0) ∨ n ≤ fz.1
def aggT (t : TypeId) : Option Bool := match P.underlying t with
  | some (.struct _) => some true
  | some (.array _ _) => some true
  | some _ => some false
  | none => none
def isAggB (t : TypeId) : Bool := match aggT P t with
  | some true => true
  | _ => false
/-- An element as a value. -/
def valS (V : Nat) (y : A V) : SV A := if isAggB P V then .el V y else match u.enc V y with
  | [c] => c
  | _ => .top
/-- A map lies in a block. -/
def MapAt (e : E A) (fr : Nat → Prop) (id : Nat) (K : IntKind) (V : Nat) (kvs : List (Int × A V)) : Prop :=
  ∃ (b c clock : Nat) (es : Array MapEntry), e.β id = some (b, c) ∧ fr b ∧ e.w.heap[b]? = some (.map es clock) ∧ es.size = kvs.length ∧
    ∀ (i : Nat) (p : Int × A V), kvs[i]? = some p → ∃ en, es[i]? = some en ∧ en.key = .int K p.1 ∧ RepL P u e [valS P u V p.2] [en.val]
/-- A row lies in a block. -/
def RowAt (e : E A) (fr : Nat → Prop) (id T : Nat) (xs : List (A T)) : Prop :=
  ∃ (b c : Nat) (arr : List Value) (T' : TypeId) (fz : Nat × Nat) (vss : Nat → List Value), e.β id = some (b, c) ∧ fr b ∧ e.w.heap[b]? = some (.cells ⟨arr⟩ T' fz) ∧ Fz arr.length fz ∧ arr.length = c * P.cellsOf T ∧ xs.length ≤ c ∧
      ∀ i x, xs[i]? = some x → RepL P u e (u.enc T x) (vss i) ∧ (vss i).length = P.cellsOf T ∧ ∀ j v, (vss i)[j]? = some v → arr[i * P.cellsOf T + j]? = some v
/-- A row of which one element is told by its cells. -/
def RowC (e : E A) (fr : Nat → Prop) (id T : Nat) (xs : List (A T)) (k : Nat) (cells : List (SV A)) : Prop :=
  ∃ (b c : Nat) (arr : List Value) (T' : TypeId) (fz : Nat × Nat) (vss : Nat → List Value), e.β id = some (b, c) ∧ fr b ∧ e.w.heap[b]? = some (.cells ⟨arr⟩ T' fz) ∧ Fz arr.length fz ∧ arr.length = c * P.cellsOf T ∧ xs.length ≤ c ∧ k < xs.length ∧
      (∀ i x, xs[i]? = some x → (if i = k then RepL P u e cells (vss i) else RepL P u e (u.enc T x) (vss i)) ∧ (vss i).length = P.cellsOf T ∧ ∀ j v, (vss i)[j]? = some v → arr[i * P.cellsOf T + j]? = some v)
/-- A row of pointers to an arena's nodes. -/
def PRowAt (e : E A) (fr : Nat → Prop) (id a : Nat) (js : List Nat) : Prop :=
  ∃ (b c : Nat) (arr : List Value) (T' : TypeId) (fz : Nat × Nat), e.β id = some (b, c) ∧ fr b ∧ e.w.heap[b]? = some (.cells ⟨arr⟩ T' fz) ∧ Fz arr.length fz ∧ arr.length = c ∧ js.length ≤ c ∧
      ∀ (i j : Nat), js[i]? = some j → ∃ v, arr[i]? = some v ∧ RepL P u e [.np a (.nd (some j)) 0] [v]
/-- An own block's entry: where it lies, and what stands there; an empty row may lie nowhere. -/
def EntOk (e : E A) (fr : Nat → Prop) (id : Nat) : Own A → Prop
  | .free | .dead => True
  | .var cells => ∃ b c vs T, e.β id = some (b, c) ∧ fr b ∧ e.w.heap[b]? = some (.cells ⟨vs⟩ T (0, 0)) ∧ RepL P u e cells vs
  | .row T xs | .fro T xs => (xs = [] ∧ e.β id = none) ∨ RowAt P u e fr id T xs
  | .mp K V kvs => MapAt P u e fr id K V kvs
  | .rowC T xs k cells => RowC P u e fr id T xs k cells
  | .ar _ _ => e.β id = none
  | .nod cells => ∃ b c vs T, e.β id = some (b, c) ∧ fr b ∧ e.w.heap[b]? = some (.cells ⟨vs⟩ T (0, 0)) ∧ RepL P u e cells vs
  | .prow a js => PRowAt P u e fr id a js

/-- The abstract memory is the world's, as the call at whose beginning the world was w0 may see it; the blocks O0 are not its own. -/
structure HR (w0 : W0) (O0 : Nat → Prop) (e : E A) : Prop where
  below : BelowM w0 e.w
  o0 : ∀ b, O0 b → b < w0.w.heap.size ∧ ¬ w0.M b
  inj : ∀ id id' b c c', e.own id ≠ .free → e.own id ≠ .dead → e.own id' ≠ .free → e.own id' ≠ .dead → e.β id = some (b, c) → e.β id' = some (b, c') → id = id'
  O : ∀ b, e.O b ↔ (O0 b ∨ ∃ id c, (e.own id).mut = true ∧ e.β id = some (b, c))
  ent : ∀ id, EntOk P u e w0.fr id (e.own id)
  hand : ∀ id p, w0.hand id = some p → e.own id = .dead ∨ (e.own id ≠ .free ∧ e.β id = p)
  lk : Lk e.own
  hn : ∀ id j, id < 1073741824 → (w0.handN id j).isSome = true → (w0.hand id).isSome = true
  hlo : ∀ id p, w0.hand id = some p → id < 1073741824
  handN : ∀ id j p, id < 1073741824 → w0.handN id j = some p → e.own id = .dead ∨ (e.own (nodeNo id j) ≠ .free ∧ e.β (nodeNo id j) = p)
theorem HR.o0f {w0 : W0} {O0 : Nat → Prop} {e : E A} (hr : HR P u w0 O0 e) {b : Nat} (h : O0 b) : ¬ w0.fr b := fun hf => by
  obtain ⟨h1, h2⟩ := hr.o0 b h
  rcases hf with hf | hf
  · omega
  · exact h2 hf

/-! ### plain facts -/
theorem RepL.append {e : E A} {xs ys : List (SV A)} {vs ws : List Value} (h : RepL P u e xs vs) (k : RepL P u e ys ws) : RepL P u e (xs ++ ys) (vs ++ ws) := by
  induction h with
  | nil => exact k
  | top v _ ih => exact .top v ih
  | undef _ ih => exact .undef ih
  | int k n _ ih => exact .int k n ih
  | bool b _ ih => exact .bool b ih
  | lit b _ ih => exact .lit b ih
  | str s _ ih => exact .str s ih
  | nilp _ ih => exact .nilp ih
  | nils _ ih => exact .nils ih
  | fn f cap caps h1 _ _ ih2 => exact .fn f cap caps h1 ih2
  | agg l cs h1 _ _ ih2 => exact .agg l cs h1 ih2
  | tup l cs h1 _ _ ih2 => exact .tup l cs h1 ih2
  | csl T ys a len cap vss hl hc hm hz hx _ _ ih => exact .csl T ys a len cap vss hl hc hm hz hx ih
  | nsl q T ys a len cap vss hl hc hm hz hx hq _ _ ih => exact .nsl q T ys a len cap vss hl hc hm hz hx hq ih
  | cptr cs off b o cv hb ho hm hx _ _ ih => exact .cptr cs off b o cv hb ho hm hx ih
  | optr id off b c hv hβ _ ih => exact .optr id off b c hv hβ ih
  | optrD id off v hv h1 _ ih => exact .optrD id off v hv h1 ih
  | rptr id idx off b c T ys hv hβ hi _ ih => exact .rptr id idx off b c T ys hv hβ hi ih
  | rptrD id idx off v hv h1 _ ih => exact .rptrD id idx off v hv h1 ih
  | osl id lo len b c cap T ys hv hβ hi hc _ ih => exact .osl id lo len b c cap T ys hv hβ hi hc ih
  | esl id idx off S lo len b c cap T ys hv hβ hi hc hp _ ih => exact .esl id idx off S lo len b c cap T ys hv hβ hi hc hp ih
  | eslD id idx off S lo len v hv h1 _ ih => exact .eslD id idx off S lo len v hv h1 ih
  | oslD id lo len v hv h1 _ ih => exact .oslD id lo len v hv h1 ih
  | oslZ id lo T ys a hv hlo _ ih => exact .oslZ id lo T ys a hv hlo ih
  | orow id b c cap T ys hv hβ hc _ ih => exact .orow id b c cap T ys hv hβ hc ih
  | orowN id T a hv _ ih => exact .orowN id T a hv ih
  | orowD id v hv h1 _ ih => exact .orowD id v hv h1 ih
  | bptr id idx off S i b c T ys hv hβ hi hp _ ih => exact .bptr id idx off S i b c T ys hv hβ hi hp ih
  | bptrD id idx off S i v hv h1 _ ih => exact .bptrD id idx off S i v hv h1 ih
  | omap id b c K V kvs hv hβ _ ih => exact .omap id b c K V kvs hv hβ ih
  | omapD id v hv h1 _ ih => exact .omapD id v hv h1 ih
  | cx id p off b c cap k T ys cs v hv hβ hc hq _ ih => exact .cx id p off b c cap k T ys cs v hv hβ hc hq ih
  | cxD id p off v hv h1 _ ih => exact .cxD id p off v hv h1 ih
  | np id x off v h _ ih => exact .np id x off v h ih
  | npD id x off v h _ ih => exact .npD id x off v h ih
  | zsl a _ ih => exact .zsl a ih
  | vsl id off len b c cap hv hβ hc _ ih => exact .vsl id off len b c cap hv hβ hc ih
  | vslD id off len v hv h1 _ ih => exact .vslD id off len v hv h1 ih
  | el T x cs h1 _ _ ih => exact .el T x cs h1 ih
theorem RepL.split {e : E A} {x : SV A} {xs : List (SV A)} {vs : List Value} (h : RepL P u e (x :: xs) vs) : ∃ v ws, vs = v :: ws ∧ RepL P u e [x] [v] ∧ RepL P u e xs ws := by
  cases h with
  | top v h => exact ⟨_, _, rfl, .top v .nil, h⟩
  | undef h => exact ⟨_, _, rfl, .undef .nil, h⟩
  | int k n h => exact ⟨_, _, rfl, .int k n .nil, h⟩
  | bool b h => exact ⟨_, _, rfl, .bool b .nil, h⟩
  | lit b h => exact ⟨_, _, rfl, .lit b .nil, h⟩
  | str s h => exact ⟨_, _, rfl, .str s .nil, h⟩
  | nilp h => exact ⟨_, _, rfl, .nilp .nil, h⟩
  | nils h => exact ⟨_, _, rfl, .nils .nil, h⟩
  | fn f cap caps h1 h => exact ⟨_, _, rfl, .fn f cap caps h1 .nil, h⟩
  | agg l cs h1 h => exact ⟨_, _, rfl, .agg l cs h1 .nil, h⟩
  | tup l cs h1 h => exact ⟨_, _, rfl, .tup l cs h1 .nil, h⟩
  | csl T ys a len cap vss hl hc hm hz hx h => exact ⟨_, _, rfl, .csl T ys a len cap vss hl hc hm hz hx .nil, h⟩
  | nsl q T ys a len cap vss hl hc hm hz hx hq h => exact ⟨_, _, rfl, .nsl q T ys a len cap vss hl hc hm hz hx hq .nil, h⟩
  | cptr cs off b o cv hb ho hm hx h => exact ⟨_, _, rfl, .cptr cs off b o cv hb ho hm hx .nil, h⟩
  | optr id off b c hv hβ h => exact ⟨_, _, rfl, .optr id off b c hv hβ .nil, h⟩
  | optrD id off v hv h1 h => exact ⟨_, _, rfl, .optrD id off v hv h1 .nil, h⟩
  | rptr id idx off b c T ys hv hβ hi h => exact ⟨_, _, rfl, .rptr id idx off b c T ys hv hβ hi .nil, h⟩
  | rptrD id idx off v hv h1 h => exact ⟨_, _, rfl, .rptrD id idx off v hv h1 .nil, h⟩
  | osl id lo len b c cap T ys hv hβ hi hc h => exact ⟨_, _, rfl, .osl id lo len b c cap T ys hv hβ hi hc .nil, h⟩
  | esl id idx off S lo len b c cap T ys hv hβ hi hc hp h => exact ⟨_, _, rfl, .esl id idx off S lo len b c cap T ys hv hβ hi hc hp .nil, h⟩
  | eslD id idx off S lo len v hv h1 h => exact ⟨_, _, rfl, .eslD id idx off S lo len v hv h1 .nil, h⟩
  | oslD id lo len v hv h1 h => exact ⟨_, _, rfl, .oslD id lo len v hv h1 .nil, h⟩
  | oslZ id lo T ys a hv hlo h => exact ⟨_, _, rfl, .oslZ id lo T ys a hv hlo .nil, h⟩
  | orow id b c cap T ys hv hβ hc h => exact ⟨_, _, rfl, .orow id b c cap T ys hv hβ hc .nil, h⟩
  | orowN id T a hv h => exact ⟨_, _, rfl, .orowN id T a hv .nil, h⟩
  | orowD id v hv h1 h => exact ⟨_, _, rfl, .orowD id v hv h1 .nil, h⟩
  | bptr id idx off S i b c T ys hv hβ hi hp h => exact ⟨_, _, rfl, .bptr id idx off S i b c T ys hv hβ hi hp .nil, h⟩
  | bptrD id idx off S i v hv h1 h => exact ⟨_, _, rfl, .bptrD id idx off S i v hv h1 .nil, h⟩
  | omap id b c K V kvs hv hβ h => exact ⟨_, _, rfl, .omap id b c K V kvs hv hβ .nil, h⟩
  | omapD id v hv h1 h => exact ⟨_, _, rfl, .omapD id v hv h1 .nil, h⟩
  | cx id p off b c cap k T ys cs v hv hβ hc hq h => exact ⟨_, _, rfl, .cx id p off b c cap k T ys cs v hv hβ hc hq .nil, h⟩
  | cxD id p off v hv h1 h => exact ⟨_, _, rfl, .cxD id p off v hv h1 .nil, h⟩
  | np id x off v h1 h => exact ⟨_, _, rfl, .np id x off v h1 .nil, h⟩
  | npD id x off v h1 h => exact ⟨_, _, rfl, .npD id x off v h1 .nil, h⟩
  | zsl a h => exact ⟨_, _, rfl, .zsl a .nil, h⟩
  | vsl id off len b c cap hv hβ hc h => exact ⟨_, _, rfl, .vsl id off len b c cap hv hβ hc .nil, h⟩
  | vslD id off len v hv h1 h => exact ⟨_, _, rfl, .vslD id off len v hv h1 .nil, h⟩
  | el T x cs h1 h => exact ⟨_, _, rfl, .el T x cs h1 .nil, h⟩
theorem RepL.cons {e : E A} {x : SV A} {xs : List (SV A)} {v : Value} {ws : List Value} (h : RepL P u e [x] [v]) (k : RepL P u e xs ws) : RepL P u e (x :: xs) (v :: ws) := by
  simpa using h.append P u k
theorem RepL.drop {e : E A} (n : Nat) : ∀ {xs : List (SV A)} {vs : List Value}, RepL P u e xs vs → RepL P u e (xs.drop n) (vs.drop n) := by
  induction n with
  | zero => intro xs vs h; simpa using h
  | succ n ih =>
    intro xs vs h
    cases xs with
    | nil => cases h; simpa using RepL.nil
    | cons x xs => obtain ⟨v, ws, rfl, _, h2⟩ := h.split P u; simpa using ih h2
theorem RepL.take {e : E A} (n : Nat) : ∀ {xs : List (SV A)} {vs : List Value}, RepL P u e xs vs → RepL P u e (xs.take n) (vs.take n) := by
  induction n with
  | zero => intro xs vs _; simpa using RepL.nil
  | succ n ih =>
    intro xs vs h
    cases xs with
    | nil => cases h; simpa using RepL.nil
    | cons x xs => obtain ⟨v, ws, rfl, h1, h2⟩ := h.split P u; simpa using h1.cons P u (ih h2)

/-! ### types -/
theorem run_isAgg {t : TypeId} {b : Bool} (h : aggT P t = some b) (w : World) : (isAgg t).run P w = .ok b w := by
  unfold aggT at h
  cases hu : P.underlying t with
  | none => rw [hu] at h; cases h
  | some d =>
    rw [hu] at h
    simp only [isAgg, Sem.run_bind, run_underlying hu, Result.andThen]
    cases d <;> simp_all
theorem run_sizeOf {t : TypeId} (h : aggT P t ≠ none) (w : World) : (sizeOf t).run P w = .ok (P.cellsOf t) w := by
  unfold aggT Program.underlying at h
  cases hi : P.info? t with
  | none => rw [hi] at h; exact absurd rfl h
  | some i => simp [sizeOf, typeInfo, Program.cellsOf, hi]

/-! ### loads -/
def packS (t : TypeId) (l : List (SV A)) : Option (SV A) :=
  if l.length = P.cellsOf t then (match aggT P t with
    | some true => some (.agg l)
    | some false => (match l with | [x] => some x | _ => none)
    | none => none) else none
theorem run_loadVar_cells {e : E A} {t : TypeId} {l : List (SV A)} {x : SV A} {vs : List Value} {b o : Nat} (hp : packS P t l = some x) (hr : RepL P u e l vs) (hm : cellsAt e.w b o vs) :
    ∃ v, (loadVar t ⟨b, o, none⟩).run P e.w = .ok v e.w ∧ RepL P u e [x] [v] := by
  unfold packS at hp
  split at hp
  · rename_i hlen
    have hvl : vs.length = P.cellsOf t := by rw [← hr.length]; exact hlen
    have hcells : ∀ j v, vs[j]? = some v → e.w.cell? (Addr.add ⟨b, o, none⟩ j) = some v := by
      intro j v hj
      have := hm j v hj
      rcases Nat.eq_zero_or_pos j with rfl | hj0
      · simpa [Addr.add] using this
      · simpa [Addr.add, Nat.ne_of_gt hj0] using this
    split at hp
    · rename_i ha
      cases hp
      refine ⟨.agg ⟨vs⟩, ?_, .agg _ _ hr .nil⟩
      have hl := run_loadCells_list (P := P) e.w ⟨b, o, none⟩ vs hcells
      simp [loadVar, run_isAgg P ha, run_sizeOf P (t := t) (by rw [ha]; simp), ← hvl, hl]
    · rename_i ha
      split at hp
      · cases hp
        obtain ⟨v, ws, rfl, h1, h2⟩ := hr.split P u
        cases h2
        have h0 := hcells 0 v rfl
        refine ⟨v, ?_, h1⟩
        have h0' : e.w.cell? ⟨b, o, none⟩ = some v := by simpa [Addr.add] using h0
        simp [loadVar, run_isAgg P ha, load, Sem.run, h0']
      · cases hp
    · cases hp
  · cases hp

theorem isAggB_eq {t : TypeId} (h : isAggB P t = true) : aggT P t = some true := by
  unfold isAggB at h
  split at h
  · assumption
  · cases h
/-- A load out of a row: an element as a whole, or a part of it. -/
def rowLoad (T : Nat) (x : A T) (off : Nat) (t : TypeId) : Option (SV A) := match u.proj T off t with
  | some f => some (.el t (f x))
  | none => if u.opq T && (Nat.beq T t && (Nat.beq off 0 && isAggB P t)) then some (.el T x) else packS P t (((u.enc T x).drop off).take (P.cellsOf t))
/-- What a part of an element is that is taken out as a whole. -/
def ProjOk : Prop := ∀ T off t f, u.proj T off t = some f → aggT P t = some true ∧ ∀ x : A T, u.enc t (f x) = ((u.enc T x).drop off).take (P.cellsOf t) ∧ (u.enc t (f x)).length = P.cellsOf t
def loadS (own : Nat → Own A) (t : TypeId) : SV A → Option (SV A)
  | .optr id off => match own id with
    | .var cs => packS P t ((cs.drop off).take (P.cellsOf t))
    | _ => none
  | .cptr cs off => packS P t ((cs.drop off).take (P.cellsOf t))
  | .rptr id idx off => match own id with
    | .row T xs => rowLoad P u T (xs.getD idx (u.dflt T)) off t
    | .fro T xs => rowLoad P u T (xs.getD idx (u.dflt T)) off t
    | _ => none
  | .cx id true off => match own id with
    | .rowC _ _ _ cs => packS P t ((cs.drop off).take (P.cellsOf t))
    | _ => none
  | _ => none

theorem cellsAt_sub {w : World} {b o : Nat} {vs : List Value} (h : cellsAt w b o vs) (k n : Nat) : cellsAt w b (o + k) ((vs.drop k).take n) := by
  intro j v hj
  have h1 : (vs.drop k)[j]? = some v := by
    rw [List.getElem?_take] at hj
    split at hj
    · exact hj
    · cases hj
  rw [List.getElem?_drop] at h1
  have := h (k + j) v h1
  rwa [← Nat.add_assoc] at this
theorem cellsAt_heap {w : World} {b : Nat} {arr : List Value} {T : TypeId} {m : Nat × Nat} (h : w.heap[b]? = some (.cells ⟨arr⟩ T m)) : cellsAt w b 0 arr := by
  intro j v hj
  simp [World.cell?, h, hj]

theorem load_sound (hproj : ProjOk P u) {w0 : W0} {O0 : Nat → Prop} {e : E A} {t : TypeId} {x y : SV A} {v : Value} (hr : HR P u w0 O0 e) (hx : RepL P u e [x] [v]) (h : loadS P u e.own t x = some y) :
    ∃ r, (Instr.loadAt t v).run P e.w = .ok r e.w ∧ RepL P u e [y] [r] := by
  have key : ∀ b o l vs, v = .pointer (some ⟨b, o, none⟩) → packS P t l = some y → RepL P u e l vs → cellsAt e.w b o vs → ∃ r, (Instr.loadAt t v).run P e.w = .ok r e.w ∧ RepL P u e [y] [r] := by
    intro b o l vs hv hp hl hm
    obtain ⟨r, h1, h2⟩ := run_loadVar_cells P u hp hl hm
    exact ⟨r, by simp [Instr.loadAt, Instr.sureAddr, hv, h1], h2⟩
  unfold loadS at h
  split at h
  · rename_i id off
    split at h
    · rename_i cs ho
      have hent := hr.ent id
      rw [ho] at hent
      obtain ⟨b, c, vs, T, hβ, _, hheap, hrep⟩ := hent
      cases hx with
      | optr _ _ b' c' _ hβ' _ =>
        rw [hβ] at hβ'; cases hβ'
        exact key b off _ _ rfl h ((hrep.drop P u off).take P u _) (by simpa using cellsAt_sub (cellsAt_heap hheap) off (P.cellsOf t))
      | optrD _ _ _ hd _ _ => rw [ho] at hd; cases hd
    · cases h
  · rename_i cs off
    cases hx with
    | cptr _ _ b o cv hb hno hm hrep _ => exact key b (o + off) _ _ rfl h ((hrep.drop P u off).take P u _) (cellsAt_sub hm off _)
  · rename_i id idx off
    have hrow : ∀ T xs, (e.own id = .row T xs ∨ e.own id = .fro T xs) → rowLoad P u T (xs.getD idx (u.dflt T)) off t = some y → ∃ r, (Instr.loadAt t v).run P e.w = .ok r e.w ∧ RepL P u e [y] [r] := by
      intro T xs ho hp
      have hent : EntOk P u e w0.fr id (.row T xs) := by
        have := hr.ent id
        rcases ho with ho | ho <;> rw [ho] at this <;> exact this
      cases hx with
      | rptr _ _ _ b' c' T2 ys hv hβ' hi _ =>
        rcases hent with ⟨_, hn⟩ | ⟨b, c, arr, T', fz, vss, hβ, _, hheap, _, hlen, hc, hel⟩
        · rw [hn] at hβ'; cases hβ'
        rw [hβ] at hβ'; cases hβ'
        have hsame : T2 = T ∧ HEq ys xs := by
          rcases ho with ho | ho <;> rw [ho] at hv <;> rcases hv with hv | hv <;> cases hv <;> exact ⟨rfl, HEq.rfl⟩
        obtain ⟨rfl, hys⟩ := hsame
        cases hys
        have hget : ys[idx]? = some (ys.getD idx (u.dflt T2)) := by simp [List.getD, List.getElem?_eq_getElem hi]
        obtain ⟨h1, h2, h3⟩ := hel idx _ hget
        have hm : cellsAt e.w b' (idx * P.cellsOf T2) (vss idx) := by
          intro j v hj
          have := h3 j v hj
          simpa using cellsAt_heap hheap _ v this
        unfold rowLoad at hp
        split at hp
        · rename_i f hf
          cases hp
          obtain ⟨ha', hpr⟩ := hproj _ _ _ _ hf
          obtain ⟨p1, p2⟩ := hpr (ys.getD idx (u.dflt T2))
          have hsub := (h1.drop P u off).take P u (P.cellsOf t)
          rw [← p1] at hsub
          have hsl : (((vss idx).drop off).take (P.cellsOf t)).length = P.cellsOf t := by rw [← hsub.length, p2]
          have hcs := cellsAt_sub hm off (P.cellsOf t)
          refine ⟨.agg ⟨((vss idx).drop off).take (P.cellsOf t)⟩, ?_, .el _ _ _ hsub .nil⟩
          have hcells : ∀ j v, (((vss idx).drop off).take (P.cellsOf t))[j]? = some v → e.w.cell? (Addr.add ⟨b', idx * P.cellsOf T2 + off, none⟩ j) = some v := by
            intro j v hj
            have := hcs j v hj
            rcases Nat.eq_zero_or_pos j with rfl | hj0
            · simpa [Addr.add] using this
            · simpa [Addr.add, Nat.ne_of_gt hj0, Nat.add_assoc] using this
          have hl := run_loadCells_list (P := P) e.w ⟨b', idx * P.cellsOf T2 + off, none⟩ _ hcells
          rw [hsl] at hl
          simp only [Instr.loadAt, Instr.sureAddr, Sem.run_bind, Sem.run_pure, Result.andThen]
          simp [loadVar, run_isAgg P ha', run_sizeOf P (t := t) (by rw [ha']; simp), hl]
        split at hp
        · rename_i hb
          simp only [Bool.and_eq_true] at hb
          obtain ⟨_, hT, hoff, ha⟩ := hb
          have hT := Nat.eq_of_beq_eq_true hT
          have hoff := Nat.eq_of_beq_eq_true hoff
          subst hT; subst hoff
          cases hp
          have ha' := isAggB_eq P ha
          refine ⟨.agg ⟨vss idx⟩, ?_, .el _ _ _ h1 .nil⟩
          have hcells : ∀ j v, (vss idx)[j]? = some v → e.w.cell? (Addr.add ⟨b', idx * P.cellsOf T2 + 0, none⟩ j) = some v := by
            intro j v hj
            have := hm j v hj
            rcases Nat.eq_zero_or_pos j with rfl | hj0
            · simpa [Addr.add] using this
            · simpa [Addr.add, Nat.ne_of_gt hj0, Nat.add_assoc] using this
          have hl := run_loadCells_list (P := P) e.w ⟨b', idx * P.cellsOf T2 + 0, none⟩ (vss idx) hcells
          simp only [Instr.loadAt, Instr.sureAddr, Sem.run_bind, Sem.run_pure, Result.andThen]
          simp [loadVar, run_isAgg P ha', run_sizeOf P (t := T2) (by rw [ha']; simp), ← h2]
          rw [Nat.add_zero, h2] at hl
          rw [h2, hl]
          rfl
        · exact key b' _ _ _ rfl hp ((h1.drop P u off).take P u _) (cellsAt_sub hm off _)
      | rptrD _ _ _ _ hd _ _ => rcases ho with ho | ho <;> rw [ho] at hd <;> cases hd
    split at h
    · rename_i T xs ho; exact hrow T xs (.inl ho) h
    · rename_i T xs ho; exact hrow T xs (.inr ho) h
    · cases h
  · rename_i id off
    split at h
    · rename_i T xs q cs ho
      have hent := hr.ent id
      rw [ho] at hent
      obtain ⟨b, c, arr, T', fz, vss, hβ, _, hheap, _, hlen, hc, hq0, hel⟩ := hent
      cases hx with
      | cx _ _ _ b' c' cap q2 T2 ys2 cs2 _ hv hβ' hcc hq _ =>
        rw [ho] at hv
        cases hv
        rw [hβ] at hβ'; cases hβ'
        have hq : v = .pointer (some ⟨b, q * P.cellsOf T + off, none⟩) := hq
        obtain ⟨h1, h2, h3⟩ := hel q _ (List.getElem?_eq_getElem hq0)
        rw [if_pos rfl] at h1
        have hm : cellsAt e.w b (q * P.cellsOf T) (vss q) := by
          intro j v hj
          have := h3 j v hj
          simpa using cellsAt_heap hheap _ v this
        exact key b _ _ _ hq h ((h1.drop P u off).take P u _) (cellsAt_sub hm off _)
      | cxD _ _ _ _ hd _ _ => rw [ho] at hd; cases hd
    · cases h
  · cases h
end
end Go.Proofs.Ytndacggailoogaa.Sx
