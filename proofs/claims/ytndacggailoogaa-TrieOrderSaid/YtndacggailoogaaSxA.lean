/- An abstract machine over values by content, first part: abstract values, what of the machine's values and memory they stand for, and that this stays so as memory grows. -/
import Derived.Calls
import Derived.Orders
import Derived.Below
import Derived.Laws.Cells
import Derived.Laws.AppendOwn
namespace Go.Proofs.Ytndacggailoogaa.Sx
open Go

/-- What a name of an arena's blocks stands for: nil or a pointer to a node; a row of pointers to nodes; a pointer to a row's element. -/
inductive NP : Type
  | nd (x : Option Nat)
  | row
  | rp (i : Nat)
/-- A node of a trie. -/
structure Nd where
  is : Bool
  k0 : Option Nat
  k1 : Option Nat
/-- An abstract value: numbers and texts as they are; a slice that nobody writes to by its content ('csl'), a pointer into such memory by the content ('cptr'); pointers and slices into memory of the call's own by the number that it has here ('orow': a whole row, 'vsl': a part of a variable's cells); 'zsl': a slice without room; 'el': an element as a whole; 'esl': a part of a row's element, as a slice (row, place, offset in the element, type of what it has, from, how many). -/
inductive SV (A : Nat → Type) : Type
  | undef | top
  | int (k : IntKind) (n : Int) | bool (b : Bool) | lit (b : Bool) | str (s : ByteArray)
  | fn (f : Nat) (cap : List (SV A))
  | nilp | nils
  | agg (cells : List (SV A)) | tup (vs : List (SV A))
  | csl (T : Nat) (xs : List (A T))
  | nsl (q : Bool) (T : Nat) (xs : List (A T))
  | cptr (cells : List (SV A)) (off : Nat)
  | optr (id : Nat) (off : Nat)
  | rptr (id : Nat) (idx : Nat) (off : Nat)
  | osl (id lo len : Nat)
  | orow (id : Nat)
  | zsl
  | vsl (id off len : Nat)
  | el (T : Nat) (x : A T)
  | esl (id idx off S lo len : Nat)
  | bptr (id idx off S i : Nat)
  | omap (id : Nat)
  | cx (id : Nat) (p : Bool) (off : Nat)
  | np (id : Nat) (x : NP) (off : Nat)
  | wh (d : Nat) (pol : Bool) (x : SV A)

/-- A block of the call's own: not there yet, gone, a variable, a row that may be written, a row that is only read any more. -/
inductive Own (A : Nat → Type) : Type
  | free | dead
  | var (cells : List (SV A))
  | row (T : Nat) (xs : List (A T))
  | fro (T : Nat) (xs : List (A T))
  | mp (K : IntKind) (V : Nat) (kvs : List (Int × A V))
  | rowC (T : Nat) (xs : List (A T)) (k : Nat) (cells : List (SV A))
  | ar (n : Int) (ns : List Nd)
  | nod (cells : List (SV A))
  | prow (a : Nat) (js : List Nat)

/-- The number from which the arenas' nodes are counted. -/
def bigN : Nat := Eq.rec (motive := fun _ _ => Nat) 1152921504606846976 (propext ⟨fun _ => ⟨trivial, trivial⟩, fun _ => trivial⟩ : True = (True ∧ True))
theorem eqRec_const {p q : Prop} (h : p = q) (n : Nat) : Eq.rec (motive := fun _ _ => Nat) n h = n := by subst h; rfl
theorem bigN_eq : bigN = 1152921504606846976 := eqRec_const _ _
/-- The number by which node j of arena id goes. -/
def nodeNo (id j : Nat) : Nat := j * 1073741824 + id + bigN
def ndId (k : Nat) : Nat := (k - bigN) % 1073741824
def ndIx (k : Nat) : Nat := (k - bigN) / 1073741824
theorem ndId_lt (k : Nat) : ndId k < 1073741824 := Nat.mod_lt _ (by decide)
/-- The cells of a node. -/
def ndCells {A : Nat → Type} (id : Nat) (n : Int) (j : Nat) (x : Nd) : List (SV A) := match j with
  | 0 => [.bool x.is, .np id (.nd x.k0) 0, .np id (.nd x.k1) 0, .int .i64 n]
  | _ + 1 => [.bool x.is, .np id (.nd x.k0) 0, .np id (.nd x.k1) 0]
def nodOf {A : Nat → Type} (id : Nat) (n : Int) (ns : List Nd) (j : Nat) : Own A := match ns[j]? with
  | some x => .nod (ndCells id n j x)
  | none => .free
/-- What lies at a high number, by what the low ones say. -/
def hidO {A : Nat → Type} (own : Nat → Own A) (k : Nat) : Own A := match own (ndId k) with
  | .ar n ns => nodOf (ndId k) n ns (ndIx k)
  | _ => .free
/-- The high numbers are those of the arenas' nodes. -/
def Lk {A : Nat → Type} (own : Nat → Own A) : Prop := ∀ k, 1152921504606846976 ≤ k → own k = hidO own k

/-- A part of an element that is a row of so many others, each of one cell. -/
structure PartU (A : Nat → Type) (T S : Nat) where
  n : Nat
  get : A T → List (A S)
  put : A T → List (A S) → A T
/-- What the elements of slices are, by their types' numbers, and how they lie in memory. -/
structure U (A : Nat → Type) where
  enc : ∀ T, A T → List (SV A)
  dflt : ∀ T, A T
  dec : ∀ T, List (SV A) → Option (A T)
  isByte : Nat → Bool := fun _ => false
  nums : ∀ T, List (A T) → List Int := fun _ _ => []
  ofNums : ∀ T, List Int → List (A T) := fun _ _ => []
  opq : Nat → Bool := fun _ => false
  eqv : ∀ T, Option (A T → A T → Bool) := fun _ => none
  part : ∀ T (_ : Nat) S, Option (PartU A T S) := fun _ _ _ => none
  arr : Nat → Option Nat := fun _ => none
  proj : ∀ T (_ : Nat) t, Option (A T → A t) := fun _ _ _ => none
  bld : ∀ t, List (Nat × SV A) → Option (A t) := fun _ _ => none
  one : Nat → Bool := fun _ => false

/-- The world, which blocks may be written, the call's own blocks, and where these lie (block, room). -/
structure E (A : Nat → Type) where
  w : World
  O : Nat → Prop
  own : Nat → Own A
  β : Nat → Option (Nat × Nat)

def cellsAt (w : World) (b o : Nat) (vs : List Value) : Prop := ∀ j v, vs[j]? = some v → w.cell? ⟨b, o + j, none⟩ = some v

def Own.isVar {A : Nat → Type} : Own A → Bool
  | .var _ => true
  | _ => false
def Own.mut {A : Nat → Type} : Own A → Bool
  | .var _ | .row _ _ | .mp _ _ _ | .rowC _ _ _ _ | .nod _ | .prow _ _ => true
  | _ => false
def Own.isNod {A : Nat → Type} : Own A → Bool
  | .nod _ => true
  | _ => false
def Own.isAr {A : Nat → Type} : Own A → Bool
  | .ar _ _ => true
  | _ => false
/-- What a name of an arena's blocks stands for in memory. -/
def NpOk {A : Nat → Type} (e : E A) (id off : Nat) (x : NP) (v : Value) : Prop := match x with
  | .nd none => v = .pointer none
  | .nd (some j) => (e.own (nodeNo id j)).isNod = true ∧ ∃ b c, e.β (nodeNo id j) = some (b, c) ∧ v = .pointer (some ⟨b, off, none⟩)
  | .row => ∃ b c cap a js, e.own id = .prow a js ∧ e.β id = some (b, c) ∧ js.length ≤ cap ∧ cap ≤ c ∧ v = .slice (some ⟨b, 0, none⟩) js.length cap
  | .rp i => ∃ b c a js, e.own id = .prow a js ∧ e.β id = some (b, c) ∧ i < js.length ∧ v = .pointer (some ⟨b, i + off, none⟩)
def NpDead {A : Nat → Type} (e : E A) (id : Nat) (x : NP) (v : Value) : Prop := (match x with
  | .nd none => False
  | .nd (some j) => e.own (nodeNo id j) = .dead
  | _ => e.own id = .dead) ∧ v.oneCell' = true

section
variable {A : Nat → Type} (P : Program) (u : U A)

inductive RepL (e : E A) : List (SV A) → List Value → Prop
  | nil : RepL e [] []
  | top {xs vs} (v : Value) : RepL e xs vs → RepL e (.top :: xs) (v :: vs)
  | undef {xs vs} : RepL e xs vs → RepL e (.undef :: xs) (Go.undef :: vs)
  | int {xs vs} (k : IntKind) (n : Int) : RepL e xs vs → RepL e (.int k n :: xs) (.int k n :: vs)
  | bool {xs vs} (b : Bool) : RepL e xs vs → RepL e (.bool b :: xs) (.bool b :: vs)
  | lit {xs vs} (b : Bool) : RepL e xs vs → RepL e (.lit b :: xs) (.bool b :: vs)
  | str {xs vs} (s : ByteArray) : RepL e xs vs → RepL e (.str s :: xs) (.string s :: vs)
  | nilp {xs vs} : RepL e xs vs → RepL e (.nilp :: xs) (.pointer none :: vs)
  | nils {xs vs} : RepL e xs vs → RepL e (.nils :: xs) (.slice none 0 0 :: vs)
  | fn {xs vs} (f : Nat) (cap : List (SV A)) (caps : List Value) : RepL e cap caps → RepL e xs vs → RepL e (.fn f cap :: xs) (.func (.func f) #[] ⟨caps⟩ :: vs)
  | agg {xs vs} (l : List (SV A)) (cs : List Value) : RepL e l cs → RepL e xs vs → RepL e (.agg l :: xs) (.agg ⟨cs⟩ :: vs)
  | tup {xs vs} (l : List (SV A)) (cs : List Value) : RepL e l cs → RepL e xs vs → RepL e (.tup l :: xs) (.tuple ⟨cs⟩ :: vs)
  | csl {xs vs} (T : Nat) (ys : List (A T)) (a : Option Addr) (len cap : Nat) (vss : Nat → List Value) (hl : ys.length = len) (hc : len ≤ cap)
      (hm : ys = [] ∨ ∃ b o, a = some ⟨b, o, none⟩ ∧ b < e.w.heap.size ∧ ¬ e.O b ∧ ∀ i, i < ys.length → cellsAt e.w b (o + i * P.cellsOf T) (vss i))
      (hz : ∀ i, i < ys.length → (vss i).length = P.cellsOf T) (hx : ∀ i x, ys[i]? = some x → RepL e (u.enc T x) (vss i)) : RepL e xs vs → RepL e (.csl T ys :: xs) (.slice a len cap :: vs)
  | nsl {xs vs} (q : Bool) (T : Nat) (ys : List (A T)) (a : Option Addr) (len cap : Nat) (vss : Nat → List Value) (hl : ys.length = len) (hc : len ≤ cap)
      (hm : ys = [] ∨ ∃ b o, a = some ⟨b, o, none⟩ ∧ b < e.w.heap.size ∧ ¬ e.O b ∧ ∀ i, i < ys.length → cellsAt e.w b (o + i * P.cellsOf T) (vss i))
      (hz : ∀ i, i < ys.length → (vss i).length = P.cellsOf T) (hx : ∀ i x, ys[i]? = some x → RepL e (u.enc T x) (vss i)) (hq : a.isNone = q) : RepL e xs vs → RepL e (.nsl q T ys :: xs) (.slice a len cap :: vs)
  | cptr {xs vs} (cs : List (SV A)) (off b o : Nat) (cv : List Value) (hb : b < e.w.heap.size) (ho : ¬ e.O b) (hm : cellsAt e.w b o cv) (hx : RepL e cs cv) :
      RepL e xs vs → RepL e (.cptr cs off :: xs) (.pointer (some ⟨b, o + off, none⟩) :: vs)
  | optr {xs vs} (id off b c : Nat) (hv : (e.own id).isVar = true) (hβ : e.β id = some (b, c)) : RepL e xs vs → RepL e (.optr id off :: xs) (.pointer (some ⟨b, off, none⟩) :: vs)
  | optrD {xs vs} (id off : Nat) (v : Value) (hv : e.own id = .dead) (h1 : v.oneCell' = true) : RepL e xs vs → RepL e (.optr id off :: xs) (v :: vs)
  | rptr {xs vs} (id idx off b c T : Nat) (ys : List (A T)) (hv : e.own id = .row T ys ∨ e.own id = .fro T ys) (hβ : e.β id = some (b, c)) (hi : idx < ys.length) :
      RepL e xs vs → RepL e (.rptr id idx off :: xs) (.pointer (some ⟨b, idx * P.cellsOf T + off, none⟩) :: vs)
  | rptrD {xs vs} (id idx off : Nat) (v : Value) (hv : e.own id = .dead) (h1 : v.oneCell' = true) : RepL e xs vs → RepL e (.rptr id idx off :: xs) (v :: vs)
  | osl {xs vs} (id lo len b c cap T : Nat) (ys : List (A T)) (hv : e.own id = .row T ys ∨ e.own id = .fro T ys) (hβ : e.β id = some (b, c)) (hi : lo + len ≤ ys.length) (hc : ys.length ≤ lo + cap ∧ lo + cap ≤ c) :
      RepL e xs vs → RepL e (.osl id lo len :: xs) (.slice (some ⟨b, lo * P.cellsOf T, none⟩) len cap :: vs)
  | esl {xs vs} (id idx off S lo len b c cap T : Nat) (ys : List (A T)) (hv : e.own id = .row T ys ∨ e.own id = .fro T ys) (hβ : e.β id = some (b, c)) (hi : idx < ys.length) (hc : len ≤ cap) (hp : ∀ p, u.part T off S = some p → lo + len ≤ p.n) :
      RepL e xs vs → RepL e (.esl id idx off S lo len :: xs) (.slice (some ⟨b, idx * P.cellsOf T + off + lo, none⟩) len cap :: vs)
  | eslD {xs vs} (id idx off S lo len : Nat) (v : Value) (hv : e.own id = .dead) (h1 : v.oneCell' = true) : RepL e xs vs → RepL e (.esl id idx off S lo len :: xs) (v :: vs)
  | oslD {xs vs} (id lo len : Nat) (v : Value) (hv : e.own id = .dead) (h1 : v.oneCell' = true) : RepL e xs vs → RepL e (.osl id lo len :: xs) (v :: vs)
  | oslZ {xs vs} (id lo T : Nat) (ys : List (A T)) (a : Option Addr) (hv : e.own id = .row T ys ∨ e.own id = .fro T ys) (hlo : lo = ys.length) : RepL e xs vs → RepL e (.osl id lo 0 :: xs) (.slice a 0 0 :: vs)
  | orow {xs vs} (id b c cap T : Nat) (ys : List (A T)) (hv : e.own id = .row T ys ∨ e.own id = .fro T ys) (hβ : e.β id = some (b, c)) (hc : ys.length ≤ cap ∧ cap ≤ c) : RepL e xs vs → RepL e (.orow id :: xs) (.slice (some ⟨b, 0, none⟩) ys.length cap :: vs)
  | orowN {xs vs} (id T : Nat) (a : Option Addr) (hv : e.own id = .row T [] ∨ e.own id = .fro T []) : RepL e xs vs → RepL e (.orow id :: xs) (.slice a 0 0 :: vs)
  | orowD {xs vs} (id : Nat) (v : Value) (hv : e.own id = .dead) (h1 : v.oneCell' = true) : RepL e xs vs → RepL e (.orow id :: xs) (v :: vs)
  | bptr {xs vs} (id idx off S i b c T : Nat) (ys : List (A T)) (hv : e.own id = .row T ys ∨ e.own id = .fro T ys) (hβ : e.β id = some (b, c)) (hi : idx < ys.length) (hp : ∀ p, u.part T off S = some p → i < p.n) :
      RepL e xs vs → RepL e (.bptr id idx off S i :: xs) (.pointer (some ⟨b, idx * P.cellsOf T + off + i, none⟩) :: vs)
  | bptrD {xs vs} (id idx off S i : Nat) (v : Value) (hv : e.own id = .dead) (h1 : v.oneCell' = true) : RepL e xs vs → RepL e (.bptr id idx off S i :: xs) (v :: vs)
  | omap {xs vs} (id b c : Nat) (K : IntKind) (V : Nat) (kvs : List (Int × A V)) (hv : e.own id = .mp K V kvs) (hβ : e.β id = some (b, c)) : RepL e xs vs → RepL e (.omap id :: xs) (.map (some b) :: vs)
  | omapD {xs vs} (id : Nat) (v : Value) (hv : e.own id = .dead) (h1 : v.oneCell' = true) : RepL e xs vs → RepL e (.omap id :: xs) (v :: vs)
  | cx {xs vs} (id : Nat) (p : Bool) (off b c cap k T : Nat) (ys : List (A T)) (cs : List (SV A)) (v : Value) (hv : e.own id = .rowC T ys k cs) (hβ : e.β id = some (b, c)) (hc : ys.length ≤ cap ∧ cap ≤ c)
      (hq : v = if p then .pointer (some ⟨b, k * P.cellsOf T + off, none⟩) else .slice (some ⟨b, 0, none⟩) ys.length cap) : RepL e xs vs → RepL e (.cx id p off :: xs) (v :: vs)
  | cxD {xs vs} (id : Nat) (p : Bool) (off : Nat) (v : Value) (hv : e.own id = .dead) (h1 : v.oneCell' = true) : RepL e xs vs → RepL e (.cx id p off :: xs) (v :: vs)
  | np {xs vs} (id : Nat) (x : NP) (off : Nat) (v : Value) (h : NpOk e id off x v) : RepL e xs vs → RepL e (.np id x off :: xs) (v :: vs)
  | npD {xs vs} (id : Nat) (x : NP) (off : Nat) (v : Value) (h : NpDead e id x v) : RepL e xs vs → RepL e (.np id x off :: xs) (v :: vs)
  | zsl {xs vs} (a : Option Addr) : RepL e xs vs → RepL e (.zsl :: xs) (.slice a 0 0 :: vs)
  | vsl {xs vs} (id off len b c cap : Nat) (hv : (e.own id).isVar = true) (hβ : e.β id = some (b, c)) (hc : len ≤ cap) : RepL e xs vs → RepL e (.vsl id off len :: xs) (.slice (some ⟨b, off, none⟩) len cap :: vs)
  | vslD {xs vs} (id off len : Nat) (v : Value) (hv : e.own id = .dead) (h1 : v.oneCell' = true) : RepL e xs vs → RepL e (.vsl id off len :: xs) (v :: vs)
  | el {xs vs} (T : Nat) (x : A T) (cs : List Value) : RepL e (u.enc T x) cs → RepL e xs vs → RepL e (.el T x :: xs) (.agg ⟨cs⟩ :: vs)

/-- What may come of an own block: it is gone, or of the same make, a row as long. -/
inductive Own.later : Own A → Own A → Prop
  | dead (o : Own A) : Own.later o .dead
  | var (c c' : List (SV A)) : Own.later (.var c) (.var c')
  | row (T : Nat) (xs ys : List (A T)) : xs.length = ys.length → Own.later (.row T xs) (.row T ys)
  | rowF (T : Nat) (xs ys : List (A T)) : xs.length = ys.length → Own.later (.row T xs) (.fro T ys)
  | fro (T : Nat) (xs : List (A T)) : Own.later (.fro T xs) (.fro T xs)
  | mp (K : IntKind) (V : Nat) (xs ys : List (Int × A V)) : Own.later (.mp K V xs) (.mp K V ys)
  | rowC (T : Nat) (xs : List (A T)) (k : Nat) (cs cs' : List (SV A)) : Own.later (.rowC T xs k cs) (.rowC T xs k cs')
  | ar (n n' : Int) (ns ns' : List Nd) : Own.later (.ar n ns) (.ar n' ns')
  | nod (c c' : List (SV A)) : Own.later (.nod c) (.nod c')
  | prow (a a' : Nat) (js js' : List Nat) : js.length = js'.length → Own.later (.prow a js) (.prow a' js')

theorem Own.later.refl {o : Own A} (h : o ≠ .free) : o.later o := by
  cases o with
  | free => exact absurd rfl h
  | dead => exact .dead _
  | var c => exact .var _ _
  | row T xs => exact .row _ _ _ rfl
  | fro T xs => exact .fro _ _
  | mp K V xs => exact .mp _ _ _ _
  | rowC T xs k cs => exact .rowC _ _ _ _ _
  | ar n ns => exact .ar _ _ _ _
  | nod c => exact .nod _ _
  | prow a js => exact .prow _ _ _ _ rfl

/-- Memory as it is later: what nobody writes to is as it was; own blocks are gone, or lie where they lay. -/
structure Ext (e e' : E A) : Prop where
  size : e.w.heap.size ≤ e'.w.heap.size
  heap : ∀ b, b < e.w.heap.size → ¬ e.O b → ¬ e'.O b ∧ e'.w.heap[b]? = e.w.heap[b]?
  own : ∀ id, e.own id ≠ .free → (e.own id).later (e'.own id) ∧ (e'.own id ≠ .dead → e'.β id = e.β id)

theorem Own.later.trans {a b c : Own A} (h : a.later b) (k : b.later c) : a.later c := by
  cases h <;> cases k <;> first | exact .dead _ | exact .var _ _ | (exact .row _ _ _ (by omega)) | (exact .rowF _ _ _ (by omega)) | exact .fro _ _ | exact .mp _ _ _ _ | exact .rowC _ _ _ _ _ | exact .ar _ _ _ _ | exact .nod _ _ | (exact .prow _ _ _ _ (by omega))
theorem Own.later.not_free {a b : Own A} (h : a.later b) : b ≠ .free := by cases h <;> simp

theorem Ext.refl (e : E A) : Ext e e := ⟨Nat.le_refl _, fun _ _ h => ⟨h, rfl⟩, fun _ h => ⟨.refl h, fun _ => rfl⟩⟩
theorem Ext.trans {a b c : E A} (h : Ext a b) (k : Ext b c) : Ext a c := by
  refine ⟨Nat.le_trans h.size k.size, fun x hx ho => ?_, fun id hid => ?_⟩
  · obtain ⟨h1, h2⟩ := h.heap x hx ho
    obtain ⟨h3, h4⟩ := k.heap x (Nat.lt_of_lt_of_le hx h.size) h1
    exact ⟨h3, h4.trans h2⟩
  · obtain ⟨h1, h2⟩ := h.own id hid
    obtain ⟨h3, h4⟩ := k.own id h1.not_free
    refine ⟨h1.trans h3, fun hd => ?_⟩
    rw [h4 hd, h2]
    intro hb
    rw [hb] at h3
    generalize c.own id = o at *
    cases h3
    exact hd rfl

theorem cellsAt_ext {e e' : E A} (h : Ext e e') {b o : Nat} {vs : List Value} (hb : b < e.w.heap.size) (ho : ¬ e.O b) (hm : cellsAt e.w b o vs) : cellsAt e'.w b o vs := by
  intro j v hj
  rw [World.cell?_of_block (w := e.w) (h.heap b hb ho).2]
  exact hm j v hj

theorem NpOk.ext {e e' : E A} (h : Ext e e') {id off : Nat} {x : NP} {v : Value} (hv : NpOk e id off x v) : NpOk e' id off x v ∨ NpDead e' id x v := by
  cases x with
  | nd y =>
    cases y with
    | none => exact .inl hv
    | some j =>
      obtain ⟨h1, b, c, h2, rfl⟩ := hv
      obtain ⟨g1, g2⟩ := h.own (nodeNo id j) (by intro hf; rw [hf] at h1; cases h1)
      generalize he : e.own (nodeNo id j) = o at *
      generalize he' : e'.own (nodeNo id j) = o' at *
      cases g1 with
      | dead => exact .inr ⟨he', rfl⟩
      | nod c1 c2 => exact .inl ⟨by rw [he']; rfl, b, c, (g2 (by simp)).trans h2, rfl⟩
      | var => cases h1
      | row => cases h1
      | rowF => cases h1
      | fro => cases h1
      | mp => cases h1
      | rowC => cases h1
      | ar => cases h1
      | prow => cases h1
  | row =>
    obtain ⟨b, c, cap, a, js, h1, h2, h3, h4, rfl⟩ := hv
    obtain ⟨g1, g2⟩ := h.own id (by rw [h1]; simp)
    rw [h1] at g1
    generalize he' : e'.own id = o' at *
    cases g1 with
    | dead => exact .inr ⟨he', rfl⟩
    | prow _ a' _ js' hl => exact .inl ⟨b, c, cap, a', js', he', (g2 (by simp)).trans h2, by omega, h4, by rw [hl]⟩
  | rp i =>
    obtain ⟨b, c, a, js, h1, h2, h3, rfl⟩ := hv
    obtain ⟨g1, g2⟩ := h.own id (by rw [h1]; simp)
    rw [h1] at g1
    generalize he' : e'.own id = o' at *
    cases g1 with
    | dead => exact .inr ⟨he', rfl⟩
    | prow _ a' _ js' hl => exact .inl ⟨b, c, a', js', he', (g2 (by simp)).trans h2, by omega, rfl⟩
theorem NpDead.ext {e e' : E A} (h : Ext e e') {id : Nat} {x : NP} {v : Value} (hv : NpDead e id x v) : NpDead e' id x v := by
  have key : ∀ k, e.own k = .dead → e'.own k = .dead := by
    intro k hk
    obtain ⟨g1, _⟩ := h.own k (by rw [hk]; simp)
    rw [hk] at g1
    generalize e'.own k = o' at g1
    cases g1
    rfl
  obtain ⟨h1, h2⟩ := hv
  refine ⟨?_, h2⟩
  cases x with
  | nd y =>
    cases y with
    | none => exact h1
    | some j => exact key _ h1
  | row => exact key _ h1
  | rp i => exact key _ h1
theorem RepL.ext {e e' : E A} (h : Ext e e') {xs : List (SV A)} {vs : List Value} (hr : RepL P u e xs vs) : RepL P u e' xs vs := by
  induction hr with
  | nil => exact .nil
  | top v _ ih => exact .top v ih
  | undef _ ih => exact .undef ih
  | int k n _ ih => exact .int k n ih
  | bool b _ ih => exact .bool b ih
  | lit b _ ih => exact .lit b ih
  | str s _ ih => exact .str s ih
  | nilp _ ih => exact .nilp ih
  | nils _ ih => exact .nils ih
  | fn f cap caps _ _ ih1 ih2 => exact .fn f cap caps ih1 ih2
  | agg l cs _ _ ih1 ih2 => exact .agg l cs ih1 ih2
  | tup l cs _ _ ih1 ih2 => exact .tup l cs ih1 ih2
  | csl T ys a len cap vss hl hc hm hz hx _ ihx ih =>
    refine .csl T ys a len cap vss hl hc ?_ hz ihx ih
    rcases hm with hm | ⟨b, o, ha, hb, ho, hm⟩
    · exact .inl hm
    · exact .inr ⟨b, o, ha, Nat.lt_of_lt_of_le hb h.size, (h.heap b hb ho).1, fun i hi => cellsAt_ext h hb ho (hm i hi)⟩
  | nsl q T ys a len cap vss hl hc hm hz hx hq _ ihx ih =>
    refine .nsl q T ys a len cap vss hl hc ?_ hz ihx hq ih
    rcases hm with hm | ⟨b, o, ha, hb, ho, hm⟩
    · exact .inl hm
    · exact .inr ⟨b, o, ha, Nat.lt_of_lt_of_le hb h.size, (h.heap b hb ho).1, fun i hi => cellsAt_ext h hb ho (hm i hi)⟩
  | cptr cs off b o cv hb ho hm _ _ ihx ih => exact .cptr cs off b o cv (Nat.lt_of_lt_of_le hb h.size) (h.heap b hb ho).1 (cellsAt_ext h hb ho hm) ihx ih
  | optr id off b c hv hβ _ ih =>
    obtain ⟨h1, h2⟩ := h.own id (by intro hf; rw [hf] at hv; cases hv)
    generalize he : e.own id = o at *
    generalize he' : e'.own id = o' at *
    cases h1 with
    | dead => exact .optrD _ _ _ he' rfl ih
    | var c c' => exact .optr _ _ b _ (by rw [he']; rfl) ((h2 (by simp)).trans hβ) ih
    | row => cases hv
    | rowF => cases hv
    | fro => cases hv
    | mp => cases hv
    | rowC => cases hv
    | ar => cases hv
    | nod => cases hv
    | prow => cases hv
  | optrD id off v hv hv1 _ ih =>
    obtain ⟨h1, _⟩ := h.own id (by rw [hv]; simp)
    rw [hv] at h1
    generalize he' : e'.own id = o' at *
    cases h1
    exact .optrD _ _ _ he' hv1 ih
  | rptr id idx off b c T ys hv hβ hi _ ih =>
    obtain ⟨h1, h2⟩ := h.own id (by rcases hv with hv | hv <;> rw [hv] <;> simp)
    generalize he' : e'.own id = o' at *
    rcases hv with hv | hv
    · rw [hv] at h1
      cases h1 with
      | dead => exact .rptrD _ _ _ _ he' rfl ih
      | row _ _ ys' hle => exact .rptr id idx off b c T _ (.inl he') ((h2 (by simp)).trans hβ) (by omega) ih
      | rowF _ _ ys' hle => exact .rptr id idx off b c T _ (.inr he') ((h2 (by simp)).trans hβ) (by omega) ih
    · rw [hv] at h1
      cases h1 with
      | dead => exact .rptrD _ _ _ _ he' rfl ih
      | fro => exact .rptr id idx off b c T _ (.inr he') ((h2 (by simp)).trans hβ) hi ih
  | rptrD id idx off v hv hv1 _ ih =>
    obtain ⟨h1, _⟩ := h.own id (by rw [hv]; simp)
    rw [hv] at h1
    generalize he' : e'.own id = o' at *
    cases h1
    exact .rptrD _ _ _ _ he' hv1 ih
  | osl id lo len b c cap T ys hv hβ hi hc _ ih =>
    obtain ⟨h1, h2⟩ := h.own id (by rcases hv with hv | hv <;> rw [hv] <;> simp)
    generalize he' : e'.own id = o' at *
    rcases hv with hv | hv
    · rw [hv] at h1
      cases h1 with
      | dead => exact .oslD _ _ _ _ he' rfl ih
      | row _ _ ys' hle => exact .osl id lo len b c cap T _ (.inl he') ((h2 (by simp)).trans hβ) (by omega) ⟨by omega, hc.2⟩ ih
      | rowF _ _ ys' hle => exact .osl id lo len b c cap T _ (.inr he') ((h2 (by simp)).trans hβ) (by omega) ⟨by omega, hc.2⟩ ih
    · rw [hv] at h1
      cases h1 with
      | dead => exact .oslD _ _ _ _ he' rfl ih
      | fro => exact .osl id lo len b c cap T _ (.inr he') ((h2 (by simp)).trans hβ) hi hc ih
  | esl id idx off S lo len b c cap T ys hv hβ hi hc hp _ ih =>
    obtain ⟨h1, h2⟩ := h.own id (by rcases hv with hv | hv <;> rw [hv] <;> simp)
    generalize he' : e'.own id = o' at *
    rcases hv with hv | hv
    · rw [hv] at h1
      cases h1 with
      | dead => exact .eslD _ _ _ _ _ _ _ he' rfl ih
      | row _ _ ys' hle => exact .esl id idx off S lo len b c cap T _ (.inl he') ((h2 (by simp)).trans hβ) (by omega) hc hp ih
      | rowF _ _ ys' hle => exact .esl id idx off S lo len b c cap T _ (.inr he') ((h2 (by simp)).trans hβ) (by omega) hc hp ih
    · rw [hv] at h1
      cases h1 with
      | dead => exact .eslD _ _ _ _ _ _ _ he' rfl ih
      | fro => exact .esl id idx off S lo len b c cap T _ (.inr he') ((h2 (by simp)).trans hβ) hi hc hp ih
  | eslD id idx off S lo len v hv hv1 _ ih =>
    obtain ⟨h1, _⟩ := h.own id (by rw [hv]; simp)
    rw [hv] at h1
    generalize he' : e'.own id = o' at *
    cases h1
    exact .eslD _ _ _ _ _ _ _ he' hv1 ih
  | oslD id lo len v hv hv1 _ ih =>
    obtain ⟨h1, _⟩ := h.own id (by rw [hv]; simp)
    rw [hv] at h1
    generalize he' : e'.own id = o' at *
    cases h1
    exact .oslD _ _ _ _ he' hv1 ih
  | oslZ id lo T ys a hv hlo _ ih =>
    obtain ⟨h1, _⟩ := h.own id (by rcases hv with hv | hv <;> rw [hv] <;> simp)
    generalize he' : e'.own id = o' at *
    rcases hv with hv | hv
    · rw [hv] at h1
      cases h1 with
      | dead => exact .oslD _ _ _ _ he' rfl ih
      | row _ _ ys' hle => exact .oslZ id lo T ys' a (.inl he') (by omega) ih
      | rowF _ _ ys' hle => exact .oslZ id lo T ys' a (.inr he') (by omega) ih
    · rw [hv] at h1
      cases h1 with
      | dead => exact .oslD _ _ _ _ he' rfl ih
      | fro => exact .oslZ id lo T ys a (.inr he') hlo ih
  | orow id b c cap T ys hv hβ hc _ ih =>
    obtain ⟨h1, h2⟩ := h.own id (by rcases hv with hv | hv <;> rw [hv] <;> simp)
    generalize he' : e'.own id = o' at *
    rcases hv with hv | hv
    · rw [hv] at h1
      cases h1 with
      | dead => exact .orowD _ _ he' rfl ih
      | row _ _ ys' hle => rw [hle]; exact .orow id b c cap T _ (.inl he') ((h2 (by simp)).trans hβ) (by omega) ih
      | rowF _ _ ys' hle => rw [hle]; exact .orow id b c cap T _ (.inr he') ((h2 (by simp)).trans hβ) (by omega) ih
    · rw [hv] at h1
      cases h1 with
      | dead => exact .orowD _ _ he' rfl ih
      | fro => exact .orow id b c cap T _ (.inr he') ((h2 (by simp)).trans hβ) hc ih
  | orowN id T a hv _ ih =>
    obtain ⟨h1, _⟩ := h.own id (by rcases hv with hv | hv <;> rw [hv] <;> simp)
    generalize he' : e'.own id = o' at *
    rcases hv with hv | hv
    · rw [hv] at h1
      cases h1 with
      | dead => exact .orowD _ _ he' rfl ih
      | row _ _ ys' hle => obtain rfl := List.eq_nil_of_length_eq_zero hle.symm; exact .orowN id T a (.inl he') ih
      | rowF _ _ ys' hle => obtain rfl := List.eq_nil_of_length_eq_zero hle.symm; exact .orowN id T a (.inr he') ih
    · rw [hv] at h1
      cases h1 with
      | dead => exact .orowD _ _ he' rfl ih
      | fro => exact .orowN id T a (.inr he') ih
  | orowD id v hv hv1 _ ih =>
    obtain ⟨h1, _⟩ := h.own id (by rw [hv]; simp)
    rw [hv] at h1
    generalize he' : e'.own id = o' at *
    cases h1
    exact .orowD _ _ he' hv1 ih
  | bptr id idx off S i b c T ys hv hβ hi hp _ ih =>
    obtain ⟨h1, h2⟩ := h.own id (by rcases hv with hv | hv <;> rw [hv] <;> simp)
    generalize he' : e'.own id = o' at *
    rcases hv with hv | hv
    · rw [hv] at h1
      cases h1 with
      | dead => exact .bptrD _ _ _ _ _ _ he' rfl ih
      | row _ _ ys' hle => exact .bptr id idx off S i b c T _ (.inl he') ((h2 (by simp)).trans hβ) (by omega) hp ih
      | rowF _ _ ys' hle => exact .bptr id idx off S i b c T _ (.inr he') ((h2 (by simp)).trans hβ) (by omega) hp ih
    · rw [hv] at h1
      cases h1 with
      | dead => exact .bptrD _ _ _ _ _ _ he' rfl ih
      | fro => exact .bptr id idx off S i b c T _ (.inr he') ((h2 (by simp)).trans hβ) hi hp ih
  | bptrD id idx off S i v hv hv1 _ ih =>
    obtain ⟨h1, _⟩ := h.own id (by rw [hv]; simp)
    rw [hv] at h1
    generalize he' : e'.own id = o' at *
    cases h1
    exact .bptrD _ _ _ _ _ _ he' hv1 ih
  | omap id b c K V kvs hv hβ _ ih =>
    obtain ⟨h1, h2⟩ := h.own id (by rw [hv]; simp)
    rw [hv] at h1
    generalize he' : e'.own id = o' at *
    cases h1 with
    | dead => exact .omapD _ _ he' rfl ih
    | mp _ _ _ ys => exact .omap id b c K V ys he' ((h2 (by simp)).trans hβ) ih
  | omapD id v hv hv1 _ ih =>
    obtain ⟨h1, _⟩ := h.own id (by rw [hv]; simp)
    rw [hv] at h1
    generalize he' : e'.own id = o' at *
    cases h1
    exact .omapD _ _ he' hv1 ih
  | cx id p off b c cap k T ys cs v hv hβ hc hq _ ih =>
    obtain ⟨h1, h2⟩ := h.own id (by rw [hv]; simp)
    rw [hv] at h1
    generalize he' : e'.own id = o' at *
    cases h1 with
    | dead => exact .cxD _ _ _ _ he' (by rw [hq]; cases p <;> rfl) ih
    | rowC _ _ _ _ cs' => exact .cx id p off b c cap k T ys cs' v he' ((h2 (by simp)).trans hβ) hc hq ih
  | cxD id p off v hv hv1 _ ih =>
    obtain ⟨h1, _⟩ := h.own id (by rw [hv]; simp)
    rw [hv] at h1
    generalize he' : e'.own id = o' at *
    cases h1
    exact .cxD _ _ _ _ he' hv1 ih
  | np id x off v hv _ ih => exact (hv.ext h).elim (fun k => .np id x off v k ih) (fun k => .npD id x off v k ih)
  | npD id x off v hv _ ih => exact .npD id x off v (hv.ext h) ih
  | zsl a _ ih => exact .zsl a ih
  | vsl id off len b c cap hv hβ hc _ ih =>
    obtain ⟨h1, h2⟩ := h.own id (by intro hf; rw [hf] at hv; cases hv)
    generalize he : e.own id = o at *
    generalize he' : e'.own id = o' at *
    cases h1 with
    | dead => exact .vslD _ _ _ _ he' rfl ih
    | var c c' => exact .vsl _ _ _ b _ cap (by rw [he']; rfl) ((h2 (by simp)).trans hβ) hc ih
    | row => cases hv
    | rowF => cases hv
    | fro => cases hv
    | mp => cases hv
    | rowC => cases hv
    | ar => cases hv
    | nod => cases hv
    | prow => cases hv
  | vslD id off len v hv hv1 _ ih =>
    obtain ⟨h1, _⟩ := h.own id (by rw [hv]; simp)
    rw [hv] at h1
    generalize he' : e'.own id = o' at *
    cases h1
    exact .vslD _ _ _ _ he' hv1 ih
  | el T x cs _ _ ih1 ih2 => exact .el T x cs ih1 ih2

theorem RepL.length {e : E A} {xs : List (SV A)} {vs : List Value} (h : RepL P u e xs vs) : xs.length = vs.length := by
  induction h <;> simp_all
end
end Go.Proofs.Ytndacggailoogaa.Sx
