/- An abstract machine over values by content, tenth part: the state of a function's body, one operation of a region under its guard, a region in the order of its text. -/
import Derived.Test.YtndacggailoogaaSxAs
import Derived.Tactics
namespace Go.Proofs.Ytndacggailoogaa.Sx
open Go Go.RowKit

section
variable {A : Nat → Type} (P : Program) (u : U A) (tab : List (Nat × Con A))

/-- The temporaries, the call's own blocks, the number from which new blocks are counted, and the temporaries that guard others. -/
structure St (A : Nat → Type) where
  tmps : List (SV A)
  own : Nat → Own A
  nx : Nat
  gu : List Nat

def slotOk (e : E A) (a : Act) (x : SV A) (v : Value) : Prop := match x with
  | .wh d p y => (a.tmps.getD d Go.undef = .bool p → RepL P u e [y] [v]) ∧ (a.tmps.getD d Go.undef ≠ .bool p → v = Go.undef)
  | x => RepL P u e [x] [v]
structure RepS (w0 : W0) (O0 : Nat → Prop) (s : St A) (e : E A) (a : Act) : Prop where
  defers : a.defers = []
  size : a.tmps.size = s.tmps.length
  own : e.own = s.own
  hr : HR P u w0 O0 e
  slot : ∀ i x, s.tmps[i]? = some x → slotOk P u e a x (a.tmps.getD i Go.undef)
  wh : ∀ (i d : Nat) (p : Bool) (y : SV A), s.tmps[i]? = some (SV.wh d p y) → d ∈ s.gu ∧ s.tmps[d]? ≠ some SV.top

def St.get (s : St A) (t : Nat) : SV A := match s.tmps[t]? with
  | some x => x
  | none => .undef
def St.ev (s : St A) : Operand → SV A
  | .tmp t => s.get t
  | .const v => constS v
  | .func f => .fn f []
  | .global _ => .top
def plainV (x : SV A) : SV A := match x with
  | .wh _ _ _ => .top
  | y => y
/-- Does what guard (d, p) lets in lie under guard (e, q)? -/
def implies (s : St A) : Nat → Nat → Bool → Nat → Bool → Bool
  | 0, _, _, _, _ => false
  | n + 1, d, p, e, q => if Nat.beq d e && (p == q) then true else match s.get d with
    | .wh d' p' _ => implies s n d' p' e q
    | _ => false
def whV (s : St A) (d : Nat) (p : Bool) (x : SV A) : SV A := match x with
  | .wh e q y => if implies s 16 d p e q then y else .top
  | y => y

theorem getD_lt {a : Act} {s : St A} (h : a.tmps.size = s.tmps.length) {i : Nat} (hi : s.tmps[i]? = none) : a.tmps.getD i Go.undef = Go.undef := by
  have : s.tmps.length ≤ i := List.getElem?_eq_none_iff.1 hi
  simp [Array.getD, show ¬ i < a.tmps.size by omega]
theorem RepS.get {w0 : W0} {O0 : Nat → Prop} {s : St A} {e : E A} {a : Act} (h : RepS P u w0 O0 s e a) (t : Nat) : slotOk P u e a (s.get t) (a.tmps.getD t Go.undef) := by
  unfold St.get
  split
  · rename_i x hx; exact h.slot t x hx
  · rename_i hx; rw [getD_lt h.size hx]; exact RepL.undef .nil
theorem RepS.plain {w0 : W0} {O0 : Nat → Prop} {s : St A} {e : E A} {a : Act} (h : RepS P u w0 O0 s e a) (x : Operand) : RepL P u e [plainV (s.ev x)] [a.eval x] := by
  cases x with
  | tmp t =>
    have := h.get P u t
    show RepL P u e [plainV (s.get t)] [a.tmps.getD t Go.undef]
    unfold plainV
    split
    · exact .top _ .nil
    · rename_i hno
      unfold slotOk at this
      split at this
      · rename_i d p y hy; exact absurd hy (hno d p y)
      · exact this
  | const v =>
    have hc := constS_rep P u (e := e) v
    show RepL P u e [plainV (constS v)] [v]
    generalize constS v = z at *
    cases z <;> first | exact hc | exact .top _ .nil
  | func f => exact .fn f [] [] .nil .nil
  | global g => exact .top _ .nil
theorem implies_sound {w0 : W0} {O0 : Nat → Prop} {s : St A} {e : E A} {a : Act} (h : RepS P u w0 O0 s e a) : ∀ (n d : Nat) (p : Bool) (d' : Nat) (q : Bool), implies s n d p d' q = true → a.tmps.getD d Go.undef = .bool p → a.tmps.getD d' Go.undef = .bool q := by
  intro n
  induction n with
  | zero => intro d p d' q hi; cases hi
  | succ n ih =>
    intro d p d' q hi hd
    unfold implies at hi
    split at hi
    · rename_i he
      simp only [Bool.and_eq_true, beq_iff_eq] at he
      have : d = d' := Nat.eq_of_beq_eq_true he.1
      subst this
      rw [hd, he.2]
    · have hs := h.get P u d
      split at hi
      · rename_i d2 p2 y hy
        rw [hy] at hs
        by_cases hg : a.tmps.getD d2 Go.undef = .bool p2
        · exact ih d2 p2 d' q hi hg
        · have := hs.2 hg
          rw [this] at hd
          cases hd
      · cases hi
theorem RepS.under {w0 : W0} {O0 : Nat → Prop} {s : St A} {e : E A} {a : Act} (h : RepS P u w0 O0 s e a) {d : Nat} {p : Bool} (hg : a.tmps.getD d Go.undef = .bool p) (x : Operand) : RepL P u e [whV s d p (s.ev x)] [a.eval x] := by
  cases x with
  | tmp t =>
    have := h.get P u t
    show RepL P u e [whV s d p (s.get t)] [a.tmps.getD t Go.undef]
    unfold whV
    split
    · rename_i e' q y hy
      rw [hy] at this
      split
      · rename_i hi; exact this.1 (implies_sound P u h _ _ _ _ _ hi hg)
      · exact .top _ .nil
    · rename_i hno
      unfold slotOk at this
      split at this
      · rename_i d p y hy; exact absurd hy (hno d p y)
      · exact this
  | const v =>
    have hc := constS_rep P u (e := e) v
    show RepL P u e [whV s d p (constS v)] [v]
    generalize constS v = z at *
    cases z <;> first | exact hc | (unfold whV; cases hc)
  | func f => exact .fn f [] [] .nil .nil
  | global g => exact .top _ .nil

/-- A value comes into a temporary. -/
def putS (s : St A) (dst : Option Nat) (x : SV A) : Option (St A) := match dst with
  | none => some s
  | some d => if s.gu.contains d then (match s.get d with
    | .top => some { s with tmps := s.tmps.set d x }
    | _ => none) else some { s with tmps := s.tmps.set d x }

theorem getD_put {a : Act} {d i : Nat} {v : Value} : (a.put (some d) v).tmps.getD i Go.undef = if i = d ∧ d < a.tmps.size then v else a.tmps.getD i Go.undef := by
  simp only [Act.put, Array.getD_eq_getD_getElem?, Array.getElem?_setIfInBounds]
  by_cases h : i = d
  · subst h
    by_cases h2 : i < a.tmps.size
    · simp [h2]
    · simp [h2, Array.getElem?_eq_none (Nat.le_of_not_lt h2)]
  · simp [h, Ne.symm h]
theorem RepS.put {w0 : W0} {O0 : Nat → Prop} {s s' : St A} {e : E A} {a : Act} {dst : Option Nat} {x : SV A} {v : Value} (h : RepS P u w0 O0 s e a)
    (hx : slotOk P u e a x v) (hw : ∀ d p y, x = .wh d p y → d ∈ s.gu ∧ s.get d ≠ .top ∧ d < s.tmps.length) (hp : putS s dst x = some s') : RepS P u w0 O0 s' e (a.put dst v) := by
  cases dst with
  | none => cases hp; exact h
  | some d =>
    have hs' : s' = { s with tmps := s.tmps.set d x } ∧ (d ∈ s.gu → s.get d = .top) := by
      simp only [putS] at hp
      split at hp
      · split at hp
        · rename_i ht; cases hp; exact ⟨rfl, fun _ => ht⟩
        · cases hp
      · rename_i hc
        cases hp
        exact ⟨rfl, fun hm => absurd (by simpa using hm) hc⟩
    obtain ⟨rfl, hgu⟩ := hs'
    have hget : ∀ t y, s.tmps[t]? = some y → s.get t = y := by intro t y hy; simp [St.get, hy]
    -- a temporary that guards is not the one that is written
    have keep : ∀ d0, (d0 ∈ s.gu ∧ s.get d0 ≠ .top) → (a.put (some d) v).tmps.getD d0 Go.undef = a.tmps.getD d0 Go.undef := by
      intro d0 ⟨h1, h2⟩
      rw [getD_put, if_neg]
      rintro ⟨rfl, _⟩
      exact h2 (hgu h1)
    have keepSlot : ∀ y z, (∀ d0 p0 y0, y = .wh d0 p0 y0 → d0 ∈ s.gu ∧ s.get d0 ≠ .top) → slotOk P u e a y z → slotOk P u e (a.put (some d) v) y z := by
      intro y z hy hk
      unfold slotOk at hk ⊢
      split at hk
      · rename_i d0 p0 y0
        have := keep d0 (hy d0 p0 y0 rfl)
        simp only [this]
        exact hk
      · exact hk
    have whGet : ∀ (i d0 : Nat) (p : Bool) (y : SV A), s.tmps[i]? = some (SV.wh d0 p y) → d0 ∈ s.gu ∧ s.get d0 ≠ .top := by
      intro i d0 p y hi
      obtain ⟨h1, h2⟩ := h.wh i d0 p y hi
      refine ⟨h1, fun ht => h2 ?_⟩
      unfold St.get at ht
      split at ht
      · rename_i z hz; rw [hz, ht]
      · cases ht
    refine ⟨by simpa [Act.put] using h.defers, by simpa [Act.put] using h.size, h.own, h.hr, ?_, ?_⟩
    · intro i y hi
      rw [getD_put]
      by_cases hid : i = d
      · subst hid
        simp only at hi
        rw [List.getElem?_set] at hi
        simp only [if_true] at hi
        split at hi
        · rename_i hlt
          cases hi
          rw [if_pos ⟨rfl, by rw [h.size]; exact hlt⟩]
          exact keepSlot x v (fun d0 p0 y0 hy => ⟨(hw d0 p0 y0 hy).1, (hw d0 p0 y0 hy).2.1⟩) hx
        · cases hi
      · rw [if_neg (by omega)]
        simp only at hi
        rw [List.getElem?_set_ne (Ne.symm hid)] at hi
        exact keepSlot y _ (fun d0 p0 y0 hy => whGet i d0 p0 y0 (by rw [hi, hy])) (h.slot i y hi)
    · intro i d0 p y hi
      have htop : ∀ d0, (d0 ∈ s.gu ∧ s.get d0 ≠ .top) → (s.tmps.set d x)[d0]? ≠ some .top := by
        intro d0 ⟨h1, h2⟩
        have hne : d0 ≠ d := by rintro rfl; exact h2 (hgu h1)
        rw [List.getElem?_set_ne (Ne.symm hne)]
        intro ht
        exact h2 (hget _ _ ht)
      simp only at hi ⊢
      by_cases hid : i = d
      · subst hid
        rw [List.getElem?_set] at hi
        simp only [if_true] at hi
        split at hi
        · cases hi
          obtain ⟨h1, h2, _⟩ := hw d0 p y rfl
          exact ⟨h1, htop d0 ⟨h1, h2⟩⟩
        · cases hi
      · rw [List.getElem?_set_ne (Ne.symm hid)] at hi
        have := whGet i d0 p y hi
        exact ⟨this.1, htop d0 this⟩
end
end Go.Proofs.Ytndacggailoogaa.Sx
