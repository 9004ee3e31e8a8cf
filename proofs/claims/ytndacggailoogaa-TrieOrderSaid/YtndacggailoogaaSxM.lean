/- An abstract machine over values by content, thirteenth part: when one state of memory may stand for another; blocks get new numbers. -/
import Derived.Test.YtndacggailoogaaSxL
namespace Go.Proofs.Ytndacggailoogaa.Sx
open Go Go.RowKit

section
variable {A : Nat → Type} (P : Program) (u : U A)

/-- What a block that is told stands for. -/
inductive Src
  | nil
  | var (id : Nat)
  | row (id : Nat)
  | part (id len : Nat)
  | mp (id : Nat)
  | ar (id : Nat)
  | prow (id : Nat)
abbrev Phi := List (Nat × Src)
def Src.id? : Src → Option Nat
  | .nil => none
  | .var id => some id
  | .row id => some id
  | .part id _ => some id
  | .mp id => some id
  | .ar id => some id
  | .prow id => some id
def lookP (φ : Phi) (h : Nat) : Option Src := match φ with
  | [] => none
  | (k, s) :: r => if Nat.beq k h then some s else lookP r h
def bindF (φ : Phi) : List (SV A) → List (SV A) → Phi
  | .optr h _ :: ys, .optr id _ :: xs => bindF (match lookP φ h with
    | some _ => φ
    | none => (h, .var id) :: φ) ys xs
  | _, _ => φ
def bind1 (φ : Phi) (y x : SV A) : Phi := match y with
  | .fn _ l => (match x with
    | .fn _ k => bindF φ l k
    | _ => φ)
  | .orow h => (match lookP φ h with
    | some _ => φ
    | none => (match x with
      | .orow id => (h, .row id) :: φ
      | .osl id _ len => (h, .part id len) :: φ
      | .nils => (h, .nil) :: φ
      | .zsl => (h, .nil) :: φ
      | _ => φ))
  | .optr h _ => (match lookP φ h with
    | some _ => φ
    | none => (match x with
      | .optr id _ => (h, .var id) :: φ
      | _ => φ))
  | .omap h => (match lookP φ h with
    | some _ => φ
    | none => (match x with
      | .omap id => (h, .mp id) :: φ
      | _ => φ))
  | .vsl h _ _ => (match lookP φ h with
    | some _ => φ
    | none => (match x with
      | .vsl id _ _ => (h, .var id) :: φ
      | _ => φ))
  | .rptr h _ _ => (match lookP φ h with
    | some _ => φ
    | none => (match x with
      | .rptr id _ _ => (h, .row id) :: φ
      | _ => φ))
  | .osl h _ _ => (match lookP φ h with
    | some _ => φ
    | none => (match x with
      | .osl id _ _ => (h, .row id) :: φ
      | _ => φ))
  | .np h _ _ => (match lookP φ h with
    | some _ => φ
    | none => (match x with
      | .np id (.nd _) _ => (h, .ar id) :: φ
      | .np id _ _ => (h, .prow id) :: φ
      | _ => φ))
  | _ => φ
def bindA (φ : Phi) (h id : Nat) : Phi := match lookP φ h with
  | some _ => φ
  | none => (h, .ar id) :: φ
def bindL (φ : Phi) : List (SV A) → List (SV A) → Phi
  | y :: ys, x :: xs => bindL (bind1 φ y x) ys xs
  | _, _ => φ
def bind2 (φ : Phi) (y x : SV A) : Phi := match y with
  | .agg l => (match x with
    | .agg k => bindL φ l k
    | _ => φ)
  | .fn _ l => (match x with
    | .fn _ k => bindL φ l k
    | _ => φ)
  | y => bind1 φ y x
def bindLL (φ : Phi) : List (SV A) → List (SV A) → Phi
  | y :: ys, x :: xs => bindLL (bind2 φ y x) ys xs
  | _, _ => φ
def bindV (φ : Phi) (y x : SV A) : Phi := match y with
  | .tup l => (match x with
    | .tup k => bindLL φ l k
    | _ => φ)
  | y => bind2 φ y x
def bindO (own : Nat → Own A) (φ : Phi) : List (Nat × Own A) → Phi
  | [] => φ
  | (h, .var c2) :: r => (match lookP φ h with
    | some (.var id) => (match own id with
      | .var c => bindO own (bindL φ c2 c) r
      | _ => bindO own φ r)
    | _ => bindO own φ r)
  | (h, .prow a2 _) :: r => (match lookP φ h with
    | some (.prow id) => (match own id with
      | .prow a _ => bindO own (bindA φ a2 a) r
      | _ => bindO own φ r)
    | _ => bindO own φ r)
  | _ :: r => bindO own φ r
def look (L : List (Nat × Own A)) (id : Nat) : Option (Own A) := match L with
  | [] => none
  | (k, o) :: r => if Nat.beq k id then some o else look r id
/-- A block that is told, and is there. -/
def keepsB (L : List (Nat × Own A)) (h : Nat) : Bool := match look L h with
  | some .free => false
  | some .dead => false
  | some _ => true
  | none => false
def only (L : List (Nat × Own A)) : Phi → Phi
  | [] => []
  | (h, s) :: r => if keepsB L h then (h, s) :: only L r else only L r
def inP (φ : Phi) (id : Nat) : Bool := match φ with
  | [] => false
  | (_, s) :: r => (match s.id? with
    | some k => Nat.beq k id
    | none => false) || inP r id
def distP0 : Phi → Bool
  | [] => true
  | (_, s) :: r => (match s.id? with
    | some k => !(inP r k)
    | none => true) && distP0 r
/-- Low numbers only. -/
def lowP : Phi → Bool
  | [] => true
  | (h, s) :: r => (Nat.blt h 1073741824 && (match s.id? with
    | some k => Nat.blt k 1073741824
    | none => true)) && lowP r
def distP (φ : Phi) : Bool := distP0 φ && lowP φ
theorem lowP_mem : ∀ {φ : Phi} {h : Nat} {s : Src}, lowP φ = true → lookP φ h = some s → h < 1073741824 ∧ ∀ id, s.id? = some id → id < 1073741824
  | [], h, s, _, hs => by cases hs
  | (k, t) :: r, h, s, hl, hs => by
    simp only [lowP, Bool.and_eq_true] at hl
    unfold lookP at hs
    split at hs
    · rename_i hk
      cases hs
      rw [← Nat.eq_of_beq_eq_true hk]
      refine ⟨blt_iff.1 hl.1.1, fun id hid => ?_⟩
      have := hl.1.2
      rw [hid] at this
      exact blt_iff.1 this
    · exact lowP_mem hl.2 hs
def srcAr (φ : Phi) (h id : Nat) : Bool := match lookP φ h with
  | some (.ar k) => Nat.beq k id
  | _ => false
theorem srcAr_eq {φ : Phi} {h id : Nat} (hs : srcAr φ h id = true) : lookP φ h = some (.ar id) := by
  unfold srcAr at hs
  split at hs
  · rename_i k hk; rw [Nat.eq_of_beq_eq_true hs] at hk; exact hk
  · cases hs
def srcPr (φ : Phi) (h id : Nat) : Bool := match lookP φ h with
  | some (.prow k) => Nat.beq k id
  | _ => false
theorem srcPr_eq {φ : Phi} {h id : Nat} (hs : srcPr φ h id = true) : lookP φ h = some (.prow id) := by
  unfold srcPr at hs
  split at hs
  · rename_i k hk; rw [Nat.eq_of_beq_eq_true hs] at hk; exact hk
  · cases hs
def srcMp (φ : Phi) (h id : Nat) : Bool := match lookP φ h with
  | some (.mp k) => Nat.beq k id
  | _ => false
theorem srcMp_eq {φ : Phi} {h id : Nat} (hs : srcMp φ h id = true) : lookP φ h = some (.mp id) := by
  unfold srcMp at hs
  split at hs
  · rename_i k hk; rw [Nat.eq_of_beq_eq_true hs] at hk; exact hk
  · cases hs
def castM? {V V' : Nat} (xs : List (Int × A V)) (ys : List (Int × A V')) : Prop := if h : V = V' then h ▸ xs = ys else False
theorem castM_eq {V V' : Nat} {xs : List (Int × A V)} {ys : List (Int × A V')} (h : castM? xs ys) : ∃ h : V = V', h ▸ xs = ys := by
  unfold castM? at h
  split at h
  · rename_i hh; exact ⟨hh, h⟩
  · exact h.elim
def srcVar (φ : Phi) (h id : Nat) : Bool := match lookP φ h with
  | some (.var k) => Nat.beq k id
  | _ => false
def srcRow (φ : Phi) (h id : Nat) : Bool := match lookP φ h with
  | some (.row k) => Nat.beq k id
  | _ => false
def srcNil (φ : Phi) (h : Nat) : Bool := match lookP φ h with
  | some .nil => true
  | _ => false

/-- When x may stand for y. -/
def cast? {T S : Nat} (xs : List (A T)) (ys : List (A S)) : Prop := if h : T = S then h ▸ xs = ys else False
def matchN (φ : Phi) (h id : Nat) (z' z : NP) (off' off : Nat) : Prop := match z with
  | .nd b => (match z' with
    | .nd a => if srcAr φ h id && Nat.beq off off' then a = b else False
    | _ => False)
  | .row => (match z' with
    | .row => if srcPr φ h id then True else False
    | _ => False)
  | .rp i => (match z' with
    | .rp i' => if srcPr φ h id && Nat.beq off off' then i' = i else False
    | _ => False)
/-- Pointers to variables that a function value holds. -/
def matchP (φ : Phi) : List (SV A) → List (SV A) → Bool
  | [], [] => true
  | .optr id off' :: xs, .optr h off :: ys => srcVar φ h id && Nat.beq off off' && matchP φ xs ys
  | _, _ => false
def match1 (own : Nat → Own A) (φ : Phi) (x y : SV A) : Prop := match y with
  | .top => True
  | .undef => match x with | .undef => True | _ => False
  | .int l b => match x with | .int k a => if kindEq k l then a = b else False | _ => False
  | .bool b => match x with | .bool a => a = b | .lit a => a = b | _ => False
  | .lit b => match x with | .bool a => a = b | .lit a => a = b | _ => False
  | .str t => match x with | .str s => s = t | _ => False
  | .nilp => match x with | .nilp => True | _ => False
  | .nils => match x with | .nils => True | _ => False
  | .zsl => match x with | .nils => True | .zsl => True | _ => False
  | .csl S ys => match x with
    | .csl _ xs => cast? xs ys
    | .nils => ys = []
    | .zsl => ys = []
    | .osl id lo len => if inP φ id then False else match own id with
      | .row _ xs => cast? ((xs.drop lo).take len) ys
      | .fro _ xs => cast? ((xs.drop lo).take len) ys
      | _ => False
    | .orow id => if inP φ id then False else match own id with
      | .row _ xs => cast? xs ys
      | .fro _ xs => cast? xs ys
      | _ => False
    | _ => False
  | .optr h off => match x with | .optr id off' => if srcVar φ h id && Nat.beq off off' then True else False | _ => False
  | .omap h => match x with | .omap id => if srcMp φ h id then True else False | _ => False
  | .vsl h off len => match x with | .vsl id off' len' => if srcVar φ h id && Nat.beq off off' && Nat.beq len len' then True else False | _ => False
  | .rptr h idx off => match x with | .rptr id idx' off' => if srcRow φ h id && Nat.beq off off' then idx' = idx else False | _ => False
  | .osl h lo len => match x with | .osl id lo' len' => if srcRow φ h id then lo' = lo ∧ len' = len else False | _ => False
  | .orow h => match x with
    | .orow id => if srcRow φ h id then True else False
    | .osl id lo len => (match lookP φ h with
      | some (.part k len') => if Nat.beq k id then lo = 0 ∧ len = len' else False
      | _ => False)
    | .nils => if srcNil φ h then True else False
    | .zsl => if srcNil φ h then True else False
    | _ => False
  | .el T y' => match x with
    | .el S x' => if h : S = T then (h ▸ x' : A T) = y' else False
    | .agg l => match u.dec T l with | some x' => x' = y' | none => False
    | _ => False
  | .fn g l => match x with
    | .fn f k => if Nat.beq f g && matchP φ k l then True else False
    | _ => False
  | .np h z off => match x with
    | .np id z' off' => matchN φ h id z' z off' off
    | .nilp => (match z with
      | .nd b => b = none
      | _ => False)
    | _ => False
  | _ => False
def matchL (own : Nat → Own A) (φ : Phi) : List (SV A) → List (SV A) → Prop
  | [], [] => True
  | [x], [y] => match1 u own φ x y
  | x :: xs, y :: ys => match1 u own φ x y ∧ matchL own φ xs ys
  | _, _ => False
def matchC (own : Nat → Own A) (φ : Phi) (x y : SV A) : Prop := match y with
  | .cptr l off => match x with | .cptr k off' => off = off' ∧ matchL u own φ k l | _ => False
  | y => match1 u own φ x y
def matchCL (own : Nat → Own A) (φ : Phi) : List (SV A) → List (SV A) → Prop
  | [], [] => True
  | [x], [y] => matchC u own φ x y
  | x :: xs, y :: ys => matchC u own φ x y ∧ matchCL own φ xs ys
  | _, _ => False
def match2 (own : Nat → Own A) (φ : Phi) (x y : SV A) : Prop := match y with
  | .agg l => match aggC u x with | some k => matchL u own φ k l | none => False
  | .cptr l off => match x with | .cptr k off' => off = off' ∧ matchL u own φ k l | _ => False
  | .fn g l => match x with | .fn f k => f = g ∧ matchCL u own φ k l | _ => False
  | y => match1 u own φ x y
def matchLL (own : Nat → Own A) (φ : Phi) : List (SV A) → List (SV A) → Prop
  | [], [] => True
  | [x], [y] => match2 u own φ x y
  | x :: xs, y :: ys => match2 u own φ x y ∧ matchLL own φ xs ys
  | _, _ => False
def matchV (own : Nat → Own A) (φ : Phi) (x y : SV A) : Prop := match y with
  | .tup l => match x with | .tup k => matchLL u own φ k l | _ => False
  | y => match2 u own φ x y
def matchO (own : Nat → Own A) (φ : Phi) (h : Nat) (o : Own A) : Prop := match o with
  | .var c2 => (match lookP φ h with
    | some (.var id) => (match own id with
      | .var c => matchL u own φ c c2
      | _ => False)
    | _ => False)
  | .row _ ys => (match lookP φ h with
    | some (.row id) => (match own id with
      | .row _ xs => cast? xs ys
      | _ => False)
    | some (.part id len) => (match own id with
      | .row _ xs => cast? (xs.take len) ys
      | _ => False)
    | some .nil => ys = []
    | _ => False)
  | .fro _ ys => (match lookP φ h with
    | some (.row id) => (match own id with
      | .row _ xs => cast? xs ys
      | .fro _ xs => cast? xs ys
      | _ => False)
    | _ => False)
  | .mp K V ys => (match lookP φ h with
    | some (.mp id) => (match own id with
      | .mp K' V' xs => if kindEq K' K then castM? xs ys else False
      | _ => False)
    | _ => False)
  | .rowC _ _ _ _ => False
  | .nod _ => False
  | .ar n2 ns2 => (match lookP φ h with
    | some (.ar id) => (match own id with
      | .ar n ns => n = n2 ∧ ns = ns2
      | _ => False)
    | _ => False)
  | .prow a2 js2 => (match lookP φ h with
    | some (.prow id) => (match own id with
      | .prow a js => (match srcAr φ a2 a with
        | true => js = js2
        | false => False)
      | _ => False)
    | _ => False)
  | .dead => True
  | .free => False

theorem cast_eq {T S : Nat} {xs : List (A T)} {ys : List (A S)} (h : cast? xs ys) : ∃ h : T = S, h ▸ xs = ys := by
  unfold cast? at h
  split at h
  · rename_i hh; exact ⟨hh, h⟩
  · exact h.elim
/-- The same world, other blocks: those that are told stand for some that were. -/
structure View (φ : Phi) (e e' : E A) : Prop where
  w : e'.w = e.w
  O : ∀ b, ¬ e.O b → ¬ e'.O b
  gone : ∀ id b c, id < 1152921504606846976 → inP φ id = false → e.own id ≠ .free → e.own id ≠ .dead → e.β id = some (b, c) → ¬ e'.O b
  var : ∀ h id, lookP φ h = some (.var id) → (e'.own h).isVar = true ∧ (e.own id).isVar = true ∧ e'.β h = e.β id
  row : ∀ h id, lookP φ h = some (.row id) → ∃ (T : Nat) (ys : List (A T)), (e.own id = .row T ys ∨ e.own id = .fro T ys) ∧ (e'.own h = .row T ys ∨ e'.own h = .fro T ys) ∧ e'.β h = e.β id
  part : ∀ h id len, lookP φ h = some (.part id len) → ∃ (T : Nat) (ys : List (A T)), e.own id = .row T ys ∧ e'.own h = .row T (ys.take len) ∧ e'.β h = e.β id
  nil : ∀ h, lookP φ h = some .nil → ∃ T, e'.own h = .row T []
  mp : ∀ h id, lookP φ h = some (.mp id) → ∃ (K : IntKind) (V : Nat) (kvs : List (Int × A V)), e.own id = .mp K V kvs ∧ e'.own h = .mp K V kvs ∧ e'.β h = e.β id
  ar : ∀ h id, lookP φ h = some (.ar id) → ∀ j, (e.own (nodeNo id j)).isNod = true → (e'.own (nodeNo h j)).isNod = true ∧ e'.β (nodeNo h j) = e.β (nodeNo id j)
  prow : ∀ h id, lookP φ h = some (.prow id) → ∃ (a a' : Nat) (js : List Nat), e.own id = .prow a js ∧ e'.own h = .prow a' js ∧ e'.β h = e.β id
theorem own_same {o : Own A} {T T2 : Nat} {ys : List (A T)} {zs : List (A T2)} (h : o = .row T ys ∨ o = .fro T ys) (hv : o = .row T2 zs ∨ o = .fro T2 zs) : T2 = T ∧ HEq zs ys := by
  rcases h with h | h <;> rw [h] at hv <;> rcases hv with hv | hv <;> cases hv <;> exact ⟨rfl, HEq.rfl⟩
theorem srcVar_eq {φ : Phi} {h id : Nat} (hs : srcVar φ h id = true) : lookP φ h = some (.var id) := by
  unfold srcVar at hs
  split at hs
  · rename_i k hk; rw [Nat.eq_of_beq_eq_true hs] at hk; exact hk
  · cases hs
theorem srcRow_eq {φ : Phi} {h id : Nat} (hs : srcRow φ h id = true) : lookP φ h = some (.row id) := by
  unfold srcRow at hs
  split at hs
  · rename_i k hk; rw [Nat.eq_of_beq_eq_true hs] at hk; exact hk
  · cases hs
theorem srcNil_eq {φ : Phi} {h : Nat} (hs : srcNil φ h = true) : lookP φ h = some .nil := by
  unfold srcNil at hs
  split at hs
  · assumption
  · cases hs
theorem row_gone {w0 : W0} {O0 : Nat → Prop} {e e' : E A} {φ : Phi} (hclean : ∀ T x, noOwn.go (u.enc T x) = true) (hr : HR P u w0 O0 e) (hf : View φ e e') {id lo len T : Nat} {xs : List (A T)} {v : Value}
    (ho : e.own id = .row T xs ∨ e.own id = .fro T xs) (hk : inP φ id = false) (hx : RepL P u e [.osl id lo len] [v]) : RepL P u e' [.csl T ((xs.drop lo).take len)] [v] := by
  refine (row_slice P u hr ho hx).csl P u hclean hf.w hf.O (fun b o len' cap hv hne => ?_)
  subst hv
  have hl : e.own id ≠ .free ∧ e.own id ≠ .dead := by rcases ho with ho | ho <;> rw [ho] <;> simp
  cases hx with
  | osl _ _ _ b c _ T ys hv hβ hi hc _ => exact hf.gone id _ _ (hr.lk.pl (by rcases ho with ho | ho <;> rw [ho] <;> rfl)) hk hl.1 hl.2 hβ
  | oslZ => exact absurd (by simp) hne
  | oslD _ _ _ _ hd _ _ => exact absurd hd hl.2
theorem part_rep {e' : E A} {h b c cap T len : Nat} {zs : List (A T)} (g2 : e'.own h = .row T (zs.take len)) (hβ : e'.β h = some (b, c)) (hle : len ≤ zs.length) (hc : zs.length ≤ 0 + cap ∧ 0 + cap ≤ c) : RepL P u e' [.orow h] [.slice (some ⟨b, 0 * P.cellsOf T, none⟩) len cap] := by
  have hlen : (zs.take len).length = len := List.length_take_of_le hle
  have := RepL.orow (P := P) (u := u) (e := e') (xs := []) (vs := []) h b c cap T _ (.inl g2) hβ (by rw [hlen]; omega) .nil
  rw [hlen] at this
  simpa using this
theorem matchN_sound {w0 : W0} {O0 : Nat → Prop} {e e' : E A} {φ : Phi} (hr : HR P u w0 O0 e) (hf : View φ e e') {h id off off' : Nat} {z z' : NP} {v : Value}
    (hx : RepL P u e [.np id z' off'] [v]) (hm : matchN φ h id z' z off' off) : RepL P u e' [.np h z off] [v] := by
  unfold matchN at hm
  cases hx with
  | np _ _ _ _ hv _ =>
    refine .np _ _ _ _ ?_ .nil
    split at hm
    · split at hm
      case h_2 => exact hm.elim
      split at hm
      case isFalse => exact hm.elim
      rename_i a hb
      simp only [Bool.and_eq_true] at hb
      have hoff := Nat.eq_of_beq_eq_true hb.2
      subst hm; subst hoff
      cases a with
      | none => exact hv
      | some j =>
        obtain ⟨h1, b, c, h2, rfl⟩ := hv
        obtain ⟨g1, g2⟩ := hf.ar _ _ (srcAr_eq hb.1) j h1
        exact ⟨g1, b, c, g2.trans h2, rfl⟩
    · split at hm
      case h_2 => exact hm.elim
      split at hm
      case isFalse => exact hm.elim
      rename_i hb
      obtain ⟨b, c, cap, a, js, h1, h2, h3, h4, rfl⟩ := hv
      obtain ⟨a1, a2, js', g1, g2, g3⟩ := hf.prow _ _ (srcPr_eq hb)
      rw [h1] at g1
      cases g1
      exact ⟨b, c, cap, a2, js, g2, g3.trans h2, h3, h4, rfl⟩
    · split at hm
      case h_2 => exact hm.elim
      split at hm
      case isFalse => exact hm.elim
      rename_i hb
      simp only [Bool.and_eq_true] at hb
      have hoff := Nat.eq_of_beq_eq_true hb.2
      subst hm; subst hoff
      obtain ⟨b, c, a, js, h1, h2, h3, rfl⟩ := hv
      obtain ⟨a1, a2, js', g1, g2, g3⟩ := hf.prow _ _ (srcPr_eq hb.1)
      rw [h1] at g1
      cases g1
      exact ⟨b, c, a2, js, g2, g3.trans h2, h3, rfl⟩
  | npD _ _ _ _ hv _ =>
    exfalso
    obtain ⟨hv, _⟩ := hv
    split at hm
    · split at hm
      case h_2 => exact hm.elim
      rename_i a
      cases a with
      | none => exact hv
      | some j => exact hr.lk.not_dead _ _ hv
    · split at hm
      case h_2 => exact hm.elim
      split at hm
      case isFalse => exact hm.elim
      rename_i hb
      obtain ⟨a1, a2, js', g1, g2, g3⟩ := hf.prow _ _ (srcPr_eq hb)
      have hv : e.own id = .dead := hv
      rw [g1] at hv; cases hv
    · split at hm
      case h_2 => exact hm.elim
      split at hm
      case isFalse => exact hm.elim
      rename_i hb
      simp only [Bool.and_eq_true] at hb
      obtain ⟨a1, a2, js', g1, g2, g3⟩ := hf.prow _ _ (srcPr_eq hb.1)
      have hv : e.own id = .dead := hv
      rw [g1] at hv; cases hv
theorem matchP_sound {e e' : E A} {φ : Phi} (hf : View φ e e') : ∀ {xs ys : List (SV A)} {vs : List Value}, RepL P u e xs vs → matchP φ xs ys = true → RepL P u e' ys vs
  | [], [], vs, hx, _ => by cases hx; exact .nil
  | x :: xs, [], vs, _, h => by cases x <;> cases h
  | [], _ :: _, vs, _, h => by cases h
  | x :: xs, y :: ys, vs, hx, h => by
    cases x <;> try (cases h; done)
    rename_i id off'
    cases y <;> try (cases h; done)
    rename_i hh off
    simp only [matchP, Bool.and_eq_true] at h
    have hoff := Nat.eq_of_beq_eq_true h.1.2
    subst hoff
    obtain ⟨g1, g2, g3⟩ := hf.var _ _ (srcVar_eq h.1.1)
    cases hx with
    | optr _ _ b c hv hβ hr => exact .optr _ _ b c g1 (g3.trans hβ) (matchP_sound hf hr h.2)
    | optrD _ _ _ hd _ _ => rw [hd] at g2; cases g2
theorem match1_sound (hu : Law P u) {w0 : W0} {O0 : Nat → Prop} {e e' : E A} {φ : Phi} (hclean : ∀ T x, noOwn.go (u.enc T x) = true) (hr : HR P u w0 O0 e) (hf : View φ e e') {x y : SV A} {v : Value}
    (hx : RepL P u e [x] [v]) (h : match1 u e.own φ x y) : RepL P u e' [y] [v] := by
  have hnil : ∀ {T : Nat} {a : Option Addr}, RepL P u e' [.csl T []] [.slice a 0 0] := fun {T a} => .csl T [] a 0 0 (fun _ => []) rfl (Nat.le_refl _) (.inl rfl) (fun i hi => by simp at hi) (fun i x hi => by simp at hi) .nil
  unfold match1 at h
  split at h
  · exact .top _ .nil
  · split at h
    · cases hx; exact .undef .nil
    · exact h.elim
  · split at h
    · split at h
      · rename_i hk
        simp only [kindEq, decide_eq_true_eq] at hk
        subst hk; subst h
        cases hx; exact .int _ _ .nil
      · exact h.elim
    · exact h.elim
  · split at h
    · subst h; cases hx; exact .bool _ .nil
    · subst h; cases hx; exact .bool _ .nil
    · exact h.elim
  · split at h
    · subst h; cases hx; exact .lit _ .nil
    · subst h; cases hx; exact .lit _ .nil
    · exact h.elim
  · split at h
    · subst h; cases hx; exact .str _ .nil
    · exact h.elim
  · split at h
    · cases hx; exact .nilp .nil
    · exact h.elim
  · split at h
    · cases hx; exact .nils .nil
    · exact h.elim
  · split at h
    · cases hx; exact .zsl _ .nil
    · cases hx; exact .zsl _ .nil
    · exact h.elim
  · split at h
    · obtain ⟨hh, he⟩ := cast_eq h
      subst hh
      have he : _ = _ := he
      subst he
      exact hx.unbare P u hclean hf.w hf.O rfl
    · subst h; cases hx; exact hnil
    · subst h; cases hx; exact hnil
    · split at h
      · exact h.elim
      · rename_i hk
        split at h
        · rename_i T xs ho
          obtain ⟨hh, he⟩ := cast_eq h
          subst hh
          have he : _ = _ := he
          subst he
          exact row_gone P u hclean hr hf (.inl ho) (by simpa using hk) hx
        · rename_i T xs ho
          obtain ⟨hh, he⟩ := cast_eq h
          subst hh
          have he : _ = _ := he
          subst he
          exact row_gone P u hclean hr hf (.inr ho) (by simpa using hk) hx
        · exact h.elim
    · split at h
      · exact h.elim
      · rename_i hk
        split at h
        · rename_i T xs ho
          obtain ⟨hh, he⟩ := cast_eq h
          subst hh
          have he : _ = _ := he
          subst he
          have := row_gone P u hclean hr hf (.inl ho) (by simpa using hk) (orow_osl P u (.inl ho) hx)
          simpa using this
        · rename_i T xs ho
          obtain ⟨hh, he⟩ := cast_eq h
          subst hh
          have he : _ = _ := he
          subst he
          have := row_gone P u hclean hr hf (.inr ho) (by simpa using hk) (orow_osl P u (.inr ho) hx)
          simpa using this
        · exact h.elim
    · exact h.elim
  · split at h
    · split at h
      · rename_i hb
        simp only [Bool.and_eq_true] at hb
        obtain ⟨h1, h2⟩ := hb
        have e2 := Nat.eq_of_beq_eq_true h2
        subst e2
        obtain ⟨g1, g2, g3⟩ := hf.var _ _ (srcVar_eq h1)
        cases hx with
        | optr _ _ b c hv hβ _ => exact .optr _ _ b c g1 (g3.trans hβ) .nil
        | optrD _ _ _ hd _ _ => rw [hd] at g2; cases g2
      · exact h.elim
    · exact h.elim
  · split at h
    · split at h
      · rename_i hb
        obtain ⟨K, V, kvs, g1, g2, g3⟩ := hf.mp _ _ (srcMp_eq hb)
        cases hx with
        | omap _ b c K2 V2 kvs2 hv hβ _ =>
          rw [g1] at hv
          cases hv
          exact .omap _ b c K V kvs g2 (g3.trans hβ) .nil
        | omapD _ _ hd _ _ => rw [g1] at hd; cases hd
      · exact h.elim
    · exact h.elim
  · split at h
    · split at h
      · rename_i hb
        simp only [Bool.and_eq_true] at hb
        obtain ⟨⟨h1, h2⟩, h3⟩ := hb
        have e2 := Nat.eq_of_beq_eq_true h2
        have e3 := Nat.eq_of_beq_eq_true h3
        subst e2; subst e3
        obtain ⟨g1, g2, g3⟩ := hf.var _ _ (srcVar_eq h1)
        cases hx with
        | vsl _ _ _ b c cap hv hβ hc _ => exact .vsl _ _ _ b c cap g1 (g3.trans hβ) hc .nil
        | vslD _ _ _ _ hd _ _ => rw [hd] at g2; cases g2
      · exact h.elim
    · exact h.elim
  · split at h
    · split at h
      · rename_i hb
        simp only [Bool.and_eq_true] at hb
        obtain ⟨h1, h2⟩ := hb
        have e2 := Nat.eq_of_beq_eq_true h2
        subst e2; subst h
        obtain ⟨T, ys, g1, g2, g3⟩ := hf.row _ _ (srcRow_eq h1)
        cases hx with
        | rptr _ _ _ b c T2 zs hv hβ hi _ =>
          have hsame : T2 = T ∧ HEq zs ys := by
            rcases g1 with g1 | g1 <;> rw [g1] at hv <;> rcases hv with hv | hv <;> cases hv <;> exact ⟨rfl, HEq.rfl⟩
          obtain ⟨rfl, hh⟩ := hsame
          cases hh
          exact .rptr _ _ _ b c T2 zs g2 (g3.trans hβ) hi .nil
        | rptrD _ _ _ _ hd _ _ => rcases g1 with g1 | g1 <;> rw [g1] at hd <;> cases hd
      · exact h.elim
    · exact h.elim
  · split at h
    · split at h
      · rename_i hb
        obtain ⟨rfl, rfl⟩ := h
        obtain ⟨T, ys, g1, g2, g3⟩ := hf.row _ _ (srcRow_eq hb)
        cases hx with
        | osl _ _ _ b c cap T2 zs hv hβ hi hc _ =>
          obtain ⟨rfl, hh⟩ := own_same g1 hv
          cases hh
          exact .osl _ _ _ b c cap T2 zs g2 (g3.trans hβ) hi hc .nil
        | oslZ _ _ T2 zs a hv hlo _ =>
          obtain ⟨rfl, hh⟩ := own_same g1 hv
          cases hh
          exact .oslZ _ _ T2 zs a g2 hlo .nil
        | oslD _ _ _ _ hd _ _ => rcases g1 with g1 | g1 <;> rw [g1] at hd <;> cases hd
      · exact h.elim
    · exact h.elim
  · split at h
    · split at h
      · rename_i hb
        obtain ⟨T, ys, g1, g2, g3⟩ := hf.row _ _ (srcRow_eq hb)
        cases hx with
        | orow _ b c cap T2 zs hv hβ hc _ =>
          obtain ⟨rfl, hh⟩ := own_same g1 hv
          cases hh
          exact .orow _ b c cap T2 zs g2 (g3.trans hβ) hc .nil
        | orowN _ T2 a hv _ =>
          obtain ⟨rfl, hh⟩ := own_same g1 hv
          cases hh
          exact .orowN _ T2 a g2 .nil
        | orowD _ _ hd _ _ => rcases g1 with g1 | g1 <;> rw [g1] at hd <;> cases hd
      · exact h.elim
    · split at h
      · rename_i k len' hl
        split at h
        · rename_i hb
          have hb := Nat.eq_of_beq_eq_true hb
          subst hb
          obtain ⟨rfl, rfl⟩ := h
          obtain ⟨T, ys, g1, g2, g3⟩ := hf.part _ _ _ hl
          cases hx with
          | osl _ _ _ b c cap T2 zs hv hβ hi hc _ =>
            obtain ⟨rfl, hh⟩ := own_same (.inl g1) hv
            cases hh
            exact part_rep P u g2 (g3.trans hβ) (by omega) hc
          | oslZ _ _ T2 zs a hv hlo _ =>
            obtain ⟨rfl, hh⟩ := own_same (.inl g1) hv
            cases hh
            exact .orowN _ T2 a (.inl (by simpa using g2)) .nil
          | oslD _ _ _ _ hd _ _ => rw [g1] at hd; cases hd
        · exact h.elim
      · exact h.elim
    · split at h
      · rename_i hb
        obtain ⟨T, g1⟩ := hf.nil _ (srcNil_eq hb)
        cases hx
        exact .orowN _ T none (.inl g1) .nil
      · exact h.elim
    · split at h
      · rename_i hb
        obtain ⟨T, g1⟩ := hf.nil _ (srcNil_eq hb)
        cases hx
        exact .orowN _ T _ (.inl g1) .nil
      · exact h.elim
    · exact h.elim
  · split at h
    · split at h
      · rename_i hh
        subst hh
        have h : _ = _ := h
        subst h
        exact hx.unbare P u hclean hf.w hf.O rfl
      · exact h.elim
    · split at h
      · rename_i x' hd
        subst h
        cases hx with
        | agg _ cs hl _ => exact .el _ _ cs ((hu.dec _ _ _ _ _ hd hl).unbare P u hclean hf.w hf.O (hclean _ _)) .nil
      · exact h.elim
    · exact h.elim
  · split at h
    · split at h
      · rename_i hb
        simp only [Bool.and_eq_true] at hb
        have hfg := Nat.eq_of_beq_eq_true hb.1
        subst hfg
        cases hx with
        | fn _ _ caps hl _ => exact .fn _ _ caps (matchP_sound P u hf hl hb.2) .nil
      · exact h.elim
    · exact h.elim
  · split at h
    · exact matchN_sound P u hr hf hx h
    · split at h
      · subst h
        cases hx
        exact .np _ _ _ _ rfl .nil
      · exact h.elim
    · exact h.elim
  · exact h.elim
theorem matchL_sound (hu : Law P u) {w0 : W0} {O0 : Nat → Prop} {e e' : E A} {φ : Phi} (hclean : ∀ T x, noOwn.go (u.enc T x) = true) (hr : HR P u w0 O0 e) (hf : View φ e e') : ∀ {xs ys : List (SV A)} {vs : List Value},
    RepL P u e xs vs → matchL u e.own φ xs ys → RepL P u e' ys vs := by
  intro xs
  induction xs with
  | nil =>
    intro ys vs hx h
    cases ys with
    | nil => cases hx; exact .nil
    | cons _ _ => exact h.elim
  | cons x xs ih =>
    intro ys vs hx h
    cases ys with
    | nil => cases xs <;> exact h.elim
    | cons y ys =>
      obtain ⟨v, ws, rfl, h1, h2⟩ := hx.split P u
      have hh : match1 u e.own φ x y ∧ matchL u e.own φ xs ys := by
        cases xs with
        | nil =>
          cases ys with
          | nil => exact ⟨h, trivial⟩
          | cons _ _ => exact h
        | cons _ _ => exact h
      exact (match1_sound P u hu hclean hr hf h1 hh.1).cons P u (ih h2 hh.2)
theorem matchC_sound (hu : Law P u) {w0 : W0} {O0 : Nat → Prop} {e e' : E A} {φ : Phi} (hclean : ∀ T x, noOwn.go (u.enc T x) = true) (hr : HR P u w0 O0 e) (hf : View φ e e') {x y : SV A} {v : Value}
    (hx : RepL P u e [x] [v]) (h : matchC u e.own φ x y) : RepL P u e' [y] [v] := by
  unfold matchC at h
  split at h
  · split at h
    · obtain ⟨rfl, h⟩ := h
      cases hx with
      | cptr _ _ b o cv hb ho hm hl _ => exact .cptr _ _ b o cv (by rw [hf.w]; exact hb) (hf.O b ho) (by rw [hf.w]; exact hm) (matchL_sound P u hu hclean hr hf hl h) .nil
    · exact h.elim
  · exact match1_sound P u hu hclean hr hf hx h
theorem matchCL_sound (hu : Law P u) {w0 : W0} {O0 : Nat → Prop} {e e' : E A} {φ : Phi} (hclean : ∀ T x, noOwn.go (u.enc T x) = true) (hr : HR P u w0 O0 e) (hf : View φ e e') : ∀ {xs ys : List (SV A)} {vs : List Value},
    RepL P u e xs vs → matchCL u e.own φ xs ys → RepL P u e' ys vs := by
  intro xs
  induction xs with
  | nil =>
    intro ys vs hx h
    cases ys with
    | nil => cases hx; exact .nil
    | cons _ _ => exact h.elim
  | cons x xs ih =>
    intro ys vs hx h
    cases ys with
    | nil => cases xs <;> exact h.elim
    | cons y ys =>
      obtain ⟨v, ws, rfl, h1, h2⟩ := hx.split P u
      have hh : matchC u e.own φ x y ∧ matchCL u e.own φ xs ys := by
        cases xs with
        | nil =>
          cases ys with
          | nil => exact ⟨h, trivial⟩
          | cons _ _ => exact h
        | cons _ _ => exact h
      exact (matchC_sound P u hu hclean hr hf h1 hh.1).cons P u (ih h2 hh.2)
theorem match2_sound (hu : Law P u) {w0 : W0} {O0 : Nat → Prop} {e e' : E A} {φ : Phi} (hclean : ∀ T x, noOwn.go (u.enc T x) = true) (hr : HR P u w0 O0 e) (hf : View φ e e') {x y : SV A} {v : Value}
    (hx : RepL P u e [x] [v]) (h : match2 u e.own φ x y) : RepL P u e' [y] [v] := by
  unfold match2 at h
  split at h
  · split at h
    · rename_i k hk
      obtain ⟨cs, rfl, hl⟩ := aggC_rep P u hx hk
      exact .agg _ _ (matchL_sound P u hu hclean hr hf hl h) .nil
    · exact h.elim
  · split at h
    · obtain ⟨rfl, h⟩ := h
      cases hx with
      | cptr _ _ b o cv hb ho hm hl _ => exact .cptr _ _ b o cv (by rw [hf.w]; exact hb) (hf.O b ho) (by rw [hf.w]; exact hm) (matchL_sound P u hu hclean hr hf hl h) .nil
    · exact h.elim
  · split at h
    · obtain ⟨rfl, h⟩ := h
      cases hx with
      | fn _ _ caps hl _ => exact .fn _ _ _ (matchCL_sound P u hu hclean hr hf hl h) .nil
    · exact h.elim
  · exact match1_sound P u hu hclean hr hf hx h
theorem matchLL_sound (hu : Law P u) {w0 : W0} {O0 : Nat → Prop} {e e' : E A} {φ : Phi} (hclean : ∀ T x, noOwn.go (u.enc T x) = true) (hr : HR P u w0 O0 e) (hf : View φ e e') : ∀ {xs ys : List (SV A)} {vs : List Value},
    RepL P u e xs vs → matchLL u e.own φ xs ys → RepL P u e' ys vs := by
  intro xs
  induction xs with
  | nil =>
    intro ys vs hx h
    cases ys with
    | nil => cases hx; exact .nil
    | cons _ _ => exact h.elim
  | cons x xs ih =>
    intro ys vs hx h
    cases ys with
    | nil => cases xs <;> exact h.elim
    | cons y ys =>
      obtain ⟨v, ws, rfl, h1, h2⟩ := hx.split P u
      have hh : match2 u e.own φ x y ∧ matchLL u e.own φ xs ys := by
        cases xs with
        | nil =>
          cases ys with
          | nil => exact ⟨h, trivial⟩
          | cons _ _ => exact h
        | cons _ _ => exact h
      exact (match2_sound P u hu hclean hr hf h1 hh.1).cons P u (ih h2 hh.2)
theorem matchV_sound (hu : Law P u) {w0 : W0} {O0 : Nat → Prop} {e e' : E A} {φ : Phi} (hclean : ∀ T x, noOwn.go (u.enc T x) = true) (hr : HR P u w0 O0 e) (hf : View φ e e') {x y : SV A} {v : Value}
    (hx : RepL P u e [x] [v]) (h : matchV u e.own φ x y) : RepL P u e' [y] [v] := by
  unfold matchV at h
  split at h
  · split at h
    · cases hx with
      | tup _ cs hl _ => exact .tup _ _ (matchLL_sound P u hu hclean hr hf hl h) .nil
    · exact h.elim
  · exact match2_sound P u hu hclean hr hf hx h

/-! ### the turn to other numbers -/
theorem lookP_mem {φ : Phi} {h : Nat} {s : Src} (hs : lookP φ h = some s) : (h, s) ∈ φ := by
  induction φ with
  | nil => cases hs
  | cons p r ih =>
    obtain ⟨k, t⟩ := p
    unfold lookP at hs
    split at hs
    · rename_i hk
      cases hs
      rw [Nat.eq_of_beq_eq_true hk]
      exact List.mem_cons_self ..
    · exact List.mem_cons_of_mem _ (ih hs)
theorem inP_mem {φ : Phi} {h id : Nat} {s : Src} (hm : (h, s) ∈ φ) (hi : s.id? = some id) : inP φ id = true := by
  induction φ with
  | nil => cases hm
  | cons p r ih =>
    obtain ⟨k, t⟩ := p
    unfold inP
    rcases List.mem_cons.1 hm with hh | hh
    · cases hh
      rw [hi]
      simp
    · rw [ih hh]; simp
theorem distP_inj : ∀ {φ : Phi} {h h' id : Nat} {s s' : Src}, distP0 φ = true → (h, s) ∈ φ → (h', s') ∈ φ → s.id? = some id → s'.id? = some id → h = h'
  | [], _, _, _, _, _, _, hm, _, _, _ => by cases hm
  | (k, t) :: r, h, h', id, s, s', hd, hm, hm', hs, hs' => by
    simp only [distP0, Bool.and_eq_true] at hd
    rcases List.mem_cons.1 hm with hh | hh <;> rcases List.mem_cons.1 hm' with hh' | hh'
    · cases hh; cases hh'; rfl
    · cases hh
      have h1 := hd.1
      rw [hs] at h1
      simp only [inP_mem hh' hs'] at h1
      cases h1
    · cases hh'
      have h1 := hd.1
      rw [hs'] at h1
      simp only [inP_mem hh hs] at h1
      cases h1
    · exact distP_inj hd.2 hh hh' hs hs'
theorem look_mem {L : List (Nat × Own A)} {id : Nat} {o : Own A} (h : look L id = some o) : (id, o) ∈ L := by
  induction L with
  | nil => cases h
  | cons p r ih =>
    obtain ⟨k, o'⟩ := p
    unfold look at h
    split at h
    · rename_i hk
      cases h
      rw [Nat.eq_of_beq_eq_true hk]
      exact List.mem_cons_self ..
    · exact List.mem_cons_of_mem _ (ih h)
def headB (dfl : Nat → Own A) (L : List (Nat × Own A)) (id : Nat) : Own A := match look L id with
  | some o => o
  | none => dfl id
def headOwn (dfl : Nat → Own A) (L : List (Nat × Own A)) : Nat → Own A := hid (headB dfl L)
/-- Whence a block comes. -/
def srcOf (φ : Phi) (h : Nat) : Option Nat := match Nat.blt h 1152921504606846976 with
  | true => (match lookP φ h with
    | some s => s.id?
    | none => none)
  | false => (match lookP φ (ndId h) with
    | some (.ar id) => some (nodeNo id (ndIx h))
    | _ => none)
def headβ (φ : Phi) (β : Nat → Option (Nat × Nat)) (h : Nat) : Option (Nat × Nat) := match srcOf φ h with
  | some id => β id
  | none => none
theorem headOwn_lt {dfl : Nat → Own A} {L : List (Nat × Own A)} {id : Nat} (h : id < 1152921504606846976) : headOwn dfl L id = headB dfl L id := hid_lt h
theorem headOwn_lk (dfl : Nat → Own A) (L : List (Nat × Own A)) : Lk (headOwn dfl L) := .hid _
theorem srcOf_lt {φ : Phi} {h : Nat} (hh : h < 1152921504606846976) : srcOf φ h = (match lookP φ h with
    | some s => s.id?
    | none => none) := by unfold srcOf; rw [blt_iff.2 hh]
theorem srcOf_ge {φ : Phi} {h : Nat} (hh : 1152921504606846976 ≤ h) : srcOf φ h = (match lookP φ (ndId h) with
    | some (.ar id) => some (nodeNo id (ndIx h))
    | _ => none) := by
  have : Nat.blt h 1152921504606846976 = false := by
    cases hb : Nat.blt h 1152921504606846976 with
    | false => rfl
    | true => have := blt_iff.1 hb; omega
  unfold srcOf
  rw [this]
theorem srcOf_node {φ : Phi} {h : Nat} (j : Nat) (hh : h < 1073741824) : srcOf φ (nodeNo h j) = (match lookP φ h with
    | some (.ar id) => some (nodeNo id j)
    | _ => none) := by
  have h1 := srcOf_ge (φ := φ) (nodeNo_ge h j)
  rw [nodeNo_mod j hh, nodeNo_div j hh] at h1
  exact h1
theorem only_look {L : List (Nat × Own A)} : ∀ {φ : Phi} {h : Nat} {s : Src}, lookP (only L φ) h = some s → keepsB L h = true
  | [], h, s, hs => by cases hs
  | (k, t) :: r, h, s, hs => by
    unfold only at hs
    split at hs
    · rename_i hk
      unfold lookP at hs
      split at hs
      · rename_i hkh
        rw [← Nat.eq_of_beq_eq_true hkh]; exact hk
      · exact only_look (φ := r) hs
    · exact only_look (φ := r) hs
theorem Lk.hi_nod {own : Nat → Own A} (h : Lk own) {k : Nat} (hk : 1152921504606846976 ≤ k) (hf : own k ≠ .free) : (own k).isNod = true := by
  have h1 := h k hk
  rcases hidO_nod own k with hq | hq
  · exact absurd (h1.trans hq) hf
  · rw [h1]; exact hq
theorem hi_live {own own' : Nat → Own A} (h : Lk own) (h' : Lk own') {r id j : Nat} {n : Int} {ns : List Nd} (hr : r < 1073741824) (hid : id < 1073741824) (g2 : own id = .ar n ns) (g3 : own' r = .ar n ns) (h1 : own' (nodeNo r j) ≠ .free) : own (nodeNo id j) ≠ .free := by
  intro hf
  have k1 := h.node j hid g2
  have k2 := h'.node j hr g3
  rw [hf] at k1
  refine h1 (k2.trans (nodOf_nod (q := id) ?_))
  rw [← k1]
  rfl
theorem mkE_own {O0 : Nat → Prop} {w : World} {own : Nat → Own A} {β : Nat → Option (Nat × Nat)} : (mkE O0 w own β).own = own := rfl
theorem mkE_β {O0 : Nat → Prop} {w : World} {own : Nat → Own A} {β : Nat → Option (Nat × Nat)} : (mkE O0 w own β).β = β := rfl
theorem headβ_of {φ : Phi} {β : Nat → Option (Nat × Nat)} {h id : Nat} (hs : srcOf φ h = some id) : headβ φ β h = β id := by unfold headβ; rw [hs]
theorem isNod_ren {o o' : Own A} (h : o.isNod = true) (he : o = .free → o' = .free) (he2 : ∀ c, o = .nod c → ∃ c', o' = .nod c') : o'.isNod = true := by
  cases o <;> first | (cases h; done) | skip
  obtain ⟨c', rfl⟩ := he2 _ rfl
  rfl
theorem nodOf_isNod {q q' : Nat} {n : Int} {ns : List Nd} {i : Nat} (h : (nodOf (A := A) q n ns i).isNod = true) : (nodOf (A := A) q' n ns i).isNod = true := by
  unfold nodOf at h ⊢
  cases hx : ns[i]? with
  | none => rw [hx] at h; cases h
  | some x => rfl
theorem nod_mut {o : Own A} (h : o.isNod = true) : o.mut = true := by cases o <;> first | rfl | cases h
theorem nod_ent {e e' : E A} {fr : Nat → Prop} {h r id j : Nat} {φ : Phi} {n : Int} {ns : List Nd} (hent : EntOk P u e fr (nodeNo id j) (nodOf id n ns j)) (hβ : e'.β h = e.β (nodeNo id j)) (hw : e'.w = e.w)
    (hm : ∀ (cs : List (SV A)) vs, matchL u e.own φ (ndCells id n j (ns.getD j ⟨false, none, none⟩)) cs → RepL P u e (ndCells id n j (ns.getD j ⟨false, none, none⟩)) vs → RepL P u e' cs vs) (hs : srcAr φ r id = true) : EntOk P u e' fr h (nodOf r n ns j) := by
  unfold nodOf at hent ⊢
  cases hx : ns[j]? with
  | none => trivial
  | some x =>
    rw [hx] at hent
    have hgd : ns.getD j ⟨false, none, none⟩ = x := by rw [List.getD_eq_getElem?_getD, hx]; rfl
    rw [hgd] at hm
    obtain ⟨b, c, vs, T, k1, k2, k3, k4⟩ := hent
    refine ⟨b, c, vs, T, hβ.trans k1, k2, by rw [hw]; exact k3, hm _ _ ?_ k4⟩
    have hnp : ∀ a : Option Nat, matchN φ r id (.nd a) (.nd a) 0 0 := by
      intro a
      show (if srcAr φ r id && Nat.beq 0 0 then a = a else False)
      rw [if_pos (by rw [hs]; rfl)]
    cases j with
    | zero => exact ⟨rfl, hnp _, hnp _, by show (if kindEq .i64 .i64 then n = n else False); rw [if_pos (by simp [kindEq])]⟩
    | succ j => exact ⟨rfl, hnp _, hnp _⟩
/-- Memory, its blocks under other numbers. -/
theorem reshape (hu : Law P u) (hclean : ∀ T x, noOwn.go (u.enc T x) = true) {w0 : W0} {O0 : Nat → Prop} {e : E A} (hr : HR P u w0 O0 e) {φ : Phi} {L : List (Nat × Own A)} {dfl : Nat → Own A} (hd : distP φ = true) (hφ : ∀ h s, lookP φ h = some s → keepsB L h = true)
    (hO : ∀ h o, (h, o) ∈ L → matchO u e.own φ h o) (hdf : ∀ id, dfl id = .free ∨ dfl id = .dead)
    (hh : ∀ id p, w0.hand id = some p → headOwn dfl L id = .dead ∨ (headOwn dfl L id ≠ .free ∧ ∃ s, lookP φ id = some s ∧ s.id? = some id)) :
    HR P u w0 O0 (mkE O0 e.w (headOwn dfl L) (headβ φ e.β)) ∧ View φ e (mkE O0 e.w (headOwn dfl L) (headβ φ e.β)) := by
  have hL : ∀ {h : Nat} {o : Own A}, look L h = some o → matchO u e.own φ h o := fun h => hO _ _ (look_mem h)
  simp only [distP, Bool.and_eq_true] at hd
  obtain ⟨hd, hlow⟩ := hd
  have hlkL := headOwn_lk dfl L
  have hlow' := fun {h : Nat} {s : Src} (hs : lookP φ h = some s) => lowP_mem hlow hs
  have hown : ∀ {h : Nat} {o : Own A}, h < 1152921504606846976 → look L h = some o → headOwn dfl L h = o := by intro h o hh ho; rw [headOwn_lt hh]; unfold headB; rw [ho]
  have hlive : ∀ {h : Nat}, h < 1152921504606846976 → headOwn dfl L h ≠ .free → headOwn dfl L h ≠ .dead → ∃ o, look L h = some o ∧ headOwn dfl L h = o ∧ matchO u e.own φ h o := by
    intro h hlt h1 h2
    cases hl : look L h with
    | some o => exact ⟨o, rfl, hown hlt hl, hL hl⟩
    | none =>
      exfalso
      have hq : headOwn dfl L h = dfl h := by rw [headOwn_lt hlt]; unfold headB; rw [hl]
      rw [hq] at h1 h2
      rcases hdf h with h3 | h3
      · exact h1 h3
      · exact h2 h3
  have hkeep : ∀ {h : Nat} {s : Src}, lookP φ h = some s → ∃ o, look L h = some o ∧ o ≠ .free ∧ o ≠ .dead := by
    intro h s hs
    have := hφ h s hs
    unfold keepsB at this
    split at this
    · cases this
    · cases this
    · rename_i o h1 h2 h3; exact ⟨o, h3, by rintro rfl; exact h1 rfl, by rintro rfl; exact h2 rfl⟩
    · cases this
  have harOf : ∀ {h : Nat}, h < 1152921504606846976 → (headOwn dfl L h).isAr = true → ∃ id n ns, lookP φ h = some (.ar id) ∧ e.own id = .ar n ns ∧ headOwn dfl L h = .ar n ns ∧ id < 1073741824 := by
    intro h hlt har
    obtain ⟨n, ns, ho⟩ := isAr_eq har
    obtain ⟨o, g1, g2, g3⟩ := hlive hlt (by rw [ho]; simp) (by rw [ho]; simp)
    rw [ho] at g2
    subst g2
    unfold matchO at g3
    simp only at g3
    split at g3
    · rename_i id hs
      split at g3
      · rename_i n' ns' ho'
        obtain ⟨rfl, rfl⟩ := g3
        exact ⟨id, _, _, hs, ho', ho, (hlow' hs).2 id rfl⟩
      · exact g3.elim
    · exact g3.elim
  have harN : ∀ {h : Nat}, 1152921504606846976 ≤ h → headOwn dfl L h ≠ .free → ∃ id n ns, lookP φ (ndId h) = some (.ar id) ∧ e.own id = .ar n ns ∧ headOwn dfl L (ndId h) = .ar n ns ∧ id < 1073741824 := by
    intro h hge hf
    have hlt := ndId_lt h
    refine harOf (by omega) ?_
    by_cases har : (headOwn dfl L (ndId h)).isAr = true
    · exact har
    · have := hlkL.noNode (ndIx h) hlt (not_ar har)
      rw [nodeNo_of hge] at this
      exact absurd this hf
  have hsrcL : ∀ {h b c : Nat}, h < 1152921504606846976 → headOwn dfl L h ≠ .free → headOwn dfl L h ≠ .dead → headβ φ e.β h = some (b, c) → ∃ id, srcOf φ h = some id ∧ e.β id = some (b, c) ∧ e.own id ≠ .free ∧ e.own id ≠ .dead ∧ ((headOwn dfl L h).mut = true → (e.own id).mut = true) := by
    intro h b c hlt h1 h2 hβ
    obtain ⟨o, g1, g2, g3⟩ := hlive hlt h1 h2
    unfold headβ at hβ
    split at hβ
    · rename_i id hid
      rw [srcOf_lt hlt] at hid
      split at hid
      · rename_i s hs
        refine ⟨id, by rw [srcOf_lt hlt, hs]; exact hid, hβ, ?_⟩
        rw [g2]
        unfold matchO at g3
        rw [hs] at g3
        cases o with
        | free => exact g3.elim
        | dead => exact absurd g2 h2
        | var c2 =>
          cases s <;> simp only at g3
          cases hid
          generalize e.own id = q at *
          cases q <;> first | exact g3.elim | exact ⟨by simp, by simp, fun _ => rfl⟩
        | row T ys =>
          cases s <;> simp only at g3 <;> cases hid
          all_goals
            generalize e.own id = q at *
            cases q <;> first | exact g3.elim | exact ⟨by simp, by simp, fun _ => rfl⟩
        | fro T ys =>
          cases s <;> simp only at g3 <;> cases hid
          all_goals
            generalize e.own id = q at *
            cases q <;> first | exact g3.elim | exact ⟨by simp, by simp, fun h => by cases h⟩
        | mp K V ys =>
          cases s <;> simp only at g3 <;> cases hid
          all_goals
            generalize e.own id = q at *
            cases q <;> first | exact g3.elim | exact ⟨by simp, by simp, fun _ => rfl⟩
        | rowC => exact g3.elim
        | nod => exact g3.elim
        | ar n ns =>
          cases s <;> simp only at g3 <;> cases hid
          all_goals
            generalize e.own id = q at *
            cases q <;> first | exact g3.elim | exact ⟨by simp, by simp, fun h => by cases h⟩
        | prow a js =>
          cases s <;> simp only at g3 <;> cases hid
          all_goals
            generalize e.own id = q at *
            cases q <;> first | exact g3.elim | exact ⟨by simp, by simp, fun _ => rfl⟩
      · cases hid
    · cases hβ
  have hsrc : ∀ {h b c : Nat}, headOwn dfl L h ≠ .free → headOwn dfl L h ≠ .dead → headβ φ e.β h = some (b, c) → ∃ id, srcOf φ h = some id ∧ e.β id = some (b, c) ∧ e.own id ≠ .free ∧ e.own id ≠ .dead ∧ ((headOwn dfl L h).mut = true → (e.own id).mut = true) := by
    intro h b c h1 h2 hβ
    rcases Nat.lt_or_ge h 1152921504606846976 with hlt | hge
    · exact hsrcL hlt h1 h2 hβ
    · obtain ⟨id, n, ns, g1, g2, g3, g4⟩ := harN hge h1
      have hs : srcOf φ h = some (nodeNo id (ndIx h)) := by
        have hq := srcOf_ge (φ := φ) hge
        rw [g1] at hq
        exact hq
      have k3 := hi_live hr.lk hlkL (ndId_lt h) g4 g2 g3 (j := ndIx h) (by rw [nodeNo_of hge]; exact h1)
      refine ⟨nodeNo id (ndIx h), hs, ?_, k3, hr.lk.not_dead _ _, fun _ => nod_mut (hr.lk.hi_nod (nodeNo_ge _ _) k3)⟩
      unfold headβ at hβ
      rw [hs] at hβ
      exact hβ
  have hsinj : ∀ {h h' id : Nat}, srcOf φ h = some id → srcOf φ h' = some id → h = h' := by
    intro h h' id k1 k2
    have cs : ∀ {h id : Nat}, srcOf φ h = some id → (h < 1152921504606846976 ∧ id < 1073741824 ∧ ∃ s, lookP φ h = some s ∧ s.id? = some id) ∨ (∃ r j q, r < 1073741824 ∧ h = nodeNo r j ∧ id = nodeNo q j ∧ q < 1073741824 ∧ lookP φ r = some (.ar q)) := by
      intro h id k
      rcases Nat.lt_or_ge h 1152921504606846976 with hlt | hge
      · rw [srcOf_lt hlt] at k
        split at k
        · rename_i s hs
          exact .inl ⟨hlt, (hlow' hs).2 id k, s, hs, k⟩
        · cases k
      · rw [srcOf_ge hge] at k
        split at k
        · rename_i q hq
          cases k
          exact .inr ⟨ndId h, ndIx h, q, ndId_lt h, (nodeNo_of hge).symm, rfl, (hlow' hq).2 q rfl, hq⟩
        · cases k
    rcases cs k1 with ⟨_, a2, s, a3, a4⟩ | ⟨r, j, q, a1, rfl, rfl, a4, a5⟩ <;> rcases cs k2 with ⟨_, b2, s', b3, b4⟩ | ⟨r', j', q', b1, rfl, b3, b4, b5⟩
    · exact distP_inj hd (lookP_mem a3) (lookP_mem b3) a4 b4
    · subst b3; have := nodeNo_ge q' j'; omega
    · have := nodeNo_ge q j; omega
    · obtain ⟨rfl, rfl⟩ := nodeNo_inj a4 b4 b3
      rw [distP_inj hd (lookP_mem a5) (lookP_mem b5) rfl rfl]
  have hltP : ∀ {h : Nat} {s : Src}, lookP φ h = some s → h < 1152921504606846976 := fun hs => by have := (hlow' hs).1; omega
  have hβlo : ∀ {h id : Nat} {s : Src}, lookP φ h = some s → s.id? = some id → headβ φ e.β h = e.β id := by
    intro h id s hs hi
    have : srcOf φ h = some id := by rw [srcOf_lt (hltP hs), hs]; exact hi
    unfold headβ
    rw [this]
  have hview : View φ e (mkE O0 e.w (headOwn dfl L) (headβ φ e.β)) := by
    refine ⟨rfl, ?_, ?_, ?_, ?_, ?_, ?_, ?_, ?_, ?_⟩
    · intro b hb hb'
      apply hb
      rcases hb' with h0 | ⟨h, c, h1, h2⟩
      · exact (hr.O b).2 (.inl h0)
      · obtain ⟨id, _, g3, g4, g5, g6⟩ := hsrc (mut_live h1).1 (mut_live h1).2 h2
        exact hr.ownO P u (g6 h1) g3
    · intro id b c hlt hk h1 h2 hβ hb'
      rcases hb' with h0 | ⟨h, c', h3, h4⟩
      · exact hr.notO0 P u h1 h2 hβ h0
      · obtain ⟨id', g1, g3, g4, g5, g6⟩ := hsrc (mut_live h3).1 (mut_live h3).2 h4
        have := hr.inj id id' b c c' h1 h2 g4 g5 hβ g3
        subst this
        rcases Nat.lt_or_ge h 1152921504606846976 with hl2 | hge
        · rw [srcOf_lt hl2] at g1
          split at g1
          · rename_i s hs
            rw [inP_mem (lookP_mem hs) g1] at hk
            cases hk
          · cases g1
        · rw [srcOf_ge hge] at g1
          split at g1
          · rename_i q hq
            cases g1
            have := nodeNo_ge q (ndIx h)
            omega
          · cases g1
    · intro h id hs
      obtain ⟨o, g1, g2, g3⟩ := hkeep hs
      have g4 := hL g1
      have hβ : headβ φ e.β h = e.β id := hβlo hs rfl
      show (headOwn dfl L h).isVar = true ∧ _
      rw [hown (hltP hs) g1]
      unfold matchO at g4
      rw [hs] at g4
      cases o <;> simp only at g4 <;> first | exact absurd rfl g3 | skip
      generalize e.own id = q at *
      cases q <;> first | exact g4.elim | exact ⟨rfl, rfl, hβ⟩
    · intro h id hs
      obtain ⟨o, g1, g2, g3⟩ := hkeep hs
      have g4 := hL g1
      have hβ : headβ φ e.β h = e.β id := hβlo hs rfl
      show ∃ (T : Nat) (ys : List (A T)), _ ∧ (headOwn dfl L h = _ ∨ headOwn dfl L h = _) ∧ _
      rw [hown (hltP hs) g1]
      unfold matchO at g4
      rw [hs] at g4
      cases o <;> simp only at g4 <;> first | exact absurd rfl g3 | skip
      · rename_i S ys
        generalize e.own id = q at *
        cases q <;> first | exact g4.elim | skip
        obtain ⟨hh, he⟩ := cast_eq g4
        subst hh
        have he : _ = _ := he
        subst he
        exact ⟨_, _, .inl rfl, .inl rfl, hβ⟩
      · rename_i S ys
        generalize e.own id = q at *
        cases q <;> first | exact g4.elim | skip
        · obtain ⟨hh, he⟩ := cast_eq g4
          subst hh
          have he : _ = _ := he
          subst he
          exact ⟨_, _, .inl rfl, .inr rfl, hβ⟩
        · obtain ⟨hh, he⟩ := cast_eq g4
          subst hh
          have he : _ = _ := he
          subst he
          exact ⟨_, _, .inr rfl, .inr rfl, hβ⟩
    · intro h id len hs
      obtain ⟨o, g1, g2, g3⟩ := hkeep hs
      have g4 := hL g1
      have hβ : headβ φ e.β h = e.β id := hβlo hs rfl
      show ∃ (T : Nat) (ys : List (A T)), _ ∧ headOwn dfl L h = _ ∧ _
      rw [hown (hltP hs) g1]
      unfold matchO at g4
      rw [hs] at g4
      cases o <;> simp only at g4 <;> first | exact absurd rfl g3 | skip
      rename_i S ys
      generalize e.own id = q at *
      cases q <;> first | exact g4.elim | skip
      obtain ⟨hh, he⟩ := cast_eq g4
      subst hh
      have he : _ = _ := he
      subst he
      exact ⟨_, _, rfl, rfl, hβ⟩
    · intro h hs
      obtain ⟨o, g1, g2, g3⟩ := hkeep hs
      have g4 := hL g1
      show ∃ T, headOwn dfl L h = _
      rw [hown (hltP hs) g1]
      unfold matchO at g4
      rw [hs] at g4
      cases o <;> simp only at g4 <;> first | exact absurd rfl g3 | skip
      subst g4
      exact ⟨_, rfl⟩
    · intro h id hs
      obtain ⟨o, g1, g2, g3⟩ := hkeep hs
      have g4 := hL g1
      have hβ : headβ φ e.β h = e.β id := hβlo hs rfl
      show ∃ (K : IntKind) (V : Nat) (kvs : List (Int × A V)), _ ∧ headOwn dfl L h = _ ∧ _
      rw [hown (hltP hs) g1]
      unfold matchO at g4
      rw [hs] at g4
      cases o <;> simp only at g4 <;> first | exact absurd rfl g3 | skip
      rename_i K V ys
      generalize e.own id = q at *
      cases q <;> first | exact g4.elim | skip
      dsimp only at g4
      split at g4
      · rename_i hk
        have hk := of_decide_eq_true hk
        subst hk
        obtain ⟨hh, he⟩ := castM_eq g4
        subst hh
        have he : _ = _ := he
        subst he
        exact ⟨_, _, _, rfl, rfl, hβ⟩
      · exact g4.elim
    · intro h id hs j hn
      obtain ⟨o, g1, g2, g3⟩ := hkeep hs
      have g4 := hL g1
      have hlt := hlow' hs
      have hidD := hlt.2 id rfl
      have hoh := hown (by have := hlt.1; omega) g1
      unfold matchO at g4
      rw [hs] at g4
      cases o <;> simp only at g4 <;> first | exact absurd rfl g3 | skip
      rename_i n2 ns2
      have hso : srcOf φ (nodeNo h j) = some (nodeNo id j) := by rw [srcOf_node j hlt.1, hs]
      split at g4
      · rename_i n ns ho
        obtain ⟨rfl, rfl⟩ := g4
        rw [mkE_own, mkE_β, headβ_of hso, hlkL.node j hlt.1 hoh]
        rw [hr.lk.node j hidD ho] at hn
        exact ⟨nodOf_isNod hn, rfl⟩
      · exact g4.elim
    · intro h id hs
      obtain ⟨o, g1, g2, g3⟩ := hkeep hs
      have g4 := hL g1
      have hβ : headβ φ e.β h = e.β id := hβlo hs rfl
      show ∃ (a a' : Nat) (js : List Nat), _ ∧ headOwn dfl L h = _ ∧ _
      rw [hown (hltP hs) g1]
      unfold matchO at g4
      rw [hs] at g4
      cases o <;> simp only at g4 <;> first | exact absurd rfl g3 | skip
      rename_i a2 js2
      generalize e.own id = q at *
      cases q <;> first | exact g4.elim | skip
      dsimp only at g4
      split at g4
      · subst g4
        exact ⟨_, _, _, rfl, rfl, hβ⟩
      · exact g4.elim
  have hun : ∀ {T : Nat} {x : A T} {vs : List Value}, RepL P u e (u.enc T x) vs → RepL P u (mkE O0 e.w (headOwn dfl L) (headβ φ e.β)) (u.enc T x) vs := fun hx => hx.unbare P u hclean (e := e) (e' := mkE O0 e.w (headOwn dfl L) (headβ φ e.β)) rfl hview.O (hclean _ _)
  refine ⟨⟨hr.below, hr.o0, ?_, fun _ => Iff.rfl, ?_, ?_, hlkL, hr.hn, hr.hlo, ?_⟩, hview⟩
  · intro h h' b c c' h1 h2 h3 h4 h5 h6
    obtain ⟨id, g1, g3, g4, g5, _⟩ := hsrc h1 h2 h5
    obtain ⟨id', k1, k3, k4, k5, _⟩ := hsrc h3 h4 h6
    have := hr.inj id id' b c c' g4 g5 k4 k5 g3 k3
    subst this
    exact hsinj g1 k1
  · intro h
    show EntOk P u _ _ _ (headOwn dfl L h)
    by_cases h1 : headOwn dfl L h = .free
    · rw [h1]; trivial
    · by_cases h2 : headOwn dfl L h = .dead
      · rw [h2]; trivial
      · rcases Nat.lt_or_ge h 1152921504606846976 with hlt | hge
        case inr =>
          obtain ⟨id, n, ns, g1, g2, g3, g4⟩ := harN hge h1
          have hso : srcOf φ h = some (nodeNo id (ndIx h)) := by
            have hq := srcOf_ge (φ := φ) hge
            rw [g1] at hq
            exact hq
          have hent := hr.ent (nodeNo id (ndIx h))
          rw [hr.lk.node (ndIx h) g4 g2] at hent
          have hown' : headOwn dfl L h = nodOf (ndId h) n ns (ndIx h) := by
            have hq := hlkL.node (ndIx h) (ndId_lt h) g3
            rw [nodeNo_of hge] at hq
            exact hq
          rw [hown']
          refine nod_ent P u (e' := mkE O0 e.w (headOwn dfl L) (headβ φ e.β)) hent (by rw [mkE_β, headβ_of hso]) rfl (fun cs vs hm hv => matchL_sound P u hu hclean hr hview hv hm) ?_
          unfold srcAr
          rw [g1]
          exact Nat.beq_refl _
        obtain ⟨o, g1, g2, g3⟩ := hlive hlt h1 h2
        rw [g2]
        have hrowOf : ∀ {T id : Nat} {xs ys : List (A T)}, (∀ b, headβ φ e.β h = b ↔ e.β id = b) → (e.own id = .row T xs ∨ e.own id = .fro T xs) → (∃ n, ys = xs.take n) → (ys = [] ∧ headβ φ e.β h = none) ∨ RowAt P u (mkE O0 e.w (headOwn dfl L) (headβ φ e.β)) w0.fr h T ys := by
          rintro T id xs ys hβ ho ⟨n, rfl⟩
          have hent := hr.ent id
          have hent : (xs = [] ∧ e.β id = none) ∨ RowAt P u e w0.fr id T xs := by rcases ho with ho | ho <;> rw [ho] at hent <;> exact hent
          rcases hent with ⟨rfl, h2⟩ | ⟨b, c, arr, T', fz, vss, k1, k2, k3, k3', k4, k5, k6⟩
          · exact .inl ⟨by simp, (hβ _).2 h2⟩
          · refine .inr ⟨b, c, arr, T', fz, vss, (hβ _).2 k1, k2, k3, k3', k4, by rw [List.length_take]; omega, fun i x hi => ?_⟩
            rw [List.getElem?_take] at hi
            split at hi
            · exact ⟨hun (k6 i x hi).1, (k6 i x hi).2⟩
            · cases hi
        have hβof : ∀ {s : Src} {id : Nat}, lookP φ h = some s → s.id? = some id → ∀ b, headβ φ e.β h = b ↔ e.β id = b := by
          intro s id hs hi b
          rw [hβlo hs hi]
        cases o with
        | free => trivial
        | dead => trivial
        | var c2 =>
          unfold matchO at g3
          simp only at g3
          split at g3
          · rename_i id hs
            split at g3
            · rename_i c ho
              have hent := hr.ent id
              rw [ho] at hent
              obtain ⟨b, cc, vs, T, k1, k2, k3, k4⟩ := hent
              exact ⟨b, cc, vs, T, (hβof hs rfl _).2 k1, k2, k3, matchL_sound P u hu hclean hr hview k4 g3⟩
            · exact g3.elim
          · exact g3.elim
        | row S ys =>
          unfold matchO at g3
          simp only at g3
          split at g3
          · rename_i id hs
            split at g3
            · rename_i T xs ho
              obtain ⟨hh, he⟩ := cast_eq g3
              subst hh
              have he : _ = _ := he
              subst he
              exact hrowOf (hβof hs rfl) (.inl ho) ⟨xs.length, by simp⟩
            · exact g3.elim
          · rename_i id len hs
            split at g3
            · rename_i T xs ho
              obtain ⟨hh, he⟩ := cast_eq g3
              subst hh
              have he : _ = _ := he
              subst he
              exact hrowOf (hβof hs rfl) (.inl ho) ⟨_, rfl⟩
            · exact g3.elim
          · rename_i hs
            subst g3
            exact .inl ⟨rfl, by show headβ φ e.β h = none; unfold headβ; rw [srcOf_lt hlt, hs]; rfl⟩
          · exact g3.elim
        | fro S ys =>
          unfold matchO at g3
          simp only at g3
          split at g3
          · rename_i id hs
            split at g3
            · rename_i T xs ho
              obtain ⟨hh, he⟩ := cast_eq g3
              subst hh
              have he : _ = _ := he
              subst he
              exact hrowOf (hβof hs rfl) (.inl ho) ⟨xs.length, by simp⟩
            · rename_i T xs ho
              obtain ⟨hh, he⟩ := cast_eq g3
              subst hh
              have he : _ = _ := he
              subst he
              exact hrowOf (hβof hs rfl) (.inr ho) ⟨xs.length, by simp⟩
            · exact g3.elim
          · exact g3.elim
        | rowC => exact g3.elim
        | nod => exact g3.elim
        | ar n ns =>
          obtain ⟨id, n', ns', k1, k2, k3, k4⟩ := harOf hlt (by rw [g2]; rfl)
          have hent := hr.ent id
          rw [k2] at hent
          exact (hβlo k1 rfl).trans hent
        | prow a2 js2 =>
          unfold matchO at g3
          simp only at g3
          split at g3
          · rename_i id hs
            split at g3
            · rename_i a js ho
              split at g3
              · rename_i hsa
                subst g3
                have hent := hr.ent id
                rw [ho] at hent
                obtain ⟨b, c, arr, T', fz, q1, q2, q3, q4, q5, q6, q7⟩ := hent
                refine ⟨b, c, arr, T', fz, (hβlo hs rfl).trans q1, q2, q3, q4, q5, q6, fun i j hj => ?_⟩
                obtain ⟨v, t1, t2⟩ := q7 i j hj
                refine ⟨v, t1, matchN_sound P u hr hview t2 ?_⟩
                show (if srcAr φ a2 a && Nat.beq 0 0 then some j = some j else False)
                rw [if_pos (by rw [hsa]; rfl)]
              · exact g3.elim
            · exact g3.elim
          · exact g3.elim
        | mp K V ys =>
          unfold matchO at g3
          simp only at g3
          split at g3
          · rename_i id hs
            split at g3
            · rename_i K' V' xs ho
              split at g3
              · rename_i hk
                have hk := of_decide_eq_true hk
                subst hk
                obtain ⟨hh, he⟩ := castM_eq g3
                subst hh
                have he : _ = _ := he
                subst he
                have hent := hr.ent id
                rw [ho] at hent
                obtain ⟨b, cc, clock, es, k1, k2, k3, k4, k5⟩ := hent
                refine ⟨b, cc, clock, es, (hβof hs rfl _).2 k1, k2, k3, k4, fun i p hp => ?_⟩
                obtain ⟨en, q1, q2, q3⟩ := k5 i p hp
                exact ⟨en, q1, q2, q3.unbare P u hclean (e := e) (e' := mkE O0 e.w (headOwn dfl L) (headβ φ e.β)) rfl hview.O (valS_clean P u hclean V' p.2)⟩
              · exact g3.elim
            · exact g3.elim
          · exact g3.elim
  · intro id p hp
    rcases hh id p hp with h | ⟨h1, s, h2, h3⟩
    · exact .inl h
    · by_cases hd2 : headOwn dfl L id = .dead
      · exact .inl hd2
      · refine .inr ⟨h1, ?_⟩
        show headβ φ e.β id = p
        have hβ : headβ φ e.β id = e.β id := hβlo h2 h3
        rw [hβ]
        rcases hr.hand id p hp with h | ⟨_, h⟩
        · exfalso
          obtain ⟨o, g1, g2, g3⟩ := hkeep h2
          have g4 := hL g1
          unfold matchO at g4
          rw [h2] at g4
          cases s <;> cases h3 <;> cases o <;> simp only [h] at g4 <;> exact g3 rfl
        · exact h
  · intro id j p hid hp
    have hs1 := hr.hn id j hid (by rw [hp]; rfl)
    obtain ⟨p', hp'⟩ := Option.isSome_iff_exists.1 hs1
    rcases hh id p' hp' with h | ⟨h1, s, h2, h3⟩
    · exact .inl h
    · obtain ⟨o, g1, g2, g3⟩ := hkeep h2
      have g4 := hL g1
      have hoh := hown (hltP h2) g1
      rcases hr.handN id j p hid hp with hq | ⟨q1, q2⟩
      · exfalso
        unfold matchO at g4
        rw [h2] at g4
        cases s <;> cases h3 <;> cases o <;> simp only [hq] at g4 <;> exact g3 rfl
      · have har : (e.own id).isAr = true := by
          by_cases har : (e.own id).isAr = true
          · exact har
          · exact absurd (hr.lk.noNode j hid (not_ar har)) q1
        have hn : (e.own (nodeNo id j)).isNod = true := hr.lk.hi_nod (nodeNo_ge id j) q1
        obtain ⟨n, ns, ho⟩ := isAr_eq har
        have hs : lookP φ id = some (.ar id) := by
          unfold matchO at g4
          rw [h2] at g4
          cases s <;> cases h3 <;> first | exact h2 | (exfalso; cases o <;> simp only [ho] at g4 <;> exact g3 rfl)
        obtain ⟨t1, t2⟩ := hview.ar id id hs j hn
        refine .inr ⟨fun hf => ?_, t2.trans q2⟩
        rw [hf] at t1
        cases t1
end
end Go.Proofs.Ytndacggailoogaa.Sx
