/- An abstract machine over values by content, third part: what one operation gives that leaves memory as it is, and that the machine gives the same. -/
import Derived.Test.YtndacggailoogaaSxB
import Derived.ChangeKeysEq
namespace Go.Proofs.Ytndacggailoogaa.Sx
open Go Go.RowKit

section
variable {A : Nat → Type} (P : Program) (u : U A)

def boolS : SV A → Option Bool
  | .bool b => some b
  | .lit b => some b
  | _ => none
def bitsI (op : BinOp) (k : IntKind) (a b : Int) : Int :=
  let x := BitVec.ofInt k.bits a
  let y := BitVec.ofInt k.bits b
  match op with
  | .and => k.wrap (x &&& y).toNat
  | .or => k.wrap (x ||| y).toNat
  | .xor => k.wrap (x ^^^ y).toNat
  | _ => k.wrap (x &&& ~~~y).toNat
def shl (k : IntKind) (a b : Int) : Int := k.wrap (a * 2 ^ (min b.toNat k.bits))
def shr (k : IntKind) (a b : Int) : Int := a.fdiv (2 ^ (min b.toNat k.bits))
def intS (op : BinOp) (k : IntKind) (a b : Int) : Option (Option Prop × SV A) :=
  match op with
  | .add => some (none, .int k (k.wrap (a + b)))
  | .sub => some (none, .int k (k.wrap (a - b)))
  | .mul => some (none, .int k (k.wrap (a * b)))
  | .rem => some (some (b ≠ 0), .int k (a.tmod b))
  | .quo => some (some (b ≠ 0), .int k (k.wrap (a.tdiv b)))
  | .and => some (none, .int k (bitsI .and k a b))
  | .or => some (none, .int k (bitsI .or k a b))
  | .xor => some (none, .int k (bitsI .xor k a b))
  | .andNot => some (none, .int k (bitsI .andNot k a b))
  | .shl => some (some (0 ≤ b), .int k (shl k a b))
  | .shr => some (some (0 ≤ b), .int k (shr k a b))
  | .eql => some (none, .bool (a == b))
  | .neq => some (none, .bool (a != b))
  | .lss => some (none, .bool (decide (a < b)))
  | .leq => some (none, .bool (decide (a ≤ b)))
  | .gtr => some (none, .bool (decide (a > b)))
  | .geq => some (none, .bool (decide (a ≥ b)))
def strS (op : BinOp) (x y : ByteArray) : Option (Option Prop × SV A) :=
  match op with
  | .add => some (some (x.size + y.size ≤ 4611686018427387904), .str (x ++ y))
  | .eql => some (none, .bool (x.toList == y.toList))
  | .neq => some (none, .bool (!(x.toList == y.toList)))
  | _ => none
def kindEq (k l : IntKind) : Bool := decide (k = l)
def isShift : BinOp → Bool
  | .shl | .shr => true
  | _ => false
def eqB (op : BinOp) (r : Bool) : Option (Option Prop × SV A) :=
  match op with
  | .eql => some (none, .bool r)
  | .neq => some (none, .bool (!r))
  | _ => none
/-- The same, known already. -/
def eqL (op : BinOp) (r : Bool) : Option (Option Prop × SV A) :=
  match op with
  | .eql => some (none, .lit r)
  | .neq => some (none, .lit (!r))
  | _ => none
def sub (xs : List (SV A)) (o n : Nat) : List (SV A) := (xs.drop o).take n
/-- The cells of a part, if these are as many as its type has. -/
def subT (t : TypeId) (xs : List (SV A)) (o : Nat) : Option (List (SV A)) :=
  if (sub xs o (P.cellsOf t)).length = P.cellsOf t then (match aggT P t with
    | some true => some (sub xs o (P.cellsOf t))
    | some false => if P.cellsOf t = 1 then some (sub xs o (P.cellsOf t)) else none
    | none => none) else none
def andO : Option Bool → Option Bool → Option Bool
  | some a, some b => some (a && b)
  | _, _ => none
/-- '==' at a type, of the cells of two values. -/
def eqT : Nat → TypeId → List (SV A) → List (SV A) → Option Bool
  | 0, _, _, _ => none
  | d + 1, t, xs, ys => match P.underlying t with
    | some (.int _) => match xs, ys with
      | [.int k a], [.int l b] => if kindEq k l then some (a == b) else none
      | _, _ => none
    | some .bool => match xs, ys with
      | [x], [y] => match boolS x, boolS y with
        | some a, some b => some (a == b)
        | _, _ => none
      | _, _ => none
    | some .string => match xs, ys with
      | [.str a], [.str b] => some (a.toList == b.toList)
      | _, _ => none
    | some (.struct fs) => if P.stoodInHeld t then none else
        fs.toList.foldr (fun f acc => if f.name == "_" then acc else match subT P f.type xs f.offset, subT P f.type ys f.offset with
          | some a, some b => andO (eqT d f.type a b) acc
          | _, _ => none) (some true)
    | some (.array n e) => if (P.info? e).isNone then none else (List.range n).foldr (fun i acc => match subT P e xs (i * P.cellsOf e), subT P e ys (i * P.cellsOf e) with
          | some a, some b => andO (eqT d e a b) acc
          | _, _ => none) (some true)
    | _ => none
def isBoolT (t : TypeId) : Bool := match P.underlying t with | some .bool => true | _ => false
def isPtrT (t : TypeId) : Bool := match P.underlying t with | some (.pointer _) => true | _ => false
def isNil : SV A → Option Bool
  | .nilp => some true
  | .optr _ _ => some false
  | .cptr _ _ => some false
  | .rptr _ _ _ => some false
  | _ => none
def live (own : Nat → Own A) (x : SV A) : Bool := match x with
  | .optr id _ => (own id).isVar
  | .vsl id _ _ => (own id).isVar
  | .cptr _ _ => true
  | .rptr id _ _ => match own id with | .row _ _ => true | .fro _ _ => true | _ => false
  | .osl id _ _ => match own id with | .row _ _ => true | .fro _ _ => true | _ => false
  | .esl id _ _ _ _ _ => match own id with | .row _ _ => true | .fro _ _ => true | _ => false
  | .bptr id _ _ _ _ => match own id with | .row _ _ => true | .fro _ _ => true | _ => false
  | .omap id => match own id with | .mp _ _ _ => true | _ => false
  | .cx id _ _ => match own id with | .rowC _ _ _ _ => true | _ => false
  | .orow id => match own id with | .row _ _ => true | .fro _ _ => true | _ => false
  | .csl _ _ => true
  | _ => false
/-- The cells of a struct or an array. -/
def aggC : SV A → Option (List (SV A))
  | .agg l => some l
  | .el T x => some (u.enc T x)
  | _ => none
def elEq (t : TypeId) : SV A → SV A → Option Bool
  | .el T a, .el S b => if h : S = T then (if Nat.beq T t then (match u.eqv T with
    | some f => some (f a (h ▸ b))
    | none => none) else none) else none
  | _, _ => none
/-- '==' of structs or arrays. -/
def aggEq (t : TypeId) (x y : SV A) : Option Bool := match elEq u t x y with
  | some r => some r
  | none => match aggC u x, aggC u y with
    | some xs, some ys => eqT P 8 t xs ys
    | _, _ => none
def ptrE (lx ly : Bool) (x y : SV A) : Option Bool := match x with
  | .nilp => (match y with
    | .nilp => some true
    | y => if ly then isNil y else none)
  | x => (match y with
    | .nilp => if lx then isNil x else none
    | _ => none)
def ptrEq (own : Nat → Own A) (t : TypeId) (x y : SV A) : Option Bool := if isPtrT P t then ptrE (live own x) (live own y) x y else none
def isSliceT (t : TypeId) : Bool := match P.underlying t with | some (.slice _) => true | _ => false
def sliceE (x y : SV A) : Option Bool := match x with
  | .nsl q _ _ => (match y with
    | .nils => some q
    | _ => none)
  | _ => none
def sliceEq (t : TypeId) (x y : SV A) : Option Bool := if isSliceT P t then sliceE x y else none
def binL (op : BinOp) : SV A → SV A → Option (Option (Option Prop × SV A))
  | .int k a, .int l b => some (if isShift op || kindEq k l then intS op k a b else none)
  | .str a, .str b => some (strS op a b)
  | _, _ => none
def binD (own : Nat → Own A) (op : BinOp) (t : TypeId) (x y : SV A) : Option (Option Prop × SV A) := match aggEq P u t x y with
  | some r => if P.eqGuardType P.depth t then none else (if isAggB P t then eqB op r else none)
  | none => match boolS x, boolS y with
    | some a, some b => if isBoolT P t then eqB op (a == b) else none
    | _, _ => match ptrEq P own t x y with
      | some r => eqL op r
      | none => match sliceEq P t x y with
        | some r => eqB op r
        | none => none
def bin1 (own : Nat → Own A) (op : BinOp) (t : TypeId) (x y : SV A) : Option (Option Prop × SV A) := match binL op x y with
  | some r => r
  | none => binD P u own op t x y
def holds : Option Prop → Prop
  | none => True
  | some c => c

theorem bin_int {op : BinOp} {t : TypeId} {k l : IntKind} {a b : Int} {c : Option Prop} {y : SV A} (e : E A) (x' y' : Operand) (h : bin1 (A := A) P u e.own op t (.int k a) (.int l b) = some (c, y)) (hc : holds c) :
    ∃ r, (do eqGuard op t x' y' (.int k a) (.int l b); binOp op t (.int k a) (.int l b) : Sem Value).run P e.w = .ok r e.w ∧ RepL P u e [y] [r] := by
  simp only [bin1, binL, Bool.or_eq_true, kindEq, decide_eq_true_eq] at h
  split at h
  · rename_i hk
    cases op <;> simp only [intS, Option.some.injEq, Prod.mk.injEq] at h <;> obtain ⟨rfl, rfl⟩ := h
    case shl =>
      have hb : ¬ b < 0 := by have : 0 ≤ b := hc; omega
      exact ⟨_, by simp [eqGuard_shl, binOp_shl, Op.shift, hb]; rfl, .int _ _ .nil⟩
    case shr =>
      have hb : ¬ b < 0 := by have : 0 ≤ b := hc; omega
      exact ⟨_, by simp [eqGuard_shr, binOp_shr, Op.shift, hb]; rfl, .int _ _ .nil⟩
    all_goals
      obtain rfl : k = l := hk.elim (fun h => absurd h (by decide)) id
    case rem =>
      have hb : ¬ b = 0 := hc
      exact ⟨_, by simp [eqGuard_rem, binOp_rem, Op.intDiv, hb], .int _ _ .nil⟩
    case quo =>
      have hb : ¬ b = 0 := hc
      exact ⟨_, by simp [eqGuard_quo, binOp_quo, Op.intDiv, hb], .int _ _ .nil⟩
    case add => exact ⟨_, by rw [eqGuard_add, binOp_add]; rfl, .int _ _ .nil⟩
    case sub => exact ⟨_, by rw [eqGuard_sub, binOp_sub]; rfl, .int _ _ .nil⟩
    case mul => exact ⟨_, by rw [eqGuard_mul, binOp_mul]; rfl, .int _ _ .nil⟩
    case and => exact ⟨_, by rw [eqGuard_and, binOp_and]; rfl, .int _ _ .nil⟩
    case or => exact ⟨_, by rw [eqGuard_or, binOp_or]; rfl, .int _ _ .nil⟩
    case xor => exact ⟨_, by rw [eqGuard_xor, binOp_xor]; rfl, .int _ _ .nil⟩
    case andNot => exact ⟨_, by rw [eqGuard_andNot, binOp_andNot]; rfl, .int _ _ .nil⟩
    case eql => exact ⟨_, by rw [eqGuard_at_int, binOp_eql]; rfl, .bool _ .nil⟩
    case neq => exact ⟨_, by rw [eqGuard_at_int, binOp_neq]; rfl, .bool _ .nil⟩
    case lss => exact ⟨_, by rw [eqGuard_at_int, binOp_lss]; rfl, .bool _ .nil⟩
    case leq => exact ⟨_, by rw [eqGuard_at_int, binOp_leq]; rfl, .bool _ .nil⟩
    case gtr => exact ⟨_, by rw [eqGuard_at_int, binOp_gtr]; rfl, .bool _ .nil⟩
    case geq => exact ⟨_, by rw [eqGuard_at_int, binOp_geq]; rfl, .bool _ .nil⟩
  · cases h


theorem bool_inv {e : E A} {x : SV A} {v : Value} {b : Bool} (hx : RepL P u e [x] [v]) (h : boolS x = some b) : v = .bool b := by
  unfold boolS at h
  split at h <;> cases h <;> cases hx <;> rfl
/-- A value of a type, and its cells. -/
def Fit (t : TypeId) (v : Value) (vs : List Value) : Prop := (aggT P t = some true ∧ v = .agg ⟨vs⟩) ∨ (aggT P t = some false ∧ vs = [v])
/-- A part of a value's cells. -/
theorem run_part {e : E A} {t : TypeId} {xs l : List (SV A)} {vs : List Value} (o : Nat) (hr : RepL P u e xs vs) (h : subT P t xs o = some l) :
    ∃ v ws, (part t ⟨vs⟩ o).run P e.w = .ok v e.w ∧ Fit P t v ws ∧ RepL P u e l ws := by
  have hs := (hr.drop P u o).take P u (P.cellsOf t)
  unfold subT at h
  split at h
  · rename_i hl
    split at h
    · rename_i ha
      cases h
      refine ⟨.agg ⟨(vs.drop o).take (P.cellsOf t)⟩, _, ?_, .inl ⟨ha, rfl⟩, hs⟩
      simp only [part, Sem.run_bind, run_isAgg P ha, Result.andThen, if_true, run_sizeOf P (t := t) (by rw [ha]; simp)]
      simp [List.extract_eq_drop_take', List.extract_eq_take_drop]
    · rename_i ha
      split at h
      · rename_i hn
        cases h
        rw [hn] at hl
        have hlen : ((vs.drop o).take 1).length = 1 := by
          rw [hn] at hs
          rw [← hs.length]
          exact hl
        match hv : (vs.drop o).take 1, hlen with
        | [v], _ =>
          refine ⟨v, [v], ?_, .inr ⟨ha, rfl⟩, by rw [hn] at hs ⊢; rw [← hv]; exact hs⟩
          have hg : vs[o]? = some v := by
            have : ((vs.drop o).take 1)[0]? = some v := by rw [hv]; rfl
            simpa [List.getElem?_take, List.getElem?_drop] using this
          simp [part, run_isAgg P ha, hg]
      · cases h
    · cases h
  · cases h

theorem eqT_sound {e : E A} : ∀ (d D : Nat) (t : TypeId) (xs ys : List (SV A)) (vs ws : List Value) (v w : Value) (r : Bool), eqT P d t xs ys = some r → RepL P u e xs vs → RepL P u e ys ws → Fit P t v vs → Fit P t w ws →
    (Op.equalIn (d + D) t v w).run P e.w = .ok r e.w := by
  intro d
  induction d with
  | zero => intro D t xs ys vs ws v w r h; cases h
  | succ d ih =>
    intro D t xs ys vs ws v w r h hx hy fv fw
    rw [show d + 1 + D = (d + D) + 1 by omega]
    have hsc : ∀ {dd}, P.underlying t = some dd → (∀ fs, dd ≠ .struct fs) → (∀ n e, dd ≠ .array n e) → vs = [v] ∧ ws = [w] := by
      intro dd hu h1 h2
      have ha : aggT P t = some false := by
        unfold aggT; rw [hu]
        cases dd <;> first | rfl | exact absurd rfl (h1 _) | exact absurd rfl (h2 _ _)
      rcases fv with ⟨h3, _⟩ | ⟨_, hv⟩
      · rw [ha] at h3; cases h3
      · rcases fw with ⟨h3, _⟩ | ⟨_, hw⟩
        · rw [ha] at h3; cases h3
        · exact ⟨hv, hw⟩
    simp only [eqT] at h
    split at h
    · rename_i k hu
      obtain ⟨rfl, rfl⟩ := hsc hu (by simp) (by simp)
      split at h
      · split at h
        · rename_i hk
          cases h
          simp only [kindEq, decide_eq_true_eq] at hk
          subst hk
          cases hx; cases hy
          exact run_equalIn_int _ _ _ _ _ _ _ hu
        · cases h
      · cases h
    · rename_i hu
      obtain ⟨rfl, rfl⟩ := hsc hu (by simp) (by simp)
      split at h
      · split at h
        · rename_i h1 h2
          cases h
          rw [bool_inv P u hx h1, bool_inv P u hy h2]
          exact run_equalIn_bool _ _ _ _ _ hu
        · cases h
      · cases h
    · rename_i hu
      obtain ⟨rfl, rfl⟩ := hsc hu (by simp) (by simp)
      split at h
      · cases h
        cases hx; cases hy
        exact run_equalIn_string _ _ _ _ _ hu
      · cases h
    · rename_i fs hu
      have ha : aggT P t = some true := by unfold aggT; rw [hu]
      split at h
      · cases h
      · rename_i hst
        rcases fv with ⟨_, rfl⟩ | ⟨h3, _⟩
        · rcases fw with ⟨_, rfl⟩ | ⟨h3, _⟩
          · have hf : P.fieldsOf t = fs := by simp [Program.fieldsOf, hu]
            rw [run_equalIn_struct (P := P) e.w (d + D) t ⟨vs⟩ ⟨ws⟩ (by rw [hf]; exact hu) (by simpa using hst), hf]
            generalize fs.toList = l at h
            induction l generalizing r with
            | nil => simp only [List.foldr_nil, Option.some.injEq] at h; subst h; simp [Op.eqFields]
            | cons f l ihl =>
              simp only [List.foldr_cons] at h
              split at h
              · rename_i hn
                have hn' : ¬ (f.name ≠ "_") := by simpa using hn
                rw [Op.eqFields, if_neg hn']
                exact ihl _ h
              · rename_i hn
                have hn' : f.name ≠ "_" := by simpa using hn
                split at h
                · rename_i a b ha' hb'
                  obtain ⟨va, wa, p1, f1, r1⟩ := run_part P u f.offset hx ha'
                  obtain ⟨vb, wb, p2, f2, r2⟩ := run_part P u f.offset hy hb'
                  unfold andO at h
                  split at h
                  · rename_i q q' hq hq'
                    cases h
                    have hrest := ihl _ hq'
                    have hone := ih D f.type a b wa wb va vb q hq r1 r2 f1 f2
                    simp only [Op.eqFields, if_pos hn', Sem.run_bind, p1, p2, hone, Result.andThen_ok]
                    cases q
                    · simp
                    · simpa using hrest
                  · cases h
                · cases h
          · rw [ha] at h3; cases h3
        · rw [ha] at h3; cases h3
    · rename_i n el hu
      have ha : aggT P t = some true := by unfold aggT; rw [hu]
      rcases fv with ⟨_, rfl⟩ | ⟨h3, _⟩
      · rcases fw with ⟨_, rfl⟩ | ⟨h3, _⟩
        · split at h
          · cases h
          · rename_i hin
            cases hi : P.info? el with
            | none => exact absurd (by rw [hi]; rfl) hin
            | some i =>
              rw [run_equalIn_array e.w (d + D) _ _ hu hi]
              generalize List.range n = l at h
              induction l generalizing r with
              | nil => simp only [List.foldr_nil, Option.some.injEq] at h; subst h; simp [Op.eqItems]
              | cons k l ihl =>
                simp only [List.foldr_cons] at h
                split at h
                · rename_i a b ha' hb'
                  obtain ⟨va, wa, p1, f1, r1⟩ := run_part P u _ hx ha'
                  obtain ⟨vb, wb, p2, f2, r2⟩ := run_part P u _ hy hb'
                  unfold andO at h
                  split at h
                  · rename_i q q' hq hq'
                    cases h
                    have hrest := ihl _ hq'
                    have hone := ih D el a b wa wb va vb q hq r1 r2 f1 f2
                    simp only [Op.eqItems, Sem.run_bind, p1, p2, hone, Result.andThen_ok]
                    cases q
                    · simp
                    · simpa using hrest
                  · cases h
                · cases h
        · rw [ha] at h3; cases h3
      · rw [ha] at h3; cases h3
    · cases h

theorem eqB_sound {e : E A} {op : BinOp} {b : Bool} {c : Option Prop} {y : SV A} {v : Value} (h : eqB op b = some (c, y)) (hv : (op = .eql ∧ v = .bool b) ∨ (op = .neq ∧ v = .bool (!b))) : RepL P u e [y] [v] := by
  rcases hv with ⟨rfl, rfl⟩ | ⟨rfl, rfl⟩ <;> simp only [eqB, Option.some.injEq, Prod.mk.injEq] at h <;> obtain ⟨_, rfl⟩ := h <;> exact .bool _ .nil
theorem eqL_sound {e : E A} {op : BinOp} {b : Bool} {c : Option Prop} {y : SV A} {v : Value} (h : eqL op b = some (c, y)) (hv : (op = .eql ∧ v = .bool b) ∨ (op = .neq ∧ v = .bool (!b))) : RepL P u e [y] [v] := by
  rcases hv with ⟨rfl, rfl⟩ | ⟨rfl, rfl⟩ <;> simp only [eqL, Option.some.injEq, Prod.mk.injEq] at h <;> obtain ⟨_, rfl⟩ := h <;> exact .lit _ .nil
theorem eqL_op {op : BinOp} {b : Bool} {r : Option Prop × SV A} (h : eqL op b = some r) : op = .eql ∨ op = .neq := by
  cases op <;> simp [eqL] at h <;> simp
theorem eqB_op {op : BinOp} {b : Bool} {r : Option Prop × SV A} (h : eqB op b = some r) : op = .eql ∨ op = .neq := by
  cases op <;> simp [eqB] at h <;> simp
theorem aggC_rep {e : E A} {x : SV A} {v : Value} {l : List (SV A)} (hx : RepL P u e [x] [v]) (h : aggC u x = some l) : ∃ cs : List Value, v = .agg ⟨cs⟩ ∧ RepL P u e l cs := by
  unfold aggC at h
  split at h
  · cases h; cases hx with
    | agg _ cs hl _ => exact ⟨cs, rfl, hl⟩
  · cases h; cases hx with
    | el _ _ cs hl _ => exact ⟨cs, rfl, hl⟩
  · cases h
/-- How '==' of elements as a whole is told. -/
def EqvOk : Prop := ∀ T f (x y : A T), u.eqv T = some f → eqT P 8 T (u.enc T x) (u.enc T y) = some (f x y)
theorem aggEq_agg {heqv : EqvOk P u} {t : TypeId} {x y : SV A} {r : Bool} (h : aggEq P u t x y = some r) : ∃ xs ys, aggC u x = some xs ∧ aggC u y = some ys ∧ eqT P 8 t xs ys = some r := by
  unfold aggEq at h
  split at h
  · rename_i r' hr
    cases h
    unfold elEq at hr
    split at hr
    · rename_i T a S b
      split at hr
      · rename_i hh
        subst hh
        split at hr
        · rename_i hb
          have hb := Nat.eq_of_beq_eq_true hb
          subst hb
          split at hr
          · rename_i f hf
            cases hr
            exact ⟨_, _, rfl, rfl, heqv _ f a b hf⟩
          · cases hr
        · cases hr
      · cases hr
    · cases hr
  · split at h
    · rename_i xs ys h1 h2
      exact ⟨xs, ys, h1, h2, h⟩
    · cases h
theorem ptr_of {e : E A} {x : SV A} {v : Value} {b : Bool} (hx : RepL P u e [x] [v]) (hl : live e.own x = true) (h : isNil x = some b) : b = false ∧ ∃ a, v = .pointer (some a) := by
  cases x with
  | optr id off =>
    cases h
    cases hx with
    | optr _ _ b c hv hβ _ => exact ⟨rfl, _, rfl⟩
    | optrD _ _ _ hd _ _ => simp [live, hd, Own.isVar] at hl
  | cptr cs off =>
    cases h
    cases hx with
    | cptr _ _ b o cv _ _ _ _ _ => exact ⟨rfl, _, rfl⟩
  | rptr id idx off =>
    cases h
    cases hx with
    | rptr _ _ _ b c T ys hv hβ hi _ => exact ⟨rfl, _, rfl⟩
    | rptrD _ _ _ _ hd _ _ => simp [live, hd] at hl
  | _ => first | (simp [isNil] at h; done) | (simp [live] at hl; done)
theorem run_eqPtr {w : World} (d : Nat) (t pt : TypeId) (a b : Option Addr) (hu : P.underlying t = some (.pointer pt)) (hab : a = none ∨ b = none) : (Op.equalIn (d + 1) t (.pointer a) (.pointer b)).run P w = .ok (a.isNone && b.isNone) w := by
  cases a <;> cases b <;> first | (simp [Op.equalIn, run_underlying hu]; done) | (exfalso; rcases hab with h | h <;> cases h)
theorem run_eqSl {w : World} (d : Nat) (t el : TypeId) (a : Option Addr) (n c : Nat) (hu : P.underlying t = some (.slice el)) : (Op.equalIn (d + 1) t (.slice a n c) (.slice none 0 0)).run P w = .ok a.isNone w := by
  cases a <;> simp [Op.equalIn, run_underlying hu]
theorem bin1_sound (heqv : EqvOk P u) {op : BinOp} {t : TypeId} {x z y : SV A} {c : Option Prop} {vx vz : Value} {e : E A} (x' y' : Operand) (hx : RepL P u e [x] [vx]) (hz : RepL P u e [z] [vz])
    (h : bin1 P u e.own op t x z = some (c, y)) (hc : holds c) :
    ∃ r, (do eqGuard op t x' y' vx vz; binOp op t vx vz : Sem Value).run P e.w = .ok r e.w ∧ RepL P u e [y] [r] := by
  unfold bin1 at h
  split at h
  · rename_i r0 hr0
    unfold binL at hr0
    split at hr0
    · rename_i k a l b
      have h' : bin1 (A := A) P u e.own op t (.int k a) (.int l b) = some (c, y) := by
        simp only [Option.some.injEq] at hr0
        unfold bin1 binL
        simp only
        rw [hr0]; exact h
      cases hx; cases hz
      exact bin_int P u e x' y' h' hc
    · rename_i a b
      simp only [Option.some.injEq] at hr0
      rw [← hr0] at h
      clear hr0
      cases hx; cases hz
      cases op <;> simp only [strS, Option.some.injEq, Prod.mk.injEq, reduceCtorEq] at h <;> obtain ⟨rfl, rfl⟩ := h
      · have hle : ¬ ((a.size + b.size : Nat) : Int) > IntKind.i64.max := by
          have h0 : a.size + b.size ≤ 4611686018427387904 := hc
          have h1 : IntKind.i64.max = 9223372036854775807 := by decide
          rw [h1]; omega
        refine ⟨_, ?_, .str _ .nil⟩
        rw [eqGuard_add]
        simp only [binOp, Op.stringOp, if_neg hle]
        rfl
      · exact ⟨_, by rw [eqGuard_at_string, binOp_string_eql]; rfl, .bool _ .nil⟩
      · refine ⟨_, ?_, .bool _ .nil⟩
        rw [eqGuard_at_string]
        simp only [binOp, Op.stringOp]
        rfl
    · cases hr0
  · unfold binD at h
    split at h
    · rename_i r hr
      obtain ⟨xs, ys, hxs, hys, hr⟩ := aggEq_agg P u (heqv := heqv) hr
      split at h
      · cases h
      · rename_i hg
        split at h
        · rename_i ha
          have ha := isAggB_eq P ha
          obtain ⟨vs, rfl, hx'⟩ := aggC_rep P u hx hxs
          obtain ⟨ws, rfl, hz'⟩ := aggC_rep P u hz hys
          have heq := eqT_sound P u 8 9992 t xs ys vs ws _ _ r hr hx' hz' (.inl ⟨ha, rfl⟩) (.inl ⟨ha, rfl⟩)
          have hgr : (eqGuard op t x' y' (.agg ⟨vs⟩) (.agg ⟨ws⟩)).run P e.w = .ok () e.w := run_eqGuard_agg _ _ _ _ _ _ _ (by simpa using hg)
          rcases eqB_op h with rfl | rfl
          · refine ⟨.bool r, ?_, eqB_sound P u h (.inl ⟨rfl, rfl⟩)⟩
            rw [Sem.run_bind, hgr]
            simp only [Result.andThen]
            rw [run_eql_struct, heq]
            rfl
          · refine ⟨.bool (!r), ?_, eqB_sound P u h (.inr ⟨rfl, rfl⟩)⟩
            rw [Sem.run_bind, hgr]
            simp only [Result.andThen]
            rw [run_neq_struct, heq]
            rfl
        · cases h
    · split at h
      · rename_i h1 h2
        split at h
        · rename_i hb
          rw [bool_inv P u hx h1, bool_inv P u hz h2]
          have hu : P.underlying t = some .bool := by
            unfold isBoolT at hb
            split at hb
            · assumption
            · cases hb
          rcases eqB_op h with rfl | rfl
          · exact ⟨_, by rw [eqGuard_at_bool, Sem.run_bind, Sem.run_pure]; exact run_eql_bool _ _ _ _ hu, eqB_sound P u h (.inl ⟨rfl, rfl⟩)⟩
          · exact ⟨_, by rw [eqGuard_at_bool, Sem.run_bind, Sem.run_pure]; exact run_neq_bool _ _ _ _ hu, eqB_sound P u h (.inr ⟨rfl, rfl⟩)⟩
        · cases h
      · split at h
        · rename_i r hr
          have key : ∃ (pt : Nat) (a : Option Addr) (b : Option Addr), P.underlying t = some (.pointer pt) ∧ vx = .pointer a ∧ vz = .pointer b ∧ (a = none ∨ b = none) ∧ r = (a.isNone && b.isNone) := by
            unfold ptrEq at hr
            split at hr
            case isFalse => cases hr
            rename_i hp
            unfold ptrE at hr
            obtain ⟨pt, hu⟩ : ∃ pt, P.underlying t = some (.pointer pt) := by
              unfold isPtrT at hp
              split at hp
              · rename_i e he; exact ⟨_, he⟩
              · cases hp
            split at hr
            · cases hx
              split at hr
              · cases hz; cases hr
                exact ⟨pt, none, none, hu, rfl, rfl, .inl rfl, rfl⟩
              · split at hr
                · rename_i hl
                  obtain ⟨rfl, a, rfl⟩ := ptr_of P u hz hl hr
                  exact ⟨pt, none, some a, hu, rfl, rfl, .inl rfl, rfl⟩
                · cases hr
            · split at hr
              · cases hz
                split at hr
                · rename_i hl
                  obtain ⟨rfl, a, rfl⟩ := ptr_of P u hx hl hr
                  exact ⟨pt, some a, none, hu, rfl, rfl, .inr rfl, rfl⟩
                · cases hr
              · cases hr
          obtain ⟨pt, a, b, hu, rfl, rfl, hab, rfl⟩ := key
          have heq : (Op.equal t (.pointer a) (.pointer b)).run P e.w = .ok (a.isNone && b.isNone) e.w := run_eqPtr P 9999 t pt a b hu hab
          rcases eqL_op h with rfl | rfl
          · refine ⟨.bool (a.isNone && b.isNone), ?_, eqL_sound P u h (.inl ⟨rfl, rfl⟩)⟩
            simp only [eqGuard, binOp, Sem.run_bind, Sem.run_pure, Result.andThen]
            simp [heq]
          · refine ⟨.bool (!(a.isNone && b.isNone)), ?_, eqL_sound P u h (.inr ⟨rfl, rfl⟩)⟩
            simp only [eqGuard, binOp, Sem.run_bind, Sem.run_pure, Result.andThen]
            simp [heq]
        · split at h
          · rename_i r hr
            have key : ∃ (el : Nat) (a : Option Addr) (len cap : Nat), P.underlying t = some (.slice el) ∧ vx = .slice a len cap ∧ vz = .slice none 0 0 ∧ r = a.isNone := by
              unfold sliceEq at hr
              split at hr
              case isFalse => cases hr
              rename_i hp
              obtain ⟨el, hu⟩ : ∃ el, P.underlying t = some (.slice el) := by
                unfold isSliceT at hp
                split at hp
                · rename_i e he; exact ⟨_, he⟩
                · cases hp
              unfold sliceE at hr
              split at hr
              · split at hr
                · cases hr
                  cases hz
                  cases hx with
                  | nsl _ _ _ a len cap vss hl hc hm hz hx hq _ => exact ⟨el, a, len, cap, hu, rfl, rfl, hq.symm⟩
                · cases hr
              · cases hr
            obtain ⟨el, a, len, cap, hu, rfl, rfl, rfl⟩ := key
            have heq : (Op.equal t (.slice a len cap) (.slice none 0 0)).run P e.w = .ok a.isNone e.w := run_eqSl P 9999 t el a len cap hu
            rcases eqB_op h with rfl | rfl
            · refine ⟨.bool a.isNone, ?_, eqB_sound P u h (.inl ⟨rfl, rfl⟩)⟩
              simp only [eqGuard, binOp, Sem.run_bind, Sem.run_pure, Result.andThen]
              simp [heq]
            · refine ⟨.bool (!a.isNone), ?_, eqB_sound P u h (.inr ⟨rfl, rfl⟩)⟩
              simp only [eqGuard, binOp, Sem.run_bind, Sem.run_pure, Result.andThen]
              simp [heq]
          · cases h
/-! ### arrays that lie as rows -/
theorem repL_of {e : E A} : ∀ {xs : List (SV A)} {vs : List Value}, xs.length = vs.length → (∀ (i : Nat) (x : SV A) (v : Value), xs[i]? = some x → vs[i]? = some v → RepL P u e [x] [v]) → RepL P u e xs vs
  | [], [], _, _ => .nil
  | [], _ :: _, h, _ => by simp at h
  | _ :: _, [], h, _ => by simp at h
  | x :: xs, v :: vs, h, k => (k 0 x v rfl rfl).cons P u (repL_of (by simpa using h) fun i x v h1 h2 => k (i + 1) x v (by simpa using h1) (by simpa using h2))
theorem repL_at {e : E A} : ∀ {xs : List (SV A)} {vs : List Value} {i : Nat} {x : SV A} {v : Value}, RepL P u e xs vs → xs[i]? = some x → vs[i]? = some v → RepL P u e [x] [v]
  | [], _, _, _, _, _, h, _ => by simp at h
  | x :: xs, vs, 0, y, v, hr, h1, h2 => by
    obtain ⟨w, ws, rfl, g1, g2⟩ := hr.split P u
    cases h1; cases h2
    exact g1
  | x :: xs, vs, i + 1, y, v, hr, h1, h2 => by
    obtain ⟨w, ws, rfl, g1, g2⟩ := hr.split P u
    exact repL_at g2 (by simpa using h1) (by simpa using h2)
/-- What a part of an element is. -/
structure PartIs {T S : Nat} (off : Nat) (p : PartU A T S) : Prop where
  one : P.cellsOf S = 1
  fits : off + p.n ≤ P.cellsOf T
  len : ∀ x, (u.enc T x).length = P.cellsOf T
  getLen : ∀ x, (p.get x).length = p.n
  get : ∀ x (i : Nat) y, (p.get x)[i]? = some y → ∃ c, (u.enc T x)[off + i]? = some c ∧ u.enc S y = [c]
  put : ∀ x l, l.length = p.n → ∀ (i : Nat) y, l[i]? = some y → ∃ c, (u.enc T (p.put x l))[off + i]? = some c ∧ u.enc S y = [c]
  rest : ∀ x l, l.length = p.n → ∀ k : Nat, (k < off ∨ off + p.n ≤ k) → (u.enc T (p.put x l))[k]? = (u.enc T x)[k]?
def PartOk : Prop := ∀ T off S (p : PartU A T S), u.part T off S = some p → PartIs P u off p
def ArrOk : Prop := ∀ t S, u.arr t = some S → aggT P t = some true ∧ aggT P S = some false ∧ 0 < P.cellsOf t ∧ ∃ p, u.part t 0 S = some p ∧ p.n = P.cellsOf t
/-- An array out of a row's elements. -/
def arrOf (S t idx : Nat) (xs : List (A S)) : Option (Option Prop × SV A) := match u.part t 0 S with
  | some p => some (some (idx + p.n ≤ xs.length), .el t (p.put (u.dflt t) ((xs.drop idx).take p.n)))
  | none => none
def isArr (t S : Nat) : Bool := match u.arr t with
  | some S' => Nat.beq S' S
  | none => false
theorem isArr_eq {t S : Nat} (h : isArr u t S = true) : u.arr t = some S := by
  unfold isArr at h
  split at h
  · rename_i S' hs
    rw [hs, Nat.eq_of_beq_eq_true h]
  · cases h
/-- A cell of a part of an element. -/
def cellP {R S : Nat} (p : Option (PartU A R S)) (x : A R) (i : Nat) : Option (Option Prop × SV A) := match p with
  | some p => (match u.enc S ((p.get x).getD i (u.dflt S)) with
    | [c] => some (none, c)
    | _ => none)
  | none => none
def isBp (S t : Nat) : Bool := Nat.beq S t && (match aggT P t with | some false => true | _ => false)
theorem isBp_eq {S t : Nat} (h : isBp P S t = true) : S = t ∧ aggT P t = some false := by
  unfold isBp at h
  rw [Bool.and_eq_true] at h
  refine ⟨Nat.eq_of_beq_eq_true h.1, ?_⟩
  have := h.2
  split at this
  · assumption
  · cases this
def loadA (own : Nat → Own A) (t : TypeId) : SV A → Option (Option Prop × SV A)
  | .rptr id idx off => match own id with
    | .row S xs => if isArr u t S && Nat.beq off 0 then arrOf u S t idx xs else none
    | .fro S xs => if isArr u t S && Nat.beq off 0 then arrOf u S t idx xs else none
    | _ => none
  | .bptr id idx off S i => if isBp P S t then (match own id with
    | .row R xs => cellP u (u.part R off S) (xs.getD idx (u.dflt R)) i
    | .fro R xs => cellP u (u.part R off S) (xs.getD idx (u.dflt R)) i
    | _ => none) else none
  | _ => none
theorem loadB_sound (hpart : PartOk P u) {w0 : W0} {O0 : Nat → Prop} {e : E A} {t id idx off S i : Nat} {y : SV A} {v : Value} {c : Option Prop} {R : Nat} {xs : List (A R)} (hr : HR P u w0 O0 e) (hx : RepL P u e [.bptr id idx off S i] [v]) (hS : S = t) (ha : aggT P t = some false)
    (ho : e.own id = .row R xs ∨ e.own id = .fro R xs) (h : cellP u (u.part R off S) (xs.getD idx (u.dflt R)) i = some (c, y)) : ∃ r, (Instr.loadAt t v).run P e.w = .ok r e.w ∧ RepL P u e [y] [r] := by
  subst hS
  unfold cellP at h
  split at h
  case h_2 => cases h
  rename_i p hp0
  split at h
  case h_2 => cases h
  rename_i d hd
  cases h
  have hp := hpart _ _ _ _ hp0
  have hent : EntOk P u e w0.fr id (.row R xs) := by
    have := hr.ent id
    rcases ho with ho | ho <;> rw [ho] at this <;> exact this
  cases hx with
  | bptrD _ _ _ _ _ _ hd _ _ => rcases ho with ho | ho <;> rw [ho] at hd <;> cases hd
  | bptr _ _ _ _ _ b' c' T2 ys hv hβ' hi hpn _ =>
    have hsame : T2 = R ∧ HEq ys xs := by
      rcases ho with ho | ho <;> rw [ho] at hv <;> rcases hv with hv | hv <;> cases hv <;> exact ⟨rfl, HEq.rfl⟩
    obtain ⟨rfl, hh⟩ := hsame
    cases hh
    have hpn := hpn p hp0
    rcases hent with ⟨_, hn⟩ | ⟨b, c, arr, T', fz, vss, hβ, _, hheap, _, hlen, hc, hel⟩
    · rw [hn] at hβ'; cases hβ'
    rw [hβ] at hβ'; cases hβ'
    have hget : ys[idx]? = some (ys.getD idx (u.dflt T2)) := by simp [List.getD, List.getElem?_eq_getElem hi]
    obtain ⟨k1, k2, k3⟩ := hel idx _ hget
    have hgl := hp.getLen (ys.getD idx (u.dflt T2))
    have hfit := hp.fits
    have hgi : (p.get (ys.getD idx (u.dflt T2)))[i]? = some ((p.get (ys.getD idx (u.dflt T2))).getD i (u.dflt S)) := by rw [List.getD_eq_getElem?_getD (l := p.get (ys.getD idx (u.dflt T2))), List.getElem?_eq_getElem (show i < (p.get (ys.getD idx (u.dflt T2))).length by omega)]; rfl
    obtain ⟨d', g1, g2⟩ := hp.get _ _ _ hgi
    rw [hd] at g2
    cases g2
    have hlt : off + i < (vss idx).length := by omega
    have hcell := cellsAt_heap hheap _ _ (k3 (off + i) ((vss idx).getD (off + i) Go.undef) (by simp [List.getD, List.getElem?_eq_getElem hlt]))
    refine ⟨(vss idx).getD (off + i) Go.undef, ?_, repL_at P u k1 g1 (by simp [List.getD, List.getElem?_eq_getElem hlt])⟩
    rw [Nat.zero_add, ← Nat.add_assoc] at hcell
    simp [Instr.loadAt, Instr.sureAddr, loadVar, run_isAgg P ha, load, Sem.run, hcell]
theorem loadA_sound (hpart : PartOk P u) (harr : ArrOk P u) {w0 : W0} {O0 : Nat → Prop} {e : E A} {t : TypeId} {x y : SV A} {v : Value} {c : Option Prop} (hr : HR P u w0 O0 e) (hx : RepL P u e [x] [v]) (h : loadA P u e.own t x = some (c, y)) (hc : holds c) :
    ∃ r, (Instr.loadAt t v).run P e.w = .ok r e.w ∧ RepL P u e [y] [r] := by
  unfold loadA at h
  split at h
  case h_3 => cases h
  case h_2 =>
    split at h
    case isFalse => cases h
    rename_i id idx off S i hcond
    obtain ⟨hS, ha⟩ := isBp_eq P hcond
    split at h
    · rename_i R xs ho; exact loadB_sound P u hpart hr hx hS ha (.inl ho) h
    · rename_i R xs ho; exact loadB_sound P u hpart hr hx hS ha (.inr ho) h
    · cases h
  rename_i id idx off
  have key : ∀ S (xs : List (A S)), (e.own id = .row S xs ∨ e.own id = .fro S xs) → isArr u t S = true → off = 0 → arrOf u S t idx xs = some (c, y) → ∃ r, (Instr.loadAt t v).run P e.w = .ok r e.w ∧ RepL P u e [y] [r] := by
    intro S xs ho hs hoff ha
    subst hoff
    obtain ⟨q1, _, q2, p, q3, q4⟩ := harr _ _ (isArr_eq u hs)
    have hp := hpart _ _ _ _ q3
    unfold arrOf at ha
    rw [q3] at ha
    cases ha
    have hle : idx + p.n ≤ xs.length := hc
    have hent : EntOk P u e w0.fr id (.row S xs) := by
      have := hr.ent id
      rcases ho with ho | ho <;> rw [ho] at this <;> exact this
    have hsame : ∀ {T2 : Nat} {zs : List (A T2)}, (e.own id = .row T2 zs ∨ e.own id = .fro T2 zs) → T2 = S ∧ HEq zs xs := by
      intro T2 zs hv
      rcases ho with ho | ho <;> rw [ho] at hv <;> rcases hv with hv | hv <;> cases hv <;> exact ⟨rfl, HEq.rfl⟩
    cases hx with
    | rptrD _ _ _ _ hd _ _ => rcases ho with ho | ho <;> rw [ho] at hd <;> cases hd
    | rptr _ _ _ b' c' T2 ys hv hβ' hi _ =>
      obtain ⟨rfl, hh⟩ := hsame hv
      cases hh
      rcases hent with ⟨_, hn⟩ | ⟨b, c, arr, T', fz, vss, hβ, _, hheap, _, hlen, hcc, hel⟩
      · rw [hn] at hβ'; cases hβ'
      rw [hβ] at hβ'; cases hβ'
      rw [hp.one] at hlen hel ⊢
      simp only [Nat.mul_one] at hlen hel ⊢
      have hal : ((arr.drop idx).take p.n).length = p.n := by simp; omega
      have hsubl : ((ys.drop idx).take p.n).length = p.n := by simp; omega
      refine ⟨.agg ⟨(arr.drop idx).take p.n⟩, ?_, .el _ _ _ (repL_of P u ?_ ?_) .nil⟩
      · have hcells : ∀ j v, ((arr.drop idx).take p.n)[j]? = some v → e.w.cell? (Addr.add ⟨b', idx + 0, none⟩ j) = some v := by
          intro j v hj
          have := cellsAt_sub (cellsAt_heap hheap) idx p.n j v hj
          rcases Nat.eq_zero_or_pos j with rfl | hj0
          · simpa [Addr.add] using this
          · simpa [Addr.add, Nat.ne_of_gt hj0, Nat.add_assoc] using this
        have hl := run_loadCells_list (P := P) e.w ⟨b', idx + 0, none⟩ _ hcells
        rw [hal, q4] at hl
        simp only [Instr.loadAt, Instr.sureAddr, Sem.run_bind, Sem.run_pure, Result.andThen]
        simp only [Nat.add_zero, q4] at hl
        simp [loadVar, run_isAgg P q1, run_sizeOf P (t := t) (by rw [q1]; simp), hl, q4]
      · rw [hp.len, hal, q4]
      · intro i x v h1 h2
        have hlt : i < p.n := by
          have := (List.getElem?_eq_some_iff.1 h2).1
          omega
        obtain ⟨z, hz⟩ : ∃ z, ((ys.drop idx).take p.n)[i]? = some z := ⟨_, List.getElem?_eq_getElem (by omega)⟩
        obtain ⟨d, g1, g2⟩ := hp.put (u.dflt t) _ hsubl i z hz
        rw [Nat.zero_add] at g1
        rw [g1] at h1
        cases h1
        have hz' : ys[idx + i]? = some z := by
          rw [List.getElem?_take] at hz
          rw [if_pos hlt, List.getElem?_drop] at hz
          exact hz
        obtain ⟨k1, k2, k3⟩ := hel _ _ hz'
        rw [g2] at k1
        have hv : v = (vss (idx + i)).getD 0 Go.undef := by
          have h0 : (vss (idx + i))[0]? = some ((vss (idx + i)).getD 0 Go.undef) := by simp [List.getD, List.getElem?_eq_getElem (show 0 < (vss (idx + i)).length by omega)]
          have h4 := k3 0 _ h0
          rw [List.getElem?_take] at h2
          rw [if_pos hlt, List.getElem?_drop] at h2
          rw [Nat.add_zero] at h4
          rw [h4] at h2
          exact (Option.some.inj h2).symm
        rw [hv]
        generalize vss (idx + i) = l at k1 k2
        match l, k2 with
        | [w], _ => exact k1
  split at h
  · rename_i S xs ho
    split at h
    · rename_i hcc
      simp only [Bool.and_eq_true] at hcc
      exact key S xs (.inl ho) hcc.1 (Nat.eq_of_beq_eq_true hcc.2) h
    · cases h
  · rename_i S xs ho
    split at h
    · rename_i hcc
      simp only [Bool.and_eq_true] at hcc
      exact key S xs (.inr ho) hcc.1 (Nat.eq_of_beq_eq_true hcc.2) h
    · cases h
  · cases h
end
end Go.Proofs.Ytndacggailoogaa.Sx
