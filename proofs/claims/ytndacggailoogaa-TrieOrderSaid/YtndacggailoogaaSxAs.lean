/- An abstract machine over values by content: the operations on the nodes of an arena, and on rows of pointers to them. -/
import Derived.Test.YtndacggailoogaaSxAr
namespace Go.Proofs.Ytndacggailoogaa.Sx
open Go Go.RowKit

section
variable {A : Nat → Type} (P : Program) (u : U A)

def arOf (own : Nat → Own A) (id : Nat) : Option (Int × List Nd) := match own id with
  | .ar n ns => if Nat.blt id 1073741824 then some (n, ns) else none
  | _ => none
theorem arOf_eq {own : Nat → Own A} {id : Nat} {n : Int} {ns : List Nd} (h : arOf own id = some (n, ns)) : own id = .ar n ns ∧ id < 1073741824 := by
  unfold arOf at h
  split at h
  · rename_i ho
    split at h
    · rename_i hb; cases h; exact ⟨ho, blt_iff.1 hb⟩
    · cases h
  · cases h
def isOne (t : TypeId) : Bool := match aggT P t with
  | some false => Nat.beq (P.cellsOf t) 1
  | _ => false
theorem isOne_eq {t : TypeId} (h : isOne P t = true) : aggT P t = some false ∧ P.cellsOf t = 1 := by
  unfold isOne at h
  split at h
  · rename_i ha; exact ⟨ha, Nat.eq_of_beq_eq_true h⟩
  · cases h
def loadN (t id : Nat) (n : Int) (ns : List Nd) (j off : Nat) : HRes A := if isOne P t then (match off with
  | 0 => some (none, .bool (ns.getD j nd0).is, [])
  | k + 1 => if isPtrT P t then some (some (k < 2), .np id (.nd (kidN (ns.getD j nd0) k)) 0, []) else if Nat.beq k 2 && Nat.beq j 0 then some (none, .int .i64 n, []) else none) else none
def storeN (t id : Nat) (n : Int) (ns : List Nd) (j off : Nat) (x : SV A) : HRes A := if isOne P t then (match off with
  | 0 => (match x with
    | .bool b => some (none, .undef, [(id, .ar n (ns.set j (setIs (ns.getD j nd0) b)))])
    | .lit b => some (none, .undef, [(id, .ar n (ns.set j (setIs (ns.getD j nd0) b)))])
    | _ => none)
  | k + 1 => if isPtrT P t then (match x with
    | .nilp => some (some (k < 2), .undef, [(id, .ar n (ns.set j (setK (ns.getD j nd0) k none)))])
    | .np id' (.nd y) off' => if Nat.beq id' id && Nat.beq off' 0 then some (some (k < 2), .undef, [(id, .ar n (ns.set j (setK (ns.getD j nd0) k y)))]) else none
    | _ => none) else if Nat.beq k 2 && Nat.beq j 0 then (match x with
      | .int l m => if kindEq l .i64 then some (none, .undef, [(id, .ar m (ns.set j (ns.getD j nd0)))]) else none
      | _ => none) else none) else none
/-- The cells of a node, or of a root, that is nothing yet. -/
def zeroN : List (SV A) → Option Bool
  | [.bool false, .nilp, .nilp] => some false
  | [.lit false, .nilp, .nilp] => some false
  | [.bool false, .nilp, .nilp, .int .i64 0] => some true
  | [.lit false, .nilp, .nilp, .int .i64 0] => some true
  | _ => none
def boxN (k : Nat) (own : Nat → Own A) (x : SV A) : HRes A := match cellsV u x with
  | some l => (match zeroN l with
    | some false => (match arOf own 0 with
      | some (n, ns) => some (some (1 ≤ ns.length), .np 0 (.nd (some ns.length)) 0, [(0, .ar n (ns ++ [nd0]))])
      | none => none)
    | some true => (match own k with
      | .free => if Nat.blt k 1073741824 then some (none, .np k (.nd (some 0)) 0, [(k, .ar 0 [nd0])]) else none
      | _ => none)
    | none => none)
  | none => none
def appN (k : Nat) (own : Nat → Own A) (t1 t2 id id' : Nat) : HRes A := match P.underlying t1 with
  | some (.slice T) => if Nat.beq t2 t1 && okRow P T && isOne P T then (match own id, own id', own k with
    | .prow a js, .prow a' js', .free => if Nat.beq a a' && !(Nat.beq id id') then some (some ((js.length + js'.length) * bytesT P T ≤ 140737488355328), .np k .row 0, [(id, .dead), (k, .prow a (js ++ js'))]) else none
    | _, _, _ => none) else none
  | _ => none
def plusN (m off : Nat) : Nat := match off with
  | 1 => Nat.succ m
  | _ => m + off
theorem plusN_eq (m off : Nat) : plusN m off = off + m := by
  unfold plusN
  split <;> omega
def npS (k : Nat) (own : Nat → Own A) (o : Oper) (ev : Operand → SV A) : HRes A := match o.op with
  | .load t a => (match ev a with
    | .np id (.nd (some j)) off => (match arOf own id with
      | some (n, ns) => loadN P t id n ns j off
      | none => none)
    | .np id (.rp i) off => (match own id with
      | .prow a js => if isOne P t && (isPtrT P t && Nat.beq off 0) then some (none, .np a (.nd (some (js.getD i 0))) 0, []) else none
      | _ => none)
    | _ => none)
  | .store t a x => (match ev a with
    | .np id (.nd (some j)) off => (match arOf own id with
      | some (n, ns) => storeN P t id n ns j off (ev x)
      | none => none)
    | _ => none)
  | .fieldAddr t x i => (match ev x with
    | .np id (.nd (some j)) off => (match fieldT P t i with
      | some f => if P.cellsOf f.type = 0 then none else (match aggT P f.type with
        | some _ => some (none, .np id (.nd (some j)) (off + f.offset), [])
        | none => none)
      | none => none)
    | _ => none)
  | .indexAddr t x i => (match ev x with
    | .np id (.nd (some j)) off => (match ev i with
      | .int _ n => (match P.underlying t with
        | some (.array len el) => if isOne P el then some (some (0 ≤ n ∧ n < len), .np id (.nd (some j)) (plusN n.toNat off), []) else none
        | _ => none)
      | _ => none)
    | .np id .row _ => (match ev i with
      | .int _ n => (match P.underlying t with
        | some (.slice el) => if isOne P el then (match own id with
          | .prow _ js => some (some (0 ≤ n ∧ n < js.length), .np id (.rp n.toNat) 0, [])
          | _ => none) else none
        | _ => none)
      | _ => none)
    | _ => none)
  | .binOp op t x y _ => (match ev x with
    | .np _ (.nd z) _ => (match ev y with
      | .nilp => if isPtrT P t then (match op with
        | .eql => some (none, .bool z.isNone, [])
        | .neq => some (none, .bool z.isSome, [])
        | _ => none) else none
      | _ => none)
    | _ => none)
  | .nilCheck x => (match ev x with
    | .np id (.nd z) off => some (some (z.isSome = true), .np id (.nd (some (z.getD 0))) off, [])
    | _ => none)
  | .buildSlice t len ps => (match ps.toList with
    | [(0, x)] => (match ev x with
      | .np a (.nd z) off => (match P.underlying t with
        | some (.slice el) => if okRow P el && isOne P el && (Nat.beq len 1 && Nat.beq off 0) then (match own k with
          | .free => some (some (z.isSome = true), .np k .row 0, [(k, .prow a [z.getD 0])])
          | _ => none) else none
        | _ => none)
      | _ => none)
    | _ => none)
  | .box t x => boxN u k own (ev x)
  | .call c => (match c.callee with
    | .builtin b => (match b, c.argTypes.toList, c.args.toList.map ev with
      | .append, [t1, t2], [.np id .row _, .np id' .row _] => appN P k own t1 t2 id id'
      | .len, [t], [.np id .row _] => (match own id with
        | .prow _ js => if isSliceT P t then some (none, .int .i64 js.length, []) else none
        | _ => none)
      | _, _, _ => none)
    | _ => none)
  | _ => none

/-! ### that they give what the machine gives -/
theorem np_open {w0 : W0} {O0 : Nat → Prop} {e : E A} (hr : HR P u w0 O0 e) {id j off : Nat} {n : Int} {ns : List Nd} {v : Value} (ho : arOf e.own id = some (n, ns)) (hx : RepL P u e [.np id (.nd (some j)) off] [v]) :
    ∃ b c vs T, v = .pointer (some ⟨b, off, none⟩) ∧ j < ns.length ∧ e.β (nodeNo id j) = some (b, c) ∧ w0.fr b ∧ e.w.heap[b]? = some (.cells ⟨vs⟩ T (0, 0)) ∧ RepL P u e (ndCells id n j (ns.getD j nd0)) vs := by
  obtain ⟨ho, hid⟩ := arOf_eq ho
  cases hx with
  | npD _ _ _ _ hv _ => exact absurd hv.1 (hr.lk.not_dead _ _)
  | np _ _ _ _ hv _ =>
    obtain ⟨h1, b, c, h2, rfl⟩ := hv
    have hn := hr.lk.node j hid ho
    have hent := hr.ent (nodeNo id j)
    rw [hn] at hent h1
    unfold nodOf at hent h1
    cases hx : ns[j]? with
    | none => rw [hx] at h1; cases h1
    | some x =>
      rw [hx] at hent
      obtain ⟨b', c', vs, T, k1, k2, k3, k4⟩ := hent
      rw [h2] at k1; cases k1
      have hgd : ns.getD j nd0 = x := by rw [List.getD_eq_getElem?_getD, hx]; rfl
      exact ⟨b, c, vs, T, rfl, (List.getElem?_eq_some_iff.1 hx).1, h2, k2, k3, by rw [hgd]; exact k4⟩
theorem ndCells_get {id : Nat} {n : Int} {j : Nat} {x : Nd} : (ndCells (A := A) id n j x)[0]? = some (.bool x.is) ∧ (∀ k, k < 2 → (ndCells (A := A) id n j x)[k + 1]? = some (.np id (.nd (kidN x k)) 0)) ∧ (j = 0 → (ndCells (A := A) id n j x)[3]? = some (.int .i64 n)) := by
  cases j with
  | zero => exact ⟨rfl, fun k hk => by match k, hk with | 0, _ => rfl | 1, _ => rfl, fun _ => rfl⟩
  | succ j => exact ⟨rfl, fun k hk => by match k, hk with | 0, _ => rfl | 1, _ => rfl, fun h => by cases h⟩
theorem repL_atN {e : E A} {l : List (SV A)} {vs : List Value} (h : RepL P u e l vs) {i : Nat} {x : SV A} (hx : l[i]? = some x) : ∃ v, vs[i]? = some v ∧ RepL P u e [x] [v] := by
  have hlt : i < vs.length := by rw [← h.length]; exact (List.getElem?_eq_some_iff.1 hx).1
  exact ⟨vs[i], List.getElem?_eq_getElem hlt, repL_at P u h hx (List.getElem?_eq_getElem hlt)⟩
theorem load_one {t : TypeId} (ha : aggT P t = some false) {w : World} {b o : Nat} {v : Value} (hc : w.cell? ⟨b, o, none⟩ = some v) : (Instr.loadAt t (.pointer (some ⟨b, o, none⟩))).run P w = .ok v w := by
  simp [Instr.loadAt, Instr.sureAddr, loadVar, run_isAgg P ha, load, Sem.run, hc]
theorem loadN_sound {w0 : W0} {O0 : Nat → Prop} {e : E A} (hr : HR P u w0 O0 e) {t id j off : Nat} {n : Int} {ns : List Nd} {v : Value} {c : Option Prop} {y : SV A} {F : Eff A} (ho : arOf e.own id = some (n, ns)) (hx : RepL P u e [.np id (.nd (some j)) off] [v])
    (h : loadN P t id n ns j off = some (c, y, F)) (hc : holds c) : ∃ r, (Instr.loadAt t v).run P e.w = .ok r e.w ∧ RepL P u e [y] [r] ∧ F = [] := by
  obtain ⟨b, cc, vs, T, rfl, hj, hβ, hfr, hheap, hrep⟩ := np_open P u hr ho hx
  obtain ⟨q1, q2, q3⟩ := ndCells_get (A := A) (id := id) (n := n) (j := j) (x := ns.getD j nd0)
  unfold loadN at h
  split at h
  case isFalse => cases h
  rename_i h1
  obtain ⟨ha, _⟩ := isOne_eq P h1
  have key : ∀ (o : Nat) (z : SV A), (ndCells id n j (ns.getD j nd0))[o]? = some z → ∃ r, (Instr.loadAt t (.pointer (some ⟨b, o, none⟩))).run P e.w = .ok r e.w ∧ RepL P u e [z] [r] := by
    intro o z hz
    obtain ⟨r, g1, g2⟩ := repL_atN P u hrep hz
    have hcell := cellsAt_heap hheap o r g1
    rw [Nat.zero_add] at hcell
    exact ⟨r, load_one P ha hcell, g2⟩
  split at h
  · cases h
    obtain ⟨r, g1, g2⟩ := key 0 _ q1
    exact ⟨r, g1, g2, rfl⟩
  · rename_i k
    split at h
    · cases h
      obtain ⟨r, g1, g2⟩ := key (k + 1) _ (q2 k hc)
      exact ⟨r, g1, g2, rfl⟩
    · split at h
      · rename_i hb
        simp only [Bool.and_eq_true] at hb
        have hk := Nat.eq_of_beq_eq_true hb.1
        have hj0 := Nat.eq_of_beq_eq_true hb.2
        subst hk
        cases h
        obtain ⟨r, g1, g2⟩ := key 3 _ (q3 hj0)
        exact ⟨r, g1, g2, rfl⟩
      · cases h
/-- A store of one cell into a node. -/
theorem store_one {w0 : W0} {O0 : Nat → Prop} {e : E A} (hr : HR P u w0 O0 e) {t id j off : Nat} {n n' : Int} {ns : List Nd} {va vx : Value} {x' : Nd} {z : SV A} (h1 : isOne P t = true) (ho : arOf e.own id = some (n, ns)) (ha : RepL P u e [.np id (.nd (some j)) off] [va]) (hx : RepL P u e [z] [vx])
    (hv : vx.cells = #[vx]) (hone : vx.oneCell' = true) (hn : n' = n ∨ j = 0) (hl : off < (ndCells (A := A) id n j (ns.getD j nd0)).length) (hset : (ndCells id n j (ns.getD j nd0)).set off z = ndCells id n' j x') :
    ∃ e', (Instr.storeAt t va vx).run P e.w = .ok () e'.w ∧ HR P u w0 O0 e' ∧ Ext e e' ∧ e'.own = updL e.own [(id, .ar n' (ns.set j x'))] := by
  obtain ⟨b, c, vs, T, rfl, hj, hβ, hfr, hheap, hrep⟩ := np_open P u hr ho ha
  obtain ⟨ho, hid⟩ := arOf_eq ho
  obtain ⟨hag, hsz⟩ := isOne_eq P h1
  have hagg' : aggT P t ≠ none := by rw [hag]; simp
  have hvs := hrep.length
  have hst := run_storeCells_fz P b off T (0, 0) [vx] 0 ⟨vs⟩ e.w hheap (.inl rfl) (by simp only [List.size_toArray, List.length_singleton]; omega) (fun v hv => by rw [List.mem_singleton.1 hv]; exact hone)
  simp only [Nat.add_zero] at hst
  obtain ⟨hext, hmk⟩ := hr.setN P u (id := id) (j := j) (n := n) (n' := n') (ns := ns) (x' := x') (cs := (vs.take off ++ [vx] ++ vs.drop (off + [vx].length)).toArray) hid ho hj hβ hn
  refine ⟨_, ?_, hmk ?_, hext, rfl⟩
  · simp only [Instr.storeAt, Instr.sureAddr, storeVar, Sem.run_bind, Sem.run_pure, Result.andThen, run_sizeOf P hagg' e.w]
    rw [if_neg (by rw [hv, hsz]; simp), hv]
    exact hst
  · refine ⟨b, c, _, T, hβ, hfr, setRow_heap _ _ _ _ _ _ hheap, ?_⟩
    rw [← hset]
    have h6 : RepL P u e ((ndCells id n j (ns.getD j nd0)).set off z) (vs.take off ++ [vx] ++ vs.drop (off + [vx].length)) := by
      rw [List.set_eq_take_append_cons_drop, if_pos hl]
      have h5 := ((hrep.take P u off).append P u hx).append P u (hrep.drop P u (off + 1))
      simpa using h5
    exact h6.ext P u hext
theorem np_cells {e : E A} {id off : Nat} {y : Option Nat} {v : Value} (hx : RepL P u e [.np id (.nd y) off] [v]) (hlk : Lk e.own) : v.cells = #[v] ∧ v.oneCell' = true := by
  cases hx with
  | npD _ _ _ _ hv _ =>
    cases y with
    | none => exact hv.1.elim
    | some j => exact absurd hv.1 (hlk.not_dead _ _)
  | np _ _ _ _ hv _ =>
    cases y with
    | none => have hv : v = .pointer none := hv; subst hv; exact ⟨rfl, rfl⟩
    | some j => obtain ⟨_, b, c, _, rfl⟩ := hv; exact ⟨rfl, rfl⟩
theorem ndCells_set {id : Nat} {n : Int} {j : Nat} {x : Nd} : (∀ b, (ndCells (A := A) id n j x).set 0 (.bool b) = ndCells id n j (setIs x b)) ∧ (∀ k y, k < 2 → (ndCells (A := A) id n j x).set (k + 1) (.np id (.nd y) 0) = ndCells id n j (setK x k y)) ∧ (j = 0 → ∀ m, (ndCells (A := A) id n j x).set 3 (.int .i64 m) = ndCells id m j x) ∧ 3 ≤ (ndCells (A := A) id n j x).length ∧ (j = 0 → 3 < (ndCells (A := A) id n j x).length) := by
  cases j with
  | zero => exact ⟨fun _ => rfl, fun k y hk => (by match k, hk with | 0, _ => rfl | 1, _ => rfl), fun _ _ => rfl, (by simp [ndCells]), fun _ => (by simp [ndCells])⟩
  | succ j => exact ⟨fun _ => rfl, fun k y hk => (by match k, hk with | 0, _ => rfl | 1, _ => rfl), fun h => (by cases h), (by simp [ndCells]), fun h => (by cases h)⟩
theorem storeN_sound {w0 : W0} {O0 : Nat → Prop} {e : E A} (hr : HR P u w0 O0 e) {t id j off : Nat} {n : Int} {ns : List Nd} {va vx : Value} {x y : SV A} {c : Option Prop} {F : Eff A} (ho : arOf e.own id = some (n, ns)) (ha : RepL P u e [.np id (.nd (some j)) off] [va]) (hx : RepL P u e [x] [vx])
    (h : storeN P t id n ns j off x = some (c, y, F)) (hc : holds c) : ∃ e', (Instr.storeAt t va vx).run P e.w = .ok () e'.w ∧ HR P u w0 O0 e' ∧ Ext e e' ∧ e'.own = updL e.own F ∧ y = .undef := by
  obtain ⟨s1, s2, s3, s4, s5⟩ := ndCells_set (A := A) (id := id) (n := n) (j := j) (x := ns.getD j nd0)
  unfold storeN at h
  split at h
  case isFalse => cases h
  rename_i h1
  split at h
  · have key : ∀ b, RepL P u e [.bool b] [vx] → vx = .bool b → ∃ e', (Instr.storeAt t va vx).run P e.w = .ok () e'.w ∧ HR P u w0 O0 e' ∧ Ext e e' ∧ e'.own = updL e.own [(id, .ar n (ns.set j (setIs (ns.getD j nd0) b)))] := by
      intro b hb he
      exact store_one P u hr h1 ho ha hb (by rw [he]; rfl) (by rw [he]; rfl) (.inl rfl) (by omega) (s1 b)
    split at h
    · cases h
      cases hx
      obtain ⟨e', g1, g2, g3, g4⟩ := key _ (.bool _ .nil) rfl
      exact ⟨e', g1, g2, g3, g4, rfl⟩
    · cases h
      cases hx
      obtain ⟨e', g1, g2, g3, g4⟩ := key _ (.bool _ .nil) rfl
      exact ⟨e', g1, g2, g3, g4, rfl⟩
    · cases h
  · rename_i k
    split at h
    · split at h
      · cases h
        have hk : k < 2 := hc
        cases hx
        obtain ⟨e', g1, g2, g3, g4⟩ := store_one P u hr (vx := .pointer none) h1 ho ha (.np id (.nd none) 0 _ rfl .nil) rfl rfl (.inl rfl) (by omega) (s2 k none hk)
        exact ⟨e', g1, g2, g3, g4, rfl⟩
      · rename_i id' z off'
        split at h
        · rename_i hb
          simp only [Bool.and_eq_true] at hb
          have e1 := Nat.eq_of_beq_eq_true hb.1
          have e2 := Nat.eq_of_beq_eq_true hb.2
          subst e1; subst e2
          cases h
          have hk : k < 2 := hc
          obtain ⟨c1, c2⟩ := np_cells P u hx hr.lk
          obtain ⟨e', g1, g2, g3, g4⟩ := store_one P u hr h1 ho ha hx c1 c2 (.inl rfl) (by omega) (s2 k z hk)
          exact ⟨e', g1, g2, g3, g4, rfl⟩
        · cases h
      · cases h
    · split at h
      · rename_i hb
        simp only [Bool.and_eq_true] at hb
        have hk := Nat.eq_of_beq_eq_true hb.1
        have hj0 := Nat.eq_of_beq_eq_true hb.2
        subst hk
        split at h
        · rename_i l m
          split at h
          · rename_i hkk
            simp only [kindEq, decide_eq_true_eq] at hkk
            subst hkk
            cases h
            cases hx
            obtain ⟨e', g1, g2, g3, g4⟩ := store_one P u hr (vx := .int .i64 m) h1 ho ha (.int _ _ .nil) rfl rfl (.inr hj0) (s5 hj0) (s3 hj0 m)
            exact ⟨e', g1, g2, g3, g4, rfl⟩
          · cases h
        · cases h
      · cases h
theorem mkEA_own {O0 : Nat → Prop} {w : World} {own : Nat → Own A} {β : Nat → Option (Nat × Nat)} : (mkE O0 w own β).own = own := rfl
theorem mkEA_β {O0 : Nat → Prop} {w : World} {own : Nat → Own A} {β : Nat → Option (Nat × Nat)} : (mkE O0 w own β).β = β := rfl
/-- A new node. -/
theorem boxN_sound (hu : Law P u) {k : Nat} {w0 : W0} {O0 : Nat → Prop} {e : E A} (hr : HR P u w0 O0 e) {t : TypeId} {x y : SV A} {vx : Value} {c : Option Prop} {F : Eff A} (hx : RepL P u e [x] [vx]) (h : boxN u k e.own x = some (c, y, F)) (hc : holds c) :
    ∃ v e', (Instr.box t vx).run P e.w = .ok v e'.w ∧ HR P u w0 O0 e' ∧ Ext e e' ∧ e'.own = updL e.own F ∧ RepL P u e' [y] [v] := by
  unfold boxN at h
  split at h
  case h_2 => cases h
  rename_i l hl
  obtain ⟨h1, _⟩ := cellsV_rep P u hx hl
  have key : ∀ {id : Nat} {n n' : Int} {ns : List Nd} (e2 : E A), id < 1073741824 → Lk e2.own → e2.own id = .ar n' (ns ++ [nd0]) → e2.β (nodeNo id ns.length) = some (e.w.heap.size, 0) → RepL P u e2 [.np id (.nd (some ns.length)) 0] [.pointer (some ⟨e.w.heap.size, 0, none⟩)] := by
    intro id n n' ns e2 hid hlk ho hβ
    refine .np _ _ _ _ ⟨?_, _, _, hβ, rfl⟩ .nil
    rw [hlk.node _ hid ho]
    unfold nodOf
    rw [List.getElem?_append_right (Nat.le_refl _), Nat.sub_self]
    rfl
  have hz : ∀ {b : Bool}, zeroN l = some b → (∀ (e2 : E A) (id j : Nat), RepL P u e2 (match b with
      | true => [.bool false, .np id (.nd none) 0, .np id (.nd none) 0, .int .i64 0]
      | false => [.bool false, .np id (.nd none) 0, .np id (.nd none) 0]) vx.cells.toList) := by
    intro b hb e2 id j
    have hnp : NpOk e2 id 0 (.nd none) (.pointer none) := rfl
    generalize vx.cells.toList = cs at h1
    unfold zeroN at hb
    split at hb <;> cases hb
    · cases h1 with | bool _ h1 => cases h1 with | nilp h1 => cases h1 with | nilp h1 => cases h1; exact .bool _ (.np _ _ _ _ hnp (.np _ _ _ _ hnp .nil))
    · cases h1 with | lit _ h1 => cases h1 with | nilp h1 => cases h1 with | nilp h1 => cases h1; exact .bool _ (.np _ _ _ _ hnp (.np _ _ _ _ hnp .nil))
    · cases h1 with | bool _ h1 => cases h1 with | nilp h1 => cases h1 with | nilp h1 => cases h1 with | int _ _ h1 => cases h1; exact .bool _ (.np _ _ _ _ hnp (.np _ _ _ _ hnp (.int _ _ .nil)))
    · cases h1 with | lit _ h1 => cases h1 with | nilp h1 => cases h1 with | nilp h1 => cases h1 with | int _ _ h1 => cases h1; exact .bool _ (.np _ _ _ _ hnp (.np _ _ _ _ hnp (.int _ _ .nil)))
  have hrun : (Instr.box t vx).run P e.w = .ok (.pointer (some ⟨e.w.heap.size, 0, none⟩)) (e.w.alloc (.cells vx.cells t)) := by
    simp only [Instr.box, Sem.run_bind, run_newVar, Result.andThen, Sem.run_pure]
  split at h
  · rename_i hzn
    split at h
    case h_2 => cases h
    rename_i n ns ho
    obtain ⟨ho, hid⟩ := arOf_eq ho
    cases h
    have hlen : 1 ≤ ns.length := hc
    obtain ⟨hext, hmk⟩ := hr.newN P u (id := 0) (n := n) (n' := n) (ns := ns) (x' := nd0) (ob := .cells vx.cells t) hid (.inl ⟨ho, rfl⟩)
    have hr' := hmk (by
      refine ⟨e.w.heap.size, 0, vx.cells.toList, t, by rw [mkEA_β, upd_same], .inl hr.below.size, alloc_get _ _, ?_⟩
      have := hz hzn (mkE O0 (e.w.alloc (.cells vx.cells t)) (updO e.own 0 (.ar n (ns ++ [nd0]))) (upd (upd e.β 0 none) (nodeNo 0 ns.length) (some (e.w.heap.size, 0)))) 0 0
      cases hq : ns.length with
      | zero => omega
      | succ m => rw [hq] at this; exact this)
    exact ⟨_, _, hrun, hr', hext, rfl, key (n := n) (n' := n) _ hid hr'.lk (by rw [mkEA_own]; exact updO_same (by omega)) (by rw [mkEA_β, upd_same])⟩
  · rename_i hzn
    split at h
    case h_2 => cases h
    rename_i hk
    split at h
    case isFalse => cases h
    rename_i hkD
    have hkD := blt_iff.1 hkD
    cases h
    obtain ⟨hext, hmk⟩ := hr.newN P u (id := k) (n := 0) (n' := 0) (ns := []) (x' := nd0) (ob := .cells vx.cells t) hkD (.inr ⟨hk, rfl⟩)
    have hr' := hmk ⟨e.w.heap.size, 0, vx.cells.toList, t, by rw [mkEA_β]; exact upd_same .., .inl hr.below.size, alloc_get _ _, hz hzn _ k 0⟩
    exact ⟨_, _, hrun, hr', hext, rfl, key (n := 0) (n' := 0) (ns := []) _ hkD hr'.lk (by rw [mkEA_own]; exact updO_same (by omega)) (by rw [mkEA_β]; exact upd_same ..)⟩
  · cases h
/-! ### rows of pointers -/
theorem prow_open {w0 : W0} {O0 : Nat → Prop} {e : E A} (hr : HR P u w0 O0 e) {id off a : Nat} {js : List Nat} {v : Value} (ho : e.own id = .prow a js) (hx : RepL P u e [.np id .row off] [v]) :
    ∃ b c cap arr T' fz, v = .slice (some ⟨b, 0, none⟩) js.length cap ∧ e.β id = some (b, c) ∧ js.length ≤ cap ∧ cap ≤ c ∧ w0.fr b ∧ e.w.heap[b]? = some (.cells ⟨arr⟩ T' fz) ∧ Fz arr.length fz ∧ arr.length = c ∧ ∀ (i j : Nat), js[i]? = some j → ∃ v, arr[i]? = some v ∧ RepL P u e [.np a (.nd (some j)) 0] [v] := by
  have hent := hr.ent id
  rw [ho] at hent
  obtain ⟨b, c, arr, T', fz, k1, k2, k3, k4, k5, k6, k7⟩ := hent
  cases hx with
  | npD _ _ _ _ hv _ => have hd : e.own id = .dead := hv.1; rw [ho] at hd; cases hd
  | np _ _ _ _ hv _ =>
    obtain ⟨b', c', cap, a', js', h1, h2, h3, h4, rfl⟩ := hv
    rw [ho] at h1; cases h1
    rw [k1] at h2; cases h2
    exact ⟨b, c, cap, arr, T', fz, rfl, k1, h3, h4, k2, k3, k4, k5, k7⟩
theorem prow_ptr {w0 : W0} {O0 : Nat → Prop} {e : E A} (hr : HR P u w0 O0 e) {id i a : Nat} {js : List Nat} {v : Value} (ho : e.own id = .prow a js) (hx : RepL P u e [.np id (.rp i) 0] [v]) :
    ∃ b r, v = .pointer (some ⟨b, i, none⟩) ∧ e.w.cell? ⟨b, i, none⟩ = some r ∧ RepL P u e [.np a (.nd (some (js.getD i 0))) 0] [r] := by
  have hent := hr.ent id
  rw [ho] at hent
  obtain ⟨b, c, arr, T', fz, k1, k2, k3, k4, k5, k6, k7⟩ := hent
  cases hx with
  | npD _ _ _ _ hv _ => have hd : e.own id = .dead := hv.1; rw [ho] at hd; cases hd
  | np _ _ _ _ hv _ =>
    obtain ⟨b', c', a', js', h1, h2, h3, rfl⟩ := hv
    rw [ho] at h1; cases h1
    rw [k1] at h2; cases h2
    obtain ⟨r, g1, g2⟩ := k7 i _ (List.getElem?_eq_getElem h3)
    have hc := cellsAt_heap k3 i r g1
    rw [Nat.zero_add] at hc
    exact ⟨b, r, rfl, hc, by rw [List.getD_eq_getElem?_getD, List.getElem?_eq_getElem h3]; exact g2⟩
/-- A row of one pointer. -/
theorem run_slice1 {t el : TypeId} {w : World} {v : Value} (hu' : P.underlying t = some (.slice el)) (hT : okRow P el = true) (h1c : P.cellsOf el = 1) (hv : v.cells = #[v]) :
    (Instr.buildSlice t 1 #[(0, v)]).run P w = .ok (.slice (some ⟨w.heap.size, 0, none⟩) 1 1) (w.alloc (.cells #[v] el)) := by
  obtain ⟨i, z, hi, hz, hzs, hs, hbt, hcs, hbs, hag⟩ := okRow_spec P hT
  have hsz := run_sizeOf P (t := el) hag w
  have hzr : (zeroValue el).run P w = .ok z w := by simp [zeroValue, typeInfo, hi, hz]
  have hpos : 0 < P.cellsOf el := by omega
  obtain ⟨r, f1', f2, f3⟩ := Great.fill_dense hpos [v] 0 ((Array.range (1 * P.cellsOf el)).map (z.cells[· % z.cells.size]!)) (by rw [h1c]; intro v' hv'; rw [List.mem_singleton.1 hv', hv]; rfl) (by simp)
  have hrr : r = #[v] := by
    apply Array.ext
    · rw [f2]; simp [h1c]
    · intro n h1 h2
      have hn : n = 0 := by simp at h2; omega
      subst hn
      have h5 := f3 0
      rw [if_pos ⟨by omega, by rw [h1c]; simp⟩, h1c] at h5
      simp only [Nat.div_one, Nat.sub_zero, List.getElem?_cons_zero, Option.bind_some, Nat.mod_one, hv] at h5
      rw [Array.getElem?_eq_getElem h1] at h5
      simpa using h5
  subst hrr
  simp only [Instr.buildSlice, Sem.run_bind, run_underlying hu', Result.andThen, hsz]
  rw [if_neg (by omega)]
  have h0 : ¬ 1 * P.cellsOf el = 0 := by omega
  rw [if_neg h0]
  simp only [Sem.run_bind, Sem.run_pure, hzr, Result.andThen]
  have hparts : ([v].zipIdx 0).map (fun x => (x.2, x.1)) = [(0, v)] := rfl
  rw [hparts] at f1'
  rw [f1']
  rfl
theorem prow1_sound {k : Nat} {w0 : W0} {O0 : Nat → Prop} {e : E A} (hr : HR P u w0 O0 e) (hkH : k < 1152921504606846976) {t el a : Nat} {z : Option Nat} {v : Value} (hu' : P.underlying t = some (.slice el)) (hT : okRow P el = true) (h1 : isOne P el = true) (hk : e.own k = .free) (hx : RepL P u e [.np a (.nd z) 0] [v]) (hz : z.isSome = true) :
    ∃ v' e', (Instr.buildSlice t 1 #[(0, v)]).run P e.w = .ok v' e'.w ∧ HR P u w0 O0 e' ∧ Ext e e' ∧ e'.own = updL e.own [(k, .prow a [z.getD 0])] ∧ RepL P u e' [.np k .row 0] [v'] := by
  obtain ⟨ha, h1c⟩ := isOne_eq P h1
  obtain ⟨c1, c2⟩ := np_cells P u hx hr.lk
  obtain ⟨hext, hmk⟩ := hr.new P u (k := k) (c := 1) (o := .prow a [z.getD 0]) (w' := e.w.alloc (.cells #[v] el)) hk hkH (by simp) (by simp) rfl rfl rfl (by rw [alloc_size]; omega) (fun b hb => Below.heap_alloc _ _ _ hb)
  refine ⟨_, _, run_slice1 P hu' hT h1c c1, hmk ?_, hext, rfl, .np _ _ _ _ ⟨e.w.heap.size, 1, 1, a, [z.getD 0], by rw [mkEA_own]; exact upd_same .., by rw [mkEA_β]; exact upd_same .., Nat.le_refl _, Nat.le_refl _, rfl⟩ .nil⟩
  refine ⟨e.w.heap.size, 1, [v], el, (0, 0), by rw [mkEA_β]; exact upd_same .., .inl hr.below.size, alloc_get _ _, .inl rfl, rfl, Nat.le_refl _, fun i j hj => ?_⟩
  cases i with
  | zero =>
    simp at hj
    subst hj
    refine ⟨v, rfl, ?_⟩
    cases z with
    | none => cases hz
    | some j => exact hx.ext P u hext
  | succ i => simp at hj
theorem appN_sound {k : Nat} {w0 : W0} {O0 : Nat → Prop} {e : E A} (hr : HR P u w0 O0 e) (hkH : k < 1152921504606846976) {t1 t2 ty id id' off off' : Nat} {y : SV A} {vx vy : Value} {c : Option Prop} {F : Eff A} (hx : RepL P u e [.np id .row off] [vx]) (hy : RepL P u e [.np id' .row off'] [vy])
    (h : appN P k e.own t1 t2 id id' = some (c, y, F)) (hc : holds c) :
    ∃ v' e', (Builtin.append_ #[t1, t2] ty #[vx, vy]).run P e.w = .ok v' e'.w ∧ HR P u w0 O0 e' ∧ Ext e e' ∧ e'.own = updL e.own F ∧ RepL P u e' [y] [v'] := by
  unfold appN at h
  split at h
  case h_2 => cases h
  rename_i T ht
  split at h
  case isFalse => cases h
  rename_i hT
  simp only [Bool.and_eq_true] at hT
  obtain ⟨⟨h12, hT⟩, h1⟩ := hT
  have h12 := Nat.eq_of_beq_eq_true h12
  subst h12
  obtain ⟨_, h1c⟩ := isOne_eq P h1
  split at h
  case h_2 => cases h
  rename_i a js a' js' ho ho' hk
  split at h
  case isFalse => cases h
  rename_i haa
  simp only [Bool.and_eq_true, Bool.not_eq_true'] at haa
  have haa' := Nat.eq_of_beq_eq_true haa.1
  have hne : id ≠ id' := by rintro rfl; rw [Nat.beq_refl] at haa; cases haa.2
  subst haa'
  cases h
  have hb : (js.length + js'.length) * bytesT P T ≤ 140737488355328 := hc
  obtain ⟨b, cc, cap, arr, T', fz, rfl, hβ, hjc, hcc, hfr, hheap, hfz, harr, hel⟩ := prow_open P u hr ho hx
  obtain ⟨b', cc', cap', arr', T'', fz', rfl, hβ', hjc', hcc', _, hheap', _, harr', hel'⟩ := prow_open P u hr ho' hy
  obtain ⟨i, z, hi, hz, hzs, hs, hbt, hcs, hbs, _⟩ := okRow_spec P hT
  have hi1 : i.size = 1 := by omega
  have hki : k ≠ id := by rintro rfl; rw [ho] at hk; cases hk
  have hfirst : ∀ (bb n cp : Nat) (ar : List Value) (TT : TypeId) (ff : Nat × Nat), e.w.heap[bb]? = some (.cells ⟨ar⟩ TT ff) → n ≤ ar.length → ∀ w' : World, w'.heap = e.w.heap → (Builtin.firstCells i.size n (.slice (some ⟨bb, 0, none⟩) n cp)).run P w' = .ok (ar.take n).toArray w' := by
    intro bb n cp ar TT ff hh hn w' hw'
    refine run_firstCells_some w' i.size n _ n _ (ar.take n) (by rw [List.length_take, hi1]; omega) (fun j v hj => ?_)
    rw [add_add', World.cell?_of_block (w := e.w) (by show w'.heap[bb]? = e.w.heap[bb]?; rw [hw'])]
    have hj2 : ar[j]? = some v := by
      rw [List.getElem?_take] at hj
      split at hj
      · exact hj
      · cases hj
    have := cellsAt_heap hh j v hj2
    simpa using this
  have hnv : ∀ v ∈ arr'.take js'.length, v.oneCell' = true := by
    intro v hv
    obtain ⟨q, hq⟩ := List.getElem?_of_mem hv
    rw [List.getElem?_take] at hq
    split at hq
    · rename_i hlt
      obtain ⟨v2, g1, g2⟩ := hel' q _ (List.getElem?_eq_getElem hlt)
      rw [hq] at g1
      cases g1
      exact (np_cells P u g2 hr.lk).2
    · cases hq
  have hlen1 : (arr.take js.length).length = js.length := by rw [List.length_take]; omega
  have hlen2 : (arr'.take js'.length).length = js'.length := by rw [List.length_take]; omega
  have hnew : ∀ (e2 : E A), Ext e e2 → ∀ (q j : Nat), (js ++ js')[q]? = some j → ∃ v, (arr.take js.length ++ arr'.take js'.length)[q]? = some v ∧ RepL P u e2 [.np a (.nd (some j)) 0] [v] := by
    intro e2 hx2 q j hq
    rcases Nat.lt_or_ge q js.length with hlt | hge
    · rw [List.getElem?_append_left hlt] at hq
      obtain ⟨v, g1, g2⟩ := hel q j hq
      exact ⟨v, by rw [List.getElem?_append_left (by omega), List.getElem?_take, if_pos hlt]; exact g1, g2.ext P u hx2⟩
    · rw [List.getElem?_append_right hge] at hq
      obtain ⟨v, g1, g2⟩ := hel' _ j hq
      have hq' := (List.getElem?_eq_some_iff.1 hq).1
      exact ⟨v, by rw [List.getElem?_append_right (by omega), hlen1, List.getElem?_take, if_pos hq']; exact g1, g2.ext P u hx2⟩
  rw [hbs] at hb
  rcases run_append P t2 ty T i z e.w ht hi hz (some ⟨b, 0, none⟩) js.length cap (some ⟨b', 0, none⟩) js'.length cap' (arr.take js.length) (arr'.take js'.length) (hfirst b _ _ arr T' fz hheap (by omega)) (hfirst b' _ _ arr' T'' fz' hheap' (by omega)) hb (room_le hbt hb) with ⟨h0, hrun⟩ | ⟨h0, hrun⟩
  · have hst := run_storeCells_fz P b js.length T' fz (arr'.take js'.length) 0 ⟨arr⟩ e.w hheap hfz (by simp only [List.size_toArray]; omega) hnv
    obtain ⟨hext, hmk⟩ := hr.move P u (k := id) (k' := k) (o := .prow a (js ++ js')) (cs := (arr.take js.length ++ arr'.take js'.length ++ arr.drop (js.length + (arr'.take js'.length).length)).toArray) (by rw [ho]; rfl) hβ hk hkH rfl (by rw [ho]; rfl)
    refine ⟨.slice (some ⟨b, 0, none⟩) (js.length + js'.length) cap, _, ?_, hmk ?_, hext, rfl, .np _ _ _ _ ⟨b, cc, cap, a, js ++ js', by rw [mkEA_own]; exact upd_same .., by rw [mkEA_β]; exact upd_same .., by rw [List.length_append]; omega, hcc, by rw [List.length_append]⟩ .nil⟩
    · rw [hrun]
      simp only [add_add', Nat.zero_add, hi1, Nat.mul_one]
      simp only [Nat.add_zero] at hst
      rw [hst]
      rfl
    · refine ⟨b, cc, _, T', fz, by rw [mkEA_β]; exact upd_same .., hfr, setRow_heap _ _ _ _ _ _ hheap, ?_, ?_, by rw [List.length_append]; omega, fun q j hq => ?_⟩
      · have : (arr.take js.length ++ arr'.take js'.length ++ arr.drop (js.length + (arr'.take js'.length).length)).length = arr.length := by
          simp only [List.length_append, List.length_take, List.length_drop]; omega
        rw [this]; exact hfz
      · simp only [List.length_append, List.length_take, List.length_drop]; omega
      · obtain ⟨v, g1, g2⟩ := hnew _ hext q j hq
        have hql := (List.getElem?_eq_some_iff.1 g1).1
        exact ⟨v, by rw [List.getElem?_append_left hql]; exact g1, g2⟩
  · obtain ⟨hdext, hdr⟩ := hr.drop P u (k := id) (by rw [ho]; rfl)
    have hge := grownCap_ge e.w (js.length + js'.length) cap T
    generalize hg : grownCap e.w (js.length + js'.length) cap T = gc at *
    obtain ⟨hext, hmk⟩ := hdr.new P u (k := k) (c := gc) (o := .prow a (js ++ js')) (w' := e.w.drew.alloc (.cells ((arr.take js.length).toArray ++ (arr'.take js'.length).toArray ++ Builtin.zeroCells z.cells (gc - (js.length + js'.length))) T)) (by rw [mkEA_own, upd_ne _ _ hki]; exact hk) hkH (by simp) (by simp) rfl rfl rfl (by rw [alloc_size]; exact Nat.le_succ _) (fun b hb => Below.heap_alloc _ _ _ hb)
    have hzl : (Builtin.zeroCells z.cells (gc - (js.length + js'.length))).size = gc - (js.length + js'.length) := by
      have := hzs
      simp [Builtin.zeroCells, hzs, hi1]
    have hr2 := hmk (by
      refine ⟨e.w.heap.size, gc, ((arr.take js.length).toArray ++ (arr'.take js'.length).toArray ++ Builtin.zeroCells z.cells (gc - (js.length + js'.length))).toList, T, (0, 0), by rw [mkEA_β]; exact upd_same .., .inl hr.below.size, ?_, .inl rfl, ?_, by rw [List.length_append]; exact hge, fun q j hq => ?_⟩
      · exact alloc_get _ _
      · have h3 : (Builtin.zeroCells z.cells (gc - (js.length + js'.length))).toList.length = gc - (js.length + js'.length) := by simpa using hzl
        simp only [Array.toList_append, List.length_append, hlen1, hlen2, h3]; omega
      · obtain ⟨v, g1, g2⟩ := hnew _ (hdext.trans hext) q j hq
        have hql := (List.getElem?_eq_some_iff.1 g1).1
        refine ⟨v, ?_, g2⟩
        simp only [Array.toList_append]
        rw [List.getElem?_append_left hql]
        exact g1)
    refine ⟨_, _, hrun, hr2, hdext.trans hext, rfl, .np _ _ _ _ ⟨e.w.heap.size, gc, gc, a, js ++ js', by rw [mkEA_own]; exact upd_same .., by rw [mkEA_β]; exact upd_same .., by rw [List.length_append]; exact hge, Nat.le_refl _, by rw [List.length_append]⟩ .nil⟩
/-- What an operation on nodes gives. -/
theorem np_sound (hu : Law P u) {w0 : W0} {O0 : Nat → Prop} {e : E A} {o : Oper} {ρ : Operand → Value} {ev : Operand → SV A} {k : Nat} {c : Option Prop} {y : SV A} {F : Eff A} (hr : HR P u w0 O0 e) (hkH : k < 1152921504606846976) (hev : ∀ x, RepL P u e [ev x] [ρ x])
    (h : npS P u k e.own o ev = some (c, y, F)) (hc : holds c) : ∃ n r e', (execOp ρ o).run P e.w = .ok n e'.w ∧ Yield n r ∧ HR P u w0 O0 e' ∧ Ext e e' ∧ e'.own = updL e.own F ∧ RepL P u e' [y] [r] := by
  have hval : ∀ {z : Value} {y : SV A}, (execOp ρ o).run P e.w = .ok (.value z) e.w → RepL P u e [y] [z] → ∃ n r e', (execOp ρ o).run P e.w = .ok n e'.w ∧ Yield n r ∧ HR P u w0 O0 e' ∧ Ext e e' ∧ e'.own = updL e.own [] ∧ RepL P u e' [y] [r] :=
    fun h1 h2 => ⟨_, _, e, h1, .value _, hr, .refl e, rfl, h2⟩
  have hnode : ∀ {id off : Nat} {j : Nat} {v : Value}, RepL P u e [.np id (.nd (some j)) off] [v] → ∃ b : Nat, v = .pointer (some ⟨b, off, none⟩) ∧ ∀ off', RepL P u e [.np id (.nd (some j)) off'] [.pointer (some ⟨b, off', none⟩)] := by
    intro id off j v hx
    cases hx with
    | npD _ _ _ _ hv _ => exact absurd hv.1 (hr.lk.not_dead _ _)
    | np _ _ _ _ hv _ =>
      obtain ⟨h1, b, c, h2, rfl⟩ := hv
      exact ⟨b, rfl, fun off' => .np _ _ _ _ ⟨h1, b, c, h2, rfl⟩ .nil⟩
  unfold npS at h
  split at h <;> (first | rename_i hop | skip)
  · rename_i t a
    have hxr := hev a
    split at h
    · rename_i id j off hx
      rw [hx] at hxr
      split at h
      · rename_i n ns ho
        obtain ⟨r, h1, h2, rfl⟩ := loadN_sound P u hr ho hxr h hc
        exact hval (by unfold execOp; rw [hop]; simp only [Sem.run_bind, h1, Result.andThen, Sem.run_pure]) h2
      · cases h
    · rename_i id i off hx
      rw [hx] at hxr
      split at h
      · rename_i q js ho
        split at h
        · rename_i hb
          simp only [Bool.and_eq_true] at hb
          have hoff := Nat.eq_of_beq_eq_true hb.2.2
          subst hoff
          cases h
          obtain ⟨b, r, hv, g1, g2⟩ := prow_ptr P u hr ho hxr
          refine hval (z := r) ?_ g2
          unfold execOp
          rw [hop]
          simp only [hv, Sem.run_bind, load_one P (isOne_eq P hb.1).1 g1, Result.andThen, Sem.run_pure]
        · cases h
      · cases h
    · cases h
  · rename_i t a x
    have hxr := hev a
    split at h
    · rename_i id j off hx
      rw [hx] at hxr
      split at h
      · rename_i n ns ho
        obtain ⟨e', g1, g2, g3, g4, rfl⟩ := storeN_sound P u hr ho hxr (hev x) h hc
        refine ⟨_, Go.undef, e', ?_, .skip, g2, g3, g4, .undef .nil⟩
        unfold execOp
        rw [hop]
        simp only [Sem.run_bind, g1, Result.andThen, Sem.run_pure]
      · cases h
    · cases h
  · rename_i t x i
    have hxr := hev x
    split at h
    · rename_i id j off hx
      rw [hx] at hxr
      split at h
      · rename_i f hf
        split at h
        · cases h
        · rename_i hz
          split at h
          · rename_i a ha
            cases h
            obtain ⟨fs, hu', hfi⟩ := fieldT_eq P hf
            obtain ⟨b, hv, hrep⟩ := hnode hxr
            refine hval ?_ (hrep _)
            unfold execOp
            rw [hop]
            simp [hv, Instr.fieldAt, run_underlying hu', hfi, Instr.sureAddr, fieldPlace, run_sizeOf P (t := f.type) (by rw [ha]; simp), hz, add_add']
          · cases h
      · cases h
    · cases h
  · rename_i t x i
    have hxr := hev x
    split at h
    · rename_i id j off hx
      rw [hx] at hxr
      split at h
      · rename_i kk n hi
        have hir := hev i
        rw [hi] at hir
        split at h
        · rename_i len el hu'
          split at h
          · rename_i h1
            obtain ⟨ha, h1c⟩ := isOne_eq P h1
            cases h
            have hcond : 0 ≤ n ∧ n < (len : Int) := hc
            obtain ⟨b, hv, hrep⟩ := hnode hxr
            generalize hvi : ρ i = vi at hir
            cases hir
            refine hval ?_ (hrep _)
            unfold execOp
            rw [hop]
            simp [hv, hvi, Instr.indexAt, asIntOf, run_underlying hu', Instr.sureAddr, hcond, run_sizeOf P (t := el) (by rw [ha]; simp), add_add', h1c, plusN_eq]
          · cases h
        · cases h
      · cases h
    · rename_i id off hx
      rw [hx] at hxr
      split at h
      · rename_i kk n hi
        have hir := hev i
        rw [hi] at hir
        split at h
        · rename_i el hu'
          split at h
          · rename_i h1
            obtain ⟨ha, h1c⟩ := isOne_eq P h1
            split at h
            · rename_i a js ho
              cases h
              have hcond : 0 ≤ n ∧ n < (js.length : Int) := hc
              obtain ⟨b, cc, cap, arr, T', fz, hv, hβ, h2, h3, _⟩ := prow_open P u hr ho hxr
              generalize hvi : ρ i = vi at hir
              cases hir
              refine hval (z := .pointer (some ⟨b, n.toNat, none⟩)) ?_ (.np _ _ _ _ ⟨b, cc, a, js, ho, hβ, by omega, by rw [Nat.add_zero]⟩ .nil)
              unfold execOp
              rw [hop]
              simp [hv, hvi, Instr.indexAt, asIntOf, run_underlying hu', hcond, run_sizeOf P (t := el) (by rw [ha]; simp), add_add', h1c]
            · cases h
          · cases h
        · cases h
      · cases h
    · cases h
  · rename_i op t x y' _
    have hxr := hev x
    have hyr := hev y'
    split at h
    · rename_i id z off hx
      rw [hx] at hxr
      split at h
      · rename_i hy
        rw [hy] at hyr
        split at h
        · rename_i hp
          obtain ⟨pt, hu'⟩ : ∃ pt, P.underlying t = some (.pointer pt) := by
            unfold isPtrT at hp
            split at hp
            · rename_i e he; exact ⟨_, he⟩
            · cases hp
          obtain ⟨a, ha, hza⟩ : ∃ a : Option Addr, ρ x = .pointer a ∧ a.isNone = z.isNone := by
            cases z with
            | none =>
              generalize ρ x = v at hxr
              cases hxr with
              | np _ _ _ _ hv _ => exact ⟨none, hv, rfl⟩
              | npD _ _ _ _ hv _ => exact hv.1.elim
            | some j =>
              obtain ⟨b, hv, _⟩ := hnode hxr
              exact ⟨_, hv, rfl⟩
          have hyv : ρ y' = .pointer none := by
            generalize ρ y' = v at hyr
            cases hyr
            rfl
          have heq : (Op.equal t (.pointer a) (.pointer none)).run P e.w = .ok (a.isNone && true) e.w := run_eqPtr P 9999 t pt a none hu' (.inr rfl)
          simp only [Bool.and_true, hza] at heq
          split at h
          · cases h
            refine hval (z := .bool z.isNone) ?_ (.bool _ .nil)
            unfold execOp
            rw [hop]
            simp only [ha, hyv, eqGuard, binOp, Sem.run_bind, Sem.run_pure, Result.andThen]
            simp [heq]
          · cases h
            have hzz : z.isSome = !z.isNone := by cases z <;> rfl
            refine hval (z := .bool z.isSome) ?_ (.bool _ .nil)
            unfold execOp
            rw [hop, hzz]
            simp only [ha, hyv, eqGuard, binOp, Sem.run_bind, Sem.run_pure, Result.andThen]
            simp [heq]
          · cases h
        · cases h
      · cases h
    · cases h
  · rename_i x
    have hxr := hev x
    split at h
    · rename_i id z off hx
      rw [hx] at hxr
      cases h
      have hz : z.isSome = true := hc
      cases z with
      | none => cases hz
      | some j =>
        obtain ⟨b, hv, hrep⟩ := hnode hxr
        refine hval ?_ (hrep off)
        unfold execOp
        rw [hop]
        simp [hv]
    · cases h
  · rename_i t len ps
    split at h
    case h_2 => cases h
    rename_i x hps
    have hxr := hev x
    split at h
    case h_2 => cases h
    rename_i a z off hx
    rw [hx] at hxr
    split at h
    case h_2 => cases h
    rename_i el hu'
    split at h
    case isFalse => cases h
    rename_i hb
    simp only [Bool.and_eq_true] at hb
    have h1 := Nat.eq_of_beq_eq_true hb.2.1
    have h2 := Nat.eq_of_beq_eq_true hb.2.2
    subst h1; subst h2
    split at h
    case h_2 => cases h
    rename_i hk
    cases h
    obtain ⟨v', e', g1, g2, g3, g4, g5⟩ := prow1_sound P u hr hkH hu' hb.1.1 hb.1.2 hk hxr hc
    refine ⟨_, v', e', ?_, .value _, g2, g3, g4, g5⟩
    have hps' : ps = #[(0, x)] := by cases ps; simp_all
    subst hps'
    unfold execOp
    rw [hop]
    have hm : (#[(0, x)] : Array (Nat × Operand)).map (fun (i, x) => (i, ρ x)) = #[(0, ρ x)] := by simp
    simp only [hm, Sem.run_bind, g1, Result.andThen, Sem.run_pure]
  · rename_i t x
    obtain ⟨v', e', g1, g2, g3, g4, g5⟩ := boxN_sound P u hu hr (t := t) (hev x) h hc
    refine ⟨_, v', e', ?_, .value _, g2, g3, g4, g5⟩
    unfold execOp
    rw [hop]
    simp only [Sem.run_bind, g1, Result.andThen, Sem.run_pure]
  · rename_i cc
    split at h
    case h_2 => cases h
    rename_i b hb
    have hmap : cc.args.map ρ = ⟨cc.args.toList.map ρ⟩ := by apply Array.ext'; simp
    have hreps := reps P u hev cc.args.toList
    split at h
    · rename_i t1 t2 id _ id' _ hts hxs
      rw [hxs] at hreps
      obtain ⟨v, ws, hv, g1, g2⟩ := hreps.split P u
      obtain ⟨v2, ws2, rfl, g3, g4⟩ := g2.split P u
      cases g4
      have hts' : cc.argTypes = #[t1, t2] := by cases hcc : cc.argTypes; simp_all
      obtain ⟨v', e', h1, h2, h3, h4, h5⟩ := appN_sound P u hr hkH (ty := o.type) g1 g3 h hc
      refine ⟨_, v', e', ?_, .value _, h2, h3, h4, h5⟩
      unfold execOp
      rw [hop]
      simp only [resolve, hb, Sem.run_bind, Sem.run_pure, Result.andThen, invoke, builtin, hmap, hv, hts']
      simp [h1]
    · rename_i t id _ hts hxs
      rw [hxs] at hreps
      obtain ⟨v, ws, hv, g1, g2⟩ := hreps.split P u
      cases g2
      have hts' : cc.argTypes = #[t] := by cases hcc : cc.argTypes; simp_all
      split at h
      · rename_i a js ho
        split at h
        · rename_i hsl
          cases h
          obtain ⟨el, hu'⟩ : ∃ el, P.underlying t = some (.slice el) := by
            unfold isSliceT at hsl
            split at hsl
            · rename_i e he; exact ⟨_, he⟩
            · cases hsl
          obtain ⟨b, c2, cap, arr, T', fz, rfl, hβ, h2, h3, _⟩ := prow_open P u hr ho g1
          refine hval (z := .int .i64 js.length) ?_ (.int _ _ .nil)
          unfold execOp
          rw [hop]
          simp only [resolve, hb, Sem.run_bind, Sem.run_pure, Result.andThen, invoke, builtin, hmap, hv, hts']
          simp [Builtin.len_, run_underlying hu', Result.andThen, goInt, h2, Builtin.lenOf]
        · cases h
      · cases h
    · cases h
  · cases h
end
end Go.Proofs.Ytndacggailoogaa.Sx
