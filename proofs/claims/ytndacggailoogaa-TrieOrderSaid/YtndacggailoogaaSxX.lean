/- An abstract machine over values by content, eighth part, g: all operations that lay or write, together. -/
import Derived.Test.YtndacggailoogaaSxW
import Derived.Laws.IdiomStrings
namespace Go.Proofs.Ytndacggailoogaa.Sx
open Go Go.RowKit

section
variable {A : Nat → Type} (P : Program) (u : U A)

/-- A variable that lies as a row: of one element, or of an array's. -/
def isLaid (t : TypeId) : Bool := u.one t || (match u.arr t with
  | some _ => true
  | none => false)
def laidS (k : Nat) (own : Nat → Own A) (t : TypeId) (y : A t) : HRes A := match own k with
  | .free => if u.one t then some (none, .rptr k 0 0, [(k, .row t [y])]) else (match u.arr t with
    | some S => (match u.part t 0 S with
      | some p => some (none, .rptr k 0 0, [(k, .row S (p.get y))])
      | none => none)
    | none => none)
  | _ => none
def bareE' {t : Nat} : Option (A t × Eff A) → Option (A t) := fun r => match r with
  | some (y, []) => some y
  | _ => none
/-- An array as a whole into a variable that lies as a row. -/
def storeA (own : Nat → Own A) (t : TypeId) (id T : Nat) (xs : List (A T)) (x : SV A) : HRes A := match bareE' (elemS P u own t x) with
  | some y => (match u.part t 0 T with
    | some p => some (some (xs.length = p.n), .undef, [(id, .row T (p.get y))])
    | none => none)
  | none => none
/-- A cell into a part of an element. -/
def storeP {R S : Nat} (p : Option (PartU A R S)) (id idx i : Nat) (xs : List (A R)) (d : A R) (y : A S) : HRes A := match p with
  | some p => some (none, .undef, [(id, .row R (xs.set idx (p.put (xs.getD idx d) ((p.get (xs.getD idx d)).set i y))))])
  | none => none
def storeB (own : Nat → Own A) (t : TypeId) (id idx off S i : Nat) (x : SV A) : HRes A := if Nat.beq S t && (aggT P t).isSome then (match own id with
  | .row R xs => (match bareE' (elemS P u own S x) with
    | some y => storeP (u.part R off S) id idx i xs (u.dflt R) y
    | none => none)
  | _ => none) else none
/-- A store through a pointer. -/
def storeS (own : Nat → Own A) (t : TypeId) (a x : SV A) : HRes A := match a with
  | .optr id off => (match own id with
    | .var cs => (match cellsV u x with
      | some l => if l.length = P.cellsOf t ∧ (aggT P t).isSome ∧ off + l.length ≤ cs.length then some (none, .undef, [(id, .var (setAt cs off l))]) else none
      | none => none)
    | _ => none)
  | .rptr id idx off => (match own id with
    | .row T xs => if isArr u t T && (Nat.beq off 0 && Nat.beq idx 0) then storeA P u own t id T xs x else (match (if Nat.beq T t then (if Nat.beq off 0 then elemS P u own T x else none) else none) with
      | some (y, f) => (match updL own f id with
        | .row S zs => if h : S = T then (if (aggT P t).isSome then some (none, .undef, f ++ [(id, .row S (zs.set idx (h ▸ y)))]) else none) else none
        | _ => none)
      | none => (match cellsV u x with
        | some l0 => (match frzL own l0 with
          | (l, f) => (match updL own f id with
            | .row S zs => if l.length = P.cellsOf t ∧ (aggT P t).isSome ∧ off + l.length ≤ P.cellsOf S then (match u.dec S (setAt (u.enc S (zs.getD idx (u.dflt S))) off l) with
              | some y => some (none, .undef, f ++ [(id, .row S (zs.set idx y))])
              | none => none) else none
            | _ => none))
        | none => none))
    | _ => none)
  | .bptr id idx off S i => storeB P u own t id idx off S i x
  | .cx id true off => (match own id with
    | .rowC T xs q cs => (match cellsV u x with
      | some l => if l.length = P.cellsOf t ∧ (aggT P t).isSome ∧ off + l.length ≤ cs.length then some (none, .undef, [(id, .rowC T xs q (setAt cs off l))]) else none
      | none => none)
    | _ => none)
  | _ => none
/-- Values of one cell each, in their order: a row that lies as a variable. -/
def ptrL (ev : Operand → SV A) : Nat → List (Nat × Operand) → Option (List (SV A))
  | _, [] => some []
  | i, (j, x) :: r => if Nat.beq j i then (match cellsV u (ev x) with
    | some [c] => (match ptrL ev (i + 1) r with
      | some l => some (c :: l)
      | none => none)
    | _ => none) else none
theorem ptrL_rep {e : E A} {ρ : Operand → Value} {ev : Operand → SV A} (hev : ∀ x, RepL P u e [ev x] [ρ x]) : ∀ (ps : List (Nat × Operand)) (i : Nat) (l : List (SV A)), ptrL u ev i ps = some l →
    ∃ vs : List Value, ps.map (fun p => (p.1, ρ p.2)) = (vs.zipIdx i).map (fun x => (x.2, x.1)) ∧ vs.length = l.length ∧ (∀ v ∈ vs, v.cells.size = 1) ∧ ∀ (j : Nat) (x : SV A), l[j]? = some x → ∃ v : Value, vs[j]? = some v ∧ RepL P u e [x] v.cells.toList
  | [], i, l, h => by
    cases h
    exact ⟨[], rfl, rfl, by simp, by simp⟩
  | (j, x) :: r, i, l, h => by
    unfold ptrL at h
    split at h
    case isFalse => cases h
    rename_i hj
    have hj := Nat.eq_of_beq_eq_true hj
    subst hj
    split at h
    case h_2 => cases h
    rename_i c hc
    split at h
    case h_2 => cases h
    rename_i l' hl
    cases h
    obtain ⟨vs, a1, a2, a3, a4⟩ := ptrL_rep hev r (j + 1) l' hl
    obtain ⟨h1, _⟩ := cellsV_rep P u (hev x) hc
    have hsz : (ρ x).cells.size = 1 := by have := h1.length; simpa using this.symm
    refine ⟨ρ x :: vs, by simp [a1], by simp [a2], fun v hv => ?_, fun k y hk => ?_⟩
    · rcases List.mem_cons.1 hv with rfl | hv
      · exact hsz
      · exact a3 v hv
    · cases k with
      | zero => cases hk; exact ⟨_, rfl, h1⟩
      | succ k => exact a4 k y (by simpa using hk)
def heapS (k : Nat) (own : Nat → Own A) (o : Oper) (ev : Operand → SV A) : HRes A :=
  match o.op with
  | .box t x => if isLaid u t then (match bareE' (elemS P u own t (ev x)) with
    | some y => laidS u k own t y
    | none => none) else match cellsV u (ev x), own k with
    | some cells, .free => some (none, .optr k 0, [(k, .var cells)])
    | _, _ => none
  | .alloc t => if isLaid u t then (match zeroEl P u t with
    | some y => laidS u k own t y
    | none => none) else match zeroS P t, own k with
    | some cells, .free => some (none, .optr k 0, [(k, .var cells)])
    | _, _ => none
  | .store t a x => storeS P u own t (ev a) (ev x)
  | .buildSlice t len ps => match P.underlying t with
    | some (.slice el) => if okRow P el && Nat.ble (len * P.cellsOf el) 16777216 then (match rowS P u ev el own 0 ps.toList, own k with
      | some (xs, f), .free => (match updL own f k with
        | .free => if Nat.beq xs.length len then some (none, .orow k, f ++ [(k, .row el xs)]) else none
        | _ => none)
      | none, .free => if Nat.beq (P.cellsOf el) 1 then (match ptrL u ev 0 ps.toList with
        | some cells => if Nat.beq cells.length len then some (none, .vsl k 0 len, [(k, .var cells)]) else none
        | none => none) else none
      | _, _ => none) else none
    | _ => none
  | .makeSlice t l c => makeS P u k own t (ev l) (ev c)
  | .makeMap t none => mmakeS P k own t
  | .lookup t x i ok => mlookS P u own t (ev x) (ev i) ok
  | .mapUpdate t m i x => mupdS P u own t (ev m) (ev i) (ev x)
  | .convert s d x => convH P u k own s d (ev x)
  | .call c => match c.callee with
    | .builtin b => (match b, c.argTypes.toList, c.args.toList.map ev with
      | .append, [t1, t2], [x, y] => appendS P u k own t1 t2 x y
      | .copy, [t1, _], [x, y] => copyS P u own t1 x y
      | .clear, [t], [x] => clearS P u own t x
      | .delete, [t, _], [x, y] => mdelS P own t x y
      | .len, [t], [x] => mlenS P own t x
      | _, _, _ => none)
    | _ => none
  | _ => none

inductive Yield : Next → Value → Prop
  | value (v : Value) : Yield (.value v) v
  | skip : Yield .skip Go.undef

/-- A store into an own variable. -/
theorem storeVar_sound {w0 : W0} {O0 : Nat → Prop} {e : E A} (hr : HR P u w0 O0 e) {t id off : Nat} {x : SV A} {va vx : Value} {cs l : List (SV A)} (ho : e.own id = .var cs) (ha : RepL P u e [.optr id off] [va]) (hx : RepL P u e [x] [vx])
    (hl : cellsV u x = some l) (hlen : l.length = P.cellsOf t) (hagg : (aggT P t).isSome) (hle : off + l.length ≤ cs.length) :
    ∃ e', (Instr.storeAt t va vx).run P e.w = .ok () e'.w ∧ HR P u w0 O0 e' ∧ Ext e e' ∧ e'.own = upd e.own id (.var (setAt cs off l)) := by
  obtain ⟨h1, h1c⟩ := cellsV_rep P u hx hl
  have hvl : vx.cells.toList.length = l.length := h1.length.symm
  have hsz : vx.cells.size = P.cellsOf t := by rw [← hlen, ← hvl]; simp
  have hagg' : aggT P t ≠ none := by intro hn; rw [hn] at hagg; cases hagg
  have hent := hr.ent id
  rw [ho] at hent
  obtain ⟨b, c, vs, T, hβ, hfr, hheap, hrep⟩ := hent
  cases ha with
  | optrD _ _ _ hd _ _ => rw [ho] at hd; cases hd
  | optr _ _ b' c' _ hβ' _ =>
    rw [hβ] at hβ'; cases hβ'
    have hvs : cs.length = vs.length := hrep.length
    have hst := run_storeCells_fz P b off T (0, 0) vx.cells.toList 0 ⟨vs⟩ e.w hheap (.inl rfl) (by simp only [List.size_toArray]; omega) h1c
    simp only [Nat.add_zero] at hst
    obtain ⟨hext, hmk⟩ := hr.set P u (k := id) (o := .var (setAt cs off l)) (cs := (vs.take off ++ vx.cells.toList ++ vs.drop (off + vx.cells.toList.length)).toArray) (by rw [ho]; rfl) hβ rfl (by rw [ho]; exact .var _ _)
    refine ⟨_, ?_, hmk ?_, hext, rfl⟩
    · simp only [Instr.storeAt, Instr.sureAddr, storeVar, Sem.run_bind, Sem.run_pure, Result.andThen, run_sizeOf P hagg' e.w]
      rw [if_neg (by simpa using hsz)]
      exact hst
    · refine ⟨b, c, _, T, hβ, hfr, setRow_heap _ _ _ _ _ _ hheap, ?_⟩
      have h5 := ((hrep.take P u off).append P u h1).append P u (hrep.drop P u (off + l.length))
      have h6 : RepL P u e (setAt cs off l) (vs.take off ++ vx.cells.toList ++ vs.drop (off + vx.cells.toList.length)) := by
        unfold setAt
        rw [hvl]
        exact h5
      exact h6.ext P u hext
/-- A store into an element of an own row. -/
theorem storeRow_sound {w0 : W0} {O0 : Nat → Prop} {e : E A} (hu : Law P u) (hr : HR P u w0 O0 e) {t id idx off T : Nat} {va vx : Value} {xs : List (A T)} {l : List (SV A)} {y : A T} (ho : e.own id = .row T xs) (ha : RepL P u e [.rptr id idx off] [va]) (h1 : RepL P u e l vx.cells.toList) (h1c : ∀ c ∈ vx.cells.toList, c.oneCell' = true)
    (hlen : l.length = P.cellsOf t) (hagg : (aggT P t).isSome) (hle : off + l.length ≤ P.cellsOf T) (hy : ∀ vs, RepL P u e (setAt (u.enc T (xs.getD idx (u.dflt T))) off l) vs → RepL P u e (u.enc T y) vs) :
    ∃ e', (Instr.storeAt t va vx).run P e.w = .ok () e'.w ∧ HR P u w0 O0 e' ∧ Ext e e' ∧ e'.own = upd e.own id (.row T (xs.set idx y)) := by
  have hvl : vx.cells.toList.length = l.length := h1.length.symm
  have hsz : vx.cells.size = P.cellsOf t := by rw [← hlen, ← hvl]; simp
  have hagg' : aggT P t ≠ none := by intro hn; rw [hn] at hagg; cases hagg
  have hent := hr.ent id
  rw [ho] at hent
  cases ha with
  | rptrD _ _ _ _ hd _ _ => rw [ho] at hd; cases hd
  | rptr _ _ _ b' c' T2 ys hv hβ' hi _ =>
    have hsame : T2 = T ∧ HEq ys xs := by
      rw [ho] at hv; rcases hv with hv | hv <;> cases hv; exact ⟨rfl, HEq.rfl⟩
    obtain ⟨rfl, hys⟩ := hsame
    cases hys
    rcases hent with ⟨_, hn⟩ | ⟨b, c, arr, T', fz, ows, hβ, hfr, hheap, hfz, harr, hc, hel⟩
    · rw [hn] at hβ'; cases hβ'
    rw [hβ] at hβ'; cases hβ'
    have hget : ys[idx]? = some (ys.getD idx (u.dflt T2)) := by simp [List.getD, List.getElem?_eq_getElem hi]
    obtain ⟨g1, g2, g3⟩ := hel idx _ hget
    have hidx : idx + 1 ≤ c' := by omega
    have hbound : idx * P.cellsOf T2 + P.cellsOf T2 ≤ arr.length := by
      rw [harr]
      calc idx * P.cellsOf T2 + P.cellsOf T2 = (idx + 1) * P.cellsOf T2 := by rw [Nat.add_mul, Nat.one_mul]
        _ ≤ c' * P.cellsOf T2 := Nat.mul_le_mul_right _ hidx
    have hst := run_storeCells_fz P b' (idx * P.cellsOf T2 + off) T' fz vx.cells.toList 0 ⟨arr⟩ e.w hheap hfz (by simp only [List.size_toArray]; omega) h1c
    simp only [Nat.add_zero] at hst
    obtain ⟨hext, hmk⟩ := hr.set P u (k := id) (o := .row T2 (ys.set idx y)) (cs := (arr.take (idx * P.cellsOf T2 + off) ++ vx.cells.toList ++ arr.drop (idx * P.cellsOf T2 + off + vx.cells.toList.length)).toArray) (by rw [ho]; rfl) hβ rfl (by rw [ho]; exact .row _ _ _ (by simp))
    refine ⟨_, ?_, hmk (.inr ?_), hext, rfl⟩
    · simp only [Instr.storeAt, Instr.sureAddr, storeVar, Sem.run_bind, Sem.run_pure, Result.andThen, run_sizeOf P hagg' e.w]
      rw [if_neg (by simpa using hsz)]
      exact hst
    · have hcells := hy _ (((g1.take P u off).append P u h1).append P u (g1.drop P u (off + l.length)))
      have hln : vx.cells.toList.length = l.length := hvl
      refine ⟨b', c', _, T', fz, fun i => if i = idx then (ows idx).take off ++ vx.cells.toList ++ (ows idx).drop (off + l.length) else ows i, hβ, hfr, setRow_heap _ _ _ _ _ _ hheap, ?_, ?_, by simpa using hc, ?_⟩
      · have : (arr.take (idx * P.cellsOf T2 + off) ++ vx.cells.toList ++ arr.drop (idx * P.cellsOf T2 + off + vx.cells.toList.length)).length = arr.length := by
          simp only [List.length_append, List.length_take, List.length_drop]; omega
        rw [this]; exact hfz
      · simp only [List.length_append, List.length_take, List.length_drop]
        omega
      · intro i z hz
        by_cases hii : i = idx
        · subst hii
          simp only [List.getElem?_set_self hi, Option.some.injEq] at hz
          subst hz
          simp only [if_true]
          refine ⟨hcells.ext P u hext, ?_, ?_⟩
          · simp only [List.length_append, List.length_take, List.length_drop, hvl]; omega
          · intro j v hj
            rw [← hln] at hj
            rw [splice_get _ _ _ _ (by rw [g2, hln]; exact hle)] at hj
            rw [splice_get _ _ _ _ (by rw [hln]; omega)]
            split at hj
            · rename_i h7; rw [if_pos (by omega)]; exact g3 j v hj
            · rename_i h7
              rw [if_neg (by omega)]
              split at hj
              · rename_i h8; rw [if_pos (by omega), show i * P.cellsOf T2 + j - (i * P.cellsOf T2 + off) = j - off by omega]; exact hj
              · rename_i h8; rw [if_neg (by omega)]; exact g3 j v hj
        · rw [List.getElem?_set_ne (Ne.symm hii)] at hz
          simp only [if_neg hii]
          obtain ⟨f1, f2, f3⟩ := hel i z hz
          refine ⟨f1.ext P u hext, f2, fun j v hj => ?_⟩
          have hjl : j < P.cellsOf T2 := by rw [← f2]; exact (List.getElem?_eq_some_iff.1 hj).1
          have hold := f3 j v hj
          rw [splice_get _ _ _ _ (by rw [hln]; omega)]
          rcases Nat.lt_or_gt_of_ne hii with hlt | hgt
          · have h9 : (i + 1) * P.cellsOf T2 ≤ idx * P.cellsOf T2 := Nat.mul_le_mul_right _ hlt
            rw [Nat.add_mul, Nat.one_mul] at h9
            rw [if_pos (by omega)]; exact hold
          · have h9 : (idx + 1) * P.cellsOf T2 ≤ i * P.cellsOf T2 := Nat.mul_le_mul_right _ hgt
            rw [Nat.add_mul, Nat.one_mul] at h9
            rw [if_neg (by omega), if_neg (by omega)]; exact hold

/-- A store into the element that is told by its cells. -/
theorem storeC_sound {w0 : W0} {O0 : Nat → Prop} {e : E A} (hu : Law P u) (hr : HR P u w0 O0 e) {t id idx off T : Nat} {va vx : Value} {ys : List (A T)} {cs l : List (SV A)} (ho : e.own id = .rowC T ys idx cs) (ha : RepL P u e [.cx id true off] [va]) (h1 : RepL P u e l vx.cells.toList) (h1c : ∀ c ∈ vx.cells.toList, c.oneCell' = true)
    (hlen : l.length = P.cellsOf t) (hagg : (aggT P t).isSome) (hle0 : off + l.length ≤ cs.length) :
    ∃ e', (Instr.storeAt t va vx).run P e.w = .ok () e'.w ∧ HR P u w0 O0 e' ∧ Ext e e' ∧ e'.own = upd e.own id (.rowC T ys idx (setAt cs off l)) := by
  have hvl : vx.cells.toList.length = l.length := h1.length.symm
  have hsz : vx.cells.size = P.cellsOf t := by rw [← hlen, ← hvl]; simp
  have hagg' : aggT P t ≠ none := by intro hn; rw [hn] at hagg; cases hagg
  have hent := hr.ent id
  rw [ho] at hent
  cases ha with
  | cxD _ _ _ _ hd _ _ => rw [ho] at hd; cases hd
  | cx _ _ _ b' c' cap q2 T2 ys2 cs2 _ hv hβ' hcc hq _ =>
    rw [ho] at hv
    cases hv
    have hq : va = .pointer (some ⟨b', idx * P.cellsOf T + off, none⟩) := hq
    subst hq
    obtain ⟨b, c, arr, T', fz, ows, hβ, hfr, hheap, hfz, harr, hc, hi, hel⟩ := hent
    rw [hβ] at hβ'; cases hβ'
    obtain ⟨g1, g2, g3⟩ := hel idx _ (List.getElem?_eq_getElem hi)
    rw [if_pos rfl] at g1
    have hle : off + l.length ≤ P.cellsOf T := by rw [← g2, ← g1.length]; exact hle0
    have hidx : idx + 1 ≤ c' := by omega
    have hbound : idx * P.cellsOf T + P.cellsOf T ≤ arr.length := by
      rw [harr]
      calc idx * P.cellsOf T + P.cellsOf T = (idx + 1) * P.cellsOf T := by rw [Nat.add_mul, Nat.one_mul]
        _ ≤ c' * P.cellsOf T := Nat.mul_le_mul_right _ hidx
    have hst := run_storeCells_fz P b' (idx * P.cellsOf T + off) T' fz vx.cells.toList 0 ⟨arr⟩ e.w hheap hfz (by simp only [List.size_toArray]; omega) h1c
    simp only [Nat.add_zero] at hst
    obtain ⟨hext, hmk⟩ := hr.set P u (k := id) (o := .rowC T ys idx (setAt cs off l)) (cs := (arr.take (idx * P.cellsOf T + off) ++ vx.cells.toList ++ arr.drop (idx * P.cellsOf T + off + vx.cells.toList.length)).toArray) (by rw [ho]; rfl) hβ rfl (by rw [ho]; exact .rowC _ _ _ _ _)
    refine ⟨_, ?_, hmk ?_, hext, rfl⟩
    · simp only [Instr.storeAt, Instr.sureAddr, storeVar, Sem.run_bind, Sem.run_pure, Result.andThen, run_sizeOf P hagg' e.w]
      rw [if_neg (by simpa using hsz)]
      exact hst
    · have hcells : RepL P u e (setAt cs off l) _ := ((g1.take P u off).append P u h1).append P u (g1.drop P u (off + l.length))
      have hln : vx.cells.toList.length = l.length := hvl
      refine ⟨b', c', _, T', fz, fun i => if i = idx then (ows idx).take off ++ vx.cells.toList ++ (ows idx).drop (off + l.length) else ows i, hβ, hfr, setRow_heap _ _ _ _ _ _ hheap, ?_, ?_, hc, hi, ?_⟩
      · have : (arr.take (idx * P.cellsOf T + off) ++ vx.cells.toList ++ arr.drop (idx * P.cellsOf T + off + vx.cells.toList.length)).length = arr.length := by
          simp only [List.length_append, List.length_take, List.length_drop]; omega
        rw [this]; exact hfz
      · simp only [List.length_append, List.length_take, List.length_drop]
        omega
      · intro i z hz
        by_cases hii : i = idx
        · subst hii
          simp only [if_true]
          refine ⟨hcells.ext P u hext, ?_, ?_⟩
          · simp only [List.length_append, List.length_take, List.length_drop, hvl]; omega
          · intro j v hj
            rw [← hln] at hj
            rw [splice_get _ _ _ _ (by rw [g2, hln]; exact hle)] at hj
            rw [splice_get _ _ _ _ (by rw [hln]; omega)]
            split at hj
            · rename_i h7; rw [if_pos (by omega)]; exact g3 j v hj
            · rename_i h7
              rw [if_neg (by omega)]
              split at hj
              · rename_i h8; rw [if_pos (by omega), show i * P.cellsOf T + j - (i * P.cellsOf T + off) = j - off by omega]; exact hj
              · rename_i h8; rw [if_neg (by omega)]; exact g3 j v hj
        · simp only [if_neg hii]
          obtain ⟨f1, f2, f3⟩ := hel i z hz
          rw [if_neg hii] at f1
          refine ⟨f1.ext P u hext, f2, fun j v hj => ?_⟩
          have hjl : j < P.cellsOf T := by rw [← f2]; exact (List.getElem?_eq_some_iff.1 hj).1
          have hold := f3 j v hj
          rw [splice_get _ _ _ _ (by rw [hln]; omega)]
          rcases Nat.lt_or_gt_of_ne hii with hlt | hgt
          · have h9 : (i + 1) * P.cellsOf T ≤ idx * P.cellsOf T := Nat.mul_le_mul_right _ hlt
            rw [Nat.add_mul, Nat.one_mul] at h9
            rw [if_pos (by omega)]; exact hold
          · have h9 : (idx + 1) * P.cellsOf T ≤ i * P.cellsOf T := Nat.mul_le_mul_right _ hgt
            rw [Nat.add_mul, Nat.one_mul] at h9
            rw [if_neg (by omega), if_neg (by omega)]; exact hold
theorem orow_rptr {e : E A} {id b c len cap T : Nat} {xs : List (A T)} (ho : e.own id = .row T xs) (hp : 0 < xs.length) (hx : RepL P u e [.orow id] [.slice (some ⟨b, c, none⟩) len cap]) : RepL P u e [.rptr id 0 0] [.pointer (some ⟨b, 0, none⟩)] := by
  have hsame : ∀ {T2 : Nat} {zs : List (A T2)}, (e.own id = .row T2 zs ∨ e.own id = .fro T2 zs) → T2 = T ∧ HEq zs xs := by
    intro T2 zs hv
    rw [ho] at hv
    rcases hv with hv | hv <;> cases hv
    exact ⟨rfl, HEq.rfl⟩
  cases hx with
  | orow _ b c' cap' T2 ys hv hβ hc _ =>
    obtain ⟨rfl, hh⟩ := hsame hv
    cases hh
    have := RepL.rptr (P := P) (u := u) (e := e) (xs := []) (vs := []) id 0 0 b c' T2 ys hv hβ hp .nil
    simpa using this
  | orowN _ T2 a hv _ => obtain ⟨rfl, hh⟩ := hsame hv; cases hh; simp at hp
  | orowD _ _ hd _ _ => rw [ho] at hd; cases hd
theorem laid_sound (hu : Law P u) {w0 : W0} {O0 : Nat → Prop} {e : E A} {k : Nat} (hr : HR P u w0 O0 e) (hkH : k < 1152921504606846976) {t : Nat} {y : A t} {v : Value} {r : SV A} {c : Option Prop} {f : Eff A} (h1 : RepL P u e (u.enc t y) v.cells.toList) (h2 : v.cells.size = P.cellsOf t) (h : laidS u k e.own t y = some (c, r, f)) :
    ∃ e', e'.w = e.w.alloc (.cells v.cells t) ∧ HR P u w0 O0 e' ∧ Ext e e' ∧ e'.own = updL e.own f ∧ RepL P u e' [r] [.pointer (some ⟨e.w.heap.size, 0, none⟩)] := by
  unfold laidS at h
  split at h
  case h_2 => cases h
  rename_i hk0
  have hk := And.intro hk0 hkH
  have hheap : ∀ arr : List Value, arr = v.cells.toList → (e.w.alloc (.cells v.cells t)).heap = e.w.heap.push (.cells ⟨arr⟩ t (0, 0)) := by
    intro arr ha
    subst ha
    rfl
  split at h
  · cases h
    obtain ⟨e', a1, a2, a3, a4, a5⟩ := hr.newRow P u (k := k) (T := t) (c := 1) (xs := [y]) (arr := v.cells.toList) (T' := t) (fz := (0, 0)) (vss := fun _ => v.cells.toList) hk (w' := e.w.alloc (.cells v.cells t)) rfl rfl rfl (hheap _ rfl) (.inl rfl) (by rw [Nat.one_mul, ← h2]; simp) (by simp)
      (fun i x hi => by
        cases i with
        | zero => cases hi; exact h1
        | succ i => simp at hi) (fun i _ => by rw [← h2]; simp) (by
        intro i j hi hj
        have : i = 0 := by simp at hi; exact hi
        subst this
        simp)
    exact ⟨e', a1, a2, a3, a4, orow_rptr P u (by rw [a4, upd_same]) (by simp) a5⟩
  · split at h
    case h_2 => cases h
    rename_i S hS
    split at h
    case h_2 => cases h
    rename_i p hp0
    cases h
    obtain ⟨q1, _, q2, p', q3, q4⟩ := hu.arr _ _ hS
    rw [hp0] at q3; cases q3
    have hp := hu.part _ _ _ _ hp0
    have hvl : v.cells.toList.length = P.cellsOf t := by rw [← h2]; simp
    obtain ⟨e', a1, a2, a3, a4, a5⟩ := hr.newRow P u (k := k) (T := S) (c := p.n) (xs := p.get y) (arr := v.cells.toList) (T' := t) (fz := (0, 0)) (vss := fun i => [v.cells.toList.getD i Go.undef]) hk (w' := e.w.alloc (.cells v.cells t)) rfl rfl rfl (hheap _ rfl) (.inl rfl) (by rw [hp.one, hvl, q4, Nat.mul_one]) (by rw [hp.getLen]; exact Nat.le_refl _)
      (fun i x hi => by
        obtain ⟨d, g1, g2⟩ := hp.get y i x hi
        rw [Nat.zero_add] at g1
        rw [g2]
        have hil : i < v.cells.toList.length := by rw [← h1.length]; exact (List.getElem?_eq_some_iff.1 g1).1
        exact repL_at P u h1 g1 (by simp [List.getD, List.getElem?_eq_getElem hil])) (fun i _ => by simp [hp.one]) (by
        intro i j hi hj
        have : j = 0 := by rw [hp.one] at hj; omega
        subst this
        have hil : i < v.cells.toList.length := by rw [hvl, ← q4, ← hp.getLen y]; exact hi
        rw [hp.one, Nat.mul_one, Nat.add_zero]
        simp [List.getD, List.getElem?_eq_getElem hil])
    exact ⟨e', a1, a2, a3, a4, orow_rptr P u (by rw [a4, upd_same]) (by rw [hp.getLen]; omega) a5⟩
theorem bareE'_eq {t : Nat} {r : Option (A t × Eff A)} {y : A t} (h : bareE' r = some y) : r = some (y, []) := by
  unfold bareE' at h
  split at h
  · cases h; rfl
  · cases h
theorem storeA_sound (hu : Law P u) (hclean : ∀ T x, noOwn.go (u.enc T x) = true) {w0 : W0} {O0 : Nat → Prop} {e : E A} (hr : HR P u w0 O0 e) {t id T : Nat} {xs : List (A T)} {x r : SV A} {va vx : Value} {c : Option Prop} {f : Eff A} (ho : e.own id = .row T xs) (hs : isArr u t T = true) (ha : RepL P u e [.rptr id 0 0] [va]) (hx : RepL P u e [x] [vx])
    (h : storeA P u e.own t id T xs x = some (c, r, f)) (hc : holds c) : ∃ e', (Instr.storeAt t va vx).run P e.w = .ok () e'.w ∧ HR P u w0 O0 e' ∧ Ext e e' ∧ e'.own = updL e.own f ∧ r = .undef := by
  unfold storeA at h
  split at h
  case h_2 => cases h
  rename_i y hy
  split at h
  case h_2 => cases h
  rename_i p hp0
  cases h
  have hlen : xs.length = p.n := hc
  obtain ⟨e0, z1, z2, z3, z4, z5, z6⟩ := elemS_sound P u hu hclean hr hx (bareE'_eq hy)
  have hown0 : e0.own = e.own := z4
  obtain ⟨q1, _, q2, p', q3, q4⟩ := hu.arr _ _ (isArr_eq u hs)
  rw [hp0] at q3; cases q3
  have hp := hu.part _ _ _ _ hp0
  rw [← hown0] at ho
  have ha0 := ha.ext P u z3
  have hent := z2.ent id
  rw [ho] at hent
  cases ha0 with
  | rptrD _ _ _ _ hd _ _ => rw [ho] at hd; cases hd
  | rptr _ _ _ b c T2 zs hv hβ' hi _ =>
    have hsame : T2 = T ∧ HEq zs xs := by
      rw [ho] at hv; rcases hv with hv | hv <;> cases hv; exact ⟨rfl, HEq.rfl⟩
    obtain ⟨rfl, hh⟩ := hsame
    cases hh
    rcases hent with ⟨_, hn⟩ | ⟨b2, c2, arr, T', fz, ows, hβ, hfr, hheap, hfz, harr, hcc, hel⟩
    · rw [hn] at hβ'; cases hβ'
    rw [hβ] at hβ'; cases hβ'
    have h1c := cellOk_all P u z5 (hu.cells _ _)
    have hvl : vx.cells.toList.length = P.cellsOf t := by rw [← z6]; simp
    rw [hp.one, Nat.mul_one] at harr
    have hst := run_storeCells_fz P b 0 T' fz vx.cells.toList 0 ⟨arr⟩ e0.w hheap hfz (by simp only [List.size_toArray]; omega) h1c
    obtain ⟨hext, hmk⟩ := z2.set P u (k := id) (o := .row T2 (p.get y)) (cs := (arr.take 0 ++ vx.cells.toList ++ arr.drop (0 + vx.cells.toList.length)).toArray) (by rw [ho]; rfl) hβ rfl (by rw [ho]; exact .row _ _ _ (by rw [hp.getLen, hlen]))
    refine ⟨_, ?_, hmk (.inr ?_), z3.trans hext, by rw [← hown0]; rfl, rfl⟩
    · have hsz : vx.cells.size = P.cellsOf t := z6
      rw [← z1]
      simp only [Instr.storeAt, Instr.sureAddr, storeVar, Sem.run_bind, Sem.run_pure, Result.andThen, run_sizeOf P (t := t) (by rw [q1]; simp) e0.w]
      rw [if_neg (by simpa using hsz)]
      simp only [Nat.add_zero, Nat.zero_mul] at hst ⊢
      exact hst
    · refine rowAt_of P u (b := b) (c := c) (vss := fun i => [vx.cells.toList.getD i Go.undef]) hβ hfr (setRow_heap _ _ _ _ _ _ hheap) (fz := fz) ?_ ?_ (by rw [hp.getLen, ← hlen]; exact hcc) (fun i x hi => ?_) (fun i _ => by simp [hp.one]) ?_
      · have : (arr.take 0 ++ vx.cells.toList ++ arr.drop (0 + vx.cells.toList.length)).length = arr.length := by
          simp only [List.length_append, List.length_take, List.length_drop]; omega
        rw [this]; exact hfz
      · rw [hp.one, Nat.mul_one]
        simp only [List.length_append, List.length_take, List.length_drop]; omega
      · obtain ⟨d, g1, g2⟩ := hp.get y i x hi
        rw [Nat.zero_add] at g1
        rw [g2]
        have hil : i < vx.cells.toList.length := by rw [← z5.length]; exact (List.getElem?_eq_some_iff.1 g1).1
        exact (repL_at P u z5 g1 (by simp [List.getD, List.getElem?_eq_getElem hil])).ext P u hext
      · intro i j hi hj
        have : j = 0 := by rw [hp.one] at hj; omega
        subst this
        have hil : i < vx.cells.toList.length := by rw [hvl, ← q4, ← hp.getLen y]; exact hi
        rw [hp.one, Nat.mul_one, Nat.add_zero, List.take_zero, List.nil_append, List.getElem?_append_left hil]
        simp [List.getD, List.getElem?_eq_getElem hil]
theorem storeB_sound (hu : Law P u) (hclean : ∀ T x, noOwn.go (u.enc T x) = true) {w0 : W0} {O0 : Nat → Prop} {e : E A} (hr : HR P u w0 O0 e) {t id idx off S i : Nat} {x r : SV A} {va vx : Value} {c : Option Prop} {f : Eff A} (ha : RepL P u e [.bptr id idx off S i] [va]) (hx : RepL P u e [x] [vx])
    (h : storeB P u e.own t id idx off S i x = some (c, r, f)) : ∃ e', (Instr.storeAt t va vx).run P e.w = .ok () e'.w ∧ HR P u w0 O0 e' ∧ Ext e e' ∧ e'.own = updL e.own f ∧ r = .undef := by
  unfold storeB at h
  split at h
  case isFalse => cases h
  rename_i hcond
  simp only [Bool.and_eq_true] at hcond
  have hS := Nat.eq_of_beq_eq_true hcond.1
  subst hS
  have hagg : aggT P S ≠ none := by intro hn; rw [hn] at hcond; cases hcond.2
  split at h
  case h_2 => cases h
  rename_i R xs ho
  split at h
  case h_2 => cases h
  rename_i y hy
  unfold storeP at h
  split at h
  case h_2 => cases h
  rename_i p hp0
  cases h
  obtain ⟨e0, z1, z2, z3, z4, z5, z6⟩ := elemS_sound P u hu hclean hr hx (bareE'_eq hy)
  have hown0 : e0.own = e.own := z4
  have hp := hu.part _ _ _ _ hp0
  rw [← hown0] at ho
  have ha0 := ha.ext P u z3
  cases ha0 with
  | bptrD _ _ _ _ _ _ hd _ _ => rw [ho] at hd; cases hd
  | bptr _ _ _ _ _ b c T2 zs hv hβ hi hpn _ =>
    have hsame : T2 = R ∧ HEq zs xs := by
      rw [ho] at hv; rcases hv with hv | hv <;> cases hv; exact ⟨rfl, HEq.rfl⟩
    obtain ⟨rfl, hh⟩ := hsame
    cases hh
    have hpn := hpn p hp0
    have hfit := hp.fits
    have h1c := cellOk_all P u z5 (hu.cells _ _)
    have hvl : vx.cells.toList.length = 1 := by rw [Array.length_toList, z6, hp.one]
    have hgl := hp.getLen (zs.getD idx (u.dflt T2))
    have hset : (p.get (zs.getD idx (u.dflt T2))).set i y = (p.get (zs.getD idx (u.dflt T2))).take i ++ [y].take 1 ++ (p.get (zs.getD idx (u.dflt T2))).drop (i + 1) := by
      rw [List.set_eq_take_append_cons_drop, if_pos (by omega)]
      simp
    rw [hset]
    obtain ⟨e', q1, q2, q3, q4, _⟩ := z2.putEl P u (idx := idx) (off := off + i) (ns := vx.cells.toList) (y := p.put (zs.getD idx (u.dflt T2)) ((p.get (zs.getD idx (u.dflt T2))).take i ++ [y].take 1 ++ (p.get (zs.getD idx (u.dflt T2))).drop (i + 1))) ho hβ hi h1c (by omega)
      (fun vs hvs _ => part_put P u hp hvs hvl (by simp) (by omega) (fun j z v hj hz hv => by
        have : j = 0 := by omega
        subst this
        cases hz
        have hh := z5
        match vx.cells.toList, hvl, hv, hh with
        | [w], _, hv, hh => cases hv; exact hh))
    refine ⟨e', ?_, q2, z3.trans q3, by rw [q4, hown0]; rfl, rfl⟩
    rw [← z1]
    have hsz : vx.cells.size = P.cellsOf S := z6
    simp only [Instr.storeAt, Instr.sureAddr, storeVar, Sem.run_bind, Sem.run_pure, Result.andThen, run_sizeOf P hagg e0.w]
    rw [if_neg (by simpa using hsz)]
    rw [← Nat.add_assoc] at q1
    exact q1
theorem store_sound (hu : Law P u) (hclean : ∀ T x, noOwn.go (u.enc T x) = true) {w0 : W0} {O0 : Nat → Prop} {e : E A} (hr : HR P u w0 O0 e) {t : Nat} {a x r : SV A} {va vx : Value} {c : Option Prop} {f : Eff A} (ha : RepL P u e [a] [va]) (hx : RepL P u e [x] [vx])
    (h : storeS P u e.own t a x = some (c, r, f)) (hc : holds c) : ∃ e', (Instr.storeAt t va vx).run P e.w = .ok () e'.w ∧ HR P u w0 O0 e' ∧ Ext e e' ∧ e'.own = updL e.own f ∧ r = .undef := by
  unfold storeS at h
  split at h
  · rename_i id off
    split at h
    case h_2 => cases h
    rename_i cs ho
    split at h
    case h_2 => cases h
    rename_i l hl
    split at h
    case isFalse => cases h
    rename_i hcond
    cases h
    obtain ⟨e', h1, h2, h3, h4⟩ := storeVar_sound P u hr ho ha hx hl hcond.1 hcond.2.1 hcond.2.2
    exact ⟨e', h1, h2, h3, h4, rfl⟩
  · rename_i id idx off
    split at h
    case h_2 => cases h
    rename_i T xs ho
    split at h
    · rename_i hcond
      simp only [Bool.and_eq_true] at hcond
      obtain ⟨hs, hoff, hidx⟩ := hcond
      have hoff := Nat.eq_of_beq_eq_true hoff
      have hidx := Nat.eq_of_beq_eq_true hidx
      subst hoff; subst hidx
      exact storeA_sound P u hu hclean hr ho hs ha hx h hc
    split at h
    · rename_i y f1 hel
      split at hel
      case isFalse => cases hel
      rename_i hTt
      have hTt := Nat.eq_of_beq_eq_true hTt
      subst hTt
      split at hel
      case isFalse => cases hel
      rename_i hoff
      have hoff := Nat.eq_of_beq_eq_true hoff
      subst hoff
      split at h
      case h_2 => cases h
      rename_i S zs hid
      split at h
      case isFalse => cases h
      rename_i hST
      subst hST
      split at h
      case isFalse => cases h
      rename_i hagg
      cases h
      obtain ⟨e1, a1, a2, a3, a4, a5, a6⟩ := elemS_sound P u hu hclean hr hx hel
      rw [← a4] at hid
      have hlen : (u.enc S y).length = P.cellsOf S := by rw [← a6, a5.length]; simp
      have hlz : (u.enc S (zs.getD idx (u.dflt S))).length = P.cellsOf S ∨ True := .inr trivial
      obtain ⟨e2, b1, b2, b3, b4⟩ := storeRow_sound P u hu a2 (t := S) (y := y) hid (ha.ext P u a3) a5 (cellOk_all P u a5 (hu.cells _ _)) hlen hagg (by omega) (fun vs hvs => by
        unfold setAt at hvs
        simp only [List.take_zero, List.nil_append, Nat.zero_add] at hvs
        have hd : ((u.enc S (zs.getD idx (u.dflt S))).drop (u.enc S y).length) = [] := by
          have hent := a2.ent id
          rw [hid] at hent
          cases (ha.ext P u a3) with
          | rptrD _ _ _ _ hd _ _ => rw [hid] at hd; cases hd
          | rptr _ _ _ b' c' T2 ys hv hβ' hi _ =>
            have hsame : T2 = S ∧ HEq ys zs := by
              rw [hid] at hv; rcases hv with hv | hv <;> cases hv; exact ⟨rfl, HEq.rfl⟩
            obtain ⟨rfl, hys⟩ := hsame
            cases hys
            rcases hent with ⟨hn, _⟩ | ⟨b, c, arr, T', fz, ows, hβ, hfr, hheap, hfz, harr, hc, hel2⟩
            · rw [hn] at hi; simp at hi
            · have hget : ys[idx]? = some (ys.getD idx (u.dflt T2)) := by simp [List.getD, List.getElem?_eq_getElem hi]
              obtain ⟨g1, g2, _⟩ := hel2 idx _ hget
              apply List.drop_eq_nil_of_le
              rw [g1.length, g2, hlen]
              exact Nat.le_refl _
        rw [hd, List.append_nil] at hvs
        exact hvs)
      refine ⟨e2, ?_, b2, a3.trans b3, by rw [b4, a4, updL_app]; rfl, rfl⟩
      rw [← a1]; exact b1
    · split at h
      case h_2 => cases h
      rename_i l0 hl0
      split at h
      rename_i l f1 hf
      split at h
      case h_2 => cases h
      rename_i S zs hid
      split at h
      case isFalse => cases h
      rename_i hcond
      split at h
      case h_2 => cases h
      rename_i y hd
      cases h
      obtain ⟨h1, h1c⟩ := cellsV_rep P u hx hl0
      obtain ⟨e1, a1, a2, a3, a4, a5⟩ := frzL_sound P u hclean hr h1 hf
      rw [← a4] at hid
      obtain ⟨e2, b1, b2, b3, b4⟩ := storeRow_sound P u hu a2 (t := t) (y := y) hid (ha.ext P u a3) a5 h1c hcond.1 hcond.2.1 hcond.2.2 (fun vs hvs => hu.dec _ _ _ _ _ hd hvs)
      refine ⟨e2, ?_, b2, a3.trans b3, by rw [b4, a4, updL_app]; rfl, rfl⟩
      rw [← a1]; exact b1
  · exact storeB_sound P u hu hclean hr ha hx h
  · rename_i id off
    split at h
    case h_2 => cases h
    rename_i T xs q cs ho
    split at h
    case h_2 => cases h
    rename_i l hl
    split at h
    case isFalse => cases h
    rename_i hcond
    cases h
    obtain ⟨h1, h1c⟩ := cellsV_rep P u hx hl
    obtain ⟨e', b1, b2, b3, b4⟩ := storeC_sound P u hu hr ho ha h1 h1c hcond.1 hcond.2.1 hcond.2.2
    exact ⟨e', b1, b2, b3, b4, rfl⟩
  · cases h
/-- A block that is marked behind its last cell. -/
theorem freeze_heap (w : World) (b n : Nat) {arr : Array Value} {T : TypeId} {fz : Nat × Nat} (h : w.heap[b]? = some (.cells arr T fz)) (hn : arr.size = n) (hfz : Fz n fz) : ∃ fz', Fz n fz' ∧ (w.freeze ⟨b, n, none⟩ 1).heap[b]? = some (.cells arr T fz') := by
  obtain ⟨lo, hi⟩ := fz
  refine ⟨if lo == hi then (n, n + 1) else (min lo n, max hi (n + 1)), ?_, ?_⟩
  · split
    · exact .inr (Nat.le_refl _)
    · rename_i hne
      rcases hfz with h | h
      · cases h; exact absurd rfl hne
      · right
        simp only at h ⊢
        omega
  · unfold World.freeze
    rw [if_neg (by decide)]
    show (w.heap.modify b _)[b]? = _
    rw [Array.getElem?_modify, if_pos rfl, h]
    rfl
theorem freeze_other (w : World) (b n b' : Nat) (h : b' ≠ b) : (w.freeze ⟨b, n, none⟩ 1).heap[b']? = w.heap[b']? := by
  unfold World.freeze
  rw [if_neg (by decide)]
  show (w.heap.modify b _)[b']? = _
  rw [Array.getElem?_modify, if_neg (Ne.symm h)]
theorem freeze_size (w : World) (b n : Nat) : (w.freeze ⟨b, n, none⟩ 1).heap.size = w.heap.size := by
  unfold World.freeze
  rw [if_neg (by decide)]
  show (w.heap.modify b _).size = _
  simp
theorem freeze_rest (w : World) (b n : Nat) : (w.freeze ⟨b, n, none⟩ 1).os = w.os ∧ (w.freeze ⟨b, n, none⟩ 1).tape = w.tape ∧ (w.freeze ⟨b, n, none⟩ 1).output = w.output := by
  unfold World.freeze
  rw [if_neg (by decide)]
  exact ⟨rfl, rfl, rfl⟩
theorem convH_sound (hu : Law P u) {w0 : W0} {O0 : Nat → Prop} {e : E A} {k : Nat} (hr : HR P u w0 O0 e) (hkH : k < 1152921504606846976) {s d : Nat} {x r : SV A} {v : Value} {c : Option Prop} {f : Eff A} (hx : RepL P u e [x] [v]) (h : convH P u k e.own s d x = some (c, r, f)) (hc : holds c) :
    ∃ v' e', (convert s d v).run P e.w = .ok v' e'.w ∧ HR P u w0 O0 e' ∧ Ext e e' ∧ e'.own = updL e.own f ∧ RepL P u e' [r] [v'] := by
  unfold convH at h
  split at h
  case h_2 => cases h
  rename_i T hd
  split at h
  case h_2 => cases h
  rename_i hu8
  split at h
  · rename_i b
    split at h
    case isFalse => cases h
    rename_i hcond
    obtain ⟨hb, hone, hstr⟩ := hcond
    have hs : P.underlying s = some .string := by
      unfold isStrT at hstr
      split at hstr
      · assumption
      · cases hstr
    split at h
    case h_2 => cases h
    rename_i hk0
    have hk := And.intro hk0 hkH
    cases h
    cases hx
    obtain ⟨hol, hog⟩ := hu.ofNums T (strNums b) hb
    have hsl : (strNums b).length = b.size := by simp [strNums]
    have hge : b.size ≤ grownCap e.w b.size 0 T := grownCap_ge e.w b.size 0 T
    have hrun := run_bytes_of_string (P := P) e.w s d T b hs hd hu8
    have hbs : (bytesRow b (grownCap e.w b.size 0 T)).toList = (strNums b).map (Value.int .u8) ++ List.replicate (grownCap e.w b.size 0 T - b.size) (.int .u8 0) := by
      simp [bytesRow, strNums]
    have hbl : (bytesRow b (grownCap e.w b.size 0 T)).toList.length = grownCap e.w b.size 0 T := by
      rw [hbs, List.length_append, List.length_map, List.length_replicate, hsl]; omega
    obtain ⟨e', h1, h2, h3, h4, h5⟩ := hr.newRow P u (k := k) (T := T) (c := grownCap e.w b.size 0 T) (xs := u.ofNums T (strNums b)) (arr := (bytesRow b (grownCap e.w b.size 0 T)).toList) (T' := T)
      (fz := ((bytesRow b (grownCap e.w b.size 0 T)).size, (bytesRow b (grownCap e.w b.size 0 T)).size + 1)) (vss := fun i => [.int .u8 ((strNums b).getD i 0)]) hk
      (w' := e.w.drew.alloc (.cells (bytesRow b (grownCap e.w b.size 0 T)) T ((bytesRow b (grownCap e.w b.size 0 T)).size, (bytesRow b (grownCap e.w b.size 0 T)).size + 1))) rfl rfl rfl rfl (.inr (by simp)) (by rw [hbl, hone]; simp) (by omega) (fun i x hi => by
        have hil : i < (strNums b).length := by rw [← hol]; exact (List.getElem?_eq_some_iff.1 hi).1
        obtain ⟨x', g1, g2⟩ := hog i _ (List.getElem?_eq_getElem hil)
        rw [g1] at hi; cases hi
        rw [g2]
        simp only [List.getD, List.getElem?_eq_getElem hil, Option.getD_some]
        exact .int _ _ .nil) (fun i hi => by simp [hone]) (by
        intro i j hi hj
        have hj0 : j = 0 := by omega
        subst hj0
        have hil : i < (strNums b).length := by rw [← hol]; exact hi
        rw [hbs, hone, Nat.mul_one, Nat.add_zero, List.getElem?_append_left (by simpa using hil)]
        simp [List.getD, List.getElem?_eq_getElem hil])
    refine ⟨_, e', by rw [hrun, h1], h2, h3, h4, ?_⟩
    rw [hol, hsl] at h5
    exact h5
  · rename_i id
    split at h
    case isFalse => cases h
    rename_i hsd
    have hsd := Nat.eq_of_beq_eq_true hsd
    subst hsd
    split at h
    case h_2 => cases h
    rename_i S xs ho
    cases h
    have hpos : 0 < xs.length := hc
    have hsame : ∀ {T2 : Nat} {zs : List (A T2)}, (e.own id = .row T2 zs ∨ e.own id = .fro T2 zs) → T2 = S ∧ HEq zs xs := by
      intro T2 zs hv
      rw [ho] at hv
      rcases hv with hv | hv <;> cases hv
      exact ⟨rfl, HEq.rfl⟩
    cases hx with
    | orowD _ _ hd _ _ => rw [ho] at hd; cases hd
    | orowN _ T2 a hv _ => obtain ⟨rfl, hh⟩ := hsame hv; cases hh; simp at hpos
    | orow _ b c cap T2 ys hv hβ hcc _ =>
      obtain ⟨rfl, hh⟩ := hsame hv
      cases hh
      have hent := hr.ent id
      rw [ho] at hent
      rcases hent with ⟨_, hn⟩ | ⟨b2, c2, arr, T', fz, ows, hβ2, hfr, hheap, hfz, harr, hc2, hel⟩
      · rw [hn] at hβ; cases hβ
      rw [hβ] at hβ2; cases hβ2
      have hbO : e.O b := hr.ownO P u (by rw [ho]; rfl) hβ
      have hsh : e.w.shape? b = some (T', arr.length) := by
        unfold World.shape?
        rw [hheap]
        rfl
      obtain ⟨fz', hfz', hheap'⟩ := freeze_heap e.w b arr.length hheap rfl hfz
      obtain ⟨g1, g2, g3⟩ := freeze_rest e.w b arr.length
      obtain ⟨hext, hr'⟩ := hr.world P u (w' := e.w.freeze ⟨b, arr.length, none⟩ 1) g1 g2 g3 (by rw [freeze_size]; exact Nat.le_refl _) (fun b' _ hno => freeze_other _ _ _ _ (by rintro rfl; exact hno ⟨hfr, hbO⟩)) (fun id' hf hd' hx' => by
        by_cases hid : id' = id
        · subst hid
          rw [ho]
          exact .inr ⟨b, c, arr, T', fz', ows, hβ, hfr, hheap', hfz', harr, hc2, fun i x hi => ⟨(hel i x hi).1.ext P u hx', (hel i x hi).2⟩⟩
        · refine (hr.ent id').later P u hx' rfl (fun b' c' hβ' => freeze_other _ _ _ _ ?_)
          rintro rfl
          exact hid (hr.inj id' id b' c' c hf hd' (by rw [ho]; simp) (by rw [ho]; simp) hβ' hβ))
      refine ⟨_, _, ?_, hr', hext, rfl, .orow id b c cap T2 ys hv hβ hcc .nil⟩
      simp [convert, run_underlying hd, run_underlying hu8, markStringish, hsh]
  · cases h
theorem heap_sound (hu : Law P u) (hclean : ∀ T x, noOwn.go (u.enc T x) = true) {w0 : W0} {O0 : Nat → Prop} {e : E A} {o : Oper} {ρ : Operand → Value} {ev : Operand → SV A} {k : Nat} {c : Option Prop} {y : SV A} {f : Eff A} (hr : HR P u w0 O0 e) (hkH : k < 1152921504606846976) (hev : ∀ x, RepL P u e [ev x] [ρ x])
    (h : heapS P u k e.own o ev = some (c, y, f)) (hc : holds c) : ∃ n r e', (execOp ρ o).run P e.w = .ok n e'.w ∧ Yield n r ∧ HR P u w0 O0 e' ∧ Ext e e' ∧ e'.own = updL e.own f ∧ RepL P u e' [y] [r] := by
  unfold heapS at h
  unfold execOp
  split at h <;> (first | (rename_i hop; rw [hop]) | skip)
  · rename_i t x
    split at h
    · split at h
      case h_2 => cases h
      rename_i y hy
      obtain ⟨e0, z1, z2, z3, z4, z5, z6⟩ := elemS_sound P u hu hclean hr (hev x) (bareE'_eq hy)
      have hown0 : e0.own = e.own := z4
      rw [← hown0] at h
      obtain ⟨e', a1, a2, a3, a4, a5⟩ := laid_sound P u hu z2 hkH z5 z6 h
      rw [z1] at a1 a5
      refine ⟨_, _, e', ?_, .value _, a2, z3.trans a3, by rw [a4, hown0], a5⟩
      simp only [Instr.box, Sem.run_bind, run_newVar, Result.andThen, Sem.run_pure, a1]
    split at h
    · rename_i cells hcs hk
      cases h
      obtain ⟨h1, _⟩ := cellsV_rep P u (hev x) hcs
      obtain ⟨hext, hmk⟩ := hr.new P u (k := k) (c := 0) (o := .var cells) (w' := e.w.alloc (.cells (ρ x).cells t)) hk hkH (by simp) (by simp) rfl rfl rfl (by rw [alloc_size]; omega) (fun b hb => Below.heap_alloc _ _ _ hb)
      refine ⟨_, _, _, ?_, .value _, hmk ?_, hext, rfl, .optr k 0 e.w.heap.size 0 (by show (upd e.own k _ k).isVar = true; rw [upd_same]; rfl) (by show upd e.β k _ k = _; rw [upd_same]) .nil⟩
      · simp only [Instr.box, Sem.run_bind, run_newVar, Result.andThen, Sem.run_pure]; rfl
      · exact ⟨e.w.heap.size, 0, (ρ x).cells.toList, t, by show upd e.β k _ k = _; rw [upd_same], .inl hr.below.size, alloc_get _ _, h1.ext P u hext⟩
    · cases h
  · rename_i t
    split at h
    · split at h
      case h_2 => cases h
      rename_i y hy
      obtain ⟨it, zv, hi, hz, hrep⟩ := zeroEl_rep P u hu (e := e) hy
      have hzl : zv.cells.size = P.cellsOf t := by
        obtain ⟨l, hl, hll, _⟩ := zeroEl_cells P u hu hy
        unfold zeroS at hl
        simp only [hi, hz, Option.bind_some] at hl
        have h7 := (cellsS_rep P u (e := e) hl).length
        rw [← hll, h7]
        simp
      obtain ⟨e', a1, a2, a3, a4, a5⟩ := laid_sound P u hu hr hkH hrep hzl h
      refine ⟨_, _, e', ?_, .value _, a2, a3, a4, a5⟩
      have hzr : (zeroValue t).run P e.w = .ok zv e.w := by simp [zeroValue, typeInfo, hi, hz]
      simp only [Instr.alloc, Sem.run_bind, hzr, Result.andThen, run_newVar, Sem.run_pure, a1]
    split at h
    · rename_i cells hcs hk
      cases h
      unfold zeroS at hcs
      cases hi : P.info? t with
      | none => simp [hi] at hcs
      | some it =>
        cases hz : it.zero with
        | none => simp [hi, hz] at hcs
        | some zv =>
          simp only [hi, hz, Option.bind_some] at hcs
          have h1 := cellsS_rep P u (e := e) hcs
          obtain ⟨hext, hmk⟩ := hr.new P u (k := k) (c := 0) (o := .var cells) (w' := e.w.alloc (.cells zv.cells t)) hk hkH (by simp) (by simp) rfl rfl rfl (by rw [alloc_size]; omega) (fun b hb => Below.heap_alloc _ _ _ hb)
          refine ⟨_, _, _, ?_, .value _, hmk ?_, hext, rfl, .optr k 0 e.w.heap.size 0 (by show (upd e.own k _ k).isVar = true; rw [upd_same]; rfl) (by show upd e.β k _ k = _; rw [upd_same]) .nil⟩
          · have hzr : (zeroValue t).run P e.w = .ok zv e.w := by simp [zeroValue, typeInfo, hi, hz]
            simp only [Instr.alloc, Sem.run_bind, hzr, Result.andThen, run_newVar, Sem.run_pure]
            rfl
          · exact ⟨e.w.heap.size, 0, zv.cells.toList, t, by show upd e.β k _ k = _; rw [upd_same], .inl hr.below.size, alloc_get _ _, h1.ext P u hext⟩
    · cases h
  · rename_i t a x
    obtain ⟨e', h1, h2, h3, h4, rfl⟩ := store_sound P u hu hclean hr (hev a) (hev x) h hc
    exact ⟨_, _, e', by simp only [Sem.run_bind, h1, Result.andThen, Sem.run_pure], .skip, h2, h3, h4, .undef .nil⟩
  · rename_i t len ps
    split at h
    · rename_i el hu'
      split at h
      · rename_i hb
        simp only [Bool.and_eq_true] at hb
        obtain ⟨hT, h3⟩ := hb
        have hle : len * P.cellsOf el ≤ 16777216 := Nat.le_of_ble_eq_true h3
        split at h
        · rename_i xs f1 hxs hk
          split at h
          · rename_i hk2
            split at h
            · rename_i hlen
              have hlen := Nat.eq_of_beq_eq_true hlen
              cases h
              obtain ⟨i, z, hi, hz, hzs, hs, hbt, hcs, hbs, hag⟩ := okRow_spec P hT
              obtain ⟨vs, e1, a1, a2, a3, a4, g1, g2, g3, g4⟩ := rowS_rep P u hu hclean ps.toList 0 e xs f1 hr hev hxs
              have hsz := run_sizeOf P (t := el) hag e.w
              have hzr : (zeroValue el).run P e.w = .ok z e.w := by simp [zeroValue, typeInfo, hi, hz]
              have hpos : 0 < P.cellsOf el := by rw [hcs]; exact hs
              obtain ⟨r, f1', f2, f3⟩ := Great.fill_dense hpos vs 0 ((Array.range (len * P.cellsOf el)).map (z.cells[· % z.cells.size]!)) g3 (by simp [g2, hlen])
              have hparts : (ps.map fun (i, x) => (i, ρ x)).toList = (vs.zipIdx 0).map fun x => (x.2, x.1) := by rw [← g1]; simp
              have hrsz : r.size = len * P.cellsOf el := by rw [f2]; simp
              have hrun : (Instr.buildSlice t len (ps.map fun (i, x) => (i, ρ x))).run P e.w = .ok (.slice (some ⟨e.w.heap.size, 0, none⟩) len len) (e.w.alloc (.cells r el)) := by
                simp only [Instr.buildSlice, Sem.run_bind, run_underlying hu', Result.andThen, hsz]
                rw [if_neg (by omega)]
                simp only [hparts]
                by_cases h0 : len * P.cellsOf el = 0
                · rw [if_pos h0]
                  have f1'' : Instr.fill (fun i => some (i * P.cellsOf el, P.cellsOf el)) ((Array.range (len * P.cellsOf el)).map ((#[] : Array Value)[· % (#[] : Array Value).size]!)) ((vs.zipIdx 0).map fun x => (x.2, x.1)) = some r := by
                    have e0 : ∀ f : Nat → Value, (Array.range 0).map f = #[] := fun f => by rw [show Array.range 0 = #[] from rfl]; simp
                    rw [h0, e0] at f1' ⊢
                    exact f1'
                  simp only [Sem.run_bind, Sem.run_pure, Result.andThen]
                  rw [f1'']
                  rfl
                · rw [if_neg h0]
                  simp only [Sem.run_bind, Sem.run_pure, hzr, Result.andThen]
                  rw [f1']
                  rfl
              have hvl : vs.length = len := by omega
              obtain ⟨e', b1, b2, b3, b4, b5⟩ := a2.newRow P u (k := k) (T := el) (c := len) (xs := xs) (arr := r.toList) (T' := el) (fz := (0, 0)) (vss := fun i => (vs.getD i (.tuple #[])).cells.toList) ⟨by rw [a4]; exact hk2, hkH⟩
                (w' := e.w.alloc (.cells r el)) (by rw [a1]; rfl) (by rw [a1]; rfl) (by rw [a1]; rfl) (by rw [a1]; rfl) (.inl rfl) (by simpa using hrsz) (by omega) (fun i x hi => by
                  obtain ⟨v, hv, hrep⟩ := g4 i x hi
                  simp only [List.getD, hv, Option.getD_some]
                  exact hrep) (fun i hi => by
                  have hil : i < vs.length := by omega
                  simp only [List.getD, List.getElem?_eq_getElem hil, Option.getD_some, Array.length_toList]
                  exact g3 _ (List.getElem_mem hil)) (by
                  intro i j hi hj
                  have hil : i < vs.length := by omega
                  have hkl : i * P.cellsOf el + j < (0 + vs.length) * P.cellsOf el := by
                    have : (i + 1) * P.cellsOf el ≤ vs.length * P.cellsOf el := Nat.mul_le_mul_right _ hil
                    rw [Nat.add_mul, Nat.one_mul] at this
                    rw [Nat.zero_add]; omega
                  have h5 := f3 (i * P.cellsOf el + j)
                  rw [if_pos ⟨by simp, hkl⟩] at h5
                  have hdiv : (i * P.cellsOf el + j) / P.cellsOf el = i := by
                    rw [Nat.mul_comm, Nat.mul_add_div hpos, Nat.div_eq_of_lt hj, Nat.add_zero]
                  have hmod : (i * P.cellsOf el + j) % P.cellsOf el = j := by
                    rw [Nat.mul_comm, Nat.mul_add_mod, Nat.mod_eq_of_lt hj]
                  rw [hdiv, hmod, Nat.sub_zero, List.getElem?_eq_getElem hil] at h5
                  simp only [Option.bind_some] at h5
                  simp only [List.getD, List.getElem?_eq_getElem hil, Option.getD_some]
                  simpa using h5)
              rw [a1] at b5
              refine ⟨_, .slice (some ⟨e.w.heap.size, 0, none⟩) len len, e', ?_, .value _, b2, a3.trans b3, by rw [b4, a4, updL_app]; rfl, by rw [hlen] at b5; exact b5⟩
              simp only [Sem.run_bind, hrun, Result.andThen, Sem.run_pure, b1]
            · cases h
          · cases h
        · rename_i hxs hk
          split at h
          case isFalse => cases h
          rename_i h1c
          have h1c := Nat.eq_of_beq_eq_true h1c
          split at h
          case h_2 => cases h
          rename_i cells hcells
          split at h
          case isFalse => cases h
          rename_i hlen
          have hlen := Nat.eq_of_beq_eq_true hlen
          cases h
          obtain ⟨i, z, hi, hz, hzs, hs, hbt, hcs, hbs, hag⟩ := okRow_spec P hT
          obtain ⟨vs, g1, g2, g3, g4⟩ := ptrL_rep P u hev ps.toList 0 cells hcells
          have hsz := run_sizeOf P (t := el) hag e.w
          have hzr : (zeroValue el).run P e.w = .ok z e.w := by simp [zeroValue, typeInfo, hi, hz]
          have hpos : 0 < P.cellsOf el := by rw [hcs]; exact hs
          obtain ⟨r, f1', f2, f3⟩ := Great.fill_dense hpos vs 0 ((Array.range (len * P.cellsOf el)).map (z.cells[· % z.cells.size]!)) (by rw [h1c]; exact g3) (by simp [g2, hlen])
          have hparts : (ps.map fun (i, x) => (i, ρ x)).toList = (vs.zipIdx 0).map fun x => (x.2, x.1) := by rw [← g1]; simp
          have hrsz : r.size = len := by rw [f2, h1c]; simp
          have hrun : (Instr.buildSlice t len (ps.map fun (i, x) => (i, ρ x))).run P e.w = .ok (.slice (some ⟨e.w.heap.size, 0, none⟩) len len) (e.w.alloc (.cells r el)) := by
            simp only [Instr.buildSlice, Sem.run_bind, run_underlying hu', Result.andThen, hsz]
            rw [if_neg (by omega)]
            simp only [hparts]
            by_cases h0 : len * P.cellsOf el = 0
            · rw [if_pos h0]
              have f1'' : Instr.fill (fun i => some (i * P.cellsOf el, P.cellsOf el)) ((Array.range (len * P.cellsOf el)).map ((#[] : Array Value)[· % (#[] : Array Value).size]!)) ((vs.zipIdx 0).map fun x => (x.2, x.1)) = some r := by
                have e0 : ∀ f : Nat → Value, (Array.range 0).map f = #[] := fun f => by rw [show Array.range 0 = #[] from rfl]; simp
                rw [h0, e0] at f1' ⊢
                exact f1'
              simp only [Sem.run_bind, Sem.run_pure, Result.andThen]
              rw [f1'']
              rfl
            · rw [if_neg h0]
              simp only [Sem.run_bind, Sem.run_pure, hzr, Result.andThen]
              rw [f1']
              rfl
          have hrep : RepL P u e cells r.toList := by
            refine repL_of P u (by simp [hrsz, hlen]) fun j x v hx hv => ?_
            obtain ⟨w, hw, hrw⟩ := g4 j x hx
            have hjl : j < vs.length := (List.getElem?_eq_some_iff.1 hw).1
            have h5 := f3 j
            rw [if_pos ⟨by omega, by rw [h1c]; omega⟩, h1c, Nat.div_one, Nat.mod_one, Nat.sub_zero, hw] at h5
            simp only [Option.bind_some] at h5
            have hws := g3 w (List.mem_of_getElem? hw)
            have hv' : r[j]? = some v := by simpa using hv
            rw [h5] at hv'
            have : w.cells.toList = [v] := by
              apply List.ext_getElem?
              intro n
              cases n with
              | zero => simpa using hv'
              | succ n => simp [hws]
            rw [this] at hrw
            exact hrw
          obtain ⟨hext, hmk⟩ := hr.new P u (k := k) (c := 0) (o := .var cells) (w' := e.w.alloc (.cells r el)) hk hkH (by simp) (by simp) rfl rfl rfl (by rw [alloc_size]; omega) (fun b hb => Below.heap_alloc _ _ _ hb)
          refine ⟨_, .slice (some ⟨e.w.heap.size, 0, none⟩) len len, _, ?_, .value _, hmk ?_, hext, rfl, ?_⟩
          · simp only [Sem.run_bind, hrun, Result.andThen, Sem.run_pure]
            rfl
          · exact ⟨e.w.heap.size, 0, r.toList, el, by show upd e.β k _ k = _; rw [upd_same], .inl hr.below.size, alloc_get _ _, hrep.ext P u hext⟩
          · exact .vsl k 0 len e.w.heap.size 0 len (by show (upd e.own k _ k).isVar = true; rw [upd_same]; rfl) (by show upd e.β k _ k = _; rw [upd_same]) (Nat.le_refl _) .nil
        · cases h
      · cases h
    · cases h
  · rename_i t l cc
    obtain ⟨v', e', h1, h2, h3, h4, h5⟩ := make_sound P u hu hr hkH (hev l) (hev cc) h hc
    exact ⟨_, v', e', by simp only [Sem.run_bind, h1, Result.andThen, Sem.run_pure], .value _, h2, h3, h4, h5⟩
  · rename_i t
    obtain ⟨v', e', h1, h2, h3, h4, h5⟩ := mmake_sound P u hr hkH h
    exact ⟨_, v', e', by simp only [Option.map_none, Sem.run_bind, h1, Result.andThen, Sem.run_pure], .value _, h2, h3, h4, h5⟩
  · rename_i t x i ok
    obtain ⟨v', h1, h2, rfl⟩ := mlook_sound P u hu hr (hev x) (hev i) h
    exact ⟨_, v', e, by simp only [Sem.run_bind, h1, Result.andThen, Sem.run_pure], .value _, hr, .refl e, rfl, h2⟩
  · rename_i t m i x
    obtain ⟨e', h1, h2, h3, h4, rfl⟩ := mupd_sound P u hu hclean hr (hev m) (hev i) (hev x) h
    exact ⟨_, _, e', by simp only [Sem.run_bind, h1, Result.andThen, Sem.run_pure], .skip, h2, h3, h4, .undef .nil⟩
  · rename_i s d x
    obtain ⟨v', e', h1, h2, h3, h4, h5⟩ := convH_sound P u hu hr hkH (hev x) h hc
    exact ⟨_, v', e', by simp only [Sem.run_bind, h1, Result.andThen, Sem.run_pure], .value _, h2, h3, h4, h5⟩
  · rename_i cc
    split at h
    · rename_i b hb
      have hmap : cc.args.map ρ = (cc.args.toList.map ρ).toArray := by apply Array.ext'; simp
      have hreps := reps P u hev cc.args.toList
      split at h
      · rename_i t1 t2 x y hts hxs
        rw [hxs] at hreps
        obtain ⟨v, ws, hv, g1, g2⟩ := hreps.split P u
        obtain ⟨v2, ws2, rfl, g3, g4⟩ := g2.split P u
        cases g4
        have hts' : cc.argTypes = #[t1, t2] := by cases hcc : cc.argTypes; simp_all
        obtain ⟨v', e', h1, h2, h3, h4, h5⟩ := append_sound P u hu hr hkH (ty := o.type) g1 g3 h hc
        refine ⟨_, v', e', ?_, .value _, h2, h3, h4, h5⟩
        simp only [resolve, hb, Sem.run_bind, Sem.run_pure, Result.andThen, invoke, builtin, hmap, hv, hts']
        simp [h1]
      · rename_i t1 t2 x y hts hxs
        rw [hxs] at hreps
        obtain ⟨v, ws, hv, g1, g2⟩ := hreps.split P u
        obtain ⟨v2, ws2, rfl, g3, g4⟩ := g2.split P u
        cases g4
        have hts' : cc.argTypes = #[t1, t2] := by cases hcc : cc.argTypes; simp_all
        obtain ⟨v', e', h1, h2, h3, h4, h5⟩ := copy_sound P u hu hr (t2 := t2) (ty := o.type) g1 g3 h hc
        refine ⟨_, v', e', ?_, .value _, h2, h3, h4, h5⟩
        simp only [resolve, hb, Sem.run_bind, Sem.run_pure, Result.andThen, invoke, builtin, hmap, hv, hts']
        simp [h1]
      · rename_i t x hts hxs
        rw [hxs] at hreps
        obtain ⟨v, ws, hv, g1, g2⟩ := hreps.split P u
        cases g2
        have hts' : cc.argTypes = #[t] := by cases hcc : cc.argTypes; simp_all
        obtain ⟨v', e', h1, h2, h3, h4, h5⟩ := clear_sound P u hu hr (ty := o.type) g1 h
        refine ⟨_, v', e', ?_, .value _, h2, h3, h4, h5⟩
        simp only [resolve, hb, Sem.run_bind, Sem.run_pure, Result.andThen, invoke, builtin, hmap, hv, hts']
        simp [h1]
      · rename_i t1 t2 x y hts hxs
        rw [hxs] at hreps
        obtain ⟨v, ws, hv, g1, g2⟩ := hreps.split P u
        obtain ⟨v2, ws2, rfl, g3, g4⟩ := g2.split P u
        cases g4
        have hts' : cc.argTypes = #[t1, t2] := by cases hcc : cc.argTypes; simp_all
        obtain ⟨v', e', h1, h2, h3, h4, h5⟩ := mdel_sound P u hr (t2 := t2) (ty := o.type) g1 g3 h
        refine ⟨_, v', e', ?_, .value _, h2, h3, h4, h5⟩
        simp only [resolve, hb, Sem.run_bind, Sem.run_pure, Result.andThen, invoke, builtin, hmap, hv, hts']
        simp [h1]
      · rename_i t x hts hxs
        rw [hxs] at hreps
        obtain ⟨v, ws, hv, g1, g2⟩ := hreps.split P u
        cases g2
        have hts' : cc.argTypes = #[t] := by cases hcc : cc.argTypes; simp_all
        obtain ⟨v', h1, h2, rfl⟩ := mlen_sound P u hr (ty := o.type) g1 h
        refine ⟨_, v', e, ?_, .value _, hr, .refl e, rfl, h2⟩
        simp only [resolve, hb, Sem.run_bind, Sem.run_pure, Result.andThen, invoke, builtin, hmap, hv, hts']
        simp [h1]
      · cases h
    · cases h
  · cases h
end
end Go.Proofs.Ytndacggailoogaa.Sx
