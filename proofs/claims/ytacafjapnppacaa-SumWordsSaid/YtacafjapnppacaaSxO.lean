/- An abstract machine over values by content, fifteenth part: regions that draw their order, by the order of the text. -/
import Derived.Test.YtacafjapnppacaaSxN
namespace Go.Proofs.Ytacafjapnppacaa.Sx
open Go Go.RowKit

section
variable {A : Nat → Type} (P : Program) (u : U A) (tab : List (Nat × Spec A))

/-- All temporaries but some are known no more. -/
def maskL (L : List Nat) : Nat → List (SV A) → List (SV A)
  | _, [] => []
  | i, x :: r => (if L.contains i then x else .top) :: maskL L (i + 1) r
theorem maskL_get (L : List Nat) : ∀ (l : List (SV A)) (i k : Nat), (maskL L i l)[k]? = (l[k]?).map fun x => if L.contains (i + k) then x else .top
  | [], _, _ => by simp [maskL]
  | x :: r, i, 0 => by simp [maskL]
  | x :: r, i, k + 1 => by
    rw [maskL]
    simp only [List.getElem?_cons_succ]
    rw [maskL_get L r (i + 1) k, show i + 1 + k = i + (k + 1) by omega]
theorem maskL_length (L : List Nat) : ∀ (l : List (SV A)) (i : Nat), (maskL L i l).length = l.length
  | [], _ => rfl
  | x :: r, i => by simp [maskL, maskL_length L r (i + 1)]
theorem maskL_set (L : List Nat) (l : List (SV A)) (d : Nat) (x : SV A) (h : L.contains d = false) : maskL L 0 (l.set d x) = maskL L 0 l := by
  apply List.ext_getElem?
  intro k
  rw [maskL_get, maskL_get, List.getElem?_set]
  by_cases hk : d = k
  · subst hk
    by_cases hl : d < l.length
    · have hd : d ∉ L := by simpa using h
      simp [hl, hd]
    · simp [hl]
  · simp [hk]
def chain (ops : Array Oper) : Nat → Oper → List Nat
  | 0, _ => []
  | n + 1, o => match o.guard with
    | none => []
    | some (j, _) => match ops[j]? with
      | some o' => (match o'.dst with
        | some d => d :: chain ops n o'
        | none => [])
      | none => []
def tmpsOf : List Operand → List Nat
  | [] => []
  | .tmp t :: r => t :: tmpsOf r
  | _ :: r => tmpsOf r
/-- The temporaries that an operation looks at, its guards with them. -/
def looks (ops : Array Oper) (o : Oper) : List Nat := tmpsOf o.op.operands.toList ++ chain ops 16 o
def mask (L : List Nat) (s : St A) : St A := { s with tmps := maskL L 0 s.tmps }
def whOk (m : St A) : Bool := m.tmps.all fun x => match x with
  | .wh d _ _ => match m.get d with
    | .top => false
    | _ => true
  | _ => true
theorem RepS.mask {w0 : World} {O0 : Nat → Prop} {s : St A} {e : E A} {a : Act} (h : RepS P u w0 O0 s e a) {L : List Nat} (hw : whOk (mask L s) = true) : RepS P u w0 O0 (Sx.mask L s) e a := by
  have hget : ∀ (i : Nat) (x : SV A), (maskL L 0 s.tmps)[i]? = some x → x = .top ∨ s.tmps[i]? = some x := by
    intro i x hi
    rw [maskL_get] at hi
    simp only [Option.map_eq_some_iff] at hi
    obtain ⟨y, h1, h2⟩ := hi
    split at h2
    · subst h2; exact .inr h1
    · exact .inl h2.symm
  refine ⟨h.defers, by rw [h.size]; exact (maskL_length _ _ _).symm, h.own, h.hr, ?_, ?_⟩
  · intro i x hi
    rcases hget i x hi with rfl | hi
    · exact slot_plain P u (.top _ .nil)
    · exact h.slot i x hi
  · intro i d p y hi
    rcases hget i _ hi with hx | hi'
    · cases hx
    refine ⟨(h.wh i d p y hi').1, fun ht => ?_⟩
    have h1 := List.all_eq_true.1 hw _ (List.mem_of_getElem? hi)
    have h2 : (Sx.mask L s).get d = .top := by unfold St.get; rw [ht]
    simp [h2] at h1

/-- What a value may name: what is named where it comes from, and the block that is laid. -/
def named (m : St A) : List Nat := ids.go m.tmps
def constOk (o : Oper) : Bool := o.op.operands.toList.all fun x => match x with
  | .const v => (ids (constS (A := A) v)).isEmpty
  | _ => true
def notWh : SV A → Bool
  | .wh _ _ _ => false
  | _ => true
def convOk (o : Oper) (ow : Option (Nat → Own A)) : Bool := match o.op with
  | .convert _ _ _ => !ow.isSome
  | _ => true
def runC (m : St A) (g : Option (Nat × Bool)) (o : Oper) : Option (Option Prop × SV A × Option (Nat → Own A)) := match runS P u tab m g o with
  | some (c, y, ow) => if convOk o ow && notWh y && (ids y).all (fun id => (named m).contains id || (ow.isSome && makes o.op && Nat.beq id (m.nx + o.dst.getD 0))) then some (c, y, ow) else none
  | none => none
/-- One operation, by what it looks at alone: what is asked, what comes into its temporary, the own blocks behind it. -/
def stepV (ops : Array Oper) (s : St A) (o : Oper) : Option (Option Prop × SV A × Option (Nat → Own A)) :=
  if whOk (mask (looks ops o) s) && constOk (A := A) o then (match guardOf ops o (mask (looks ops o) s) with
    | none => none
    | some .skip => some (none, .undef, none)
    | some .run => runC P u tab (mask (looks ops o) s) none o
    | some (.under d p) => if s.gu.contains d then (match runC P u tab (mask (looks ops o) s) (some (d, p)) o with
      | some (c, y, none) => some (c.map (underP (mask (looks ops o) s) 16 d p), .wh d p y, none)
      | _ => none) else none) else none
def putOk (s : St A) (dst : Option Nat) : Bool := match dst with
  | none => true
  | some d => if s.gu.contains d then (match s.get d with
    | .top => true
    | _ => false) else true
def app (s : St A) (dst : Option Nat) (y : SV A) (ow : Option (Nat → Own A)) : St A := { s with own := ow.getD s.own, tmps := match dst with
  | none => s.tmps
  | some d => s.tmps.set d y }
theorem put_app {s : St A} {dst : Option Nat} {y : SV A} {ow : Option (Nat → Own A)} (h : putOk s dst = true) : putS { s with own := ow.getD s.own } dst y = some (app s dst y ow) := by
  cases dst with
  | none => rfl
  | some d =>
    have h2 : (if s.gu.contains d then (match s.get d with | .top => true | _ => false) else true) = true := h
    show (if s.gu.contains d then (match s.get d with | .top => some (app s (some d) y ow) | _ => none) else some (app s (some d) y ow)) = _
    split
    · rename_i hc
      rw [if_pos hc] at h2
      split at h2
      · rename_i ht; first | rfl | rw [ht]
      · cases h2
    · rfl
theorem mask_get {L : List Nat} {s : St A} {d : Nat} : (mask L s).get d = s.get d ∨ (mask L s).get d = .top := by
  unfold St.get mask
  simp only [maskL_get]
  cases s.tmps[d]? with
  | none => exact .inl rfl
  | some x =>
    simp only [Option.map_some]
    split
    · exact .inl rfl
    · exact .inr rfl
theorem stepV_sound (hL : Laws P u tab) {w0 : World} {O0 : Nat → Prop} {s : St A} {e : E A} {a : Act} (h : RepS P u w0 O0 s e a) {ops : Array Oper} {o : Oper} {c : Option Prop} {y : SV A} {ow : Option (Nat → Own A)} {next : Act → World → Prop} {Q : Exit → Act → World → Prop}
    (hs : stepV P u tab ops s o = some (c, y, ow)) (hp : putOk s o.dst = true) (hc : holds c) (hn : ∀ a' e', RepS P u w0 O0 (app s o.dst y ow) e' a' → next a' e'.w) :
    if Region.wanted o (yielded ops a.tmps) then o.wp P a e.w next Q ∨ (o.asks P a e.w ∧ LetsOut Q) else next (a.put o.dst Go.undef) e.w := by
  unfold stepV at hs
  split at hs
  case isFalse => cases hs
  rename_i hok
  simp only [Bool.and_eq_true] at hok
  have hm := h.mask P u hok.1
  generalize hmm : mask (looks ops o) s = m at *
  have hmo : m.own = s.own := by rw [← hmm]; rfl
  have hget : ∀ d, m.get d = s.get d ∨ m.get d = .top := fun d => by rw [← hmm]; exact mask_get
  have hlen : m.tmps.length = s.tmps.length := by rw [← hmm]; exact maskL_length _ _ _
  have hrun : ∀ {g c y ow}, runC P u tab m g o = some (c, y, ow) → runS P u tab m g o = some (c, y, ow) := by
    intro g c y ow hr
    unfold runC at hr
    split at hr
    · rename_i c' y' ow' hr'
      split at hr
      · cases hr; exact hr'
      · cases hr
    · cases hr
  split at hs
  · cases hs
  · rename_i hg
    rw [guard_skip P u hm hg]
    simp only [Bool.false_eq_true, if_false]
    cases hs
    exact hn _ e (h.put P u (slot_plain P u (.undef .nil)) (by intro _ _ _ hx; cases hx) (put_app (ow := none) hp))
  · rename_i hg
    rw [guard_run P u hm hg]
    simp only [if_true]
    refine .inl (run_sound P u tab hL hm (by intro d p hd; cases hd) (hrun hs) hc fun v e' h1 h2 h3 h4 => ?_)
    have h5 := h.ext P u h1 h2
    rw [h3, hmo] at h5
    exact hn _ e' (h5.put P u (slot_plain P u h4) (by intro d p z hx; subst hx; cases h4) (put_app hp))
  · rename_i d p hg
    split at hs
    · rename_i hgu
      split at hs
      · rename_i c' y' hr
        cases hs
        have hdm : m.get d ≠ .top ∧ m.get d ≠ .undef := by
          unfold guardOf at hg
          split at hg
          · cases hg
          · split at hg
            · cases hg
            · rename_i d' hd'
              split at hg
              · split at hg <;> cases hg
              · cases hg
              · rename_i b hb; cases hg; rw [hb]; simp
              · rename_i b hb; cases hg; rw [hb]; simp
              · rename_i b hb; split at hg <;> cases hg; rw [hb]; simp
              · cases hg
        have hdt : s.get d ≠ .top ∧ d < s.tmps.length := by
          have hgo : s.get d ≠ .top ∧ s.get d ≠ .undef := by
            rcases hget d with hh | hh
            · rw [← hh]; exact hdm
            · exact absurd hh hdm.1
          refine ⟨hgo.1, ?_⟩
          by_cases hlt : d < s.tmps.length
          · exact hlt
          · exfalso
            apply hgo.2
            unfold St.get
            rw [List.getElem?_eq_none (Nat.le_of_not_lt hlt)]
        have hwok : ∀ (y : SV A) d0 p0 y0, SV.wh d p y = SV.wh d0 p0 y0 → d0 ∈ s.gu ∧ s.get d0 ≠ .top ∧ d0 < s.tmps.length := by
          intro y d0 p0 y0 hx
          cases hx
          exact ⟨by simpa using hgu, hdt.1, hdt.2⟩
        by_cases hw : Region.wanted o (yielded ops a.tmps) = true
        · rw [if_pos hw]
          have hgd := (guard_under P u hm hg).1 hw
          have hc' : holds c' := by
            cases c' with
            | none => trivial
            | some c' => exact underP_sound P u hm 16 d p c' hc hgd
          refine .inl (run_sound P u tab hL hm (by intro d0 p0 hd; cases hd; exact hgd) (hrun hr) hc' fun v e' h1 h2 h3 h4 => ?_)
          have h5 := h.ext P u h1 h2
          rw [h3, hmo] at h5
          refine hn _ e' (h5.put P u (x := .wh d p y') ?_ (hwok y') (put_app (ow := none) hp))
          exact ⟨fun _ => h4, fun hne => absurd hgd hne⟩
        · rw [if_neg hw]
          have hgd : a.tmps.getD d Go.undef ≠ .bool p := fun hb => hw ((guard_under P u hm hg).2 hb)
          refine hn _ e (h.put P u (x := .wh d p y') ?_ (hwok y') (put_app (ow := none) hp))
          exact ⟨fun hb => absurd hb hgd, fun _ => rfl⟩
      · cases hs
    · cases hs

/-! ### an outcome hangs of nothing else -/
theorem implies_own (m : St A) (o' : Nat → Own A) (n d : Nat) (p : Bool) (e : Nat) (q : Bool) : implies { m with own := o' } n d p e q = implies m n d p e q := by
  induction n generalizing d p with
  | zero => rfl
  | succ n ih =>
    unfold implies
    have hg : St.get { m with own := o' } d = m.get d := rfl
    rw [hg]
    simp only [ih]
theorem underP_own (m : St A) (o' : Nat → Own A) (n d : Nat) (p : Bool) (c : Prop) : underP { m with own := o' } n d p c = underP m n d p c := by
  induction n generalizing d p c with
  | zero => rfl
  | succ n ih =>
    unfold underP
    have hg : St.get { m with own := o' } d = m.get d := rfl
    rw [hg]
    simp only [ih]
theorem underP_own' (m : St A) (o' : Nat → Own A) (n d : Nat) (p : Bool) : underP { m with own := o' } n d p = underP m n d p := funext fun c => underP_own m o' n d p c
theorem view_own (m : St A) (o' : Nat → Own A) (g : Option (Nat × Bool)) (x : SV A) : view { m with own := o' } g x = view m g x := by
  unfold view
  split
  · rfl
  · unfold whV
    split
    · rw [implies_own]
    · rfl
theorem armV_own (m : St A) (o' : Nat → Own A) (g : Option (Nat × Bool)) (d : Nat) (p : Bool) (x : SV A) : armV { m with own := o' } g d p x = armV m g d p x := by
  unfold armV
  split
  · rw [implies_own]
    split
    · rfl
    · split
      · rw [implies_own]
      · rfl
  · rfl
theorem pickS_own (m : St A) (o' : Nat → Own A) (g : Option (Nat × Bool)) (c x y : Operand) : pickS { m with own := o' } g c x y = pickS m g c x y := by
  unfold pickS
  split
  · rename_i d
    rw [view_own, armV_own, armV_own, armV_own, armV_own]
    rfl
  · rfl
theorem guardOf_own (m : St A) (o' : Nat → Own A) (ops : Array Oper) (o : Oper) : guardOf ops o { m with own := o' } = guardOf ops o m := rfl
theorem whOk_own (m : St A) (o' : Nat → Own A) : whOk { m with own := o' } = whOk m := rfl
theorem ids_view {m : St A} {g : Option (Nat × Bool)} {x : SV A} {id : Nat} (h : id ∈ ids (view m g x)) : id ∈ ids x := by
  unfold view at h
  split at h
  · unfold plainV at h
    split at h
    · simp [ids] at h
    · exact h
  · unfold whV at h
    split at h
    · split at h
      · simpa [ids] using h
      · simp [ids] at h
    · exact h
theorem ids_ev {m : St A} {g : Option (Nat × Bool)} {o : Oper} (hk : constOk (A := A) o = true) {x : Operand} (hx : x ∈ o.op.operands.toList) {id : Nat} (h : id ∈ ids (view m g (m.ev x))) : id ∈ named m := by
  have h1 := ids_view h
  have h2 := List.all_eq_true.1 hk x hx
  cases x with
  | tmp t =>
    unfold St.ev St.get at h1
    simp only at h1
    split at h1
    · rename_i z hz; exact ids_go_mem (List.mem_of_getElem? hz) h1
    · simp [ids] at h1
  | const v =>
    simp only [List.isEmpty_iff] at h2
    have h1 : id ∈ ids (constS (A := A) v) := h1
    rw [h2] at h1
    cases h1
  | func f => simp [St.ev, ids, ids.go] at h1
  | global g => simp [St.ev, ids] at h1

/-- How the own blocks behind an operation stand to those ahead of it, in two memories. -/
def Shift (o : Oper) (k : Nat) (names : List Nat) (own own' : Nat → Own A) (ow ow' : Option (Nat → Own A)) : Prop :=
  (ow = none ∧ ow' = none) ∨ ∃ t x, ow = some (upd own t x) ∧ ow' = some (upd own' t x) ∧ x.tag ≠ 0 ∧ ((makes o.op = true ∧ t = k ∧ own k = .free) ∨ (stores o.op = true ∧ t ∈ names ∧ x.tag = (own t).tag))
theorem heap_kind_unused : True := trivial
theorem heap_kind {o : Op} (hc : ∀ a b x, o ≠ .convert a b x) (h : isHeap o = true) : makes o = true ∨ stores o = true := by
  cases o <;> first | exact .inl rfl | exact .inr rfl | (cases h; done) | exact absurd rfl (hc _ _ _)
theorem runS_congr {m : St A} {own' : Nat → Own A} {g : Option (Nat × Bool)} {o : Oper} (hk : constOk (A := A) o = true)
    (ht : ∀ id ∈ named m, (m.own id).tag = (own' id).tag) (he : strict o.op = true → ∀ id ∈ named m, m.own id = own' id) (hf : makes o.op = true → m.own (m.nx + o.dst.getD 0) = .free → own' (m.nx + o.dst.getD 0) = .free)
    {c : Option Prop} {y : SV A} {ow : Option (Nat → Own A)} (hcv : convOk o ow = true) (hr : runS P u tab m g o = some (c, y, ow)) :
    ∃ ow', runS P u tab { m with own := own' } g o = some (c, y, ow') ∧ Shift o (m.nx + o.dst.getD 0) (named m) m.own own' ow ow' := by
  have hev : (fun x => view { m with own := own' } g (St.ev { m with own := own' } x)) = fun x => view m g (m.ev x) := by
    funext x
    rw [view_own]
    rfl
  have hal : Alike o m.own own' (fun x => view m g (m.ev x)) := ⟨fun x hx id hid => ht id (ids_ev hk hx hid), fun hs x hx id hid => he hs id (ids_ev hk hx hid)⟩
  unfold runS at hr ⊢
  simp only [pickS_own] at hr ⊢
  simp only [hev]
  split at hr
  · split at hr
    · rename_i z hz
      cases hr
      exact ⟨none, rfl, .inl ⟨rfl, rfl⟩⟩
    · cases hr
  · rename_i cc hop
    have hvf : ∀ f, view { m with own := own' } g (St.ev { m with own := own' } f) = view m g (m.ev f) := fun f => congrFun hev f
    split at hr
    · rename_i f hcf
      simp only [hcf, hvf]
      rw [← callS_congr P tab (own := m.own) (own' := own') (by
        intro x hx id hid
        obtain ⟨z, hz, rfl⟩ := List.mem_map.1 hx
        refine he (by rw [hop]; simp only [strict, hcf]) id (ids_ev hk (x := z) ?_ hid)
        rw [hop]
        simp only [Op.operands, Call.operands]
        simp [hcf] <;> exact .inr (by simpa using hz))]
      split at hr
      · rename_i c' y' hcall
        cases hr
        exact ⟨none, rfl, .inl ⟨rfl, rfl⟩⟩
      · cases hr
    · rw [← pure_congr P u hal]
      split at hr
      · rename_i c' y' hp
        cases hr
        exact ⟨none, rfl, .inl ⟨rfl, rfl⟩⟩
      · cases hr
  · rename_i t1 t2 x hop
    have hvx : view { m with own := own' } g (St.ev { m with own := own' } x) = view m g (m.ev x) := congrFun hev x
    simp only [hvx]
    split at hr
    · cases hr
      unfold convOk at hcv
      rw [hop] at hcv
      cases hcv
    · rename_i hkn
      rw [killS_congr P (own := m.own) (own' := own') (fun id hid => ht id (ids_ev hk (x := x) (by rw [hop]; simp [Op.operands]) hid)) hkn]
      simp only []
      rw [← pure_congr P u hal]
      split at hr
      · rename_i c' y' hp
        cases hr
        exact ⟨none, rfl, .inl ⟨rfl, rfl⟩⟩
      · cases hr
  · rename_i op hn1 hn2 hn3
    split at hr
    · rename_i hh
      rw [if_pos hh]
      split at hr
      · rename_i y' own1 hheap
        cases hr
        obtain ⟨t, x, rfl, h1, h2, h3⟩ := heap_congr P u hal hf hheap
        refine ⟨some (upd own' t x), ?_, .inr ⟨t, x, rfl, rfl, h2, ?_⟩⟩
        · show (match heapS P u (m.nx + o.dst.getD 0) own' o fun x => view m g (m.ev x) with | some (y, own') => some (none, y, some own') | none => none) = _
          rw [h1]
        · rcases h3 with h3 | ⟨h3, ⟨z, hz, hz2⟩, h4⟩
          · exact .inl h3
          · exact .inr ⟨h3, ids_ev hk hz hz2, h4⟩
      · cases hr
    · rename_i hh
      rw [if_neg hh]
      split at hr
      · rename_i c' y' hp
        cases hr
        refine ⟨none, ?_, .inl ⟨rfl, rfl⟩⟩
        rw [← pure_congr P u hal, hp]
      · cases hr
theorem runC_congr {m : St A} {own' : Nat → Own A} {g : Option (Nat × Bool)} {o : Oper} (hk : constOk (A := A) o = true)
    (ht : ∀ id ∈ named m, (m.own id).tag = (own' id).tag) (he : strict o.op = true → ∀ id ∈ named m, m.own id = own' id) (hf : makes o.op = true → m.own (m.nx + o.dst.getD 0) = .free → own' (m.nx + o.dst.getD 0) = .free)
    {c : Option Prop} {y : SV A} {ow : Option (Nat → Own A)} (hr : runC P u tab m g o = some (c, y, ow)) :
    ∃ ow', runC P u tab { m with own := own' } g o = some (c, y, ow') ∧ Shift o (m.nx + o.dst.getD 0) (named m) m.own own' ow ow' := by
  unfold runC at hr ⊢
  split at hr
  · rename_i c1 y1 ow1 hr1
    split at hr
    · rename_i hy
      cases hr
      obtain ⟨ow', h1, h2⟩ := runS_congr P u tab hk ht he hf (by simp only [Bool.and_eq_true] at hy; exact hy.1.1) hr1
      refine ⟨ow', ?_, h2⟩
      have hsome : ow'.isSome = ow.isSome := by
        rcases h2 with ⟨rfl, rfl⟩ | ⟨t, x, rfl, rfl, _⟩ <;> rfl
      have hconv : convOk o ow' = convOk o ow := by unfold convOk; rw [hsome]
      rw [← hsome, ← hconv] at hy
      rw [h1]
      show (if (convOk o ow' && notWh y && (ids y).all (fun id => (named m).contains id || (ow'.isSome && makes o.op && Nat.beq id (m.nx + o.dst.getD 0)))) = true then some (c, y, ow') else none) = _
      rw [if_pos hy]
    · cases hr
  · cases hr
theorem mask_app {L : List Nat} {s : St A} {dst : Option Nat} {y : SV A} {ow : Option (Nat → Own A)} (h : ∀ d, dst = some d → L.contains d = false) : mask L (app s dst y ow) = { mask L s with own := ow.getD s.own } := by
  cases dst with
  | none => rfl
  | some d => unfold mask app; simp only [maskL_set L s.tmps d y (h d rfl)]
/-- An operation's outcome where another memory is the same to it. -/
theorem stepV_congr {ops : Array Oper} {s : St A} {dst : Option Nat} {z : SV A} {oz : Option (Nat → Own A)} {o : Oper} (hd : ∀ d, dst = some d → (looks ops o).contains d = false)
    (ht : ∀ id ∈ named (mask (looks ops o) s), (s.own id).tag = ((oz.getD s.own) id).tag) (he : strict o.op = true → ∀ id ∈ named (mask (looks ops o) s), s.own id = (oz.getD s.own) id)
    (hf : makes o.op = true → s.own (s.nx + o.dst.getD 0) = .free → (oz.getD s.own) (s.nx + o.dst.getD 0) = .free)
    {c : Option Prop} {y : SV A} {ow : Option (Nat → Own A)} (hr : stepV P u tab ops s o = some (c, y, ow)) :
    ∃ ow', stepV P u tab ops (app s dst z oz) o = some (c, y, ow') ∧ Shift o (s.nx + o.dst.getD 0) (named (mask (looks ops o) s)) s.own (oz.getD s.own) ow ow' := by
  unfold stepV at hr ⊢
  rw [mask_app hd]
  simp only [guardOf_own, whOk_own, underP_own']
  split at hr
  case isFalse => cases hr
  rename_i hok
  rw [if_pos hok]
  simp only [Bool.and_eq_true] at hok
  split at hr
  · cases hr
  · rename_i hg
    cases hr
    exact ⟨none, rfl, .inl ⟨rfl, rfl⟩⟩
  · rename_i hg
    exact runC_congr P u tab (m := mask (looks ops o) s) (own' := oz.getD s.own) hok.2 ht he hf hr
  · rename_i d p hg
    split at hr
    · rename_i hgu
      have hgu' : (app s dst z oz).gu.contains d = true := hgu
      rw [if_pos hgu']
      split at hr
      · rename_i c' y' hr'
        cases hr
        obtain ⟨ow', h1, h2⟩ := runC_congr P u tab (m := mask (looks ops o) s) (own' := oz.getD s.own) hok.2 ht he hf hr'
        rw [h1]
        rcases h2 with ⟨_, rfl⟩ | ⟨t, x, h3, _⟩
        · exact ⟨none, rfl, .inl ⟨rfl, rfl⟩⟩
        · cases h3
      · cases hr
    · cases hr
end
end Go.Proofs.Ytacafjapnppacaa.Sx
