/- An abstract machine over values by content, sixteenth part: regions that draw their order: the order of the text serves every order. -/
import Derived.Test.YtacafjapnppacaaSxO
namespace Go.Proofs.Ytacafjapnppacaa.Sx
open Go Go.RowKit

section
variable {A : Nat → Type} (P : Program) (u : U A) (tab : List (Nat × Spec A))

theorem named_get {m : St A} {id : Nat} : id ∈ named m ↔ ∃ (t : Nat) (x : SV A), m.tmps[t]? = some x ∧ id ∈ ids x := by
  constructor
  · intro h
    unfold named at h
    generalize m.tmps = l at *
    induction l with
    | nil => simp [ids.go] at h
    | cons x r ih =>
      rw [ids.go, List.mem_append] at h
      rcases h with h | h
      · exact ⟨0, x, rfl, h⟩
      · obtain ⟨t, y, h1, h2⟩ := ih h
        exact ⟨t + 1, y, h1, h2⟩
  · rintro ⟨t, x, h1, h2⟩
    exact ids_go_mem (List.mem_of_getElem? h1) h2
theorem named_mask {L : List Nat} {s : St A} {id : Nat} (h : id ∈ named (mask L s)) : id ∈ named s := by
  obtain ⟨t, x, h1, h2⟩ := named_get.1 h
  have h1 : (maskL L 0 s.tmps)[t]? = some x := h1
  rw [maskL_get] at h1
  simp only [Option.map_eq_some_iff] at h1
  obtain ⟨y, h3, h4⟩ := h1
  split at h4
  · subst h4; exact named_get.2 ⟨t, _, h3, h2⟩
  · subst h4; simp [ids] at h2
theorem named_app {s : St A} {dst : Option Nat} {y : SV A} {ow : Option (Nat → Own A)} {id : Nat} (h : id ∈ named (app s dst y ow)) : id ∈ named s ∨ id ∈ ids y := by
  obtain ⟨t, x, h1, h2⟩ := named_get.1 h
  cases dst with
  | none => exact .inl (named_get.2 ⟨t, x, h1, h2⟩)
  | some d =>
    have h1 : (s.tmps.set d y)[t]? = some x := h1
    rw [List.getElem?_set] at h1
    split at h1
    · split at h1
      · cases h1; exact .inr h2
      · cases h1
    · exact .inl (named_get.2 ⟨t, x, h1, h2⟩)
/-- No value names a block that is not there. -/
def NF (s : St A) : Prop := ∀ id ∈ named s, s.own id ≠ .free
theorem stepV_self {ops : Array Oper} {s : St A} {o : Oper} {c : Option Prop} {y : SV A} {ow : Option (Nat → Own A)} (hr : stepV P u tab ops s o = some (c, y, ow)) :
    Shift o (s.nx + o.dst.getD 0) (named (mask (looks ops o) s)) s.own s.own ow ow := by
  obtain ⟨ow', h1, h2⟩ := stepV_congr P u tab (dst := none) (z := .undef) (oz := none) (by intro d hd; cases hd) (fun _ _ => rfl) (fun _ _ _ => rfl) (fun _ h => h) hr
  have h1 : stepV P u tab ops s o = some (c, y, ow') := h1
  rw [hr] at h1
  cases h1
  exact h2
theorem stepV_ids {ops : Array Oper} {s : St A} {o : Oper} {c : Option Prop} {y : SV A} {ow : Option (Nat → Own A)} (hr : stepV P u tab ops s o = some (c, y, ow)) {id : Nat} (hid : id ∈ ids y) :
    id ∈ named (mask (looks ops o) s) ∨ (ow.isSome = true ∧ makes o.op = true ∧ id = s.nx + o.dst.getD 0) := by
  have key : ∀ {g c y ow}, runC P u tab (mask (looks ops o) s) g o = some (c, y, ow) → id ∈ ids y → id ∈ named (mask (looks ops o) s) ∨ (ow.isSome = true ∧ makes o.op = true ∧ id = s.nx + o.dst.getD 0) := by
    intro g c y ow hr hid
    unfold runC at hr
    split at hr
    · split at hr
      · rename_i hy
        cases hr
        simp only [Bool.and_eq_true] at hy
        have := List.all_eq_true.1 hy.2 id hid
        simp only [Bool.or_eq_true, Bool.and_eq_true] at this
        rcases this with h | ⟨⟨h1, h2⟩, h3⟩
        · exact .inl (by simpa using h)
        · exact .inr ⟨h1, h2, Nat.eq_of_beq_eq_true h3⟩
      · cases hr
    · cases hr
  unfold stepV at hr
  split at hr
  case isFalse => cases hr
  split at hr
  · cases hr
  · cases hr; simp [ids] at hid
  · exact key hr hid
  · split at hr
    · split at hr
      · rename_i hr'
        cases hr
        rcases key hr' (by simpa [ids] using hid) with h | h
        · exact .inl h
        · exact absurd h.1 (by simp)
      · cases hr
    · cases hr
theorem Shift.nf {o : Oper} {k : Nat} {names : List Nat} {own own' : Nat → Own A} {ow ow' : Option (Nat → Own A)} (h : Shift o k names own own' ow ow') {id : Nat} (hi : own id ≠ .free) : (ow.getD own) id ≠ .free := by
  rcases h with ⟨rfl, _⟩ | ⟨t, x, rfl, _, h, _⟩
  · exact hi
  · show upd own t x id ≠ _
    unfold upd
    split
    · intro hx; rw [hx] at h; exact h rfl
    · exact hi
theorem NF.app {ops : Array Oper} {s : St A} {o : Oper} {c : Option Prop} {y : SV A} {ow : Option (Nat → Own A)} (h : NF s) (hr : stepV P u tab ops s o = some (c, y, ow)) : NF (Sx.app s o.dst y ow) := by
  have hs := stepV_self P u tab hr
  intro id hid
  rcases named_app hid with hid | hid
  · exact hs.nf (h id hid)
  · rcases stepV_ids P u tab hr hid with hid | ⟨h1, h2, rfl⟩
    · exact hs.nf (h id (named_mask hid))
    · rcases hs with ⟨rfl, _⟩ | ⟨t, x, rfl, _, h3, h4⟩
      · cases h1
      · show upd s.own t x _ ≠ _
        rcases h4 with ⟨_, rfl, _⟩ | ⟨h4, _⟩
        · rw [upd_same]; intro hx; rw [hx] at h3; exact h3 rfl
        · exfalso
          revert h2 h4
          cases o.op <;> simp [makes, stores]

/-- Operations that do not look at what the other does. -/
def apartB (ops : Array Oper) (x y : Oper) : Bool :=
  (match x.dst with
    | some d => !(looks ops y).contains d && (match y.dst with
      | some e => !(Nat.beq d e)
      | none => true)
    | none => true) &&
  (match y.dst with
    | some d => !(looks ops x).contains d
    | none => true) && !(stores x.op && strict y.op) && !(stores y.op && strict x.op) && (!(makes x.op) || x.dst.isSome) && (!(makes y.op) || y.dst.isSome)
structure Apart (ops : Array Oper) (x y : Oper) : Prop where
  xy : ∀ d, x.dst = some d → (looks ops y).contains d = false
  ne : ∀ d e, x.dst = some d → y.dst = some e → d ≠ e
  yx : ∀ d, y.dst = some d → (looks ops x).contains d = false
  sx : stores x.op = true → strict y.op = false
  sy : stores y.op = true → strict x.op = false
  mx : makes x.op = true → ∃ d, x.dst = some d
  my : makes y.op = true → ∃ d, y.dst = some d
theorem apart_spec {ops : Array Oper} {x y : Oper} (h : apartB ops x y = true) : Apart ops x y := by
  unfold apartB at h
  simp only [Bool.and_eq_true] at h
  obtain ⟨⟨⟨⟨⟨h1, h2⟩, h3⟩, h4⟩, h5⟩, h6⟩ := h
  refine ⟨?_, ?_, ?_, ?_, ?_, ?_, ?_⟩
  · intro d hd
    rw [hd] at h1
    simp only [Bool.and_eq_true, Bool.not_eq_true'] at h1
    exact h1.1
  · intro d e hd he
    rw [hd, he] at h1
    simp only [Bool.and_eq_true, Bool.not_eq_true'] at h1
    rintro rfl
    rw [Nat.beq_refl] at h1
    cases h1.2
  · intro d hd
    rw [hd] at h2
    simpa using h2
  · intro hs
    rw [hs] at h3
    simpa using h3
  · intro hs
    rw [hs] at h4
    simpa using h4
  · intro hm
    rw [hm] at h5
    exact Option.isSome_iff_exists.1 (by simpa using h5)
  · intro hm
    rw [hm] at h6
    exact Option.isSome_iff_exists.1 (by simpa using h6)
theorem mk_st {a b : Nat → Own A} {n : Nat} {g : List Nat} {x y : List (SV A)} (h1 : x = y) (h2 : a = b) : St.mk x a n g = St.mk y b n g := by rw [h1, h2]
theorem set_back (l : List (SV A)) (d : Nat) (y : SV A) : (l.set d y).set d (match l[d]? with | some x => x | none => .undef) = l := by
  apply List.ext_getElem?
  intro k
  rw [List.getElem?_set, List.getElem?_set]
  by_cases hk : d = k
  · subst hk
    by_cases hl : d < l.length
    · simp [hl]
    · simp [hl]
  · simp [hk]
theorem app_back (s : St A) (dst : Option Nat) (y : SV A) (ow : Option (Nat → Own A)) : ∃ z, app (app s dst y ow) dst z (some s.own) = s := by
  cases dst with
  | none => exact ⟨.undef, rfl⟩
  | some d => exact ⟨_, mk_st (set_back s.tmps d y) rfl⟩
theorem strict_stores {o : Op} (h : stores o = true) : strict o = true := by cases o <;> first | rfl | cases h
theorem not_both {o : Op} (h : stores o = true) (k : makes o = true) : False := by cases o <;> first | (cases h; done) | (cases k; done)
theorem putOk_app {s : St A} {x y : Option Nat} {z : SV A} {ow : Option (Nat → Own A)} (h : ∀ d e, x = some d → y = some e → d ≠ e) : putOk (app s x z ow) y = putOk s y := by
  cases y with
  | none => rfl
  | some e =>
    cases x with
    | none => rfl
    | some d =>
      have hg : (app s (some d) z ow).get e = s.get e := by
        unfold St.get app
        simp only
        rw [List.getElem?_set_ne (h d e rfl rfl)]
      show (if s.gu.contains e then (match (app s (some d) z ow).get e with | .top => true | _ => false) else true) = _
      rw [hg]
      rfl
theorem diamond {ops : Array Oper} {s : St A} {oi oj : Oper} {ci cj : Option Prop} {yi yj : SV A} {owi owj : Option (Nat → Own A)} (hN : NF s) (hi : stepV P u tab ops s oi = some (ci, yi, owi))
    (hj : stepV P u tab ops (app s oi.dst yi owi) oj = some (cj, yj, owj)) (hap : Apart ops oi oj) :
    ∃ owj' owi', stepV P u tab ops s oj = some (cj, yj, owj') ∧ stepV P u tab ops (app s oj.dst yj owj') oi = some (ci, yi, owi') ∧ app (app s oj.dst yj owj') oi.dst yi owi' = app (app s oi.dst yi owi) oj.dst yj owj := by
  have hsi := stepV_self P u tab hi
  have hnm : named (mask (looks ops oj) (app s oi.dst yi owi)) = named (mask (looks ops oj) s) := by rw [mask_app hap.xy]; rfl
  have hne : ∀ id, id ∈ named (mask (looks ops oj) s) → s.own id ≠ .free := fun id h => hN id (named_mask h)
  have hnei : ∀ id, id ∈ named (mask (looks ops oi) s) → s.own id ≠ .free := fun id h => hN id (named_mask h)
  -- j ahead of i
  have htag : ∀ id ∈ named (mask (looks ops oj) s), ((owi.getD s.own) id).tag = (s.own id).tag ∧ (strict oj.op = true → (owi.getD s.own) id = s.own id) := by
    intro id hid
    rcases hsi with ⟨rfl, _⟩ | ⟨t, x, rfl, _, h3, h4⟩
    · exact ⟨rfl, fun _ => rfl⟩
    · show (upd s.own t x id).tag = _ ∧ (_ → upd s.own t x id = _)
      by_cases hit : id = t
      · subst hit
        rcases h4 with ⟨_, hk, h4⟩ | ⟨h4, _, h5⟩
        · rw [← hk] at h4; exact absurd h4 (hne id hid)
        · rw [upd_same]
          exact ⟨h5, fun hs => by rw [hap.sx h4] at hs; cases hs⟩
      · rw [upd_ne _ _ hit]
        exact ⟨rfl, fun _ => rfl⟩
  obtain ⟨z, hz⟩ := app_back s oi.dst yi owi
  obtain ⟨owj', h1, h2⟩ := stepV_congr P u tab (s := app s oi.dst yi owi) (dst := oi.dst) (z := z) (oz := some s.own) hap.xy (by rw [hnm]; exact fun id hid => (htag id hid).1) (by rw [hnm]; exact fun hs id hid => (htag id hid).2 hs)
    (by
      intro hm hf
      rcases hsi with ⟨rfl, _⟩ | ⟨t, x, rfl, _, h3, h4⟩
      · exact hf
      · have hf : upd s.own t x (s.nx + oj.dst.getD 0) = .free := hf
        unfold upd at hf
        split at hf
        · rw [hf] at h3; exact absurd rfl h3
        · exact hf) hj
  rw [hz] at h1
  rw [hnm] at h2
  have h2 : Shift oj (s.nx + oj.dst.getD 0) (named (mask (looks ops oj) s)) (owi.getD s.own) s.own owj owj' := h2
  -- i behind j
  have hsj := stepV_self P u tab h1
  have htag2 : ∀ id ∈ named (mask (looks ops oi) s), (s.own id).tag = ((owj'.getD s.own) id).tag ∧ (strict oi.op = true → s.own id = (owj'.getD s.own) id) := by
    intro id hid
    rcases hsj with ⟨rfl, _⟩ | ⟨t, x, rfl, _, h3, h4⟩
    · exact ⟨rfl, fun _ => rfl⟩
    · show _ = (upd s.own t x id).tag ∧ (_ → _ = upd s.own t x id)
      by_cases hit : id = t
      · subst hit
        rcases h4 with ⟨_, hk, h4⟩ | ⟨h4, _, h5⟩
        · rw [← hk] at h4; exact absurd h4 (hnei id hid)
        · rw [upd_same]
          exact ⟨h5.symm, fun hs => by rw [hap.sy h4] at hs; cases hs⟩
      · rw [upd_ne _ _ hit]
        exact ⟨rfl, fun _ => rfl⟩
  have hkk : makes oi.op = true → makes oj.op = true → s.nx + oi.dst.getD 0 ≠ s.nx + oj.dst.getD 0 := by
    intro hm1 hm2
    obtain ⟨d, hd⟩ := hap.mx hm1
    obtain ⟨e, he⟩ := hap.my hm2
    have := hap.ne d e hd he
    rw [hd, he]
    exact fun h => this (Nat.add_left_cancel h)
  obtain ⟨owi', h3, h4⟩ := stepV_congr P u tab (s := s) (dst := oj.dst) (z := yj) (oz := owj') hap.yx (fun id hid => (htag2 id hid).1) (fun hs id hid => (htag2 id hid).2 hs)
    (by
      intro hm hf
      rcases hsj with ⟨rfl, _⟩ | ⟨t, x, rfl, _, h3, h4⟩
      · exact hf
      · show upd s.own t x _ = _
        rw [upd_ne]
        · exact hf
        · rintro rfl
          rcases h4 with ⟨g1, g2, _⟩ | ⟨g1, g2, _⟩
          · exact hkk hm g1 g2
          · exact hne _ g2 hf) hi
  refine ⟨owj', owi', h1, h3, ?_⟩
  refine mk_st ?_ ?_
  · cases hdi : oi.dst with
    | none => rfl
    | some d =>
      cases hdj : oj.dst with
      | none => rfl
      | some e =>
        have := hap.ne d e hdi hdj
        exact List.set_comm _ _ (Ne.symm this)
  · show owi'.getD (owj'.getD s.own) = owj.getD (owi.getD s.own)
    rcases h4 with ⟨rfl, rfl⟩ | ⟨ti, xi, rfl, rfl, g1, g2⟩
    · rcases h2 with ⟨rfl, rfl⟩ | ⟨tj, xj, rfl, rfl, _⟩ <;> rfl
    · rcases h2 with ⟨rfl, rfl⟩ | ⟨tj, xj, rfl, rfl, g3, g4⟩
      · rfl
      · show upd (upd s.own tj xj) ti xi = upd (upd s.own ti xi) tj xj
        have hne2 : ti ≠ tj := by
          rintro rfl
          rcases g2 with ⟨a1, a2, a3⟩ | ⟨a1, a2, a3⟩ <;> rcases g4 with ⟨b1, b2, b3⟩ | ⟨b1, b2, b3⟩
          · exact hkk a1 b1 (a2.symm.trans b2)
          · rw [a2] at b2; exact hne _ b2 a3
          · have b3 : upd s.own ti xi (s.nx + oj.dst.getD 0) = .free := b3
            rw [← b2, upd_same] at b3
            rw [b3] at g1; exact g1 rfl
          · have := hap.sx a1
            rw [strict_stores b1] at this
            cases this
        funext id
        unfold upd
        by_cases e1 : id = ti
        · subst e1; simp [hne2]
        · simp [e1]

/-! ### whichever order is drawn -/
def anyA (ops : Array Oper) (K : St A → Prop) : Nat → Array Bool → St A → Prop
  | 0, listed, s => Region.ready .any ops listed = [] ∧ K s
  | n + 1, listed, s => (Region.ready .any ops listed = [] → K s) ∧
    ∀ i ∈ Region.ready .any ops listed, ∃ o c y ow, ops[i]? = some o ∧ stepV P u tab ops s o = some (c, y, ow) ∧ holds c ∧ putOk s o.dst = true ∧ anyA ops K n (listed.setIfInBounds i true) (app s o.dst y ow)
theorem any_sound (hL : Laws P u tab) {w0 : World} {O0 : Nat → Prop} {ops : Array Oper} {K : St A → Prop} {Q : Exit → Act → World → Prop} : ∀ (n : Nat) (listed : Array Bool) (s : St A) (e : E A) (a : Act), RepS P u w0 O0 s e a → anyA P u tab ops K n listed s →
    (∀ s' a' e', K s' → RepS P u w0 O0 s' e' a' → Q .normal a' e'.w) → wpAny P .any ops Q n listed a e.w
  | 0, listed, s, e, a, h, hk, hQ => ⟨hk.1, hQ s a e hk.2 h⟩
  | n + 1, listed, s, e, a, h, hk, hQ => by
    refine ⟨fun h0 => hQ s a e (hk.1 h0) h, fun i hi => ?_⟩
    obtain ⟨o, c, y, ow, h1, h2, h3, h4, h5⟩ := hk.2 i hi
    unfold wpOp
    simp only [h1]
    exact stepV_sound P u tab hL h h2 h4 h3 fun a' e' h6 => any_sound hL n _ _ e' a' h6 h5 hQ

/-- Operation d waits for operation i. -/
inductive Waits (ops : Array Oper) (i : Nat) : Nat → Prop
  | one (d : Nat) (o : Oper) (e : Edge) : ops[d]? = some o → e ∈ o.after → Region.binds .any e = true → e.on = i → Waits ops i d
  | more (d : Nat) (o : Oper) (e : Edge) : ops[d]? = some o → e ∈ o.after → Region.binds .any e = true → Waits ops i e.on → Waits ops i d
def Closed (ops : Array Oper) (listed : Array Bool) : Prop := ∀ (j : Nat) oj, ops[j]? = some oj → listed.getD j false = true → ∀ e ∈ oj.after, Region.binds .any e = true → listed.getD e.on false = true
theorem Closed.set {ops : Array Oper} {listed : Array Bool} {i : Nat} (h : Closed ops listed) (hi : i ∈ Region.ready .any ops listed) : Closed ops (listed.setIfInBounds i true) := by
  obtain ⟨_, oi, hoi, hall⟩ := mem_ready.1 hi
  intro j oj hj hl e he hb
  by_cases hij : i = j
  · subst hij
    have : oj = oi := Option.some.inj (hj.symm.trans hoi)
    subst this
    exact getD_set_true (hall e he hb)
  · rw [getD_set_ne false hij] at hl
    exact getD_set_true (h j oj hj hl e he hb)
theorem Waits.listed {ops : Array Oper} {listed : Array Bool} {i d : Nat} (hc : Closed ops listed) (h : Waits ops i d) : listed.getD d false = true → listed.getD i false = true := by
  induction h with
  | one d o e h1 h2 h3 h4 => intro hl; rw [← h4]; exact hc d o h1 hl e h2 h3
  | more d o e h1 h2 h3 _ ih => intro hl; exact ih (hc d o h1 hl e h2 h3)
theorem Waits.not_ready {ops : Array Oper} {listed : Array Bool} {i d : Nat} (hc : Closed ops listed) (h : Waits ops i d) (hun : listed.getD i true = false) : d ∉ Region.ready .any ops listed := by
  intro hd
  obtain ⟨_, o, ho, hall⟩ := mem_ready.1 hd
  have hi : listed.getD i false = true := by
    cases h with
    | one d o' e h1 h2 h3 h4 =>
      have : o = o' := Option.some.inj (ho.symm.trans h1)
      subst this
      rw [← h4]; exact hall e h2 h3
    | more d o' e h1 h2 h3 h4 =>
      have : o = o' := Option.some.inj (ho.symm.trans h1)
      subst this
      exact h4.listed hc (hall e h2 h3)
  rcases Nat.lt_or_ge i listed.size with h' | h'
  · simp [h'] at hun hi
    rw [hun] at hi
    cases hi
  · simp [Array.getElem?_eq_none h'] at hun
theorem any_first {ops : Array Oper} {K : St A → Prop} {i : Nat} {oi : Oper} (hoi : ops[i]? = some oi) {ci : Option Prop} {yi : SV A} (hci : holds ci) : ∀ (n : Nat) (listed : Array Bool) (s : St A) (owi : Option (Nat → Own A)), NF s → Closed ops listed →
    stepV P u tab ops s oi = some (ci, yi, owi) → putOk s oi.dst = true → (∀ (j : Nat) oj, ops[j]? = some oj → j ≠ i → listed.getD j true = false → Waits ops i j ∨ Apart ops oi oj) →
    i ∈ Region.ready .any ops listed → anyA P u tab ops K n (listed.setIfInBounds i true) (app s oi.dst yi owi) → anyA P u tab ops K (n + 1) listed s := by
  intro n
  induction n with
  | zero =>
    intro listed s owi hN hc hs hp hap hr H
    refine ⟨fun h => (by rw [h] at hr; cases hr), fun j hj => ?_⟩
    by_cases hji : j = i
    · subst hji; exact ⟨oi, ci, yi, owi, hoi, hs, hci, hp, H⟩
    · have := ready_mono hj hji
      rw [H.1] at this
      cases this
  | succ n ih =>
    intro listed s owi hN hc hs hp hap hr H
    refine ⟨fun h => (by rw [h] at hr; cases hr), fun j hj => ?_⟩
    by_cases hji : j = i
    · subst hji; exact ⟨oi, ci, yi, owi, hoi, hs, hci, hp, H⟩
    · obtain ⟨oj, cj, yj, owj, h1, h2, h3, h4, h5⟩ := H.2 j (ready_mono hj hji)
      have hiun := (mem_ready.1 hr).1
      have hjun := (mem_ready.1 hj).1
      have hA : Apart ops oi oj := by
        rcases hap j oj h1 hji hjun with h | h
        · exact absurd hj (h.not_ready hc hiun)
        · exact h
      obtain ⟨owj', owi', g1, g2, g3⟩ := diamond P u tab hN hs h2 hA
      have hpj : putOk s oj.dst = true := by rw [putOk_app (fun d e hd he => hA.ne d e hd he)] at h4; exact h4
      refine ⟨oj, cj, yj, owj', h1, g1, h3, hpj, ih (listed.setIfInBounds j true) _ owi' (hN.app P u tab g1) (hc.set hj) g2 ?_ ?_ (ready_mono hr (Ne.symm hji)) ?_⟩
      · rw [putOk_app (fun d e hd he => Ne.symm (hA.ne e d he hd))]; exact hp
      · intro k ok hk hki hun
        refine hap k ok hk hki ?_
        by_cases hjk : j = k
        · subst hjk; exact hjun
        · rw [getD_set_ne true hjk] at hun; exact hun
      · rw [g3, Array.setIfInBounds_comm _ _ hji]
        exact h5

/-! ### the order of the text -/
/-- Whom each operation waits for, as bits; those of the operations so far. -/
def bitsOf (l : List Nat) : List Edge → Nat
  | [] => 0
  | e :: r => match Region.binds .any e with
    | true => ((1 <<< e.on) ||| l.getD e.on 0) ||| bitsOf l r
    | false => bitsOf l r
def waitL : List Oper → List Nat → List Nat
  | [], l => l
  | o :: r, l => waitL r (l ++ [bitsOf l o.after.toList])
theorem bits_spec {l : List Nat} {i : Nat} : ∀ {es : List Edge}, (bitsOf l es).testBit i = true → ∃ e ∈ es, Region.binds .any e = true ∧ (e.on = i ∨ (l.getD e.on 0).testBit i = true)
  | [], h => by simp [bitsOf] at h
  | e :: r, h => by
    unfold bitsOf at h
    split at h
    · rename_i hb
      simp only [Nat.testBit_or, Bool.or_eq_true] at h
      rcases h with (h | h) | h
      · refine ⟨e, List.mem_cons_self .., hb, .inl ?_⟩
        rw [Nat.one_shiftLeft, Nat.testBit_two_pow] at h
        simpa using h
      · exact ⟨e, List.mem_cons_self .., hb, .inr h⟩
      · obtain ⟨e', h1, h2⟩ := bits_spec h
        exact ⟨e', List.mem_cons_of_mem _ h1, h2⟩
    · obtain ⟨e', h1, h2⟩ := bits_spec h
      exact ⟨e', List.mem_cons_of_mem _ h1, h2⟩
theorem wait_spec {ops : Array Oper} : ∀ (r : List Oper) (l : List Nat), (∀ j, r[j]? = ops[l.length + j]?) → (∀ j i, (l.getD j 0).testBit i = true → Waits ops i j) → ∀ j i, ((waitL r l).getD j 0).testBit i = true → Waits ops i j
  | [], l, _, h => h
  | o :: r, l, ho, h => by
    unfold waitL
    refine wait_spec r _ (fun j => ?_) (fun j i hj => ?_)
    · have := ho (j + 1)
      simp only [List.getElem?_cons_succ] at this
      rw [this]
      simp only [List.length_append, List.length_cons, List.length_nil]
      congr 1
      omega
    · rcases Nat.lt_trichotomy j l.length with hlt | heq | hgt
      · rw [List.getD_eq_getElem?_getD, List.getElem?_append_left hlt, ← List.getD_eq_getElem?_getD] at hj
        exact h j i hj
      · subst heq
        rw [List.getD_eq_getElem?_getD, List.getElem?_append_right (Nat.le_refl _)] at hj
        simp only [Nat.sub_self, List.getElem?_cons_zero, Option.getD_some] at hj
        obtain ⟨e, h1, h2, h3⟩ := bits_spec hj
        have h0 : ops[l.length]? = some o := by simpa using (ho 0).symm
        rcases h3 with h3 | h3
        · exact .one _ o e h0 (by simpa using h1) h2 h3
        · exact .more _ o e h0 (by simpa using h1) h2 (h _ _ h3)
      · rw [List.getD_eq_getElem?_getD, List.getElem?_eq_none (by simp; omega)] at hj
        simp at hj
def allFrom (f : Nat → Oper → Bool) : Nat → List Oper → Bool
  | _, [] => true
  | k, o :: r => f k o && allFrom f (k + 1) r
theorem allFrom_spec {f : Nat → Oper → Bool} : ∀ {l : List Oper} {k : Nat}, allFrom f k l = true → ∀ j o, l[j]? = some o → f (k + j) o = true
  | [], _, _, j, o, h => by simp at h
  | x :: r, k, h, 0, o, hj => by
    cases hj
    simp only [allFrom, Bool.and_eq_true] at h
    exact h.1
  | x :: r, k, h, j + 1, o, hj => by
    simp only [allFrom, Bool.and_eq_true] at h
    have := allFrom_spec h.2 j o (by simpa using hj)
    rw [show k + (j + 1) = k + 1 + j by omega]
    exact this
def pairsB (ops : Array Oper) (W : List Nat) : Nat → List Oper → Bool
  | _, [] => true
  | k, o :: r => o.after.toList.all (fun e => !Region.binds .any e || Nat.blt e.on k) && allFrom (fun j o' => Nat.testBit (W.getD j 0) k || apartB ops o o') (k + 1) r && pairsB ops W (k + 1) r
def lexOk (ops : Array Oper) : Bool := pairsB ops (waitL ops.toList []) 0 ops.toList
theorem pairs_spec {ops : Array Oper} {W : List Nat} : ∀ {l : List Oper} {k : Nat}, pairsB ops W k l = true → ∀ j o, l[j]? = some o →
    (∀ e ∈ o.after, Region.binds .any e = true → e.on < k + j) ∧ ∀ i o', l[j + 1 + i]? = some o' → (W.getD (k + j + 1 + i) 0).testBit (k + j) = true ∨ Apart ops o o'
  | [], _, _, j, o, h => by simp at h
  | x :: r, k, h, 0, o, hj => by
    cases hj
    simp only [pairsB, Bool.and_eq_true] at h
    refine ⟨fun e he hb => ?_, fun i o' hi => ?_⟩
    · have := List.all_eq_true.1 h.1.1 e (by simpa using he)
      simp only [hb, Bool.not_true, Bool.false_or] at this
      simpa using this
    · have hi : r[i]? = some o' := by rw [show 0 + 1 + i = i + 1 by omega] at hi; simpa using hi
      have := allFrom_spec h.1.2 i o' hi
      simp only [Bool.or_eq_true] at this
      rcases this with h1 | h1
      · exact .inl h1
      · exact .inr (apart_spec h1)
  | x :: r, k, h, j + 1, o, hj => by
    simp only [pairsB, Bool.and_eq_true] at h
    obtain ⟨h1, h2⟩ := pairs_spec h.2 j o (by simpa using hj)
    refine ⟨fun e he hb => by have := h1 e he hb; omega, fun i o' hi => ?_⟩
    have := h2 i o' (by rw [show j + 1 + 1 + i = (j + 1 + i) + 1 by omega] at hi; simpa using hi)
    rw [show k + (j + 1) + 1 + i = k + 1 + j + 1 + i by omega, show k + (j + 1) = k + 1 + j by omega]
    exact this

/-- The order of the text, each operation by what it looks at alone. -/
def lexW (ops : Array Oper) : List Oper → St A → (St A → Prop) → Prop
  | [], s, K => K s
  | o :: r, s, K => match stepV P u tab ops s o with
    | some (c, y, ow) => match putOk s o.dst with
      | true => conj c (lexW ops r (app s o.dst y ow) K)
      | false => False
    | none => False
theorem lex_any {ops : Array Oper} {K : St A → Prop} (hok : lexOk ops = true) : ∀ (l : List Oper) (k : Nat) (listed : Array Bool) (s : St A), (∀ j, l[j]? = ops[k + j]?) → k + l.length = ops.size → listed.size = ops.size →
    (∀ j, j < k → listed.getD j false = true) → (∀ j, k ≤ j → j < ops.size → listed.getD j true = false) → NF s → lexW P u tab ops l s K → anyA P u tab ops K l.length listed s := by
  have hpair := pairs_spec hok
  simp only [Nat.zero_add] at hpair
  have hops : ∀ (j : Nat) o, ops[j]? = some o → ops.toList[j]? = some o := by intro j o h; simpa using h
  intro l
  induction l with
  | nil =>
    intro k listed s hl hk hsz hlt hge hN h
    refine ⟨?_, h⟩
    rw [List.eq_nil_iff_forall_not_mem]
    intro j hj
    obtain ⟨h1, o, h2, _⟩ := mem_ready.1 hj
    have hjs : j < ops.size := (Array.getElem?_eq_some_iff.1 h2).1
    have := hlt j (by simp at hk; omega)
    rcases Nat.lt_or_ge j listed.size with h' | h'
    · simp [h'] at h1 this; rw [h1] at this; cases this
    · omega
  | cons o l ih =>
    intro k listed s hl hk hsz hlt hge hN h
    unfold lexW at h
    split at h
    case h_2 => exact h.elim
    rename_i c y ow hs
    split at h
    case h_2 => exact h.elim
    rename_i hp
    obtain ⟨hc, hK⟩ := conj_spec h
    have h0 : ops[k]? = some o := by simpa using (hl 0).symm
    have hks : k < ops.size := (Array.getElem?_eq_some_iff.1 h0).1
    obtain ⟨hback, hfor⟩ := hpair k o (hops k o h0)
    have hcl : Closed ops listed := by
      intro j oj hj hlj e he hb
      have hjk : j < k := by
        rcases Nat.lt_or_ge j k with h' | h'
        · exact h'
        · have hjs : j < ops.size := (Array.getElem?_eq_some_iff.1 hj).1
          have := hge j h' hjs
          have hjl : j < listed.size := by omega
          simp [hjl] at this hlj
          rw [this] at hlj; cases hlj
      have := (hpair j oj (hops j oj hj)).1 e he hb
      exact hlt _ (by omega)
    refine any_first P u tab h0 hc l.length listed s ow hN hcl hs hp ?_ ?_ ?_
    · intro j oj hj hjk hun
      have hjs : j < ops.size := (Array.getElem?_eq_some_iff.1 hj).1
      have hgt : k < j := by
        rcases Nat.lt_or_ge j k with h' | h'
        · have := hlt j h'
          have hjl : j < listed.size := by omega
          simp [hjl] at this hun
          rw [this] at hun; cases hun
        · omega
      have := hfor (j - (k + 1)) oj (by rw [show k + 1 + (j - (k + 1)) = j by omega]; exact hops j oj hj)
      rw [show k + 1 + (j - (k + 1)) = j by omega] at this
      rcases this with h' | h'
      · exact .inl (wait_spec (ops := ops) ops.toList [] (by simp) (by simp) j k h')
      · exact .inr h'
    · exact mem_ready.2 ⟨hge k (Nat.le_refl _) hks, o, h0, fun e he hb => hlt _ (hback e he hb)⟩
    · refine ih (k + 1) _ _ (fun j => by have := hl (j + 1); simpa [Nat.add_assoc, Nat.add_comm 1 j] using this) (by simp at hk; omega) (by simpa using hsz) ?_ ?_ (hN.app P u tab hs) hK
      · intro j hj
        by_cases hjk : k = j
        · subst hjk; simp [hsz, hks]
        · rw [getD_set_ne false hjk]; exact hlt j (by omega)
      · intro j hj hjs
        rw [getD_set_ne true (by omega)]
        exact hge j (by omega) hjs

/-- A region that draws its order. -/
def drawW (ops : Array Oper) (s : St A) (K : St A → Prop) : Prop := match lexOk ops with
  | true => lexW P u tab ops ops.toList (startS s ops) fun s => K (endS s)
  | false => False
theorem rep_ids {e : E A} {xs : List (SV A)} {vs : List Value} (h : RepL P u e xs vs) : ∀ id ∈ ids.go xs, e.own id ≠ .free := by
  induction h with
  | nil => intro id hid; cases hid
  | top v _ ih => intro id hid; exact ih id (by simpa [ids.go, ids] using hid)
  | undef _ ih => intro id hid; exact ih id (by simpa [ids.go, ids] using hid)
  | int k n _ ih => intro id hid; exact ih id (by simpa [ids.go, ids] using hid)
  | bool b _ ih => intro id hid; exact ih id (by simpa [ids.go, ids] using hid)
  | lit b _ ih => intro id hid; exact ih id (by simpa [ids.go, ids] using hid)
  | str s _ ih => intro id hid; exact ih id (by simpa [ids.go, ids] using hid)
  | nilp _ ih => intro id hid; exact ih id (by simpa [ids.go, ids] using hid)
  | nils _ ih => intro id hid; exact ih id (by simpa [ids.go, ids] using hid)
  | fn f cap caps _ _ ih1 ih2 => intro id hid; rw [ids.go, List.mem_append] at hid; exact hid.elim (fun hid => ih1 id (by simpa [ids] using hid)) (ih2 id)
  | agg l cs _ _ ih1 ih2 => intro id hid; rw [ids.go, List.mem_append] at hid; exact hid.elim (fun hid => ih1 id (by simpa [ids] using hid)) (ih2 id)
  | tup l cs _ _ ih1 ih2 => intro id hid; rw [ids.go, List.mem_append] at hid; exact hid.elim (fun hid => ih1 id (by simpa [ids] using hid)) (ih2 id)
  | csl T ys a len cap vss hl hc hm hx _ _ ih => intro id hid; exact ih id (by simpa [ids.go, ids] using hid)
  | cptr cs off b o cv hb ho hm _ _ ih1 ih2 => intro id hid; rw [ids.go, List.mem_append] at hid; exact hid.elim (fun hid => ih1 id (by simpa [ids] using hid)) (ih2 id)
  | optr id' off b c hv hβ _ ih =>
    intro id hid
    rw [ids.go, List.mem_append] at hid
    rcases hid with hid | hid
    · simp only [ids, List.mem_singleton] at hid; subst hid; intro h; rw [h] at hv; cases hv
    · exact ih id hid
  | optrD id' off v hv _ ih =>
    intro id hid
    rw [ids.go, List.mem_append] at hid
    rcases hid with hid | hid
    · simp only [ids, List.mem_singleton] at hid; subst hid; rw [hv]; simp
    · exact ih id hid
  | rptr id' idx off b c T ys hv hβ hi _ ih =>
    intro id hid
    rw [ids.go, List.mem_append] at hid
    rcases hid with hid | hid
    · simp only [ids, List.mem_singleton] at hid; subst hid; rcases hv with hv | hv <;> rw [hv] <;> simp
    · exact ih id hid
  | rptrD id' idx off v hv _ ih =>
    intro id hid
    rw [ids.go, List.mem_append] at hid
    rcases hid with hid | hid
    · simp only [ids, List.mem_singleton] at hid; subst hid; rw [hv]; simp
    · exact ih id hid
  | osl id' lo len b c T ys hv hβ hi _ ih =>
    intro id hid
    rw [ids.go, List.mem_append] at hid
    rcases hid with hid | hid
    · simp only [ids, List.mem_singleton] at hid; subst hid; rcases hv with hv | hv <;> rw [hv] <;> simp
    · exact ih id hid
  | oslD id' lo len v hv _ ih =>
    intro id hid
    rw [ids.go, List.mem_append] at hid
    rcases hid with hid | hid
    · simp only [ids, List.mem_singleton] at hid; subst hid; rw [hv]; simp
    · exact ih id hid
theorem draw_sound (hm : P.follows .mixedOrders = true) (hL : Laws P u tab) {w0 : World} {O0 : Nat → Prop} : DrawsOk P u w0 O0 (drawW P u tab) := by
  intro id ops K s e a h hn hk
  unfold drawW at hk
  split at hk
  case h_2 => exact hk.elim
  rename_i hok
  have h1 := h.start P u hn ops
  have hN : NF (startS s ops) := by
    intro id hid
    obtain ⟨t, x, hx, hi⟩ := named_get.1 hid
    have hsl := h1.slot t x hx
    have hr : RepL P u e [x] [a.tmps.getD t Go.undef] := by
      unfold slotOk at hsl
      split at hsl
      · rename_i d p y
        exfalso
        rcases topAll_get _ _ _ _ hx with h2 | h2
        · cases h2
        · exact hn t d p y h2
      · exact hsl
    rw [← h1.own]
    exact rep_ids P u hr id (by rw [ids.go, List.mem_append]; exact .inl hi)
  refine wp_region_any hm ?_
  obtain ⟨h2, h3⟩ := h1.hr.after P u (w' := { e.w with drawn := e.w.drawn + 1 }) ((Below.refl _ e.w).drew)
  have hd : RepS P u w0 O0 (startS s ops) (afterE e { e.w with drawn := e.w.drawn + 1 }) a := by
    have h4 := h1.ext P u h2 h3
    have h5 : (afterE e { e.w with drawn := e.w.drawn + 1 }).own = (startS s ops).own := h.own
    rw [h5] at h4
    exact h4
  refine any_sound P u tab hL ops.size _ _ _ a hd (K := fun s => K (endS s)) ?_ ?_
  · have := lex_any P u tab hok ops.toList 0 (Array.replicate ops.size false) (startS s ops) (by simp) (by simp) (by simp) (by intro j hj; omega) (by intro j _ hj; simp [hj]) hN hk
    simpa using this
  · intro s' a' e' hK hr
    obtain ⟨g1, g2⟩ := hr.fin P u
    exact ⟨.norm, _, e', trivial, hK, g1, g2, rfl⟩
end
end Go.Proofs.Ytacafjapnppacaa.Sx
