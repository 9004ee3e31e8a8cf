/- An abstract machine over values by content, sixteenth part: regions that draw their order: the order of the text serves every order. -/
import Derived.Test.YtndacggailoogaaSxO
namespace Go.Proofs.Ytndacggailoogaa.Sx
open Go Go.RowKit

section
variable {A : Nat → Type} (P : Program) (u : U A) (tab : List (Nat × Con A))

/-- Where an operation looks, and what it turns: from which number its new blocks are counted, the blocks that it looks at, those that it turns. -/
structure Foot where
  k : Nat
  R : List Nat
  W : List Nat
  S : List Nat
  D : List Nat
  C : List (Nat × Nat × Nat)
  w : Option (Nat × Nat × Nat)
/-- Cells that are read stand where nothing is written. -/
def cellN (C : List (Nat × Nat × Nat)) (W : List Nat) (w : Option (Nat × Nat × Nat)) : Bool := match C with
  | [] => true
  | q :: r => (!(memN q.1 W) || (match w with
    | some v => Nat.beq v.1 q.1 && (Nat.ble (v.2.1 + v.2.2) q.2.1 || Nat.ble (q.2.1 + q.2.2) v.2.1)
    | none => false)) && cellN r W w
theorem cellN_mem {W : List Nat} {w : Option (Nat × Nat × Nat)} : ∀ {C : List (Nat × Nat × Nat)}, cellN C W w = true → ∀ q ∈ C, q.1 ∉ W ∨ ∃ v, w = some v ∧ v.1 = q.1 ∧ (v.2.1 + v.2.2 ≤ q.2.1 ∨ q.2.1 + q.2.2 ≤ v.2.1)
  | [], _, q, h => by cases h
  | x :: r, hw, q, h => by
    unfold cellN at hw
    rw [Bool.and_eq_true] at hw
    rcases List.mem_cons.1 h with rfl | h
    · have h1 := hw.1
      rw [Bool.or_eq_true] at h1
      rcases h1 with h1 | h1
      · refine .inl fun hm => ?_
        rw [memN_iff.2 hm] at h1
        cases h1
      · split at h1
        · rename_i v
          rw [Bool.and_eq_true, Bool.or_eq_true] at h1
          exact .inr ⟨v, rfl, Nat.eq_of_beq_eq_true h1.1, h1.2.imp Nat.le_of_ble_eq_true Nat.le_of_ble_eq_true⟩
        · cases h1
    · exact cellN_mem hw.2 q h
def offN (D S : List Nat) : Bool := match D with
  | [] => true
  | t :: r => !(memN t S) && offN r S
theorem offN_mem : ∀ {D S : List Nat}, offN D S = true → ∀ t ∈ D, t ∉ S
  | [], S, _, t, h => by cases h
  | x :: r, S, hw, t, h => by
    simp only [offN, Bool.and_eq_true, Bool.not_eq_true'] at hw
    rcases List.mem_cons.1 h with rfl | h
    · exact fun hm => (by rw [memN_iff.2 hm] at hw; cases hw.1)
    · exact offN_mem hw.2 t h
def outN (W R : List Nat) (k : Nat) : Bool := match W with
  | [] => true
  | t :: r => !(memN t R) && !(inFresh k t) && outN r R k
def footB (x y : Foot) : Bool := outN x.W y.R y.k && outN y.W x.R x.k && (offN x.D y.S && offN y.D x.S) && (cellN x.C y.W y.w && cellN y.C x.W x.w)
theorem outN_mem : ∀ {W R : List Nat} {k : Nat}, outN W R k = true → ∀ t ∈ W, t ∉ R ∧ inFresh k t = false
  | [], _, _, _, t, h => by cases h
  | x :: r, R, k, hw, t, h => by
    simp only [outN, Bool.and_eq_true, Bool.not_eq_true'] at hw
    rcases List.mem_cons.1 h with rfl | h
    · exact ⟨fun hm => (by rw [memN_iff.2 hm] at hw; cases hw.1.1), hw.1.2⟩
    · exact outN_mem hw.2 t h
theorem fresh_not {k t : Nat} (h : inFresh k t = false) : ∀ i, i < 64 → t ≠ k + i := by
  rintro i hi rfl
  unfold inFresh at h
  have h1 : Nat.ble k (k + i) = true := Nat.ble_eq_true_of_le (by omega)
  have h2 : Nat.blt (k + i) (k + 64) = true := by
    show Nat.ble (k + i + 1) (k + 64) = true
    exact Nat.ble_eq_true_of_le (by omega)
  rw [h1, h2] at h
  cases h
theorem updL_comm {F G : Eff A} {own : Nat → Own A} (hF : ∀ t ∈ tg F, t < 1152921504606846976) (hG : ∀ t ∈ tg G, t < 1152921504606846976) (h : ∀ t ∈ tg F, t ∉ tg G) : updL (updL own F) G = updL (updL own G) F := by
  funext id
  rcases Nat.lt_or_ge id 1152921504606846976 with hlt | hge
  · by_cases h1 : id ∈ tg F
    · rw [updL_out hlt (h id h1)]
      exact updL_in hlt h1
    · rw [updL_out hlt (F := F) (own := updL own G) h1]
      by_cases h2 : id ∈ tg G
      · exact updL_in hlt h2
      · rw [updL_out hlt h2, updL_out hlt h2, updL_out hlt h1]
  · by_cases h1 : ndId id ∈ tg F
    · rw [updL_hi hge hG (h _ h1)]
      exact updL_agree (updL_hi hge hG (h _ h1)).symm
    · rw [updL_hi hge hF (own := updL own G) h1]
      exact updL_agree (updL_hi hge hF h1)
/-- Operations that do not look at what the other does, as far as temporaries go. -/
def apartB (ops : Array Oper) (x y : Oper) : Bool :=
  (match x.dst with
    | some d => !(looks ops y).contains d && (match y.dst with
      | some e => !(Nat.beq d e)
      | none => true)
    | none => true) &&
  (match y.dst with
    | some d => !(looks ops x).contains d
    | none => true)
structure Apart (ops : Array Oper) (x y : Oper) : Prop where
  xy : ∀ d, x.dst = some d → (looks ops y).contains d = false
  ne : ∀ d e, x.dst = some d → y.dst = some e → d ≠ e
  yx : ∀ d, y.dst = some d → (looks ops x).contains d = false
theorem apart_spec {ops : Array Oper} {x y : Oper} (h : apartB ops x y = true) : Apart ops x y := by
  unfold apartB at h
  simp only [Bool.and_eq_true] at h
  obtain ⟨h1, h2⟩ := h
  refine ⟨?_, ?_, ?_⟩
  · intro d hd
    rw [hd] at h1
    simp only [Bool.and_eq_true, Bool.not_eq_true'] at h1
    exact h1.1
  · intro d e hd he
    rw [hd, he] at h1
    simp only [Bool.and_eq_true, Bool.not_eq_true'] at h1
    rintro rfl
    rw [Nat.beq_refl] at h1
    cases h1.2
  · intro d hd
    rw [hd] at h2
    simpa using h2
theorem mk_st {a b : Nat → Own A} {n : Nat} {g : List Nat} {x y : List (SV A)} (h1 : x = y) (h2 : a = b) : St.mk x a n g = St.mk y b n g := by rw [h1, h2]
theorem putOk_app {s : St A} {x y : Option Nat} {z : SV A} {F : Eff A} (h : ∀ d e, x = some d → y = some e → d ≠ e) : putOk (app s x z F) y = putOk s y := by
  cases y with
  | none => rfl
  | some e =>
    cases x with
    | none => rfl
    | some d =>
      have hg : (app s (some d) z F).get e = s.get e := by
        unfold St.get app
        simp only
        rw [List.getElem?_set_ne (h d e rfl rfl)]
      show (if s.gu.contains e then (match (app s (some d) z F).get e with | .top => true | _ => false) else true) = _
      rw [hg]
      rfl
theorem app_len (s : St A) (dst : Option Nat) (y : SV A) (F : Eff A) : (app s dst y F).tmps.length = s.tmps.length := by
  cases dst with
  | none => rfl
  | some d => simp [app]
theorem newK_app (s : St A) (dst : Option Nat) (y : SV A) (F : Eff A) (o : Oper) : newK (app s dst y F) o = newK s o := by
  unfold newK
  split
  · rfl
  · rw [app_len]; rfl
theorem mask_app {L : List Nat} {s : St A} {dst : Option Nat} {y : SV A} {F : Eff A} (h : ∀ d, dst = some d → L.contains d = false) : mask L (app s dst y F) = { mask L s with own := updL s.own F } := by
  cases dst with
  | none => rfl
  | some d => unfold mask app; simp only [maskL_set L s.tmps d y (h d rfl)]
theorem stepV_eff {ops : Array Oper} {s : St A} {o : Oper} {c : Option Prop} {y : SV A} {F : Eff A} {R : Rd} (h : stepV P u tab ops s o = some (c, y, F, R)) : ∀ t ∈ tg F, t ∈ R.r ∨ inFresh (newK s o) t = true := by
  intro t ht
  unfold stepV at h
  simp only at h
  split at h
  · split at h
    case isFalse => cases h
    split at h
    case h_2 => cases h
    cases h
    cases ht
  split at h
  · split at h
    case isFalse => cases h
    split at h
    case h_2 => cases h
    cases h
    cases ht
  · split at h
    case isFalse => cases h
    split at h
    case h_2 => cases h
    split at h
    case isFalse => cases h
    rename_i hef
    cases h
    have hK : newK (mask (looks ops o) s) o = newK s o := by
      unfold newK
      split
      · rfl
      · show (64 * (s.nx + (maskL _ 0 s.tmps).length)) % 1073741824 = _
        rw [maskL_length]
    rw [hK] at hef
    exact effIn_mem hef t ht
theorem stepV_low {ops : Array Oper} {s : St A} {o : Oper} {c : Option Prop} {y : SV A} {F : Eff A} {R : Rd} (h : stepV P u tab ops s o = some (c, y, F, R)) : (∀ id ∈ R.r, id < 1152921504606846976) ∧ (∀ id ∈ R.s, id < 1152921504606846976) ∧ (∀ q ∈ R.c, q.1 < 1152921504606846976) ∧ ∀ t ∈ tg F, t < 1152921504606846976 := by
  unfold stepV at h
  simp only at h
  split at h
  · split at h
    case isFalse => cases h
    rename_i hwh
    rw [Bool.and_eq_true] at hwh
    have hlt := blt_iff.1 hwh.2
    split at h
    case h_2 => cases h
    cases h
    exact ⟨fun _ h => (by cases h), fun id h => (by rcases List.mem_singleton.1 h with rfl; omega), fun _ h => (by cases h), fun _ h => (by cases h)⟩
  split at h
  · split at h
    case isFalse => cases h
    rename_i hwh
    rw [Bool.and_eq_true] at hwh
    have hlt := blt_iff.1 hwh.2
    split at h
    case h_2 => cases h
    cases h
    exact ⟨fun _ h => (by cases h), fun _ h => (by cases h), fun id h => (by rcases List.mem_singleton.1 h with rfl; omega), fun _ h => (by cases h)⟩
  · split at h
    case isFalse => cases h
    rename_i hok
    simp only [Bool.and_eq_true] at hok
    split at h
    case h_2 => cases h
    split at h
    case isFalse => cases h
    rename_i hef
    cases h
    exact ⟨fun id hid => by have := allLt_mem hok.2 id hid; omega, fun _ h => (by cases h), fun _ h => (by cases h), eff_lt hok.2 hef⟩
theorem stepV_d {ops : Array Oper} {s : St A} {o : Oper} {c : Option Prop} {y : SV A} {F : Eff A} {R : Rd} (h : stepV P u tab ops s o = some (c, y, F, R)) : ∀ t ∈ tg F, t ∉ R.d → (s.own t).isVar = true ∧ (updL s.own F t).isVar = true := by
  intro t ht hn
  unfold stepV at h
  simp only at h
  split at h
  · split at h
    case isFalse => cases h
    split at h
    case h_2 => cases h
    cases h
    cases ht
  split at h
  · split at h
    case isFalse => cases h
    split at h
    case h_2 => cases h
    cases h
    cases ht
  · split at h
    case isFalse => cases h
    split at h
    case h_2 => cases h
    split at h
    case isFalse => cases h
    cases h
    exact dOf_not ht hn
theorem stepV_w {ops : Array Oper} {s : St A} {o : Oper} {c : Option Prop} {y : SV A} {F : Eff A} {R : Rd} (h : stepV P u tab ops s o = some (c, y, F, R)) {v : Nat × Nat × Nat} (hv : R.w = some v) {off n : Nat} (hd : v.2.1 + v.2.2 ≤ off ∨ off + n ≤ v.2.1) :
    sameCells s.own (updL s.own F) (v.1, off, n) := by
  unfold stepV at h
  simp only at h
  split at h
  · split at h
    case isFalse => cases h
    split at h
    case h_2 => cases h
    cases h
    cases hv
  split at h
  · split at h
    case isFalse => cases h
    split at h
    case h_2 => cases h
    cases h
    cases hv
  · split at h
    case isFalse => cases h
    split at h
    case h_2 => cases h
    rename_i hst
    split at h
    case isFalse => cases h
    cases h
    exact st_cells P u tab hv hst hd
theorem diamond (hL : Laws P u tab) {ops : Array Oper} {s : St A} {oi oj : Oper} {ci cj : Option Prop} {yi yj : SV A} {Fi Fj : Eff A} {Ri Rj : Rd} (hi : stepV P u tab ops s oi = some (ci, yi, Fi, Ri))
    (hj : stepV P u tab ops (app s oi.dst yi Fi) oj = some (cj, yj, Fj, Rj)) (hap : Apart ops oi oj) (hfo : footB ⟨newK s oi, Ri.r, tg Fi, Ri.s, Ri.d, Ri.c, Ri.w⟩ ⟨newK s oj, Rj.r, tg Fj, Rj.s, Rj.d, Rj.c, Rj.w⟩ = true) :
    stepV P u tab ops s oj = some (cj, yj, Fj, Rj) ∧ stepV P u tab ops (app s oj.dst yj Fj) oi = some (ci, yi, Fi, Ri) ∧ app (app s oj.dst yj Fj) oi.dst yi Fi = app (app s oi.dst yi Fi) oj.dst yj Fj := by
  simp only [footB, Bool.and_eq_true] at hfo
  have f1 := outN_mem hfo.1.1.1
  have f2 := outN_mem hfo.1.1.2
  have f3 := offN_mem hfo.1.2.1
  have f4 := offN_mem hfo.1.2.2
  have f5 := cellN_mem hfo.2.1
  have f6 := cellN_mem hfo.2.2
  obtain ⟨li1, li2, li3, li4⟩ := stepV_low P u tab hi
  obtain ⟨lj1, lj2, lj3, lj4⟩ := stepV_low P u tab hj
  have hnew : ∀ o : Oper, ∀ i, i < 64 → newK s o + i < 1152921504606846976 := fun o i hi => by have := newK_D s o; omega
  have h1 : stepV P u tab ops s oj = some (cj, yj, Fj, Rj) := by
    refine stepV_congr P u tab hL (s := app s oi.dst yi Fi) (s' := s) ?_ ?_ ?_ ?_ ?_ hj
    · rw [mask_app hap.xy]
      rfl
    · intro id hid
      exact updL_out (lj1 id hid) (fun ht => (f1 id ht).1 hid)
    · intro id hid
      by_cases ht : id ∈ tg Fi
      · have hd := stepV_d P u tab hi id ht (fun hc => f3 id hc hid)
        show (updL s.own Fi id).isVar = (s.own id).isVar
        rw [hd.1, hd.2]
      · show (updL s.own Fi id).isVar = (s.own id).isVar
        rw [updL_out (lj2 id hid) ht]
    · intro q hq
      rcases f6 q hq with ht | ⟨v, hv, he, hd⟩
      · exact .inl (updL_out (lj3 q hq) ht)
      · have := (stepV_w P u tab hi hv (off := q.2.1) (n := q.2.2) hd).symm
        rw [he] at this
        exact this
    · intro i hi'
      rw [newK_app]
      exact updL_out (hnew _ i hi') (fun ht => fresh_not (f1 _ ht).2 i hi' rfl)
  have h2 : stepV P u tab ops (app s oj.dst yj Fj) oi = some (ci, yi, Fi, Ri) := by
    refine stepV_congr P u tab hL (s := s) (s' := app s oj.dst yj Fj) ?_ ?_ ?_ ?_ ?_ hi
    · rw [mask_app hap.yx]
      rfl
    · intro id hid
      exact (updL_out (li1 id hid) (fun ht => (f2 id ht).1 hid)).symm
    · intro id hid
      by_cases ht : id ∈ tg Fj
      · have hd := stepV_d P u tab h1 id ht (fun hc => f4 id hc hid)
        show (s.own id).isVar = (updL s.own Fj id).isVar
        rw [hd.1, hd.2]
      · show (s.own id).isVar = (updL s.own Fj id).isVar
        rw [updL_out (li2 id hid) ht]
    · intro q hq
      rcases f5 q hq with ht | ⟨v, hv, he, hd⟩
      · exact .inl (updL_out (li3 q hq) ht).symm
      · have := stepV_w P u tab h1 hv (off := q.2.1) (n := q.2.2) hd
        rw [he] at this
        exact this
    · intro i hi'
      exact (updL_out (hnew _ i hi') (fun ht => fresh_not (f2 _ ht).2 i hi' rfl)).symm
  refine ⟨h1, h2, mk_st ?_ ?_⟩
  · cases hdi : oi.dst with
    | none => rfl
    | some d =>
      cases hdj : oj.dst with
      | none => rfl
      | some e =>
        have := hap.ne d e hdi hdj
        exact List.set_comm _ _ (Ne.symm this)
  · show updL (updL s.own Fj) Fi = updL (updL s.own Fi) Fj
    refine updL_comm lj4 li4 (fun t ht hti => ?_)
    rcases stepV_eff P u tab hi t hti with h | h
    · exact (f2 t ht).1 h
    · rw [(f2 t ht).2] at h; cases h

/-! ### whichever order is drawn -/
def anyA (ops : Array Oper) (FT : List Foot) (K : St A → Prop) : Nat → Array Bool → St A → Prop
  | 0, listed, s => Region.ready .any ops listed = [] ∧ K s
  | n + 1, listed, s => (Region.ready .any ops listed = [] → K s) ∧
    ∀ i ∈ Region.ready .any ops listed, ∃ o c y F R, ops[i]? = some o ∧ stepV P u tab ops s o = some (c, y, F, R) ∧ FT[i]? = some ⟨newK s o, R.r, tg F, R.s, R.d, R.c, R.w⟩ ∧ holds c ∧ putOk s o.dst = true ∧ anyA ops FT K n (listed.setIfInBounds i true) (app s o.dst y F)
theorem any_sound (hL : Laws P u tab) {w0 : W0} {O0 : Nat → Prop} {ops : Array Oper} {FT : List Foot} {K : St A → Prop} {Q : Exit → Act → World → Prop} : ∀ (n : Nat) (listed : Array Bool) (s : St A) (e : E A) (a : Act), RepS P u w0 O0 s e a → anyA P u tab ops FT K n listed s →
    (∀ s' a' e', K s' → RepS P u w0 O0 s' e' a' → Q .normal a' e'.w) → wpAny P .any ops Q n listed a e.w
  | 0, listed, s, e, a, h, hk, hQ => ⟨hk.1, hQ s a e hk.2 h⟩
  | n + 1, listed, s, e, a, h, hk, hQ => by
    refine ⟨fun h0 => hQ s a e (hk.1 h0) h, fun i hi => ?_⟩
    obtain ⟨o, c, y, F, R, h1, h2, _, h3, h4, h5⟩ := hk.2 i hi
    unfold wpOp
    simp only [h1]
    exact stepV_sound P u tab hL h h2 h4 h3 fun a' e' h6 => any_sound hL n _ _ e' a' h6 h5 hQ

/-- Operation d waits for operation i. -/
inductive Waits (ops : Array Oper) (i : Nat) : Nat → Prop
  | one (d : Nat) (o : Oper) (e : Edge) : ops[d]? = some o → e ∈ o.after → Region.binds .any e = true → e.on = i → Waits ops i d
  | more (d : Nat) (o : Oper) (e : Edge) : ops[d]? = some o → e ∈ o.after → Region.binds .any e = true → Waits ops i e.on → Waits ops i d
def Closed (ops : Array Oper) (listed : Array Bool) : Prop := ∀ (j : Nat) oj, ops[j]? = some oj → listed.getD j false = true → ∀ e ∈ oj.after, Region.binds .any e = true → listed.getD e.on false = true
theorem Closed.set {ops : Array Oper} {listed : Array Bool} {i : Nat} (h : Closed ops listed) (hi : i ∈ Region.ready .any ops listed) : Closed ops (listed.setIfInBounds i true) := by
  obtain ⟨_, oi, hoi, hall⟩ := mem_ready.1 hi
  intro j oj hj hl e he hb
  by_cases hij : i = j
  · subst hij
    have : oj = oi := Option.some.inj (hj.symm.trans hoi)
    subst this
    exact getD_set_true (hall e he hb)
  · rw [getD_set_ne false hij] at hl
    exact getD_set_true (h j oj hj hl e he hb)
theorem Waits.listed {ops : Array Oper} {listed : Array Bool} {i d : Nat} (hc : Closed ops listed) (h : Waits ops i d) : listed.getD d false = true → listed.getD i false = true := by
  induction h with
  | one d o e h1 h2 h3 h4 => intro hl; rw [← h4]; exact hc d o h1 hl e h2 h3
  | more d o e h1 h2 h3 _ ih => intro hl; exact ih (hc d o h1 hl e h2 h3)
theorem Waits.not_ready {ops : Array Oper} {listed : Array Bool} {i d : Nat} (hc : Closed ops listed) (h : Waits ops i d) (hun : listed.getD i true = false) : d ∉ Region.ready .any ops listed := by
  intro hd
  obtain ⟨_, o, ho, hall⟩ := mem_ready.1 hd
  have hi : listed.getD i false = true := by
    cases h with
    | one d o' e h1 h2 h3 h4 =>
      have : o = o' := Option.some.inj (ho.symm.trans h1)
      subst this
      rw [← h4]; exact hall e h2 h3
    | more d o' e h1 h2 h3 h4 =>
      have : o = o' := Option.some.inj (ho.symm.trans h1)
      subst this
      exact h4.listed hc (hall e h2 h3)
  rcases Nat.lt_or_ge i listed.size with h' | h'
  · simp [h'] at hun hi
    rw [hun] at hi
    cases hi
  · simp [Array.getElem?_eq_none h'] at hun
theorem any_first (hL : Laws P u tab) {ops : Array Oper} {FT : List Foot} {K : St A → Prop} {i : Nat} {oi : Oper} (hoi : ops[i]? = some oi) {ci : Option Prop} {yi : SV A} {Fi : Eff A} {Ri : Rd} (hci : holds ci) : ∀ (n : Nat) (listed : Array Bool) (s : St A), Closed ops listed →
    stepV P u tab ops s oi = some (ci, yi, Fi, Ri) → FT[i]? = some ⟨newK s oi, Ri.r, tg Fi, Ri.s, Ri.d, Ri.c, Ri.w⟩ → putOk s oi.dst = true → (∀ (j : Nat) oj, ops[j]? = some oj → j ≠ i → listed.getD j true = false → Waits ops i j ∨ (Apart ops oi oj ∧ ∀ fi fj, FT[i]? = some fi → FT[j]? = some fj → footB fi fj = true)) →
    i ∈ Region.ready .any ops listed → anyA P u tab ops FT K n (listed.setIfInBounds i true) (app s oi.dst yi Fi) → anyA P u tab ops FT K (n + 1) listed s := by
  intro n
  induction n with
  | zero =>
    intro listed s hc hs hft hp hap hr H
    refine ⟨fun h => (by rw [h] at hr; cases hr), fun j hj => ?_⟩
    by_cases hji : j = i
    · subst hji; exact ⟨oi, ci, yi, Fi, Ri, hoi, hs, hft, hci, hp, H⟩
    · have := ready_mono hj hji
      rw [H.1] at this
      cases this
  | succ n ih =>
    intro listed s hc hs hft hp hap hr H
    refine ⟨fun h => (by rw [h] at hr; cases hr), fun j hj => ?_⟩
    by_cases hji : j = i
    · subst hji; exact ⟨oi, ci, yi, Fi, Ri, hoi, hs, hft, hci, hp, H⟩
    · obtain ⟨oj, cj, yj, Fj, Rj, h1, h2, h2', h3, h4, h5⟩ := H.2 j (ready_mono hj hji)
      have hiun := (mem_ready.1 hr).1
      have hjun := (mem_ready.1 hj).1
      obtain ⟨hA, hF⟩ : Apart ops oi oj ∧ ∀ fi fj, FT[i]? = some fi → FT[j]? = some fj → footB fi fj = true := by
        rcases hap j oj h1 hji hjun with h | h
        · exact absurd hj (h.not_ready hc hiun)
        · exact h
      rw [newK_app] at h2'
      obtain ⟨g1, g2, g3⟩ := diamond P u tab hL hs h2 hA (hF _ _ hft h2')
      have hpj : putOk s oj.dst = true := by rw [putOk_app (fun d e hd he => hA.ne d e hd he)] at h4; exact h4
      refine ⟨oj, cj, yj, Fj, Rj, h1, g1, h2', h3, hpj, ih (listed.setIfInBounds j true) _ (hc.set hj) g2 (by rw [newK_app]; exact hft) ?_ ?_ (ready_mono hr (Ne.symm hji)) ?_⟩
      · rw [putOk_app (fun d e hd he => Ne.symm (hA.ne e d he hd))]; exact hp
      · intro k ok hk hki hun
        refine hap k ok hk hki ?_
        by_cases hjk : j = k
        · subst hjk; exact hjun
        · rw [getD_set_ne true hjk] at hun; exact hun
      · rw [g3, Array.setIfInBounds_comm _ _ hji]
        exact h5

/-! ### the order of the text -/
/-- Whom each operation waits for, as bits; those of the operations so far. -/
def bitsOf (l : List Nat) : List Edge → Nat
  | [] => 0
  | e :: r => match Region.binds .any e with
    | true => ((1 <<< e.on) ||| l.getD e.on 0) ||| bitsOf l r
    | false => bitsOf l r
def waitL : List Oper → List Nat → List Nat
  | [], l => l
  | o :: r, l => waitL r (l ++ [bitsOf l o.after.toList])
theorem bits_spec {l : List Nat} {i : Nat} : ∀ {es : List Edge}, (bitsOf l es).testBit i = true → ∃ e ∈ es, Region.binds .any e = true ∧ (e.on = i ∨ (l.getD e.on 0).testBit i = true)
  | [], h => by simp [bitsOf] at h
  | e :: r, h => by
    unfold bitsOf at h
    split at h
    · rename_i hb
      simp only [Nat.testBit_or, Bool.or_eq_true] at h
      rcases h with (h | h) | h
      · refine ⟨e, List.mem_cons_self .., hb, .inl ?_⟩
        rw [Nat.one_shiftLeft, Nat.testBit_two_pow] at h
        simpa using h
      · exact ⟨e, List.mem_cons_self .., hb, .inr h⟩
      · obtain ⟨e', h1, h2⟩ := bits_spec h
        exact ⟨e', List.mem_cons_of_mem _ h1, h2⟩
    · obtain ⟨e', h1, h2⟩ := bits_spec h
      exact ⟨e', List.mem_cons_of_mem _ h1, h2⟩
theorem wait_spec {ops : Array Oper} : ∀ (r : List Oper) (l : List Nat), (∀ j, r[j]? = ops[l.length + j]?) → (∀ j i, (l.getD j 0).testBit i = true → Waits ops i j) → ∀ j i, ((waitL r l).getD j 0).testBit i = true → Waits ops i j
  | [], l, _, h => h
  | o :: r, l, ho, h => by
    unfold waitL
    refine wait_spec r _ (fun j => ?_) (fun j i hj => ?_)
    · have := ho (j + 1)
      simp only [List.getElem?_cons_succ] at this
      rw [this]
      simp only [List.length_append, List.length_cons, List.length_nil]
      congr 1
      omega
    · rcases Nat.lt_trichotomy j l.length with hlt | heq | hgt
      · rw [List.getD_eq_getElem?_getD, List.getElem?_append_left hlt, ← List.getD_eq_getElem?_getD] at hj
        exact h j i hj
      · subst heq
        rw [List.getD_eq_getElem?_getD, List.getElem?_append_right (Nat.le_refl _)] at hj
        simp only [Nat.sub_self, List.getElem?_cons_zero, Option.getD_some] at hj
        obtain ⟨e, h1, h2, h3⟩ := bits_spec hj
        have h0 : ops[l.length]? = some o := by simpa using (ho 0).symm
        rcases h3 with h3 | h3
        · exact .one _ o e h0 (by simpa using h1) h2 h3
        · exact .more _ o e h0 (by simpa using h1) h2 (h _ _ h3)
      · rw [List.getD_eq_getElem?_getD, List.getElem?_eq_none (by simp; omega)] at hj
        simp at hj
def allFrom (f : Nat → Oper → Bool) : Nat → List Oper → Bool
  | _, [] => true
  | k, o :: r => f k o && allFrom f (k + 1) r
theorem allFrom_spec {f : Nat → Oper → Bool} : ∀ {l : List Oper} {k : Nat}, allFrom f k l = true → ∀ j o, l[j]? = some o → f (k + j) o = true
  | [], _, _, j, o, h => by simp at h
  | x :: r, k, h, 0, o, hj => by
    cases hj
    simp only [allFrom, Bool.and_eq_true] at h
    exact h.1
  | x :: r, k, h, j + 1, o, hj => by
    simp only [allFrom, Bool.and_eq_true] at h
    have := allFrom_spec h.2 j o (by simpa using hj)
    rw [show k + (j + 1) = k + 1 + j by omega]
    exact this
def footAt (FT : List Foot) (i j : Nat) : Bool := match FT[i]?, FT[j]? with
  | some x, some y => footB x y
  | _, _ => false
def pairsB (ops : Array Oper) (FT : List Foot) (W : List Nat) : Nat → List Oper → Bool
  | _, [] => true
  | k, o :: r => o.after.toList.all (fun e => !Region.binds .any e || Nat.blt e.on k) && allFrom (fun j o' => Nat.testBit (W.getD j 0) k || (apartB ops o o' && footAt FT k j)) (k + 1) r && pairsB ops FT W (k + 1) r
/-- Nobody turns a block. -/
def quietF : List Foot → Bool
  | [] => true
  | f :: r => match f.W, f.D with
    | [], [] => quietF r
    | _, _ => false
/-- What is asked of the operations alone: the kernel reckons it once. -/
def pairs0 (ops : Array Oper) (W : List Nat) : Nat → List Oper → Bool
  | _, [] => true
  | k, o :: r => o.after.toList.all (fun e => !Region.binds .any e || Nat.blt e.on k) && allFrom (fun j o' => Nat.testBit (W.getD j 0) k || apartB ops o o') (k + 1) r && pairs0 ops W (k + 1) r
def lexOk (ops : Array Oper) (FT : List Foot) : Bool := match quietF FT && Nat.beq FT.length ops.toList.length with
  | true => pairs0 ops (waitL ops.toList []) 0 ops.toList
  | false => pairsB ops FT (waitL ops.toList []) 0 ops.toList
theorem quietF_at : ∀ {FT : List Foot} {i : Nat} {f : Foot}, quietF FT = true → FT[i]? = some f → f.W = [] ∧ f.D = []
  | [], _, _, _, h => by simp at h
  | g :: r, i, f, hq, h => by
    unfold quietF at hq
    split at hq
    · rename_i h1 h2
      cases i with
      | zero => cases h; exact ⟨h1, h2⟩
      | succ i => exact quietF_at hq (by simpa using h)
    · cases hq
theorem cellN_nil : ∀ {C : List (Nat × Nat × Nat)} {w : Option (Nat × Nat × Nat)}, cellN C [] w = true
  | [], _ => rfl
  | q :: r, w => by
    unfold cellN
    simp [memN, cellN_nil]
theorem footAt_quiet {FT : List Foot} {i j : Nat} (hq : quietF FT = true) (hi : i < FT.length) (hj : j < FT.length) : footAt FT i j = true := by
  have h1 := quietF_at hq (List.getElem?_eq_getElem hi)
  have h2 := quietF_at hq (List.getElem?_eq_getElem hj)
  unfold footAt
  rw [List.getElem?_eq_getElem hi, List.getElem?_eq_getElem hj]
  unfold footB
  simp [h1.1, h1.2, h2.1, h2.2, outN, offN, cellN_nil]
theorem allFrom_mono {f g : Nat → Oper → Bool} {n : Nat} : ∀ {l : List Oper} {k : Nat}, k + l.length ≤ n → (∀ j o, j < n → k ≤ j → f j o = true → g j o = true) → allFrom f k l = true → allFrom g k l = true
  | [], _, _, _, _ => rfl
  | o :: r, k, hn, hm, h => by
    simp only [allFrom, Bool.and_eq_true] at h ⊢
    simp only [List.length_cons] at hn
    exact ⟨hm k o (by omega) (Nat.le_refl _) h.1, allFrom_mono (by omega) (fun j o h1 h2 h3 => hm j o h1 (by omega) h3) h.2⟩
theorem pairs0_spec {ops : Array Oper} {FT : List Foot} {W : List Nat} (hq : quietF FT = true) : ∀ {l : List Oper} {k : Nat}, k + l.length ≤ FT.length → pairs0 ops W k l = true → pairsB ops FT W k l = true
  | [], _, _, _ => rfl
  | o :: r, k, hn, h => by
    simp only [pairs0, Bool.and_eq_true] at h
    simp only [List.length_cons] at hn
    simp only [pairsB, Bool.and_eq_true]
    refine ⟨⟨h.1.1, allFrom_mono (n := FT.length) (by omega) (fun j o' h1 h2 h3 => ?_) h.1.2⟩, pairs0_spec hq (by omega) h.2⟩
    rw [footAt_quiet hq (by omega) h1, Bool.and_true]
    exact h3
theorem lexOk_pairs {ops : Array Oper} {FT : List Foot} (h : lexOk ops FT = true) : pairsB ops FT (waitL ops.toList []) 0 ops.toList = true := by
  unfold lexOk at h
  split at h
  · rename_i hq
    rw [Bool.and_eq_true] at hq
    exact pairs0_spec hq.1 (by have := Nat.eq_of_beq_eq_true hq.2; omega) h
  · exact h
theorem pairs_spec {ops : Array Oper} {FT : List Foot} {W : List Nat} : ∀ {l : List Oper} {k : Nat}, pairsB ops FT W k l = true → ∀ j o, l[j]? = some o →
    (∀ e ∈ o.after, Region.binds .any e = true → e.on < k + j) ∧ ∀ i o', l[j + 1 + i]? = some o' → (W.getD (k + j + 1 + i) 0).testBit (k + j) = true ∨ (Apart ops o o' ∧ footAt FT (k + j) (k + j + 1 + i) = true)
  | [], _, _, j, o, h => by simp at h
  | x :: r, k, h, 0, o, hj => by
    cases hj
    simp only [pairsB, Bool.and_eq_true] at h
    refine ⟨fun e he hb => ?_, fun i o' hi => ?_⟩
    · have := List.all_eq_true.1 h.1.1 e (by simpa using he)
      simp only [hb, Bool.not_true, Bool.false_or] at this
      simpa using this
    · have hi : r[i]? = some o' := by rw [show 0 + 1 + i = i + 1 by omega] at hi; simpa using hi
      have := allFrom_spec h.1.2 i o' hi
      simp only [Bool.or_eq_true, Bool.and_eq_true] at this
      rcases this with h1 | h1
      · exact .inl h1
      · exact .inr ⟨apart_spec h1.1, by simpa using h1.2⟩
  | x :: r, k, h, j + 1, o, hj => by
    simp only [pairsB, Bool.and_eq_true] at h
    obtain ⟨h1, h2⟩ := pairs_spec h.2 j o (by simpa using hj)
    refine ⟨fun e he hb => by have := h1 e he hb; omega, fun i o' hi => ?_⟩
    have := h2 i o' (by rw [show j + 1 + 1 + i = (j + 1 + i) + 1 by omega] at hi; simpa using hi)
    rw [show k + (j + 1) + 1 + i = k + 1 + j + 1 + i by omega, show k + (j + 1) = k + 1 + j by omega]
    exact this

/-- The order of the text, each operation by what it looks at alone. -/
def lexW (ops : Array Oper) : List Oper → St A → (St A → Prop) → Prop
  | [], s, K => K s
  | o :: r, s, K => match stepV P u tab ops s o with
    | some (c, y, F, _) => match putOk s o.dst with
      | true => conj c (lexW ops r (app s o.dst y F) K)
      | false => False
    | none => False
/-- Where the operations look, and what they turn. -/
def lexT (ops : Array Oper) : List Oper → St A → Option (List Foot)
  | [], _ => some []
  | o :: r, s => match stepV P u tab ops s o with
    | some (_, y, F, R) => (match lexT ops r (app s o.dst y F) with
      | some l => some (⟨newK s o, R.r, tg F, R.s, R.d, R.c, R.w⟩ :: l)
      | none => none)
    | none => none
theorem lex_any (hL : Laws P u tab) {ops : Array Oper} {FT : List Foot} {K : St A → Prop} (hok : lexOk ops FT = true) : ∀ (l : List Oper) (k : Nat) (listed : Array Bool) (s : St A), (∀ j, l[j]? = ops[k + j]?) → k + l.length = ops.size → listed.size = ops.size →
    (∀ j, j < k → listed.getD j false = true) → (∀ j, k ≤ j → j < ops.size → listed.getD j true = false) → lexT P u tab ops l s = some (FT.drop k) → lexW P u tab ops l s K → anyA P u tab ops FT K l.length listed s := by
  have hpair := pairs_spec (lexOk_pairs hok)
  simp only [Nat.zero_add] at hpair
  have hops : ∀ (j : Nat) o, ops[j]? = some o → ops.toList[j]? = some o := by intro j o h; simpa using h
  intro l
  induction l with
  | nil =>
    intro k listed s hl hk hsz hlt hge hT h
    refine ⟨?_, h⟩
    rw [List.eq_nil_iff_forall_not_mem]
    intro j hj
    obtain ⟨h1, o, h2, _⟩ := mem_ready.1 hj
    have hjs : j < ops.size := (Array.getElem?_eq_some_iff.1 h2).1
    have := hlt j (by simp at hk; omega)
    rcases Nat.lt_or_ge j listed.size with h' | h'
    · simp [h'] at h1 this; rw [h1] at this; cases this
    · omega
  | cons o l ih =>
    intro k listed s hl hk hsz hlt hge hT h
    unfold lexW at h
    unfold lexT at hT
    split at h
    case h_2 => exact h.elim
    rename_i c y F R hs
    rw [hs] at hT
    simp only at hT
    split at hT
    case h_2 => cases hT
    rename_i T hT'
    simp only [Option.some.injEq] at hT
    have hFk : FT[k]? = some ⟨newK s o, R.r, tg F, R.s, R.d, R.c, R.w⟩ := by
      have : (FT.drop k)[0]? = some ⟨newK s o, R.r, tg F, R.s, R.d, R.c, R.w⟩ := by rw [← hT]; rfl
      simpa using this
    have hTk : T = FT.drop (k + 1) := by
      have : (FT.drop k).drop 1 = T := by rw [← hT]; rfl
      rw [← this, List.drop_drop]
    split at h
    case h_2 => exact h.elim
    rename_i hp
    obtain ⟨hc, hK⟩ := conj_spec h
    have h0 : ops[k]? = some o := by simpa using (hl 0).symm
    have hks : k < ops.size := (Array.getElem?_eq_some_iff.1 h0).1
    obtain ⟨hback, hfor⟩ := hpair k o (hops k o h0)
    have hcl : Closed ops listed := by
      intro j oj hj hlj e he hb
      have hjk : j < k := by
        rcases Nat.lt_or_ge j k with h' | h'
        · exact h'
        · have hjs : j < ops.size := (Array.getElem?_eq_some_iff.1 hj).1
          have := hge j h' hjs
          have hjl : j < listed.size := by omega
          simp [hjl] at this hlj
          rw [this] at hlj; cases hlj
      have := (hpair j oj (hops j oj hj)).1 e he hb
      exact hlt _ (by omega)
    refine any_first P u tab hL h0 hc l.length listed s hcl hs hFk hp ?_ ?_ ?_
    · intro j oj hj hjk hun
      have hjs : j < ops.size := (Array.getElem?_eq_some_iff.1 hj).1
      have hgt : k < j := by
        rcases Nat.lt_or_ge j k with h' | h'
        · have := hlt j h'
          have hjl : j < listed.size := by omega
          simp [hjl] at this hun
          rw [this] at hun; cases hun
        · omega
      have := hfor (j - (k + 1)) oj (by rw [show k + 1 + (j - (k + 1)) = j by omega]; exact hops j oj hj)
      rw [show k + 1 + (j - (k + 1)) = j by omega] at this
      rcases this with h' | ⟨h1, h2⟩
      · exact .inl (wait_spec (ops := ops) ops.toList [] (by simp) (by simp) j k h')
      · refine .inr ⟨h1, fun fi fj hfi hfj => ?_⟩
        unfold footAt at h2
        rw [hfi, hfj] at h2
        exact h2
    · exact mem_ready.2 ⟨hge k (Nat.le_refl _) hks, o, h0, fun e he hb => hlt _ (hback e he hb)⟩
    · refine ih (k + 1) _ _ (fun j => by have := hl (j + 1); simpa [Nat.add_assoc, Nat.add_comm 1 j] using this) (by simp at hk; omega) (by simpa using hsz) ?_ ?_ (by rw [hT', hTk]) hK
      · intro j hj
        by_cases hjk : k = j
        · subst hjk; simp [hsz, hks]
        · rw [getD_set_ne false hjk]; exact hlt j (by omega)
      · intro j hj hjs
        rw [getD_set_ne true (by omega)]
        exact hge j (by omega) hjs

/-- Operations of a kind that turns nothing. -/
def quietOp (o : Oper) : Bool := match o.op with
  | .box _ _ | .alloc _ | .store _ _ _ | .buildSlice _ _ _ | .makeSlice _ _ _ | .makeMap _ _ | .mapUpdate _ _ _ _ => false
  | .call c => (match c.callee with
    | .builtin b => (match b with
      | .append | .copy | .clear | .delete => false
      | _ => true)
    | .value f => (match f with
      | .func g => (match find tab g with
        | some (.pure _) => true
        | some (.look _) => true
        | _ => false)
      | _ => false)
    | _ => true)
  | _ => true
def lexW0 (full : Prop) (ops : Array Oper) : List Oper → St A → (St A → Prop) → Prop
  | [], s, K => K s
  | o :: r, s, K => match stepV P u tab ops s o with
    | some (c, y, [], R) => (match R.d with
      | [] => (match putOk s o.dst with
        | true => conj c (lexW0 full ops r (app s o.dst y []) K)
        | false => False)
      | _ => full)
    | some _ => full
    | _ => False
theorem lexW0_spec {full : Prop} {ops : Array Oper} {K : St A → Prop} : ∀ {l : List Oper} {s : St A}, lexW0 P u tab full ops l s K → full ∨ ∃ FT, lexT P u tab ops l s = some FT ∧ quietF FT = true ∧ FT.length = l.length ∧ lexW P u tab ops l s K
  | [], s, h => .inr ⟨[], rfl, rfl, rfl, h⟩
  | o :: r, s, h => by
    unfold lexW0 at h
    split at h
    case h_2 => exact .inl h
    case h_3 => exact h.elim
    rename_i c y R hst
    split at h
    case h_2 => exact .inl h
    rename_i hd
    split at h
    case h_2 => exact h.elim
    rename_i hp
    obtain ⟨hc, h⟩ := conj_spec h
    rcases lexW0_spec h with h | ⟨FT, h1, h2, h3, h4⟩
    · exact .inl h
    refine .inr ⟨⟨newK s o, R.r, tg ([] : Eff A), R.s, R.d, R.c, R.w⟩ :: FT, by unfold lexT; rw [hst]; simp only [h1], ?_, by simp [h3], ?_⟩
    · unfold quietF
      rw [hd]
      exact h2
    · unfold lexW
      rw [hst]
      simp only [hp]
      cases c with
      | none => exact h4
      | some c => exact ⟨hc, h4⟩
def drawF (ops : Array Oper) (s : St A) (K : St A → Prop) : Prop := match lexT P u tab ops ops.toList (startS s ops) with
  | some FT => match lexOk ops FT with
    | true => lexW P u tab ops ops.toList (startS s ops) fun s => K (endS s)
    | false => False
  | none => False
/-- A region that draws its order. -/
def drawW (ops : Array Oper) (s : St A) (K : St A → Prop) : Prop := match ops.toList.all (quietOp tab) && pairs0 ops (waitL ops.toList []) 0 ops.toList with
  | true => lexW0 P u tab (drawF P u tab ops s K) ops ops.toList (startS s ops) fun s => K (endS s)
  | false => drawF P u tab ops s K
theorem draw_sound (hm : P.follows .mixedOrders = true) (hL : Laws P u tab) {w0 : W0} {O0 : Nat → Prop} : DrawsOk P u w0 O0 (drawW P u tab) := by
  intro id ops K s e a h hn hk
  obtain ⟨FT, hT, hok, hk⟩ : ∃ FT, lexT P u tab ops ops.toList (startS s ops) = some FT ∧ lexOk ops FT = true ∧ lexW P u tab ops ops.toList (startS s ops) fun s => K (endS s) := by
    have full : drawF P u tab ops s K → ∃ FT, lexT P u tab ops ops.toList (startS s ops) = some FT ∧ lexOk ops FT = true ∧ lexW P u tab ops ops.toList (startS s ops) fun s => K (endS s) := by
      intro hk
      unfold drawF at hk
      split at hk
      case h_2 => exact hk.elim
      rename_i FT hT
      split at hk
      case h_2 => exact hk.elim
      rename_i hok
      exact ⟨FT, hT, hok, hk⟩
    unfold drawW at hk
    split at hk
    · rename_i hq
      rw [Bool.and_eq_true] at hq
      rcases lexW0_spec P u tab hk with hf | ⟨FT, h1, h2, h3, h4⟩
      · exact full hf
      refine ⟨FT, h1, ?_, h4⟩
      unfold lexOk
      rw [h2, h3, Nat.beq_refl]
      exact hq.2
    · exact full hk
  have h1 := h.start P u hn ops
  refine wp_region_any hm ?_
  obtain ⟨h2, h3⟩ := h1.hr.after P u (w' := { e.w with drawn := e.w.drawn + 1 }) ((Below.refl _ e.w).drew)
  have hd : RepS P u w0 O0 (startS s ops) (afterE e { e.w with drawn := e.w.drawn + 1 }) a := by
    have h4 := h1.ext P u h2 h3
    have h5 : (afterE e { e.w with drawn := e.w.drawn + 1 }).own = (startS s ops).own := h.own
    rw [h5] at h4
    exact h4
  refine any_sound P u tab hL ops.size _ _ _ a hd (FT := FT) (K := fun s => K (endS s)) ?_ ?_
  · have := lex_any P u tab hL hok ops.toList 0 (Array.replicate ops.size false) (startS s ops) (by simp) (by simp) (by simp) (by intro j hj; omega) (by intro j _ hj; simp [hj]) (by simpa using hT) hk
    simpa using this
  · intro s' a' e' hK hr
    obtain ⟨g1, g2⟩ := hr.fin P u
    exact ⟨.norm, _, e', trivial, hK, g1, g2, rfl⟩
end
end Go.Proofs.Ytndacggailoogaa.Sx
