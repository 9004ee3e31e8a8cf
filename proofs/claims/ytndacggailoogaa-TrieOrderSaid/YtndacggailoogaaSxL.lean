/- An abstract machine over values by content, twelfth part: regions, and whole bodies. -/
import Derived.Test.YtndacggailoogaaSxK
import Derived.LoopN
namespace Go.Proofs.Ytndacggailoogaa.Sx
open Go Go.RowKit

section
variable {A : Nat → Type} (P : Program) (u : U A) (tab : List (Nat × Con A))

theorem slotOk_ext {e e' : E A} {a : Act} {x : SV A} {v : Value} (hx : Ext e e') (h : slotOk P u e a x v) : slotOk P u e' a x v := by
  unfold slotOk at *
  split at h
  · exact ⟨fun hg => (h.1 hg).ext P u hx, h.2⟩
  · exact RepL.ext P u hx h
theorem RepS.ext {w0 : W0} {O0 : Nat → Prop} {s : St A} {e e' : E A} {a : Act} (h : RepS P u w0 O0 s e a) (hr : HR P u w0 O0 e') (hx : Ext e e') : RepS P u w0 O0 { s with own := e'.own } e' a :=
  ⟨h.defers, h.size, rfl, hr, fun i x hi => slotOk_ext P u hx (h.slot i x hi), h.wh⟩

/-- One operation: what is asked, its value, which own blocks turn. -/
def stepE (ops : Array Oper) (s : St A) (o : Oper) : HRes A := match guardOf ops o s with
  | none => none
  | some .skip => some (none, .undef, [])
  | some .run => runS P u tab s none o
  | some (.under d p) => if s.gu.contains d then (match runS P u tab s (some (d, p)) o with
    | some (c, y, []) => some (c.map (underP s 16 d p), .wh d p y, [])
    | _ => none) else none
def stepD (ops : Array Oper) (s : St A) (o : Oper) : Option (Option Prop × St A) := match stepE P u tab ops s o with
  | some (c, y, F) => match putS { s with own := updL s.own F } o.dst y with
    | some s' => some (c, s')
    | none => none
  | none => none
theorem slot_plain {e : E A} {a : Act} {x : SV A} {v : Value} (h : RepL P u e [x] [v]) : slotOk P u e a x v := by
  unfold slotOk
  split
  · cases h
  · exact h
theorem step_sound (hL : Laws P u tab) {w0 : W0} {O0 : Nat → Prop} {s s' : St A} {e : E A} {a : Act} (h : RepS P u w0 O0 s e a) {ops : Array Oper} {o : Oper} {c : Option Prop} {next : Act → World → Prop} {Q : Exit → Act → World → Prop}
    (hs : stepD P u tab ops s o = some (c, s')) (hc : holds c) (hn : ∀ a' e', RepS P u w0 O0 s' e' a' → Ext e e' → next a' e'.w) :
    if Region.wanted o (yielded ops a.tmps) then o.wp P a e.w next Q ∨ (o.asks P a e.w ∧ LetsOut Q) else next (a.put o.dst Go.undef) e.w := by
  unfold stepD at hs
  split at hs
  case h_2 => cases hs
  rename_i c0 y0 F hst
  split at hs
  case h_2 => cases hs
  rename_i s1 hp
  cases hs
  unfold stepE at hst
  split at hst
  · cases hst
  · rename_i hg
    cases hst
    rw [guard_skip P u h hg]
    simp only [Bool.false_eq_true, if_false]
    exact hn _ e (h.put P u (slot_plain P u (.undef .nil)) (by intro _ _ _ hx; cases hx) hp) (.refl e)
  · rename_i hg
    rw [guard_run P u h hg]
    simp only [if_true]
    refine .inl (run_sound P u tab hL h (by intro d p hd; cases hd) hst hc fun v e' h1 h2 h3 h4 => ?_)
    have h5 := h.ext P u h1 h2
    rw [h3] at h5
    exact hn _ e' (h5.put P u (slot_plain P u h4) (by intro d p z hx; subst hx; cases h4) hp) h2
  · rename_i d p hg
    split at hst
    case isFalse => cases hst
    rename_i hgu
    split at hst
    case h_2 => cases hst
    rename_i c' y hr
    cases hst
    have hdt : s.get d ≠ .top ∧ d < s.tmps.length := by
      have hgo : s.get d ≠ .top ∧ s.get d ≠ .undef := by
        unfold guardOf at hg
        split at hg
        · cases hg
        · split at hg
          · cases hg
          · rename_i d' hd'
            split at hg
            · split at hg <;> cases hg
            · cases hg
            · rename_i b hb; cases hg; rw [hb]; simp
            · rename_i b hb; cases hg; rw [hb]; simp
            · rename_i b hb; split at hg <;> cases hg; rw [hb]; simp
            · cases hg
      refine ⟨hgo.1, ?_⟩
      by_cases hlt : d < s.tmps.length
      · exact hlt
      · exfalso
        apply hgo.2
        unfold St.get
        rw [List.getElem?_eq_none (Nat.le_of_not_lt hlt)]
    have hwok : ∀ (y : SV A) d0 p0 y0, SV.wh d p y = SV.wh d0 p0 y0 → d0 ∈ s.gu ∧ s.get d0 ≠ .top ∧ d0 < s.tmps.length := by
      intro y d0 p0 y0 hx
      cases hx
      exact ⟨by simpa using hgu, hdt.1, hdt.2⟩
    by_cases hw : Region.wanted o (yielded ops a.tmps) = true
    · rw [if_pos hw]
      have hgd := (guard_under P u h hg).1 hw
      have hc' : holds c' := by
        cases c' with
        | none => trivial
        | some c' => exact underP_sound P u h 16 d p c' hc hgd
      refine .inl (run_sound P u tab hL h (by intro d0 p0 hd; cases hd; exact hgd) hr hc' fun v e' h1 h2 h3 h4 => ?_)
      have h5 := h.ext P u h1 h2
      rw [h3] at h5
      refine hn _ e' (h5.put P u (x := .wh d p y) ?_ (hwok y) hp) h2
      exact ⟨fun _ => h4, fun hne => absurd hgd hne⟩
    · rw [if_neg hw]
      have hgd : a.tmps.getD d Go.undef ≠ .bool p := fun hb => hw ((guard_under P u h hg).2 hb)
      refine hn _ e (h.put P u (x := .wh d p y) ?_ (hwok y) hp) (.refl e)
      exact ⟨fun hb => absurd hb hgd, fun _ => rfl⟩

def conj (c : Option Prop) (p : Prop) : Prop := match c with
  | none => p
  | some c => c ∧ p
theorem conj_spec {c : Option Prop} {p : Prop} (h : conj c p) : holds c ∧ p := by cases c <;> first | exact ⟨trivial, h⟩ | exact h
/-! A block that is laid under a guard: either way by itself. -/
def rootOf (s : St A) : Nat → Nat → Option Nat
  | 0, _ => none
  | n + 1, d => match s.get d with
    | .bool _ => some d
    | .wh d' _ _ => rootOf s n d'
    | _ => none
def splitOn (ops : Array Oper) (s : St A) (o : Oper) : Option Nat := match guardOf ops o s with
  | some (.under d p) => (match runS P u tab s (some (d, p)) o with
    | some (_, _, []) => none
    | _ => rootOf s 16 d)
  | _ => none
/-- Is a slice nil? Nobody knows, but then it has nothing. -/
def nilQ (s : St A) (o : Oper) : Option (Bool × Prop) := match o.guard with
  | none => (match o.op with
    | .binOp op t x y _ => (match P.underlying t with
      | some (.slice _) => (match plainV (s.ev y) with
        | .nils => (match (match op with | .eql => some true | .neq => some false | _ => none) with
          | some b => (match plainV (s.ev x) with
            | .nils => some (b, True)
            | .csl _ xs => some (b, xs.length = 0)
            | .orow id => (match s.own id with
              | .row _ xs => some (b, xs.length = 0)
              | .fro _ xs => some (b, xs.length = 0)
              | _ => none)
            | _ => none)
          | none => none)
        | _ => none)
      | _ => none)
    | _ => none)
  | some _ => none
theorem nilQ_sound {w0 : W0} {O0 : Nat → Prop} {s : St A} {e : E A} {a : Act} (h : RepS P u w0 O0 s e a) {o : Oper} {b : Bool} {p : Prop} (hq : nilQ P s o = some (b, p)) :
    o.guard = none ∧ ∃ r : Bool, (execOp a.eval o).run P e.w = .ok (.value (.bool (r == b))) e.w ∧ (r = true → p) := by
  unfold nilQ at hq
  split at hq
  case h_2 => cases hq
  rename_i hg
  refine ⟨hg, ?_⟩
  split at hq
  case h_2 => cases hq
  rename_i op t x y yt hop
  split at hq
  case h_2 => cases hq
  rename_i el hu
  split at hq
  case h_2 => cases hq
  rename_i hy
  split at hq
  case h_2 => cases hq
  rename_i b' hb
  have hyr := h.plain P u y
  rw [hy] at hyr
  generalize hvy : a.eval y = vy at hyr
  cases hyr
  have hxr := h.plain P u x
  have key : ∃ ad len cap, a.eval x = .slice ad len cap ∧ b' = b ∧ (ad = none → p) := by
    split at hq
    · rename_i hx
      rw [hx] at hxr
      cases hq
      generalize a.eval x = vx at hxr
      cases hxr
      exact ⟨_, _, _, rfl, rfl, fun _ => trivial⟩
    · rename_i T xs hx
      rw [hx] at hxr
      cases hq
      generalize a.eval x = vx at hxr
      cases hxr with
      | csl _ _ ad len cap vss hl hc hm _ _ _ =>
        refine ⟨_, _, _, rfl, rfl, fun hn => ?_⟩
        rcases hm with rfl | ⟨b, o, hb, _⟩
        · rfl
        · rw [hn] at hb; cases hb
    · rename_i id hx
      rw [hx] at hxr
      have hrow : ∀ {T : Nat} {xs : List (A T)}, (s.own id = .row T xs ∨ s.own id = .fro T xs) → ∃ ad len cap, a.eval x = .slice ad len cap ∧ (ad = none → xs.length = 0) := by
        intro T xs ho
        rw [← h.own] at ho
        obtain ⟨ad, len, cap, vss, hv, hl, hc, hm, _, _⟩ := orow_slice P u h.hr ho hxr
        refine ⟨ad, len, cap, hv, fun hn => ?_⟩
        rcases hm with rfl | ⟨b, o, hb, _⟩
        · rfl
        · rw [hn] at hb; cases hb
      split at hq
      · rename_i T xs ho
        cases hq
        obtain ⟨ad, len, cap, h1, h2⟩ := hrow (.inl ho)
        exact ⟨ad, len, cap, h1, rfl, h2⟩
      · rename_i T xs ho
        cases hq
        obtain ⟨ad, len, cap, h1, h2⟩ := hrow (.inr ho)
        exact ⟨ad, len, cap, h1, rfl, h2⟩
      · cases hq
    · cases hq
  obtain ⟨ad, len, cap, hvx, rfl, hp⟩ := key
  have heq : (Op.equal t (.slice ad len cap) (.slice none 0 0)).run P e.w = .ok ad.isNone e.w := by
    have hd : ∀ d, (Op.equalIn (d + 1) t (.slice ad len cap) (.slice none 0 0)).run P e.w = .ok ad.isNone e.w := by
      intro d
      cases ad <;> simp [Op.equalIn, run_underlying hu]
    exact hd 9999
  refine ⟨ad.isNone, ?_, fun hr => hp (by simpa using hr)⟩
  unfold execOp
  rw [hop]
  split at hb
  · cases hb
    simp only [hvx, hvy, eqGuard, binOp, Sem.run_bind, Sem.run_pure, Result.andThen]
    simp [heq]
  · cases hb
    simp only [hvx, hvy, eqGuard, binOp, Sem.run_bind, Sem.run_pure, Result.andThen]
    simp [heq]
  · cases hb
def resolveV (d : Nat) (b : Bool) (x : SV A) : SV A := match x with
  | .wh d' p y => if Nat.beq d' d then (if beqB p b then y else .undef) else .wh d' p y
  | x => x
def resolveS (s : St A) (d : Nat) (b : Bool) : St A := { s with tmps := (s.tmps.map (resolveV d b)).set d (.lit b) }
def whSafe (m : St A) : Bool := m.tmps.all fun x => match x with
  | .wh d _ _ => match m.get d with
    | .top => false
    | _ => true
  | _ => true
theorem RepS.resolve {w0 : W0} {O0 : Nat → Prop} {s : St A} {e : E A} {a : Act} (h : RepS P u w0 O0 s e a) {d : Nat} {b : Bool} (hd : s.get d = .bool b) (hw : whSafe (resolveS s d b) = true) : RepS P u w0 O0 (resolveS s d b) e a := by
  have hv : a.tmps.getD d Go.undef = .bool b := by
    have := h.get P u d
    rw [hd] at this
    exact bool_inv P u (x := .bool b) this rfl
  have hget : ∀ (i : Nat) (x : SV A), (resolveS s d b).tmps[i]? = some x → (i = d ∧ x = .lit b) ∨ ∃ z, s.tmps[i]? = some z ∧ x = resolveV d b z := by
    intro i x hi
    simp only [resolveS] at hi
    rw [List.getElem?_set] at hi
    split at hi
    · rename_i hid
      split at hi
      · cases hi; exact .inl ⟨hid.symm, rfl⟩
      · cases hi
    · simp only [List.getElem?_map, Option.map_eq_some_iff] at hi
      obtain ⟨z, h1, h2⟩ := hi
      exact .inr ⟨z, h1, h2.symm⟩
  refine ⟨h.defers, by rw [h.size]; simp [resolveS], h.own, h.hr, ?_, ?_⟩
  · intro i x hi
    rcases hget i x hi with ⟨rfl, rfl⟩ | ⟨z, hz, rfl⟩
    · rw [hv]; exact RepL.lit b .nil
    · have hs := h.slot i z hz
      unfold resolveV
      split
      · rename_i d' p y
        split
        · rename_i hdd
          have hdd := Nat.eq_of_beq_eq_true hdd
          subst hdd
          split
          · rename_i hpb
            have := beqB_eq hpb
            subst this
            exact slot_plain P u (hs.1 hv)
          · rename_i hpb
            have hne := beqB_ne (by simpa using hpb)
            have : a.tmps.getD i Go.undef = Go.undef := hs.2 (by rw [hv]; intro hx; cases hx; exact hne rfl)
            rw [this]
            exact RepL.undef .nil
        · exact hs
      · exact hs
  · intro i d0 p y hi
    have hne : (resolveS s d b).tmps[d0]? ≠ some .top := by
      intro ht
      have h1 := List.all_eq_true.1 hw _ (List.mem_of_getElem? hi)
      have h2 : (resolveS s d b).get d0 = .top := by unfold St.get; rw [ht]
      simp [h2] at h1
    refine ⟨?_, hne⟩
    rcases hget i _ hi with ⟨_, hx⟩ | ⟨z, hz, hx⟩
    · cases hx
    · unfold resolveV at hx
      split at hx
      · split at hx
        · split at hx
          · rename_i d' p' y' _ _
            exfalso
            have hs := h.slot i _ hz
            rename_i hdd hpb
            have hdd := Nat.eq_of_beq_eq_true hdd
            subst hdd
            have := beqB_eq hpb
            subst this
            have hr := hs.1 hv
            rw [← hx] at hr
            cases hr
          · cases hx
        · cases hx
          exact (h.wh i _ _ _ hz).1
      · subst hx
        exact (h.wh i _ _ _ hz).1
def forkB (own : Nat → Own A) (sp : FSpec A) (xs : List (SV A)) : Option Bool := match reach own 32 (addN [] (ids.go xs)) 0 with
  | l => match sp (ren.go (fun x => idxN x l 0) xs) (mapI l own (fun x => idxN x l 0)) with
    | some (_, t, _, _) => some t
    | none => none
/-- Which way a call goes that goes one of two ways. -/
def forkQ (s : St A) (o : Oper) : Option Bool := match o.op with
  | .call cc => (match cc.callee with
    | .value f => (match s.ev f with
      | .fn g cap => (match find tab g with
        | some (.fork sp) => forkB s.own sp (cc.args.toList.map s.ev ++ cap)
        | _ => none)
      | _ => none)
    | _ => none)
  | _ => none
def stepW (ops : Array Oper) : Nat → St A → Oper → (St A → Prop) → Prop
  | 0, _, _, _ => False
  | n + 1, s, o, K => match splitOn P u tab ops s o with
    | some d => (match s.get d with
      | .bool t => (t = true → (match whSafe (resolveS s d true) with
        | true => stepW ops n (resolveS s d true) o K
        | false => False)) ∧ (t = false → (match whSafe (resolveS s d false) with
        | true => stepW ops n (resolveS s d false) o K
        | false => False))
      | _ => False)
    | none => match stepD P u tab ops s o with
      | some (c, s') => conj c (K s')
      | none => match nilQ P s o with
        | some (b, p) => ∀ r : Bool, (r = true → p) → (match putS s o.dst (.bool (r == b)) with
          | some s' => K s'
          | none => False)
        | none => (match forkQ tab s o with
          | some t => (t = true → (match stepD P u (pickT true tab) ops s o with
            | some (c, s') => conj c (K s')
            | none => False)) ∧ (t = false → (match stepD P u (pickT false tab) ops s o with
            | some (c, s') => conj c (K s')
            | none => False))
          | none => False)
theorem stepW_sound (hL : Laws P u tab) {w0 : W0} {O0 : Nat → Prop} {e : E A} {a : Act} {ops : Array Oper} {o : Oper} {next : Act → World → Prop} {Q : Exit → Act → World → Prop} {K : St A → Prop} : ∀ (n : Nat) (s : St A), RepS P u w0 O0 s e a →
    stepW P u tab ops n s o K → (∀ s' a' e', K s' → RepS P u w0 O0 s' e' a' → Ext e e' → next a' e'.w) →
    if Region.wanted o (yielded ops a.tmps) then o.wp P a e.w next Q ∨ (o.asks P a e.w ∧ LetsOut Q) else next (a.put o.dst Go.undef) e.w
  | 0, s, h, hk, hn => hk.elim
  | n + 1, s, h, hk, hn => by
    unfold stepW at hk
    split at hk
    · rename_i d hd
      split at hk
      · rename_i t ht
        cases t with
        | true =>
          have hk := hk.1 rfl
          split at hk
          · rename_i hw; exact stepW_sound hL n _ (h.resolve P u ht hw) hk hn
          · exact hk.elim
        | false =>
          have hk := hk.2 rfl
          split at hk
          · rename_i hw; exact stepW_sound hL n _ (h.resolve P u ht hw) hk hn
          · exact hk.elim
      · exact hk.elim
    · split at hk
      · rename_i c s' hs
        obtain ⟨hc, hk⟩ := conj_spec hk
        exact step_sound P u tab hL h hs hc fun a' e' h1 h2 => hn s' a' e' hk h1 h2
      · split at hk
        · rename_i b p hq
          obtain ⟨hg, r, hrun, hp⟩ := nilQ_sound P u h hq
          have hk := hk r hp
          split at hk
          · rename_i s' hput
            have hw : Region.wanted o (yielded ops a.tmps) = true := by unfold Region.wanted; rw [hg]
            rw [if_pos hw]
            left
            unfold Oper.wp
            rw [hrun, Oper.upon_value]
            exact hn s' _ e hk (h.put P u (slot_plain P u (.bool _ .nil)) (by intro _ _ _ hx; cases hx) hput) (.refl e)
          · exact hk.elim
        · split at hk
          · rename_i t _
            cases t with
            | true =>
              have hk := hk.1 rfl
              split at hk
              · rename_i c s' hs
                obtain ⟨hc, hk⟩ := conj_spec hk
                exact step_sound P u (pickT true tab) (hL.pick P u true) h hs hc fun a' e' h1 h2 => hn s' a' e' hk h1 h2
              · exact hk.elim
            | false =>
              have hk := hk.2 rfl
              split at hk
              · rename_i c s' hs
                obtain ⟨hc, hk⟩ := conj_spec hk
                exact step_sound P u (pickT false tab) (hL.pick P u false) h hs hc fun a' e' h1 h2 => hn s' a' e' hk h1 h2
              · exact hk.elim
          · exact hk.elim
/-- The operations of a region, in the order of the text. -/
def opsW (ops : Array Oper) : List Oper → St A → (St A → Prop) → Prop
  | [], s, K => K s
  | o :: r, s, K => stepW P u tab ops 5 s o fun s' => opsW ops r s' K
theorem ops_sound (hL : Laws P u tab) {w0 : W0} {O0 : Nat → Prop} {ops : Array Oper} {Q : Exit → Act → World → Prop} {K : St A → Prop} : ∀ (l : List Oper) (s : St A) (e : E A) (a : Act), RepS P u w0 O0 s e a → opsW P u tab ops l s K →
    (∀ s' a' e', K s' → RepS P u w0 O0 s' e' a' → Ext e e' → Q .normal a' e'.w) → wpList P ops Q l a e.w
  | [], s, e, a, h, hk, hQ => hQ s a e hk h (.refl e)
  | o :: r, s, e, a, h, hk, hQ => by
    unfold opsW at hk
    unfold wpList
    exact stepW_sound P u tab hL 5 s h hk fun s' a' e' hk h1 h2 => ops_sound hL r s' e' a' h1 hk fun s2 a2 e2 h3 h4 h5 => hQ s2 a2 e2 h3 h4 (h2.trans h5)

/-- A region begins: the temporaries that guard others are known no more; it ends: what stood under a guard is known no more. -/
def guards (ops : List Oper) (all : Array Oper) : List Nat := match ops with
  | [] => []
  | o :: r => match o.guard with
    | some (j, _) => match guardD all j with
      | some d => if (guards r all).contains d then guards r all else d :: guards r all
      | none => guards r all
    | none => guards r all
def topAll (l : List (SV A)) : List Nat → List (SV A)
  | [] => l
  | d :: r => topAll (l.set d .top) r
def startS (s : St A) (ops : Array Oper) : St A := { s with tmps := topAll s.tmps (guards ops.toList ops), gu := guards ops.toList ops }
def endS (s : St A) : St A := { s with tmps := s.tmps.map plainV, nx := s.nx + s.tmps.length, gu := [] }
def noWh (s : St A) : Prop := ∀ (i d : Nat) (p : Bool) (y : SV A), s.tmps[i]? ≠ some (SV.wh d p y)
theorem topAll_get (l : List (SV A)) : ∀ (ds : List Nat) (i : Nat) (x : SV A), (topAll l ds)[i]? = some x → x = .top ∨ l[i]? = some x := by
  intro ds
  induction ds generalizing l with
  | nil => intro i x h; exact .inr h
  | cons d r ih =>
    intro i x h
    rcases ih (l.set d .top) i x h with h | h
    · exact .inl h
    · rw [List.getElem?_set] at h
      split at h
      · split at h
        · cases h; exact .inl rfl
        · cases h
      · exact .inr h
theorem topAll_length (l : List (SV A)) : ∀ ds : List Nat, (topAll l ds).length = l.length := by
  intro ds
  induction ds generalizing l with
  | nil => rfl
  | cons d r ih => rw [topAll, ih]; simp
theorem RepS.start {w0 : W0} {O0 : Nat → Prop} {s : St A} {e : E A} {a : Act} (h : RepS P u w0 O0 s e a) (hn : noWh s) (ops : Array Oper) : RepS P u w0 O0 (startS s ops) e a := by
  refine ⟨h.defers, by rw [h.size]; exact (topAll_length _ _).symm, h.own, h.hr, ?_, ?_⟩
  · intro i x hi
    rcases topAll_get _ _ _ _ hi with rfl | hi
    · exact slot_plain P u (.top _ .nil)
    · exact h.slot i x hi
  · intro i d p y hi
    rcases topAll_get _ _ _ _ hi with hx | hi
    · cases hx
    · exact absurd hi (hn i d p y)
theorem RepS.fin {w0 : W0} {O0 : Nat → Prop} {s : St A} {e : E A} {a : Act} (h : RepS P u w0 O0 s e a) : RepS P u w0 O0 (endS s) e a ∧ noWh (endS s) := by
  have hget : ∀ (i : Nat) (x : SV A), (endS s).tmps[i]? = some x → ∃ z : SV A, s.tmps[i]? = some z ∧ x = plainV z := by
    intro i x hi
    simp only [endS, List.getElem?_map, Option.map_eq_some_iff] at hi
    obtain ⟨z, h1, h2⟩ := hi
    exact ⟨z, h1, h2.symm⟩
  have hno : noWh (endS s) := by
    intro i d p y hi
    obtain ⟨z, _, h2⟩ := hget _ _ hi
    unfold plainV at h2
    split at h2
    · cases h2
    · rename_i hz; exact hz d p y h2.symm
  refine ⟨⟨h.defers, by simp [endS, h.size], h.own, h.hr, ?_, ?_⟩, hno⟩
  · intro i x hi
    obtain ⟨z, h1, rfl⟩ := hget _ _ hi
    have := h.slot i z h1
    unfold plainV
    split
    · exact slot_plain P u (.top _ .nil)
    · exact this
  · intro i d p y hi
    exact absurd hi (hno i d p y)

/-! ### two ways that meet again -/
/-- One operation that leaves the own blocks as they are. -/
def stepQ (ops : Array Oper) (s : St A) (o : Oper) : Option (Option Prop × St A) := match stepE P u tab ops s o with
  | some (c, y, []) => match putS s o.dst y with
    | some s' => some (c, s')
    | none => none
  | _ => none
theorem stepQ_D {ops : Array Oper} {s s' : St A} {o : Oper} {c : Option Prop} (h : stepQ P u tab ops s o = some (c, s')) : stepD P u tab ops s o = some (c, s') ∧ splitOn P u tab ops s o = none := by
  unfold stepQ at h
  split at h
  case h_2 => cases h
  rename_i c' y hst
  refine ⟨by unfold stepD; rw [hst]; exact h, ?_⟩
  unfold stepE at hst
  unfold splitOn
  split at hst
  · rename_i hg; rw [hg]
  · rename_i hg; rw [hg]
  · rename_i hg; rw [hg]
  · rename_i d p hg
    rw [hg]
    split at hst
    case isFalse => cases hst
    split at hst
    case h_2 => cases hst
    rename_i c2 y2 hr
    simp only [hr]
/-- The operations of a region, in the order of the text: what is asked, and the state behind them. -/
def opsR (ops : Array Oper) : List Oper → St A → Option (List Prop × St A)
  | [], s => some ([], s)
  | o :: r, s => match stepQ P u tab ops s o with
    | some (c, s') => match opsR ops r s' with
      | some (l, s2) => some (match c with
        | none => l
        | some p => p :: l, s2)
      | none => none
    | none => none
def allP : List Prop → Prop
  | [] => True
  | [p] => p
  | p :: r => p ∧ allP r
theorem allP_cons {p : Prop} {l : List Prop} (h : allP (p :: l)) : p ∧ allP l := by
  cases l with
  | nil => exact ⟨h, trivial⟩
  | cons q r => exact h
def simple : Code → St A → Option (List Prop × St A)
  | .skip, s => some ([], s)
  | .region _ ops d, s => match d with
    | true => none
    | false => match opsR P u tab ops ops.toList (startS s ops) with
      | some (l, s') => some (l, endS s')
      | none => none
  | .seq x y, s => match simple x s with
    | some (l, s1) => match simple y s1 with
      | some (l2, s2) => some (l ++ l2, s2)
      | none => none
    | none => none
  | _, _ => none
/-- The temporaries that a piece of code writes: those that stand for variables, and all. -/
def assignL : List Oper → List Nat
  | [] => []
  | o :: r => match o.op, o.dst with
    | .assign _, some d => d :: assignL r
    | _, _ => assignL r
def dstL : List Oper → List Nat
  | [] => []
  | o :: r => match o.dst with
    | some d => d :: dstL r
    | none => dstL r
def assigned : Code → List Nat
  | .region _ ops _ => assignL ops.toList
  | .seq x y => assigned x ++ assigned y
  | _ => []
def written : Code → List Nat
  | .region _ ops _ => guards ops.toList ops ++ dstL ops.toList
  | .seq x y => written x ++ written y
  | _ => []
/-- A step writes its own temporary alone, and leaves the own blocks. -/
theorem stepQ_frame {ops : Array Oper} {s s' : St A} {o : Oper} {c : Option Prop} (h : stepQ P u tab ops s o = some (c, s')) : (∀ d, o.dst ≠ some d → s'.tmps[d]? = s.tmps[d]?) ∧ s'.tmps.length = s.tmps.length ∧ s'.own = s.own := by
  have hput : ∀ {r r' : St A} {x : SV A}, putS r o.dst x = some r' → r'.own = r.own ∧ (∀ d, o.dst ≠ some d → r'.tmps[d]? = r.tmps[d]?) ∧ r'.tmps.length = r.tmps.length := by
    intro r r' x hp
    unfold putS at hp
    split at hp
    · cases hp; exact ⟨rfl, fun _ _ => rfl, rfl⟩
    · rename_i d hd
      have key : r' = { r with tmps := r.tmps.set d x } := by
        split at hp
        · split at hp
          · cases hp; rfl
          · cases hp
        · cases hp; rfl
      subst key
      refine ⟨rfl, fun d' hne => ?_, by simp⟩
      show (r.tmps.set d x)[d']? = _
      rw [List.getElem?_set_ne (fun h => hne (by rw [hd, h]))]
  unfold stepQ at h
  split at h
  case h_2 => cases h
  split at h
  case h_2 => cases h
  rename_i s1 hp
  cases h
  obtain ⟨h1, h2, h3⟩ := hput hp
  exact ⟨h2, h3, h1⟩
theorem opsR_frame {ops : Array Oper} : ∀ {l : List Oper} {s s' : St A} {ps : List Prop}, opsR P u tab ops l s = some (ps, s') → (∀ d, d ∉ dstL l → s'.tmps[d]? = s.tmps[d]?) ∧ s'.tmps.length = s.tmps.length ∧ s'.own = s.own
  | [], s, s', ps, h => by cases h; exact ⟨fun _ _ => rfl, rfl, rfl⟩
  | o :: r, s, s', ps, h => by
    unfold opsR at h
    split at h
    · rename_i c s1 h1
      split at h
      · rename_i l s2 h2
        cases h
        obtain ⟨a1, a2, a3⟩ := stepQ_frame P u tab h1
        obtain ⟨b1, b2, b3⟩ := opsR_frame h2
        refine ⟨fun d hd => ?_, b2.trans a2, b3.trans a3⟩
        unfold dstL at hd
        split at hd
        · rename_i e he
          simp only [List.mem_cons, not_or] at hd
          exact (b1 d hd.2).trans (a1 d (by rw [he]; simp; exact fun h => hd.1 h.symm))
        · rename_i he
          exact (b1 d hd).trans (a1 d (by rw [he]; simp))
      · cases h
    · cases h
theorem topAll_keep (l : List (SV A)) : ∀ (ds : List Nat) (i : Nat), i ∉ ds → (topAll l ds)[i]? = l[i]? := by
  intro ds
  induction ds generalizing l with
  | nil => intro i _; rfl
  | cons d r ih =>
    intro i hi
    simp only [List.mem_cons, not_or] at hi
    rw [topAll, ih _ i hi.2, List.getElem?_set_ne (Ne.symm hi.1)]
theorem simple_frame : ∀ {c : Code} {s s' : St A} {ps : List Prop}, noWh s → simple P u tab c s = some (ps, s') → noWh s' ∧ (∀ d, d ∉ written c → s'.tmps[d]? = s.tmps[d]?) ∧ s'.tmps.length = s.tmps.length ∧ s'.own = s.own := by
  intro c
  induction c with
  | skip => intro s s' ps hn h; cases h; exact ⟨hn, fun _ _ => rfl, rfl, rfl⟩
  | region id ops dr =>
    intro s s' ps hn h
    cases dr with
    | true => cases h
    | false =>
      unfold simple at h
      simp only at h
      · split at h
        · rename_i l s1 h1
          cases h
          obtain ⟨b1, b2, b3⟩ := opsR_frame P u tab h1
          have hget : ∀ (i : Nat) (x : SV A), (endS s1).tmps[i]? = some x → ∃ z : SV A, s1.tmps[i]? = some z ∧ x = plainV z := by
            intro i x hi
            simp only [endS, List.getElem?_map, Option.map_eq_some_iff] at hi
            obtain ⟨z, h1, h2⟩ := hi
            exact ⟨z, h1, h2.symm⟩
          refine ⟨?_, fun d hd => ?_, by simp [endS, b2, startS, topAll_length], b3⟩
          · intro i d p y hi
            obtain ⟨z, _, h2⟩ := hget _ _ hi
            unfold plainV at h2
            split at h2
            · cases h2
            · rename_i hz; exact hz d p y h2.symm
          · simp only [written, List.mem_append, not_or] at hd
            have h3 : s1.tmps[d]? = s.tmps[d]? := (b1 d hd.2).trans (topAll_keep _ _ _ hd.1)
            simp only [endS, List.getElem?_map, h3]
            cases hx : s.tmps[d]? with
            | none => rfl
            | some x =>
              simp only [Option.map_some]
              unfold plainV
              split
              · rename_i d0 p0 y0; exact absurd hx (hn d d0 p0 y0)
              · rfl
        · cases h
  | seq x y ihx ihy =>
    intro s s' ps hn h
    unfold simple at h
    split at h
    · rename_i l s1 h1
      split at h
      · rename_i l2 s2 h2
        cases h
        obtain ⟨a0, a1, a2, a3⟩ := ihx hn h1
        obtain ⟨b0, b1, b2, b3⟩ := ihy a0 h2
        refine ⟨b0, fun d hd => ?_, b2.trans a2, b3.trans a3⟩
        simp only [written, List.mem_append, not_or] at hd
        exact (b1 d hd.2).trans (a1 d hd.1)
      · cases h
    · cases h
  | _ => intro s s' ps hn h; cases h
theorem opsR_opsW {ops : Array Oper} : ∀ {l : List Oper} {s s' : St A} {ps : List Prop} {K : St A → Prop}, opsR P u tab ops l s = some (ps, s') → allP ps → K s' → opsW P u tab ops l s K
  | [], s, s', ps, K, h, hp, hk => by cases h; exact hk
  | o :: r, s, s', ps, K, h, hp, hk => by
    unfold opsR at h
    split at h
    · rename_i c s1 h1
      obtain ⟨hd, hsp⟩ := stepQ_D P u tab h1
      unfold opsW stepW
      rw [hsp]
      simp only [hd]
      split at h
      · rename_i l s2 h2
        cases h
        cases c with
        | none => exact opsR_opsW h2 hp hk
        | some p =>
          obtain ⟨hp1, hp2⟩ := allP_cons hp
          exact ⟨hp1, opsR_opsW h2 hp2 hk⟩
      · cases h
    · cases h
/-- What may be either of two values, by a name: the kind of it, and the two. -/
inductive Jn (A : Nat → Type) : Type
  | int (k : IntKind) (a b : Int)
  | bool (a b : Bool)
  | str (a b : ByteArray)
  | csl (T : Nat) (a b : List (A T))
  | any
  | no
def joinOf (x y : SV A) : Jn A := match x with
  | .undef => .any
  | .top => .any
  | .int k a => (match y with
    | .int l b => if kindEq k l then .int k a b else .no
    | .undef => .any
    | .top => .any
    | _ => .no)
  | .bool a => (match y with
    | .bool b => .bool a b
    | .lit b => .bool a b
    | .undef => .any
    | .top => .any
    | _ => .no)
  | .lit a => (match y with
    | .bool b => .bool a b
    | .lit b => .bool a b
    | .undef => .any
    | .top => .any
    | _ => .no)
  | .str a => (match y with
    | .str b => .str a b
    | .undef => .any
    | .top => .any
    | _ => .no)
  | .csl T a => (match y with
    | .csl S b => if h : S = T then .csl T a (h ▸ b) else .no
    | .nils => .csl T a []
    | .undef => .any
    | .top => .any
    | _ => .no)
  | .nils => (match y with
    | .csl S b => .csl S [] b
    | .undef => .any
    | .top => .any
    | _ => .no)
  | _ => (match y with
    | .undef => .any
    | .top => .any
    | _ => .no)
theorem joinOf_int {x y : SV A} {k : IntKind} {a b : Int} (h : joinOf x y = .int k a b) : x = .int k a ∧ y = .int k b := by
  cases x <;> cases y <;> simp only [joinOf] at h <;> (try cases h)
  all_goals (split at h <;> cases h)
  rename_i hkl
  simp only [kindEq, decide_eq_true_eq] at hkl
  subst hkl
  exact ⟨rfl, rfl⟩
theorem joinOf_bool {x y : SV A} {a b : Bool} (h : joinOf x y = .bool a b) : (x = .bool a ∨ x = .lit a) ∧ (y = .bool b ∨ y = .lit b) := by
  cases x <;> cases y <;> simp only [joinOf] at h <;> (try cases h)
  all_goals first
    | (split at h <;> cases h; done)
    | exact ⟨.inl rfl, .inl rfl⟩
    | exact ⟨.inl rfl, .inr rfl⟩
    | exact ⟨.inr rfl, .inl rfl⟩
    | exact ⟨.inr rfl, .inr rfl⟩
theorem joinOf_str {x y : SV A} {a b : ByteArray} (h : joinOf x y = .str a b) : x = .str a ∧ y = .str b := by
  cases x <;> cases y <;> simp only [joinOf] at h <;> (try cases h)
  all_goals first
    | (split at h <;> cases h; done)
    | exact ⟨rfl, rfl⟩
theorem joinOf_csl {x y : SV A} {T : Nat} {a b : List (A T)} (h : joinOf x y = .csl T a b) : (x = .csl T a ∨ (x = .nils ∧ a = [])) ∧ (y = .csl T b ∨ (y = .nils ∧ b = [])) := by
  cases x <;> cases y <;> simp only [joinOf] at h <;> (try cases h)
  all_goals first
    | exact ⟨.inl rfl, .inr ⟨rfl, rfl⟩⟩
    | exact ⟨.inr ⟨rfl, rfl⟩, .inl rfl⟩
    | (split at h
       · rename_i hh
         subst hh
         cases h
         exact ⟨.inl rfl, .inl rfl⟩
       · cases h)
    | (split at h <;> cases h; done)
def joinable1 (x y : SV A) : Bool := match joinOf x y with
  | .no => false
  | _ => true
def joinable (s1 s2 : St A) : List Nat → Bool
  | [] => true
  | d :: r => joinable1 (s1.get d) (s2.get d) && joinable s1 s2 r
/-- One way or the other: what may be either gets a name. -/
def joinW (t : Bool) (s1 s2 : St A) : List Nat → St A → (St A → Prop) → Prop
  | [], s, K => K s
  | d :: r, s, K => match joinOf (s1.get d) (s2.get d) with
    | .int k a b => ∀ v : Int, v = (if t then a else b) → joinW t s1 s2 r { s with tmps := s.tmps.set d (.int k v) } K
    | .bool a b => ∀ v : Bool, v = (if t then a else b) → joinW t s1 s2 r { s with tmps := s.tmps.set d (.bool v) } K
    | .str a b => ∀ v : ByteArray, v = (if t then a else b) → joinW t s1 s2 r { s with tmps := s.tmps.set d (.str v) } K
    | .csl T a b => ∀ v : List (A T), v = (if t then a else b) → joinW t s1 s2 r { s with tmps := s.tmps.set d (.csl T v) } K
    | _ => joinW t s1 s2 r s K
def dupFree : List Nat → List Nat
  | [] => []
  | d :: r => if (dupFree r).contains d then dupFree r else d :: dupFree r
/-- What both ways write is known no more; then what both know gets its name. -/
def meetW (t : Bool) (x y : Code) (s s1 s2 : St A) (K : St A → Prop) : Prop :=
  joinW t s1 s2 (dupFree (assigned x ++ assigned y)) { s with tmps := topAll s.tmps (written x ++ written y) } K
theorem join_sound {w0 : W0} {O0 : Nat → Prop} {t : Bool} {s1 s2 : St A} {e : E A} {a : Act} {K : St A → Prop} (h : RepS P u w0 O0 (if t then s1 else s2) e a) (hn : noWh (if t then s1 else s2)) : ∀ (l : List Nat) (s : St A), RepS P u w0 O0 s e a → noWh s →
    joinW t s1 s2 l s K → ∃ s', K s' ∧ RepS P u w0 O0 s' e a ∧ noWh s'
  | [], s, hs, hsn, hk => ⟨s, hk, hs, hsn⟩
  | d :: r, s, hs, hsn, hk => by
    have hset : ∀ x : SV A, (∀ d p y, x ≠ .wh d p y) → RepL P u e [x] [a.tmps.getD d Go.undef] → RepS P u w0 O0 { s with tmps := s.tmps.set d x } e a ∧ noWh { s with tmps := s.tmps.set d x } := by
      intro x hx hr
      have hno : noWh { s with tmps := s.tmps.set d x } := by
        intro i d0 p y hi
        simp only at hi
        rw [List.getElem?_set] at hi
        split at hi
        · split at hi
          · cases hi; exact hx _ _ _ rfl
          · cases hi
        · exact hsn i d0 p y hi
      refine ⟨⟨hs.defers, by simpa using hs.size, hs.own, hs.hr, fun i z hi => ?_, fun i d0 p y hi => absurd hi (hno i d0 p y)⟩, hno⟩
      simp only at hi
      rw [List.getElem?_set] at hi
      split at hi
      · rename_i hdi
        subst hdi
        split at hi
        · cases hi; exact slot_plain P u hr
        · cases hi
      · exact hs.slot i z hi
    have hsl := h.get P u d
    have hp1 : t = true → (∀ d' p y, s1.get d ≠ .wh d' p y) → RepL P u e [s1.get d] [a.tmps.getD d Go.undef] := by
      intro ht hw
      subst ht
      simp only [if_true] at hsl
      unfold slotOk at hsl
      split at hsl
      · rename_i d' p y hy; exact absurd hy (hw d' p y)
      · exact hsl
    have hp2 : t = false → (∀ d' p y, s2.get d ≠ .wh d' p y) → RepL P u e [s2.get d] [a.tmps.getD d Go.undef] := by
      intro ht hw
      subst ht
      simp only [Bool.false_eq_true, if_false] at hsl
      unfold slotOk at hsl
      split at hsl
      · rename_i d' p y hy; exact absurd hy (hw d' p y)
      · exact hsl
    have hnil : ∀ {T : Nat} {v : Value}, RepL P u e [.nils] [v] → RepL P u e [.csl T []] [v] := by
      intro T v h
      cases h
      exact .csl T [] none 0 0 (fun _ => []) rfl (Nat.le_refl _) (.inl rfl) (fun i hi => by simp at hi) (fun i x hi => by simp at hi) .nil
    have hlb : ∀ {b : Bool} {v : Value}, RepL P u e [.lit b] [v] → RepL P u e [.bool b] [v] := by
      intro b v h
      cases h; exact .bool _ .nil
    unfold joinW at hk
    split at hk
    · rename_i k x' y' hj
      obtain ⟨hx, hy⟩ := joinOf_int hj
      have hv : RepL P u e [.int k (if t then x' else y')] [a.tmps.getD d Go.undef] := by
        rw [hx] at hp1; rw [hy] at hp2
        cases t with
        | true => exact hp1 rfl (by intro _ _ _ hh; cases hh)
        | false => exact hp2 rfl (by intro _ _ _ hh; cases hh)
      obtain ⟨g1, g2⟩ := hset _ (by intro _ _ _ hh; cases hh) hv
      exact join_sound h hn r _ g1 g2 (hk _ rfl)
    · rename_i x' y' hj
      obtain ⟨hx, hy⟩ := joinOf_bool hj
      have hv : RepL P u e [.bool (if t then x' else y')] [a.tmps.getD d Go.undef] := by
        cases t with
        | true =>
          rcases hx with hx | hx <;> rw [hx] at hp1
          · exact hp1 rfl (by intro _ _ _ hh; cases hh)
          · exact hlb (hp1 rfl (by intro _ _ _ hh; cases hh))
        | false =>
          rcases hy with hy | hy <;> rw [hy] at hp2
          · exact hp2 rfl (by intro _ _ _ hh; cases hh)
          · exact hlb (hp2 rfl (by intro _ _ _ hh; cases hh))
      obtain ⟨g1, g2⟩ := hset _ (by intro _ _ _ hh; cases hh) hv
      exact join_sound h hn r _ g1 g2 (hk _ rfl)
    · rename_i x' y' hj
      obtain ⟨hx, hy⟩ := joinOf_str hj
      have hv : RepL P u e [.str (if t then x' else y')] [a.tmps.getD d Go.undef] := by
        rw [hx] at hp1; rw [hy] at hp2
        cases t with
        | true => exact hp1 rfl (by intro _ _ _ hh; cases hh)
        | false => exact hp2 rfl (by intro _ _ _ hh; cases hh)
      obtain ⟨g1, g2⟩ := hset _ (by intro _ _ _ hh; cases hh) hv
      exact join_sound h hn r _ g1 g2 (hk _ rfl)
    · rename_i T x' y' hj
      obtain ⟨hx, hy⟩ := joinOf_csl hj
      have hv : RepL P u e [.csl T (if t then x' else y')] [a.tmps.getD d Go.undef] := by
        cases t with
        | true =>
          rcases hx with hx | ⟨hx, rfl⟩ <;> rw [hx] at hp1
          · exact hp1 rfl (by intro _ _ _ hh; cases hh)
          · exact hnil (hp1 rfl (by intro _ _ _ hh; cases hh))
        | false =>
          rcases hy with hy | ⟨hy, rfl⟩ <;> rw [hy] at hp2
          · exact hp2 rfl (by intro _ _ _ hh; cases hh)
          · exact hnil (hp2 rfl (by intro _ _ _ hh; cases hh))
      obtain ⟨g1, g2⟩ := hset _ (by intro _ _ _ hh; cases hh) hv
      exact join_sound h hn r _ g1 g2 (hk _ rfl)
    · exact join_sound h hn r s hs hsn hk
theorem meet_sound {w0 : W0} {O0 : Nat → Prop} {t : Bool} {x y : Code} {s s1 s2 : St A} {e : E A} {a : Act} {K : St A → Prop} (hs : noWh s) (h : RepS P u w0 O0 (if t then s1 else s2) e a) (hn : noWh (if t then s1 else s2))
    (h1 : ∀ d, d ∉ written x ++ written y → (if t then s1 else s2).tmps[d]? = s.tmps[d]?) (h2 : (if t then s1 else s2).tmps.length = s.tmps.length) (h3 : (if t then s1 else s2).own = s.own)
    (hk : meetW t x y s s1 s2 K) : ∃ s', K s' ∧ RepS P u w0 O0 s' e a ∧ noWh s' := by
  have hno : noWh { s with tmps := topAll s.tmps (written x ++ written y) } := by
    intro i d p z hi
    rcases topAll_get _ _ _ _ hi with hx | hi
    · cases hx
    · exact hs i d p z hi
  refine join_sound P u h hn _ _ ⟨h.defers, ?_, ?_, h.hr, ?_, fun i d p z hi => absurd hi (hno i d p z)⟩ hno hk
  · rw [h.size, h2]; exact (topAll_length _ _).symm
  · rw [h.own, h3]
  · intro i z hi
    by_cases hw : i ∈ written x ++ written y
    · rcases topAll_get _ _ _ _ hi with rfl | hi'
      · exact slot_plain P u (.top _ .nil)
      · have : ∀ (ds : List Nat) (l : List (SV A)), i ∈ ds → (topAll l ds)[i]? = some z → z = .top := by
          intro ds
          induction ds with
          | nil => intro l hm; cases hm
          | cons d r ih =>
            intro l hm hz
            by_cases hir : i ∈ r
            · exact ih _ hir hz
            · have hid : i = d := by
                rcases List.mem_cons.1 hm with h | h
                · exact h
                · exact absurd h hir
              subst hid
              rw [topAll, topAll_keep _ _ _ hir, List.getElem?_set] at hz
              simp only [if_true] at hz
              split at hz
              · cases hz; rfl
              · cases hz
        rw [this _ _ hw hi]
        exact slot_plain P u (.top _ .nil)
    · rw [show ({ s with tmps := topAll s.tmps (written x ++ written y) } : St A).tmps = topAll s.tmps (written x ++ written y) from rfl, topAll_keep _ _ _ hw, ← h1 i hw] at hi
      exact h.slot i z hi

/-- How a piece of code is left. -/
inductive X | norm | exit (id : Nat) | ret
def X.is : X → Exit → Prop
  | .norm, .normal => True
  | .exit i, .exit j => i = j
  | .ret, .ret => True
  | _, _ => False
/-- What is asked of a piece of code, whichever way it is left. -/
def litC (lits : List Nat) (c : Operand) : Bool := match c with
  | .tmp d => lits.contains d
  | _ => false
/-- Values that get a name behind a region (number 100000 + 1000 * region + temporary in 'lits'). -/
def namesOf (r : Nat) : List Nat → List Nat
  | [] => []
  | k :: l => if Nat.blt k 100000 then namesOf r l else if Nat.beq ((k - 100000) / 1000) r then ((k - 100000) % 1000) :: namesOf r l else namesOf r l
def nameL : List (SV A) → (List (SV A) → Prop) → Prop
  | [], K => K []
  | x :: r, K => match x with
    | .int k n => ∀ v, v = n → nameL r fun l => K (.int k v :: l)
    | x => nameL r fun l => K (x :: l)
def hasRow : List (SV A) → Bool
  | [] => false
  | x :: r => match x with
    | .orow _ => true
    | _ => hasRow r
def rowIds : List (SV A) → List Nat
  | [] => []
  | x :: r => match x with
    | .orow j => j :: rowIds r
    | _ => rowIds r
/-- Numbers and truths get names. -/
def nameB : List (SV A) → (List (SV A) → Prop) → Prop
  | [], K => K []
  | x :: r, K => match x with
    | .int k n => ∀ v, v = n → nameB r fun l => K (.int k v :: l)
    | .bool n => ∀ v, v = n → nameB r fun l => K (.bool v :: l)
    | x => nameB r fun l => K (x :: l)
def nameR (K : St A → Prop) : List Nat → St A → Prop
  | [], s => K s
  | j :: r, s => match s.own j with
    | .row T xs => ∀ v, v = xs → nameR K r { s with own := upd s.own j (.row T v) }
    | _ => nameR K r s
def nameO1 (s : St A) (id : Nat) (K : St A → Prop) : Prop := match s.own id with
  | .row T xs => ∀ v, v = xs → K { s with own := upd s.own id (.row T v) }
  | .fro T xs => ∀ v, v = xs → K { s with own := upd s.own id (.fro T v) }
  | .mp k V kvs => ∀ v, v = kvs → K { s with own := upd s.own id (.mp k V v) }
  | .var cs => if hasRow cs then nameB cs fun l => nameR K (rowIds l) { s with own := upd s.own id (.var l) } else nameL cs fun l => K { s with own := upd s.own id (.var l) }
  | _ => K s
def optIds : List (SV A) → List Nat
  | [] => []
  | x :: r => match x with
    | .optr j _ => j :: optIds r
    | _ => optIds r
def nameP (K : St A → Prop) : List Nat → St A → Prop
  | [], s => K s
  | j :: r, s => nameO1 s j (nameP K r)
/-- The names of a block, and of the variables that it points at. -/
def nameO (s : St A) (id : Nat) (K : St A → Prop) : Prop := match s.own id with
  | .var cs => nameO1 s id (nameP K (optIds cs))
  | _ => nameO1 s id K
/-- A number, case by case. -/
def caseN (n : Int) : Nat → (Int → Prop) → Prop
  | 0, _ => True
  | j + 1, K => caseN n j K ∧ (n = Int.ofNat j → K (Int.ofNat j))
theorem caseN_sound {n : Int} {K : Int → Prop} : ∀ {N : Nat}, caseN n N K → 0 ≤ n → n < (N : Int) → K n
  | 0, _, h0, h1 => absurd h1 (by omega)
  | j + 1, h, h0, h1 => by
    by_cases e : n = Int.ofNat j
    · have := h.2 e
      rw [← e] at this
      exact this
    · exact caseN_sound h.1 h0 (by have : n ≠ (j : Int) := e; omega)
def nameW (s : St A) (K : St A → Prop) : List Nat → Prop
  | [] => K s
  | t :: r => nameW s (fun s => if Nat.blt 999999 t then (match s.get (t % 1000) with
    | .int k n => (match s.get (t / 1000 - 1000) with
      | .int _ m => n = m ∧ K { s with tmps := s.tmps.set (t % 1000) (.int k m) }
      | _ => K s)
    | _ => K s) else if Nat.blt 999 t then (match s.get (t % 1000) with
    | .int k n => (0 ≤ n ∧ n < ((t / 1000 : Nat) : Int)) ∧ caseN n (t / 1000) fun j => K { s with tmps := s.tmps.set (t % 1000) (.int k j) }
    | _ => K s) else match s.get t with
    | .int k n => ∀ v, v = n → K { s with tmps := s.tmps.set t (.int k v) }
    | .bool n => ∀ v, v = n → K { s with tmps := s.tmps.set t (.bool v) }
    | .str n => ∀ v, v = n → K { s with tmps := s.tmps.set t (.str v) }
    | .csl T xs => ∀ v, v = xs → K { s with tmps := s.tmps.set t (.csl T v) }
    | .el T x => ∀ v, v = x → K { s with tmps := s.tmps.set t (.el T v) }
    | .agg cs => nameL cs fun l => K { s with tmps := s.tmps.set t (.agg l) }
    | .orow id => nameO s id K
    | .omap id => nameO s id K
    | .optr id _ => nameO s id K
    | .rptr id _ _ => nameO s id K
    | .osl id lo len => ∀ l m, l = lo → m = len → nameO { s with tmps := s.tmps.set t (.osl id l m) } id K
    | _ => K s) r
/-! ### states that are reckoned out (so that no step is taken twice) -/
def forceV (x : SV A) (K : SV A → Prop) : Prop := match x with
  | .undef => K .undef
  | .top => K .top
  | .int k n => K (.int k n)
  | .bool b => K (.bool b)
  | .lit b => K (.lit b)
  | .str b => K (.str b)
  | .fn f c => K (.fn f c)
  | .nilp => K .nilp
  | .nils => K .nils
  | .agg c => K (.agg c)
  | .tup c => K (.tup c)
  | .csl T xs => K (.csl T xs)
  | .nsl q T xs => K (.nsl q T xs)
  | .cptr c o => K (.cptr c o)
  | .optr i o => K (.optr i o)
  | .rptr i j o => K (.rptr i j o)
  | .osl i l n => K (.osl i l n)
  | .orow i => K (.orow i)
  | .zsl => K .zsl
  | .vsl i o l => K (.vsl i o l)
  | .el T x => K (.el T x)
  | .esl i j o S l n => K (.esl i j o S l n)
  | .bptr i j o S k => K (.bptr i j o S k)
  | .omap i => K (.omap i)
  | .cx i p o => K (.cx i p o)
  | .np i x o => K (.np i x o)
  | .wh d p x => K (.wh d p x)
theorem forceV_eq (x : SV A) (K : SV A → Prop) : forceV x K = K x := by cases x <;> rfl
def forceL (l : List (SV A)) (K : List (SV A) → Prop) : Prop :=
  List.rec (motive := fun _ => (List (SV A) → Prop) → Prop) (fun K => K []) (fun x _ ih K => forceV x fun x' => ih fun r' => K (x' :: r')) l K
theorem forceL_eq : ∀ (l : List (SV A)) (K : List (SV A) → Prop), forceL l K = K l
  | [], K => rfl
  | x :: r, K => by
    show forceV x (fun x' => forceL r fun r' => K (x' :: r')) = K (x :: r)
    rw [forceV_eq, forceL_eq r]
def forceN (n : Nat) (K : Nat → Prop) : Prop := match n with
  | 0 => K 0
  | m + 1 => K (m + 1)
theorem forceN_eq (n : Nat) (K : Nat → Prop) : forceN n K = K n := by cases n <;> rfl
def forceS (s : St A) (K : St A → Prop) : Prop := forceN s.nx fun n => forceL s.tmps fun l => K { tmps := l, own := s.own, nx := n, gu := s.gu }
theorem forceS_eq (s : St A) (K : St A → Prop) : forceS s K = K s := by
  unfold forceS
  rw [forceN_eq, forceL_eq]
def nmd (id : Nat) (lits : List Nat) (K : St A → Prop) (s : St A) : Prop := match namesOf id lits with
  | [] => forceS s K
  | l => forceS s fun s => nameW s K l
theorem nameL_sound : ∀ {l : List (SV A)} {K : List (SV A) → Prop}, nameL l K → K l
  | [], K, h => h
  | x :: r, K, h => by
    unfold nameL at h
    split at h
    · exact nameL_sound (l := r) (h _ rfl)
    · exact nameL_sound (l := r) h
theorem upd_self (own : Nat → Own A) (id : Nat) : upd own id (own id) = own := by
  funext j
  unfold upd
  split
  · rename_i h; rw [h]
  · rfl
theorem nameB_sound : ∀ {l : List (SV A)} {K : List (SV A) → Prop}, nameB l K → K l
  | [], K, h => h
  | x :: r, K, h => by
    unfold nameB at h
    split at h
    · exact nameB_sound (l := r) (h _ rfl)
    · exact nameB_sound (l := r) (h _ rfl)
    · exact nameB_sound (l := r) h
theorem nameR_sound : ∀ {l : List Nat} {s : St A} {K : St A → Prop}, nameR K l s → K s
  | [], _, _, h => h
  | j :: r, s, K, h => by
    unfold nameR at h
    split at h
    · rename_i ho
      have := h _ rfl
      rw [← ho, upd_self] at this
      exact nameR_sound this
    · exact nameR_sound h
theorem nameO1_sound {s : St A} {id : Nat} {K : St A → Prop} (h : nameO1 s id K) : K s := by
  unfold nameO1 at h
  split at h
  · rename_i ho
    have := h _ rfl
    rw [← ho, upd_self] at this
    exact this
  · rename_i ho
    have := h _ rfl
    rw [← ho, upd_self] at this
    exact this
  · rename_i ho
    have := h _ rfl
    rw [← ho, upd_self] at this
    exact this
  · rename_i ho
    split at h
    · have := nameR_sound (nameB_sound h)
      rw [← ho, upd_self] at this
      exact this
    · have := nameL_sound h
      rw [← ho, upd_self] at this
      exact this
  · exact h
theorem nameP_sound : ∀ {l : List Nat} {s : St A} {K : St A → Prop}, nameP K l s → K s
  | [], _, _, h => h
  | _ :: _, _, _, h => nameP_sound (nameO1_sound h)
theorem nameO_sound {s : St A} {id : Nat} {K : St A → Prop} (h : nameO s id K) : K s := by
  unfold nameO at h
  split at h
  · exact nameP_sound (nameO1_sound h)
  · exact nameO1_sound h
theorem set_get {s : St A} {t : Nat} {x : SV A} (h : s.get t = x) (hx : x ≠ .undef) : s.tmps.set t x = s.tmps := by
  unfold St.get at h
  split at h
  · rename_i y hy
    subst h
    apply List.ext_getElem?
    intro i
    rw [List.getElem?_set]
    split
    · rename_i hti
      subst hti
      rw [hy]
      have := (List.getElem?_eq_some_iff.1 hy).1
      simp [this]
    · rfl
  · exact absurd h.symm hx
theorem nameW_sound : ∀ {l : List Nat} {s : St A} {K : St A → Prop}, nameW s K l → K s
  | [], s, K, h => h
  | t :: r, s, K, h => by
    unfold nameW at h
    have h := nameW_sound h
    split at h
    · split at h
      · rename_i hg
        split at h
        · obtain ⟨rfl, h⟩ := h
          rw [set_get hg (by simp)] at h
          exact h
        · exact h
      · exact h
    split at h
    · split at h
      · rename_i hg
        have h := caseN_sound h.2 h.1.1 h.1.2
        rw [set_get hg (by simp)] at h
        exact h
      · exact h
    split at h
    · rename_i hg; have h := h _ rfl; rw [set_get hg (by simp)] at h; exact h
    · rename_i hg; have h := h _ rfl; rw [set_get hg (by simp)] at h; exact h
    · rename_i hg; have h := h _ rfl; rw [set_get hg (by simp)] at h; exact h
    · rename_i hg; have h := h _ rfl; rw [set_get hg (by simp)] at h; exact h
    · rename_i hg; have h := h _ rfl; rw [set_get hg (by simp)] at h; exact h
    · rename_i hg; have h := nameL_sound h; rw [set_get hg (by simp)] at h; exact h
    · exact nameO_sound h
    · exact nameO_sound h
    · exact nameO_sound h
    · exact nameO_sound h
    · rename_i hg; have h := nameO_sound (h _ _ rfl rfl); rw [set_get hg (by simp)] at h; exact h
    · exact h
theorem nmd_sound {id : Nat} {lits : List Nat} {K : St A → Prop} {s : St A} (h : nmd id lits K s) : K s := by
  unfold nmd at h
  split at h
  · rw [forceS_eq] at h
    exact h
  · rw [forceS_eq] at h
    exact nameW_sound h
/-! ### an element of a row told by its cells, for a while -/
theorem HR.renew {w0 : W0} {O0 : Nat → Prop} {e : E A} (hr : HR P u w0 O0 e) {X n : Nat} {o' : Own A} (hXp : (e.own X).plain = true) (hn : e.own n = .free) (hnH : n < 1152921504606846976) (hm : o'.mut = (e.own X).mut) (ha' : o'.isAr = false := by rfl) :
    Ext e (mkE O0 e.w (upd (upd e.own X .dead) n o') (upd e.β n (e.β X))) ∧
    (EntOk P u (mkE O0 e.w (upd (upd e.own X .dead) n o') (upd e.β n (e.β X))) w0.fr n o' → HR P u w0 O0 (mkE O0 e.w (upd (upd e.own X .dead) n o') (upd e.β n (e.β X)))) := by
  have hXf : e.own X ≠ .free := (plain_live hXp).1
  have hXd : e.own X ≠ .dead := (plain_live hXp).2.1
  have hne : X ≠ n := by rintro rfl; exact hXf hn
  have o1 : upd (upd e.own X .dead) n o' n = o' := upd_same ..
  have o2 : upd (upd e.own X .dead) n o' X = .dead := by rw [upd_ne _ _ hne, upd_same]
  have o3 : ∀ {id}, id ≠ n → id ≠ X → upd (upd e.own X .dead) n o' id = e.own id := fun h1 h2 => by rw [upd_ne _ _ h1, upd_ne _ _ h2]
  have b1 : upd e.β n (e.β X) n = e.β X := upd_same ..
  have b3 : ∀ {id}, id ≠ n → upd e.β n (e.β X) id = e.β id := fun h1 => upd_ne _ _ h1
  have hext : Ext e (mkE O0 e.w (upd (upd e.own X .dead) n o') (upd e.β n (e.β X))) := by
    refine hr.extOf P u (Nat.le_refl _) (fun _ _ _ => rfl) (fun id hid => ?_) (fun id b c hmut hβ hb => ?_)
    · have h1 : id ≠ n := by rintro rfl; exact hid hn
      by_cases h2 : id = X
      · subst h2
        rw [o2]
        exact ⟨.dead _, fun h => absurd rfl h⟩
      · rw [o3 h1 h2, b3 h1]
        exact ⟨.refl hid, fun _ => rfl⟩
    · by_cases h1 : id = n
      · subst h1
        rw [o1, hm] at hmut
        rw [b1] at hβ
        exact hr.ownO P u hmut hβ
      · by_cases h2 : id = X
        · subst h2
          rw [o2] at hmut
          cases hmut
        · rw [o3 h1 h2] at hmut
          rw [b3 h1] at hβ
          exact hr.ownO P u hmut hβ
  refine ⟨hext, fun hent => hr.of P u hext hr.below ?_ ?_ ((hr.lk.upd (o := .dead) (hr.lk.pl hXp) (plain_live hXp).2.2.2 rfl).upd hnH (by rw [upd_ne _ _ (Ne.symm hne), hn]; rfl) ha')⟩
  · intro id id' b c c' g1 g2 g3 g4 g5 g6
    by_cases h1 : id = n
    · subst h1
      by_cases h1' : id' = id
      · exact h1'.symm
      · rw [b1] at g5
        rw [b3 h1'] at g6
        by_cases h2' : id' = X
        · subst h2'; rw [o2] at g4; exact absurd rfl g4
        · rw [o3 h1' h2'] at g3 g4
          exact absurd (hr.inj X id' b c c' hXf hXd g3 g4 g5 g6).symm h2'
    · by_cases h2 : id = X
      · subst h2; rw [o2] at g2; exact absurd rfl g2
      · rw [o3 h1 h2] at g1 g2
        rw [b3 h1] at g5
        by_cases h1' : id' = n
        · subst h1'
          rw [b1] at g6
          exact absurd (hr.inj id X b c c' g1 g2 hXf hXd g5 g6) h2
        · by_cases h2' : id' = X
          · subst h2'; rw [o2] at g4; exact absurd rfl g4
          · rw [o3 h1' h2'] at g3 g4
            rw [b3 h1'] at g6
            exact hr.inj id id' b c c' g1 g2 g3 g4 g5 g6
  · intro id
    by_cases h1 : id = n
    · subst h1; rw [o1]; exact hent
    · by_cases h2 : id = X
      · subst h2; rw [o2]; trivial
      · rw [o3 h1 h2]
        exact (hr.ent id).later P u hext (b3 h1) (fun _ _ _ => rfl)
def openV (X n : Nat) (x : SV A) : SV A := match x with
  | .orow Y => if Nat.beq Y X then .cx n false 0 else .orow Y
  | x => x
def closeV (X n : Nat) (x : SV A) : SV A := match x with
  | .cx Y false o => if Nat.beq Y X then .orow n else .cx Y false o
  | x => x
/-- From here on the element of a row (temporary tx) at an index (temporary tk) is told by its cells. -/
def openW (s : St A) (tx tk : Nat) (K : St A → Prop) : Prop := match s.get tx with
  | .orow X => (match s.own X, s.own s.nx, s.get tk, Nat.blt s.nx 1152921504606846976 with
    | .row T xs, .free, .int _ n, true => (0 ≤ n ∧ n < xs.length) ∧ K { tmps := s.tmps.map (openV X s.nx), own := upd (upd s.own X .dead) s.nx (.rowC T xs n.toNat (u.enc T (xs.getD n.toNat (u.dflt T)))), nx := s.nx + 1, gu := s.gu }
    | _, _, _, _ => False)
  | _ => False
/-- .. and no longer. -/
def closeW (s : St A) (tx : Nat) (K : St A → Prop) : Prop := match s.get tx with
  | .cx X false _ => (match s.own X with
    | .rowC T xs k cells => (match frzL s.own cells with
      | (l, f) => (match u.dec T l, updL s.own f s.nx, updL s.own f X, Nat.blt s.nx 1152921504606846976 with
        | some y, .free, .rowC _ _ _ _, true => K { tmps := s.tmps.map (closeV X s.nx), own := upd (upd (updL s.own f) X .dead) s.nx (.row T (xs.set k y)), nx := s.nx + 1, gu := s.gu }
        | _, _, _, _ => False))
    | _ => False)
  | _ => False
theorem open_sound {w0 : W0} {O0 : Nat → Prop} {s : St A} {e : E A} {a : Act} {tx tk : Nat} {K : St A → Prop} (h : RepS P u w0 O0 s e a) (hw : noWh s) (hk : openW u s tx tk K) : ∃ s' e', K s' ∧ RepS P u w0 O0 s' e' a ∧ noWh s' ∧ e'.w = e.w := by
  unfold openW at hk
  split at hk
  case h_2 => exact hk.elim
  rename_i X hX
  split at hk
  case h_2 => exact hk.elim
  rename_i T xs _ n ho hfree _ hnH
  have hnH := blt_iff.1 hnH
  obtain ⟨hn, hk⟩ := hk
  have ho' : e.own X = .row T xs := by rw [h.own]; exact ho
  have hf' : e.own s.nx = .free := by rw [h.own]; exact hfree
  obtain ⟨hext, hmk⟩ := h.hr.renew P u (X := X) (n := s.nx) (o' := .rowC T xs n.toNat (u.enc T (xs.getD n.toNat (u.dflt T)))) (by rw [ho']; rfl) hf' hnH (by rw [ho']; rfl)
  have hent := h.hr.ent X
  rw [ho'] at hent
  have hnl : n.toNat < xs.length := by omega
  rcases hent with ⟨hn0, _⟩ | ⟨b, c, arr, T', fz, vss, h1, h2, h3, h3', h4, h5, h6⟩
  · rw [hn0] at hnl; exact absurd hnl (Nat.not_lt_zero _)
  have hr' := hmk (by
    refine ⟨b, c, arr, T', fz, vss, (upd_same ..).trans h1, h2, h3, h3', h4, h5, hnl, fun i x hi => ?_⟩
    obtain ⟨g1, g2, g3⟩ := h6 i x hi
    refine ⟨?_, g2, g3⟩
    split
    · rename_i hik
      subst hik
      have hxe : x = xs.getD n.toNat (u.dflt T) := by rw [List.getD_eq_getElem?_getD, hi]; rfl
      have g := g1.ext P u hext
      rw [hxe] at g
      exact g
    · exact g1.ext P u hext)
  refine ⟨_, _, hk, ⟨h.defers, by rw [h.size]; simp, by show upd (upd e.own X .dead) s.nx _ = _; rw [h.own], hr', fun i x hi => ?_, fun i d p y hi => ?_⟩, fun i d p y hi => ?_, rfl⟩
  · simp only [List.getElem?_map, Option.map_eq_some_iff] at hi
    obtain ⟨x0, hx0, rfl⟩ := hi
    have h0 := h.slot i x0 hx0
    have hrep : RepL P u e [x0] [a.tmps.getD i Go.undef] := by
      unfold slotOk at h0
      split at h0
      · exact absurd hx0 (hw i _ _ _)
      · exact h0
    refine slot_plain P u ?_
    unfold openV
    split
    · rename_i Y
      split
      · rename_i hY
        have hY := Nat.eq_of_beq_eq_true hY
        subst hY
        generalize a.tmps.getD i Go.undef = v at hrep
        cases hrep with
        | orow _ b' c' cap T2 ys hv hβ hc _ =>
          rw [ho'] at hv
          rcases hv with hv | hv
          · cases hv
            exact .cx s.nx false 0 b' c' cap n.toNat T xs _ _ (upd_same ..) ((upd_same ..).trans hβ) hc rfl .nil
          · cases hv
        | orowN _ T2 _ hv _ =>
          rw [ho'] at hv
          rcases hv with hv | hv
          · cases hv; exact absurd hnl (Nat.not_lt_zero _)
          · cases hv
        | orowD _ _ hd _ _ => rw [ho'] at hd; cases hd
      · exact hrep.ext P u hext
    · exact hrep.ext P u hext
  all_goals
    simp only [List.getElem?_map, Option.map_eq_some_iff] at hi
    obtain ⟨x0, hx0, hx1⟩ := hi
    unfold openV at hx1
    split at hx1
    · split at hx1 <;> cases hx1
    · subst hx1
      exact absurd hx0 (hw i _ _ _)
theorem close_sound (hL : Laws P u tab) {w0 : W0} {O0 : Nat → Prop} {s : St A} {e : E A} {a : Act} {tx : Nat} {K : St A → Prop} (h : RepS P u w0 O0 s e a) (hw : noWh s) (hk : closeW u s tx K) : ∃ s' e', K s' ∧ RepS P u w0 O0 s' e' a ∧ noWh s' ∧ e'.w = e.w := by
  unfold closeW at hk
  split at hk
  case h_2 => exact hk.elim
  rename_i X _ hX
  split at hk
  case h_2 => exact hk.elim
  rename_i T xs k cells ho
  split at hk
  rename_i l f hf
  split at hk
  case h_2 => exact hk.elim
  rename_i y T2 xs2 k2 cells2 hd hfree hX2 hnH
  have hnH := blt_iff.1 hnH
  have ho' : e.own X = .rowC T xs k cells := by rw [h.own]; exact ho
  have hent := h.hr.ent X
  rw [ho'] at hent
  obtain ⟨b, c, arr, T', fz, vss, h1, h2, h3, h3', h4, h5, hkl, h6⟩ := hent
  obtain ⟨q1, q2, q3⟩ := h6 k _ (List.getElem?_eq_getElem hkl)
  rw [if_pos rfl] at q1
  rw [← h.own] at hf hfree hX2
  obtain ⟨e1, a1, a2, a3, a4, a5⟩ := frzL_sound P u hL.clean h.hr q1 hf
  rw [← a4] at hfree hX2
  have hβ1 : e1.β X = e.β X := (a3.own X (by rw [ho']; simp)).2 (by rw [hX2]; simp)
  obtain ⟨hext, hmk⟩ := a2.renew P u (X := X) (n := s.nx) (o' := .row T (xs.set k y)) (by rw [hX2]; rfl) hfree hnH (by rw [hX2]; rfl)
  have hen := hL.dec _ _ _ _ _ hd a5
  have hr' := hmk (.inr (by
    refine ⟨b, c, arr, T', fz, vss, (upd_same ..).trans (hβ1.trans h1), h2, by rw [show (mkE O0 e1.w _ _ : E A).w = e.w from a1]; exact h3, h3', h4, by rw [List.length_set]; exact h5, fun i x hi => ?_⟩
    by_cases hik : i = k
    · subst hik
      rw [List.getElem?_set_self hkl] at hi
      cases hi
      exact ⟨hen.ext P u hext, q2, q3⟩
    · rw [List.getElem?_set_ne (Ne.symm hik)] at hi
      obtain ⟨g1, g2, g3⟩ := h6 i x hi
      rw [if_neg hik] at g1
      exact ⟨g1.ext P u (a3.trans hext), g2, g3⟩))
  refine ⟨_, _, hk, ⟨h.defers, by rw [h.size]; simp, by show upd (upd e1.own X .dead) s.nx _ = _; rw [a4, h.own], hr', fun i x hi => ?_, fun i d p z hi => ?_⟩, fun i d p z hi => ?_, a1⟩
  · simp only [List.getElem?_map, Option.map_eq_some_iff] at hi
    obtain ⟨x0, hx0, rfl⟩ := hi
    have h0 := h.slot i x0 hx0
    have hrep : RepL P u e [x0] [a.tmps.getD i Go.undef] := by
      unfold slotOk at h0
      split at h0
      · exact absurd hx0 (hw i _ _ _)
      · exact h0
    refine slot_plain P u ?_
    unfold closeV
    split
    · rename_i Y o
      split
      · rename_i hY
        have hY := Nat.eq_of_beq_eq_true hY
        subst hY
        generalize a.tmps.getD i Go.undef = v at hrep
        cases hrep with
        | cx _ _ _ b' c' cap q T3 ys cs _ hv hβ hc hq _ =>
          rw [ho'] at hv
          cases hv
          have hq : v = .slice (some ⟨b', 0, none⟩) xs.length cap := hq
          subst hq
          have hls : (xs.set k y).length = xs.length := List.length_set
          have := RepL.orow (P := P) (u := u) (e := mkE O0 e1.w (upd (upd e1.own Y .dead) s.nx (.row T (xs.set k y))) (upd e1.β s.nx (e1.β Y))) (xs := []) (vs := []) s.nx b' c' cap T (xs.set k y) (.inl (upd_same ..)) ((upd_same ..).trans (hβ1.trans hβ)) (by rw [hls]; exact hc) .nil
          rwa [hls] at this
        | cxD _ _ _ _ hd _ _ => rw [ho'] at hd; cases hd
      · exact hrep.ext P u (a3.trans hext)
    · exact hrep.ext P u (a3.trans hext)
  all_goals
    simp only [List.getElem?_map, Option.map_eq_some_iff] at hi
    obtain ⟨x0, hx0, hx1⟩ := hi
    unfold closeV at hx1
    split at hx1
    · split at hx1 <;> cases hx1
    · subst hx1
      exact absurd hx0 (hw i _ _ _)
/-- What opens or closes behind a region (number (7 or 8) * 10^12 + region * 10^6 + row's temporary * 10^3 + index's temporary in 'lits'). -/
def ghOf (id : Nat) : List Nat → Option (Nat × Nat × Nat)
  | [] => none
  | k :: r => if Nat.blt k 7000000000000 then ghOf id r else (if Nat.beq (k % 1000000000000 / 1000000) id then some (k / 1000000000000, k / 1000 % 1000, k % 1000) else ghOf id r)
def ghW (id : Nat) (lits : List Nat) (K : St A → Prop) (s : St A) : Prop := match ghOf id lits with
  | none => nmd id lits K s
  | some (q, tx, tk) => if Nat.beq q 7 then openW u s tx tk (nmd id lits K) else closeW u s tx (nmd id lits K)
theorem gh_sound (hL : Laws P u tab) {id : Nat} {lits : List Nat} {w0 : W0} {O0 : Nat → Prop} {s : St A} {e : E A} {a : Act} {K : St A → Prop} (h : RepS P u w0 O0 s e a) (hw : noWh s) (hk : ghW u id lits K s) : ∃ s' e', K s' ∧ RepS P u w0 O0 s' e' a ∧ noWh s' ∧ e'.w = e.w := by
  unfold ghW at hk
  split at hk
  · exact ⟨s, e, nmd_sound hk, h, hw, rfl⟩
  · split at hk
    · obtain ⟨s', e', h1, h2⟩ := open_sound P u h hw hk
      exact ⟨s', e', nmd_sound h1, h2⟩
    · obtain ⟨s', e', h1, h2⟩ := close_sound P u tab hL h hw hk
      exact ⟨s', e', nmd_sound h1, h2⟩
/-- Names within a region, behind the operation that gives a temporary (number 10000000 + 1000000 * region + 1000 * that temporary + the temporary that is named). -/
def innerOf (r d : Nat) : List Nat → List Nat
  | [] => []
  | k :: l => if Nat.blt k 10000000 then innerOf r d l else if Nat.beq ((k % 10000000000 - 10000000) / 1000) (1000 * r + d) then ((k % 10000000000 - 10000000) % 1000 + 1000 * (k / 10000000000)) :: innerOf r d l else innerOf r d l
def hasInner (r : Nat) : List Nat → Bool
  | [] => false
  | k :: l => if Nat.blt k 10000000 then hasInner r l else (Nat.beq ((k % 10000000000 - 10000000) / 1000000) r || hasInner r l)
def nmI (r : Nat) (lits : List Nat) (o : Oper) (K : St A → Prop) (s : St A) : Prop := match o.dst with
  | none => K s
  | some d => (match innerOf r d lits with
    | [] => K s
    | l => nameW s K l)
theorem nmI_sound {r : Nat} {lits : List Nat} {o : Oper} {K : St A → Prop} {s : St A} (h : nmI r lits o K s) : K s := by
  unfold nmI at h
  split at h
  · exact h
  · split at h
    · exact h
    · exact nameW_sound h
def opsN (nm : Oper → (St A → Prop) → St A → Prop) (ops : Array Oper) : List Oper → St A → (St A → Prop) → Prop
  | [], s, K => K s
  | o :: r, s, K => stepW P u tab ops 5 s o fun s' => nm o (fun s'' => opsN nm ops r s'' K) s'
theorem opsN_sound (hL : Laws P u tab) {nm : Oper → (St A → Prop) → St A → Prop} (hnm : ∀ o K s, nm o K s → K s) {w0 : W0} {O0 : Nat → Prop} {ops : Array Oper} {Q : Exit → Act → World → Prop} {K : St A → Prop} : ∀ (l : List Oper) (s : St A) (e : E A) (a : Act), RepS P u w0 O0 s e a → opsN P u tab nm ops l s K →
    (∀ s' a' e', K s' → RepS P u w0 O0 s' e' a' → Ext e e' → Q .normal a' e'.w) → wpList P ops Q l a e.w
  | [], s, e, a, h, hk, hQ => hQ s a e hk h (.refl e)
  | o :: r, s, e, a, h, hk, hQ => by
    unfold opsN at hk
    unfold wpList
    exact stepW_sound P u tab hL 5 s h hk fun s' a' e' hk h1 h2 => opsN_sound hL hnm r s' e' a' h1 (hnm _ _ _ hk) fun s2 a2 e2 h3 h4 h5 => hQ s2 a2 e2 h3 h4 (h2.trans h5)
/-- A fork that is told anew behind it (number 5000000 + its temporary in 'lits'). -/
def cutC (lits : List Nat) (c : Operand) : Option Nat := match c with
  | .tmp d => match lits.contains (5000000 + d) with
    | true => some d
    | false => none
  | _ => none
/-- A fork: either way by its own walk. -/
def condW (lits : List Nat) (wx wy : (X → St A → Prop) → St A → Prop) (c : Operand) (x y : Code) (Q : X → St A → Prop) (s : St A) : Prop := match s.ev c with
  | .lit true => wx Q s
  | .lit false => wy Q s
  | .bool t => match litC lits c with
    | true => (match t with
      | true => wx Q s
      | false => wy Q s)
    | false => (match simple P u tab x s with
    | some (l1, s1) => (match simple P u tab y s with
      | some (l2, s2) => (match joinable s1 s2 (dupFree (assigned x ++ assigned y)) with
        | true => (t = true → allP l1) ∧ (t = false → allP l2) ∧ meetW t x y s s1 s2 (fun s' => forceS s' (Q .norm))
        | false => (t = true → wx Q s) ∧ (t = false → wy Q s))
      | none => (t = true → wx Q s) ∧ (t = false → wy Q s))
    | none => (t = true → wx Q s) ∧ (t = false → wy Q s))
  | _ => False
def codeW (lits : List Nat) (draws : Array Oper → St A → (St A → Prop) → Prop) (loops : Nat → ((X → St A → Prop) → St A → Prop) → Code → (X → St A → Prop) → St A → Prop) : Nat → Code → (X → St A → Prop) → St A → Prop
  | _, .skip, Q, s => Q .norm s
  | _, .region id ops d, Q, s => match d with
    | false => (match hasInner id lits with
      | false => opsW P u tab ops ops.toList (startS s ops) fun s => ghW u id lits (Q .norm) (endS s)
      | true => opsN P u tab (nmI id lits) ops ops.toList (startS s ops) fun s => ghW u id lits (Q .norm) (endS s))
    | true => draws ops s (ghW u id lits (Q .norm))
  | b, .seq x y, Q, s => codeW lits draws loops b x (fun z s => match z with
    | .norm => codeW lits draws loops b y Q s
    | .exit i => Q (.exit i) s
    | .ret => Q .ret s) s
  | b, .cond c x y, Q, s => match cutC lits c with
    | none => condW P u tab lits (fun Q s => codeW lits draws loops b x Q s) (fun Q s => codeW lits draws loops b y Q s) c x y Q s
    | some d => loops (1000000 + d) (condW P u tab lits (fun Q s => codeW lits draws loops b x Q s) (fun Q s => codeW lits draws loops b y Q s) c x y) (.cond c x y) Q s
  | _, .block id x, Q, s => codeW lits draws loops id x (fun z s => match z with
    | .norm => Q .norm s
    | .exit i => if Nat.beq i id then Q .norm s else Q (.exit i) s
    | .ret => Q .ret s) s
  | b, .loop x, Q, s => match Nat.blt b 1000000 with
    | true => loops b (fun Q s => codeW lits draws loops b x Q s) x Q s
    | false => False
  | _, .exit id, Q, s => Q (.exit id) s
  | _, .ret, Q, s => Q .ret s
  | _, _, _, _ => False

/-- The machine's side of what is asked: however the code is left, the abstract state is left so. -/
def Post (w0 : W0) (O0 : Nat → Prop) (Q : X → St A → Prop) : Exit → Act → World → Prop := fun ex a' w' => ∃ x s' e', x.is ex ∧ Q x s' ∧ RepS P u w0 O0 s' e' a' ∧ noWh s' ∧ e'.w = w'
def Sound (w0 : W0) (O0 : Nat → Prop) (W : (X → St A → Prop) → St A → Prop) (c : Code) : Prop :=
  ∀ Q s e a, RepS P u w0 O0 s e a → noWh s → W Q s → c.wp P (Post P u w0 O0 Q) a e.w
def DrawsOk (w0 : W0) (O0 : Nat → Prop) (draws : Array Oper → St A → (St A → Prop) → Prop) : Prop :=
  ∀ id ops K s e a, RepS P u w0 O0 s e a → noWh s → draws ops s K → (Code.region id ops true).wp P (Post P u w0 O0 (fun x s => match x with | .norm => K s | _ => False)) a e.w
def LoopsOk (w0 : W0) (O0 : Nat → Prop) (loops : Nat → ((X → St A → Prop) → St A → Prop) → Code → (X → St A → Prop) → St A → Prop) : Prop :=
  ∀ b W c, Sound P u w0 O0 W c → (Nat.blt b 1000000 = true → Sound P u w0 O0 (loops b W c) (.loop c)) ∧ (Nat.blt b 1000000 = false → Sound P u w0 O0 (loops b W c) c)
theorem Post.mono {w0 : W0} {O0 : Nat → Prop} {Q Q' : X → St A → Prop} {ex : Exit} {a : Act} {w : World} (h : Post P u w0 O0 Q ex a w) (hq : ∀ x s, Q x s → Q' x s) : Post P u w0 O0 Q' ex a w := by
  obtain ⟨x, s', e2, h1, h2, h3, h4, h6⟩ := h
  exact ⟨x, s', e2, h1, hq _ _ h2, h3, h4, h6⟩
theorem Post.ghost (hL : Laws P u tab) {id : Nat} {lits : List Nat} {w0 : W0} {O0 : Nat → Prop} {Q : X → St A → Prop} {ex : Exit} {a : Act} {w : World} (h : Post P u w0 O0 (fun x s => match x with | .norm => ghW u id lits (Q .norm) s | _ => False) ex a w) : Post P u w0 O0 Q ex a w := by
  obtain ⟨x, s', e2, h1, h2, h3, h4, rfl⟩ := h
  cases x with
  | norm =>
    obtain ⟨s3, e3, g1, g2, g3, g4⟩ := gh_sound P u tab hL h3 h4 h2
    exact ⟨.norm, s3, e3, h1, g1, g2, g3, g4⟩
  | exit i => exact h2.elim
  | ret => exact h2.elim
theorem region_sound (hL : Laws P u tab) {w0 : W0} {O0 : Nat → Prop} (id : Nat) (ops : Array Oper) : Sound P u w0 O0 (fun Q s => opsW P u tab ops ops.toList (startS s ops) fun s => Q .norm (endS s)) (.region id ops false) := by
  intro Q s e a h hn hk
  refine wp_region_list (ops_sound P u tab hL ops.toList _ e a (h.start P u hn ops) hk ?_)
  intro s' a' e' hq hr _
  obtain ⟨h1, h2⟩ := hr.fin P u
  exact ⟨.norm, _, e', trivial, hq, h1, h2, rfl⟩
theorem regionN_sound (hL : Laws P u tab) {w0 : W0} {O0 : Nat → Prop} (id r : Nat) (lits : List Nat) (ops : Array Oper) : Sound P u w0 O0 (fun Q s => opsN P u tab (nmI r lits) ops ops.toList (startS s ops) fun s => Q .norm (endS s)) (.region id ops false) := by
  intro Q s e a h hn hk
  refine wp_region_list (opsN_sound P u tab hL (fun _ _ _ => nmI_sound) ops.toList _ e a (h.start P u hn ops) hk ?_)
  intro s' a' e' hq hr _
  obtain ⟨h1, h2⟩ := hr.fin P u
  exact ⟨.norm, _, e', trivial, hq, h1, h2, rfl⟩
theorem simple_sound (hL : Laws P u tab) {w0 : W0} {O0 : Nat → Prop} : ∀ {c : Code} {s s' : St A} {ps : List Prop} {e : E A} {a : Act}, RepS P u w0 O0 s e a → noWh s → simple P u tab c s = some (ps, s') → allP ps →
    c.wp P (Post P u w0 O0 (fun x s2 => match x with | .norm => s2 = s' | _ => False)) a e.w := by
  have happ : ∀ {l r : List Prop}, allP (l ++ r) → allP l ∧ allP r := by
    intro l
    induction l with
    | nil => intro r h; exact ⟨trivial, h⟩
    | cons p l ih =>
      intro r h
      obtain ⟨h1, h2⟩ := allP_cons h
      obtain ⟨h3, h4⟩ := ih h2
      refine ⟨?_, h4⟩
      cases l with
      | nil => exact h1
      | cons q l => exact ⟨h1, h3⟩
  intro c
  induction c with
  | skip => intro s s' ps e a h hn hs hp; cases hs; exact wp_skip ⟨.norm, s, e, trivial, rfl, h, hn, rfl⟩
  | region id ops dr =>
    intro s s' ps e a h hn hs hp
    cases dr with
    | true => cases hs
    | false =>
      unfold simple at hs
      simp only at hs
      split at hs
      · rename_i l s1 h1
        cases hs
        exact region_sound P u tab hL id ops _ s e a h hn (opsR_opsW P u tab h1 hp rfl)
      · cases hs
  | seq x y ihx ihy =>
    intro s s' ps e a h hn hs hp
    unfold simple at hs
    split at hs
    · rename_i l s1 h1
      split at hs
      · rename_i l2 s2 h2
        cases hs
        obtain ⟨hp1, hp2⟩ := happ hp
        refine wp_seq (Code.wp_mono ?_ (ihx h hn h1 hp1))
        rintro ex a' w' ⟨z, s3, e', g1, g2, g3, g4, rfl⟩
        cases z <;> first | exact g2.elim | skip
        cases ex <;> first | exact g1.elim | skip
        subst g2
        exact ihy g3 g4 h2 hp2
      · cases hs
    · cases hs
  | _ => intro s s' ps e a h hn hs hp; cases hs
theorem cond_val {e : E A} {x : SV A} {v : Value} {b : Bool} (h : RepL P u e [x] [v]) (hx : boolS x = some b) : v = .bool b := bool_inv P u h hx
theorem condW_sound (hL : Laws P u tab) {lits : List Nat} {w0 : W0} {O0 : Nat → Prop} {wx wy : (X → St A → Prop) → St A → Prop} {c : Operand} {x y : Code} (ihx : Sound P u w0 O0 wx x) (ihy : Sound P u w0 O0 wy y) : Sound P u w0 O0 (condW P u tab lits wx wy c x y) (.cond c x y) := by
  intro Q s e a h hn hk
  have hv := h.plain P u c
  unfold condW at hk
  split at hk
  · rename_i hc
    rw [hc] at hv
    exact wp_cond (cond_val P u hv rfl) (ihx Q s e a h hn hk)
  · rename_i hc
    rw [hc] at hv
    exact wp_cond (cond_val P u hv rfl) (ihy Q s e a h hn hk)
  · rename_i t hc
    rw [hc] at hv
    have hsplit : (t = true → wx Q s) ∧ (t = false → wy Q s) → (Code.cond c x y).wp P (Post P u w0 O0 Q) a e.w := by
      intro hk
      refine wp_cond (cond_val P u hv rfl) ?_
      cases t with
      | true => exact ihx Q s e a h hn (hk.1 rfl)
      | false => exact ihy Q s e a h hn (hk.2 rfl)
    split at hk
    · refine wp_cond (cond_val P u hv rfl) ?_
      cases t with
      | true => exact ihx Q s e a h hn hk
      | false => exact ihy Q s e a h hn hk
    split at hk
    · rename_i l1 s1 hs1
      split at hk
      · rename_i l2 s2 hs2
        split at hk
        · obtain ⟨k1, k2, k3⟩ := hk
          refine wp_cond (cond_val P u hv rfl) ?_
          obtain ⟨a0, a1, a2, a3⟩ := simple_frame P u tab hn hs1
          obtain ⟨b0, b1, b2, b3⟩ := simple_frame P u tab hn hs2
          have hfin : ∀ ex a' w', Post P u w0 O0 (fun z s2' => match z with | .norm => s2' = (if t then s1 else s2) | _ => False) ex a' w' → Post P u w0 O0 Q ex a' w' := by
            rintro ex a' w' ⟨z, s3, e', g1, g2, g3, g4, rfl⟩
            cases z <;> first | exact g2.elim | skip
            simp only at g2
            subst g2
            obtain ⟨s', q1, q2, q3⟩ := meet_sound P u hn g3 g4 (by
              intro d hd
              simp only [List.mem_append, not_or] at hd
              cases t with
              | true => exact a1 d hd.1
              | false => exact b1 d hd.2) (by cases t <;> first | exact a2 | exact b2) (by cases t <;> first | exact a3 | exact b3) k3
            exact ⟨.norm, s', e', g1, (forceS_eq s' (Q .norm)).mp q1, q2, q3, rfl⟩
          cases t with
          | true => exact Code.wp_mono (fun ex a' w' hp => hfin ex a' w' hp) (simple_sound P u tab hL h hn hs1 (k1 rfl))
          | false => exact Code.wp_mono (fun ex a' w' hp => hfin ex a' w' hp) (simple_sound P u tab hL h hn hs2 (k2 rfl))
        · exact hsplit hk
      · exact hsplit hk
    · exact hsplit hk
  · exact hk.elim
theorem code_sound (hL : Laws P u tab) {lits : List Nat} {w0 : W0} {O0 : Nat → Prop} {draws : Array Oper → St A → (St A → Prop) → Prop} {loops : Nat → ((X → St A → Prop) → St A → Prop) → Code → (X → St A → Prop) → St A → Prop}
    (hd : DrawsOk P u w0 O0 draws) (hl : LoopsOk P u w0 O0 loops) : ∀ (c : Code) (b : Nat), Sound P u w0 O0 (codeW P u tab lits draws loops b c) c := by
  intro c
  induction c with
  | skip => intro b Q s e a h hn hk; exact wp_skip ⟨.norm, s, e, trivial, hk, h, hn, rfl⟩
  | region id ops d =>
    intro b Q s e a h hn hk
    cases d with
    | false =>
      unfold codeW at hk
      simp only at hk
      split at hk
      · exact Code.wp_mono (fun ex a' w' hp => hp.ghost P u tab hL) (region_sound P u tab hL id ops (fun x s => match x with | .norm => ghW u id lits (Q .norm) s | _ => False) s e a h hn hk)
      · exact Code.wp_mono (fun ex a' w' hp => hp.ghost P u tab hL) (regionN_sound P u tab hL id id lits ops (fun x s => match x with | .norm => ghW u id lits (Q .norm) s | _ => False) s e a h hn hk)
    | true => exact Code.wp_mono (fun ex a' w' hp => hp.ghost P u tab hL) (hd id ops (ghW u id lits (Q .norm)) s e a h hn hk)
  | seq x y ihx ihy =>
    intro b Q s e a h hn hk
    refine wp_seq (Code.wp_mono ?_ (ihx b _ s e a h hn hk))
    rintro ex a' w' ⟨z, s', e', h1, h2, h3, h4, rfl⟩
    cases z with
    | norm =>
      cases ex <;> first | exact h1.elim | skip
      exact ihy b Q s' e' a' h3 h4 h2
    | exit i =>
      cases ex <;> first | exact h1.elim | skip
      exact ⟨.exit i, s', e', h1, h2, h3, h4, rfl⟩
    | ret =>
      cases ex <;> first | exact h1.elim | skip
      exact ⟨.ret, s', e', h1, h2, h3, h4, rfl⟩
  | cond c x y ihx ihy =>
    intro b Q s e a h hn hk
    have hw : Sound P u w0 O0 (condW P u tab lits (fun Q s => codeW P u tab lits draws loops b x Q s) (fun Q s => codeW P u tab lits draws loops b y Q s) c x y) (.cond c x y) := condW_sound P u tab hL (ihx b) (ihy b)
    unfold codeW at hk
    split at hk
    · exact hw Q s e a h hn hk
    · exact (hl _ _ _ hw).2 (by
        cases hb : Nat.blt (1000000 + _) 1000000 with
        | false => rfl
        | true => have := Nat.le_of_ble_eq_true hb; omega) Q s e a h hn hk
  | block id x ih =>
    intro b Q s e a h hn hk
    refine wp_block (Code.wp_mono ?_ (ih id _ s e a h hn hk))
    rintro ex a' w' ⟨z, s', e', h1, h2, h3, h4, rfl⟩
    cases z with
    | norm =>
      cases ex <;> first | exact h1.elim | skip
      exact ⟨.norm, s', e', trivial, h2, h3, h4, rfl⟩
    | exit i =>
      cases ex <;> first | exact h1.elim | skip
      rename_i j
      have hij : i = j := h1
      subst hij
      simp only at h2
      by_cases hii : i = id
      · subst hii
        simp only [Exit.inBlock, if_true]
        rw [if_pos (Nat.beq_refl i)] at h2
        exact ⟨.norm, s', e', trivial, h2, h3, h4, rfl⟩
      · simp only [Exit.inBlock, if_neg hii]
        rw [if_neg (fun hb => hii (Nat.eq_of_beq_eq_true hb))] at h2
        exact ⟨.exit i, s', e', rfl, h2, h3, h4, rfl⟩
    | ret =>
      cases ex <;> first | exact h1.elim | skip
      exact ⟨.ret, s', e', trivial, h2, h3, h4, rfl⟩
  | loop x ih =>
    intro b Q s e a h hn hk
    unfold codeW at hk
    split at hk
    · rename_i hb
      exact (hl b _ x (fun Q s e a h hn hk => ih b Q s e a h hn hk)).1 hb Q s e a h hn hk
    · exact hk.elim
  | exit id => intro b Q s e a h hn hk; exact wp_exit ⟨.exit id, s, e, rfl, hk, h, hn, rfl⟩
  | ret => intro b Q s e a h hn hk; exact wp_ret ⟨.ret, s, e, trivial, hk, h, hn, rfl⟩
  | _ => intro b Q s e a h hn hk; exact hk.elim

/-- No loop; no region that draws. -/
def noDraws : Array Oper → St A → (St A → Prop) → Prop := fun _ _ _ => False
theorem noDraws_ok {w0 : W0} {O0 : Nat → Prop} : DrawsOk P u w0 O0 (noDraws (A := A)) := fun _ _ _ _ _ _ _ _ h => h.elim
/-- A loop of so many rounds at most, each told. -/
def iterW (W : (X → St A → Prop) → St A → Prop) : Nat → (X → St A → Prop) → St A → Prop
  | 0, _, _ => False
  | n + 1, Q, s => W (fun x s => match x with
    | .norm => iterW W n Q s
    | .exit i => Q (.exit i) s
    | .ret => Q .ret s) s
theorem iter_sound {w0 : W0} {O0 : Nat → Prop} {W : (X → St A → Prop) → St A → Prop} {c : Code} (hW : Sound P u w0 O0 W c) (n : Nat) : Sound P u w0 O0 (iterW W n) (.loop c) := by
  intro Q s e a h hn hk
  refine wp_loop_rounds n ?_
  induction n generalizing s e a with
  | zero => exact hk.elim
  | succ n ih =>
    rw [rounds_succ]
    refine Code.wp_mono ?_ (hW _ s e a h hn hk)
    rintro ex a' w' ⟨z, s', e', h1, h2, h3, h4, rfl⟩
    cases z with
    | norm =>
      cases ex <;> first | exact h1.elim | skip
      exact ih s' e' a' h3 h4 h2
    | exit i =>
      cases ex <;> first | exact h1.elim | skip
      exact ⟨.exit i, s', e', h1, h2, h3, h4, rfl⟩
    | ret =>
      cases ex <;> first | exact h1.elim | skip
      exact ⟨.ret, s', e', h1, h2, h3, h4, rfl⟩
end
end Go.Proofs.Ytndacggailoogaa.Sx
