/- An abstract machine over values by content, eleventh part: one operation under its guard, and regions in the order of their text. -/
import Derived.Test.YtndacggailoogaaSxJ
namespace Go.Proofs.Ytndacggailoogaa.Sx
open Go Go.RowKit

section
variable {A : Nat → Type} (P : Program) (u : U A) (tab : List (Nat × Con A))

inductive Gd | run | skip | under (d : Nat) (p : Bool)
def beqB : Bool → Bool → Bool
  | true, true => true
  | false, false => true
  | _, _ => false
theorem beqB_eq {a b : Bool} (h : beqB a b = true) : a = b := by cases a <;> cases b <;> first | rfl | cases h
theorem beqB_ne {a b : Bool} (h : beqB a b = false) : a ≠ b := by cases a <;> cases b <;> first | (intro e; cases e; done) | cases h
def guardD (ops : Array Oper) (j : Nat) : Option Nat := match ops[j]? with
  | some o => o.dst
  | none => none
/-- How an operation stands under its guard. -/
def guardOf (ops : Array Oper) (o : Oper) (s : St A) : Option Gd :=
  match o.guard with
  | none => some .run
  | some (j, pol) => match guardD ops j with
    | none => none
    | some d => match s.get d with
      | .lit b => if beqB b pol then some .run else some .skip
      | .undef => some .skip
      | .bool _ => some (.under d pol)
      | .wh _ _ (.bool _) => some (.under d pol)
      | .wh _ _ (.lit b) => if beqB b pol then some (.under d pol) else some .skip
      | _ => none
theorem yielded_eq {ops : Array Oper} {j d : Nat} (h : guardD ops j = some d) (tmps : Array Value) : yielded ops tmps j = match tmps.getD d Go.undef with | .bool b => some b | _ => none := by
  unfold guardD at h
  unfold yielded
  cases ho : ops[j]? with
  | none => simp [ho] at h
  | some o =>
    simp only [ho] at h
    simp only [Option.bind_some, h]
    by_cases hd : d < tmps.size
    · simp only [Array.getD, hd, dif_pos, Array.getElem?_eq_getElem hd]
      show _ = match tmps[d] with | .bool b => some b | _ => none
      generalize tmps[d] = v
      cases v <;> rfl
    · simp [Array.getD, hd, Array.getElem?_eq_none (Nat.le_of_not_lt hd), Go.undef]
theorem guard_run {w0 : W0} {O0 : Nat → Prop} {s : St A} {e : E A} {a : Act} (h : RepS P u w0 O0 s e a) {ops : Array Oper} {o : Oper} (hg : guardOf ops o s = some .run) : Region.wanted o (yielded ops a.tmps) = true := by
  unfold guardOf at hg
  unfold Region.wanted
  split at hg
  · rename_i hn; rw [hn]
  · rename_i j pol hn
    rw [hn]
    split at hg
    · cases hg
    · rename_i d hd
      have hs := h.get P u d
      show (yielded ops a.tmps j == some pol) = true
      rw [yielded_eq hd]
      split at hg
      · rename_i b hb
        rw [hb] at hs
        split at hg
        · rename_i hbp
          have : RepL P u e [.lit b] [a.tmps.getD d Go.undef] := hs
          generalize a.tmps.getD d Go.undef = v at this
          cases this
          rw [beqB_eq hbp]; simp
        · cases hg
      · cases hg
      · cases hg
      · cases hg
      · split at hg <;> cases hg
      · cases hg
theorem guard_skip {w0 : W0} {O0 : Nat → Prop} {s : St A} {e : E A} {a : Act} (h : RepS P u w0 O0 s e a) {ops : Array Oper} {o : Oper} (hg : guardOf ops o s = some .skip) : Region.wanted o (yielded ops a.tmps) = false := by
  unfold guardOf at hg
  unfold Region.wanted
  split at hg
  · cases hg
  · rename_i j pol hn
    rw [hn]
    split at hg
    · cases hg
    · rename_i d hd
      have hs := h.get P u d
      show (yielded ops a.tmps j == some pol) = false
      rw [yielded_eq hd]
      split at hg
      · rename_i b hb
        rw [hb] at hs
        split at hg
        · cases hg
        · rename_i hbp
          have : RepL P u e [.lit b] [a.tmps.getD d Go.undef] := hs
          generalize a.tmps.getD d Go.undef = v at this
          cases this
          have := beqB_ne (by simpa using hbp)
          simpa using this
      · rename_i hb
        rw [hb] at hs
        have : RepL P u e [.undef] [a.tmps.getD d Go.undef] := hs
        generalize a.tmps.getD d Go.undef = v at this
        cases this
        simp [Go.undef]
      · cases hg
      · cases hg
      · rename_i d' p' b hb
        rw [hb] at hs
        split at hg
        · cases hg
        · rename_i hbp
          have hne := beqB_ne (by simpa using hbp)
          by_cases hgd : a.tmps.getD d' Go.undef = .bool p'
          · have := hs.1 hgd
            generalize a.tmps.getD d Go.undef = v at this
            cases this
            simpa using hne
          · rw [hs.2 hgd]; simp [Go.undef]
      · cases hg
theorem guard_under {w0 : W0} {O0 : Nat → Prop} {s : St A} {e : E A} {a : Act} (_h : RepS P u w0 O0 s e a) {ops : Array Oper} {o : Oper} {d : Nat} {p : Bool} (hg : guardOf ops o s = some (.under d p)) :
    Region.wanted o (yielded ops a.tmps) = true ↔ a.tmps.getD d Go.undef = .bool p := by
  unfold guardOf at hg
  unfold Region.wanted
  split at hg
  · cases hg
  · rename_i j pol hn
    rw [hn]
    split at hg
    · cases hg
    · rename_i d' hd
      have hdp : d' = d ∧ pol = p := by
        split at hg
        · split at hg <;> cases hg
        · cases hg
        · cases hg; exact ⟨rfl, rfl⟩
        · cases hg; exact ⟨rfl, rfl⟩
        · split at hg <;> cases hg; exact ⟨rfl, rfl⟩
        · cases hg
      obtain ⟨rfl, rfl⟩ := hdp
      simp only [yielded_eq hd]
      generalize a.tmps.getD d' Go.undef = v
      cases v <;> simp
/-- What is asked where a guard lets in. -/
def underP (s : St A) : Nat → Nat → Bool → Prop → Prop
  | 0, _, _, c => c
  | n + 1, d, p, c => match s.get d with
    | .bool b => b = p → c
    | .wh d' p' (.bool b) => underP s n d' p' (b = p → c)
    | .wh d' p' (.lit _) => underP s n d' p' c
    | _ => c
theorem underP_sound {w0 : W0} {O0 : Nat → Prop} {s : St A} {e : E A} {a : Act} (h : RepS P u w0 O0 s e a) : ∀ (n d : Nat) (p : Bool) (c : Prop), underP s n d p c → a.tmps.getD d Go.undef = .bool p → c := by
  intro n
  induction n with
  | zero => intro d p c hc _; exact hc
  | succ n ih =>
    intro d p c hc hd
    have hs := h.get P u d
    unfold underP at hc
    split at hc
    · rename_i b hb
      rw [hb] at hs
      have : RepL P u e [.bool b] [a.tmps.getD d Go.undef] := hs
      rw [hd] at this
      cases this
      exact hc rfl
    · rename_i d' p' b hb
      rw [hb] at hs
      by_cases hg : a.tmps.getD d' Go.undef = .bool p'
      · have := hs.1 hg
        rw [hd] at this
        cases this
        exact ih d' p' _ hc hg rfl
      · have := hs.2 hg
        rw [hd] at this
        cases this
    · rename_i d' p' b hb
      rw [hb] at hs
      by_cases hg : a.tmps.getD d' Go.undef = .bool p'
      · exact ih d' p' _ hc hg
      · have := hs.2 hg
        rw [hd] at this
        cases this
    · exact hc

/-- The value as an operation under guard g sees it. -/
def view (s : St A) (g : Option (Nat × Bool)) (x : SV A) : SV A := match g with
  | none => plainV x
  | some (d, p) => whV s d p x
def armV (s : St A) (g : Option (Nat × Bool)) (d : Nat) (p : Bool) (x : SV A) : SV A := match x with
  | .wh e q y => if implies s 16 d p e q then y else match g with
    | some (d', p') => if implies s 16 d' p' e q then y else .top
    | none => .top
  | y => y
def joinB (b : Bool) (x y : SV A) : Option (SV A) := match y with
  | .lit false => match boolS x with
    | some x => some (.bool (b && x))
    | none => none
  | y => match x with
    | .lit true => match boolS y with
      | some y => some (.bool (b || y))
      | none => none
    | x => match boolS x, boolS y with
      | some x, some y => some (.bool (if b then x else y))
      | _, _ => none
def pickS (s : St A) (g : Option (Nat × Bool)) (c x y : Operand) : Option (SV A) := match c with
  | .tmp d => match view s g (s.get d) with
    | .lit true => some (armV s g d true (s.ev x))
    | .lit false => some (armV s g d false (s.ev y))
    | .bool b => joinB b (armV s g d true (s.ev x)) (armV s g d false (s.ev y))
    | _ => none
  | _ => none
theorem arm_rep {w0 : W0} {O0 : Nat → Prop} {s : St A} {e : E A} {a : Act} (h : RepS P u w0 O0 s e a) {g : Option (Nat × Bool)} (hg : ∀ d p, g = some (d, p) → a.tmps.getD d Go.undef = .bool p) {d : Nat} {p : Bool} (hd : a.tmps.getD d Go.undef = .bool p) (x : Operand) :
    RepL P u e [armV s g d p (s.ev x)] [a.eval x] := by
  have h1 := h.under P u hd x
  unfold armV
  unfold whV at h1
  split
  · rename_i e' q y hy
    rw [hy] at h1
    simp only at h1
    split
    · rename_i hi; rw [if_pos hi] at h1; exact h1
    · split
      · rename_i d' p'
        have h2 := h.under P u (hg d' p' rfl) x
        unfold whV at h2
        rw [hy] at h2
        simp only at h2
        exact h2
      · exact .top _ .nil
  · rename_i hno
    split at h1
    · rename_i e' q y hy; exact absurd hy (hno e' q y)
    · exact h1
theorem view_rep {w0 : W0} {O0 : Nat → Prop} {s : St A} {e : E A} {a : Act} (h : RepS P u w0 O0 s e a) {g : Option (Nat × Bool)} (hg : ∀ d p, g = some (d, p) → a.tmps.getD d Go.undef = .bool p) (x : Operand) : RepL P u e [view s g (s.ev x)] [a.eval x] := by
  cases g with
  | none => exact h.plain P u x
  | some dp => exact h.under P u (hg dp.1 dp.2 rfl) x
theorem pick_sound {w0 : W0} {O0 : Nat → Prop} {s : St A} {e : E A} {a : Act} (h : RepS P u w0 O0 s e a) {g : Option (Nat × Bool)} (hg : ∀ d p, g = some (d, p) → a.tmps.getD d Go.undef = .bool p) {o : Oper} {c x y : Operand} {z : SV A} (hop : o.op = .pick c x y) (hp : pickS s g c x y = some z) :
    ∃ r, (execOp a.eval o).run P e.w = .ok (.value r) e.w ∧ RepL P u e [z] [r] := by
  unfold pickS at hp
  split at hp
  · rename_i d
    have hv : RepL P u e [view s g (s.get d)] [a.tmps.getD d Go.undef] := view_rep P u h hg (.tmp d)
    have hrun : ∀ b, a.tmps.getD d Go.undef = .bool b → (execOp a.eval o).run P e.w = .ok (.value (if b then a.eval x else a.eval y)) e.w := by
      intro b hb
      unfold execOp
      rw [hop]
      have : a.eval (.tmp d) = .bool b := hb
      simp only [this, asBool]
      cases b <;> rfl
    split at hp
    · rename_i hl
      rw [hl] at hv
      cases hp
      generalize hvv : a.tmps.getD d Go.undef = v at hv
      cases hv
      exact ⟨_, hrun true hvv, arm_rep P u h hg hvv x⟩
    · rename_i hl
      rw [hl] at hv
      cases hp
      generalize hvv : a.tmps.getD d Go.undef = v at hv
      cases hv
      exact ⟨_, hrun false hvv, arm_rep P u h hg hvv y⟩
    · rename_i b hl
      rw [hl] at hv
      generalize hvv : a.tmps.getD d Go.undef = v at hv
      cases hv
      refine ⟨_, hrun b hvv, ?_⟩
      have hx : b = true → RepL P u e [armV s g d true (s.ev x)] [a.eval x] := fun hb => arm_rep P u h hg (by rw [hvv, hb]) x
      have hy : b = false → RepL P u e [armV s g d false (s.ev y)] [a.eval y] := fun hb => arm_rep P u h hg (by rw [hvv, hb]) y
      generalize armV s g d true (s.ev x) = X at *
      generalize armV s g d false (s.ev y) = Y at *
      unfold joinB at hp
      split at hp
      · split at hp
        · rename_i x' hx'
          cases hp
          cases b with
          | true => simp only [if_true, Bool.true_and]; rw [bool_inv P u (hx rfl) hx']; exact .bool _ .nil
          | false =>
            have := hy rfl
            simp only [Bool.false_and]
            generalize a.eval y = vy at *
            cases this
            exact .bool _ .nil
        · cases hp
      · split at hp
        · split at hp
          · rename_i y' hy'
            cases hp
            cases b with
            | true =>
              have := hx rfl
              simp only [Bool.true_or]
              generalize a.eval x = vx at *
              cases this
              exact .bool _ .nil
            | false => simp only [Bool.false_or]; rw [bool_inv P u (hy rfl) hy']; exact .bool _ .nil
          · cases hp
        · split at hp
          · rename_i x' y' hx' hy'
            cases hp
            cases b with
            | true => simp only [if_true]; rw [bool_inv P u (hx rfl) hx']; exact .bool _ .nil
            | false => simp only [Bool.false_eq_true, if_false]; rw [bool_inv P u (hy rfl) hy']; exact .bool _ .nil
          · cases hp
    · cases hp
  · cases hp

/-- A call by contract. -/
def callS (k : Nat) (own : Nat → Own A) (f : SV A) (xs : List (SV A)) : HRes A := match f with
  | .fn g cap => if hasBody P g then (match find tab g with
    | some (.pure sp) => callP u own sp (xs ++ cap)
    | some (.heap sp) => callF k own sp (xs ++ cap)
    | some (.look sp) => callL k own sp (xs ++ cap)
    | some (.fork _) => none
    | none => none) else none
  | _ => none
theorem call_sound (hL : Laws P u tab) {w0 : W0} {O0 : Nat → Prop} {e : E A} {o : Oper} {a : Act} {ev : Operand → SV A} {k : Nat} {c : Option Prop} {y : SV A} {F : Eff A} {cc : Call} {f : Operand} {next : Act → World → Prop} {Q : Exit → Act → World → Prop}
    (hr : HR P u w0 O0 e) (hev : ∀ x, RepL P u e [ev x] [a.eval x]) (hop : o.op = .call cc) (hcal : cc.callee = .value f) (h : callS P u tab k e.own (ev f) (cc.args.toList.map ev) = some (c, y, F)) (hc : holds c)
    (hn : ∀ v e', HR P u w0 O0 e' → Ext e e' → e'.own = updL e.own F → RepL P u e' [y] [v] → next (a.put o.dst v) e'.w) : o.wp P a e.w next Q := by
  unfold callS at h
  split at h
  case h_2 => cases h
  rename_i g cap hf
  split at h
  case isFalse => cases h
  rename_i hb
  have hfr := hev f
  rw [hf] at hfr
  generalize hvf : a.eval f = vf at hfr
  cases hfr with
  | fn _ _ caps hcaps _ =>
    have hall := (reps P u hev cc.args.toList).append P u hcaps
    have hrun : (execOp a.eval o).run P e.w = .ok (.enter g ((cc.args.toList.map a.eval ++ caps).toArray)) e.w := by
      unfold execOp
      rw [hop]
      simp only [resolve, hcal, hvf, Deferred.ofValue, Sem.run_bind, Sem.run_pure, Result.andThen, invoke]
      rw [run_callFunc P hb]
      congr 2
      apply Array.ext'
      simp
    unfold Oper.wp
    rw [hrun, Oper.upon_enter]
    split at h
    · rename_i sp hsp
      refine (callP_sound P u hL.clean hr (find_ok P u hL.tab hsp) hall h hc).mono ?_
      rintro r w' ⟨v, e', rfl, rfl, h1, h2, h3, h4⟩
      exact hn v e' h1 h2 h3 h4
    · rename_i sp hsp
      refine (callF_sound P u hL.clean hr (find_ok P u hL.tab hsp) hall h hc).mono ?_
      rintro r w' ⟨v, e', rfl, rfl, h1, h2, h3, h4⟩
      exact hn v e' h1 h2 h3 h4
    · rename_i sp hsp
      refine (callL_sound P u hL.clean hr (find_ok P u hL.tab hsp) hall h hc).mono ?_
      rintro r w' ⟨v, e', rfl, rfl, h1, h2, h3, h4⟩
      exact hn v e' h1 h2 h3 h4
    · cases h
    · cases h
/-- One operation that is let in: what is asked, its value, and which own blocks turn. -/
def isHeap : Op → Bool
  | .box _ _ | .alloc _ | .store _ _ _ | .buildSlice _ _ _ | .makeSlice _ _ _ | .makeMap _ _ | .lookup _ _ _ _ | .mapUpdate _ _ _ _ => true
  | _ => false
def pureR (x : Option (Option Prop × SV A)) : HRes A := match x with
  | some (c, y) => some (c, y, [])
  | none => none
def bothR (x y : HRes A) : HRes A := match x with
  | some r => some r
  | none => y
/-- From here on an operation's new blocks are counted. -/
def newK (s : St A) (o : Oper) : Nat := match o.dst with
  | some d => (64 * (s.nx + d)) % 1073741824
  | none => (64 * (s.nx + s.tmps.length)) % 1073741824
theorem newK_lt (s : St A) (o : Oper) : newK s o < 1152921504606846976 := by
  unfold newK
  split <;> (refine Nat.lt_trans (Nat.mod_lt _ (by decide)) (by decide))
def runS (s : St A) (g : Option (Nat × Bool)) (o : Oper) : HRes A :=
  let ev := fun x => view s g (s.ev x)
  match o.op with
  | .pick c x y => match pickS s g c x y with
    | some z => some (none, z, [])
    | none => none
  | .call cc => match cc.callee with
    | .value f => callS P u tab (newK s o) s.own (ev f) (cc.args.toList.map ev)
    | _ => bothR (npS P u (newK s o) s.own o ev) (bothR (heapS P u (newK s o) s.own o ev) (pureR (pureS P u s.own o ev)))
  | .convert t1 t2 x => bothR (convH P u (newK s o) s.own t1 t2 (ev x)) (pureR (convS P u s.own t1 t2 (ev x)))
  | op => bothR (npS P u (newK s o) s.own o ev) (if isHeap op then heapS P u (newK s o) s.own o ev else pureR (pureS P u s.own o ev))
theorem run_sound (hL : Laws P u tab) {w0 : W0} {O0 : Nat → Prop} {s : St A} {e : E A} {a : Act} (h : RepS P u w0 O0 s e a) {g : Option (Nat × Bool)} (hg : ∀ d p, g = some (d, p) → a.tmps.getD d Go.undef = .bool p) {o : Oper} {c : Option Prop} {y : SV A} {F : Eff A}
    {next : Act → World → Prop} {Q : Exit → Act → World → Prop} (hr : runS P u tab s g o = some (c, y, F)) (hc : holds c)
    (hn : ∀ v e', HR P u w0 O0 e' → Ext e e' → e'.own = updL s.own F → RepL P u e' [y] [v] → next (a.put o.dst v) e'.w) : o.wp P a e.w next Q := by
  have hev := view_rep P u h hg
  have hpure : ∀ {c y F}, pureR (pureS P u s.own o (fun x => view s g (s.ev x))) = some (c, y, F) → holds c → (∀ v e', HR P u w0 O0 e' → Ext e e' → e'.own = updL s.own F → RepL P u e' [y] [v] → next (a.put o.dst v) e'.w) → o.wp P a e.w next Q := by
    intro c y F hp hc hn
    unfold pureR at hp
    split at hp
    · rename_i c' y' hp'
      cases hp
      rw [← h.own] at hp'
      obtain ⟨r, h1, h2⟩ := pure_sound P u hL.toLaw h.hr hev hp' hc
      unfold Oper.wp
      rw [h1, Oper.upon_value]
      exact hn r e h.hr (.refl e) h.own h2
    · cases hp
  have hheap : ∀ {c y F}, heapS P u (newK s o) s.own o (fun x => view s g (s.ev x)) = some (c, y, F) → holds c → (∀ v e', HR P u w0 O0 e' → Ext e e' → e'.own = updL s.own F → RepL P u e' [y] [v] → next (a.put o.dst v) e'.w) → o.wp P a e.w next Q := by
    intro c y F hh hc hn
    rw [← h.own] at hh hn
    obtain ⟨n, r, e', h1, h2, h3, h4, h5, h6⟩ := heap_sound P u hL.toLaw hL.clean h.hr (newK_lt s o) hev hh hc
    unfold Oper.wp
    rw [h1]
    cases h2 with
    | value v => rw [Oper.upon_value]; exact hn _ e' h3 h4 h5 h6
    | skip => rw [Oper.upon_skip]; exact hn _ e' h3 h4 h5 h6
  have hnp : ∀ {c y F}, npS P u (newK s o) s.own o (fun x => view s g (s.ev x)) = some (c, y, F) → holds c → (∀ v e', HR P u w0 O0 e' → Ext e e' → e'.own = updL s.own F → RepL P u e' [y] [v] → next (a.put o.dst v) e'.w) → o.wp P a e.w next Q := by
    intro c y F hh hc hn
    rw [← h.own] at hh hn
    obtain ⟨n, r, e', h1, h2, h3, h4, h5, h6⟩ := np_sound P u hL.toLaw h.hr (newK_lt s o) hev hh hc
    unfold Oper.wp
    rw [h1]
    cases h2 with
    | value v => rw [Oper.upon_value]; exact hn _ e' h3 h4 h5 h6
    | skip => rw [Oper.upon_skip]; exact hn _ e' h3 h4 h5 h6
  unfold runS at hr
  simp only at hr
  split at hr
  · rename_i c' x' y' hop
    split at hr
    · rename_i z hz
      cases hr
      obtain ⟨r, h1, h2⟩ := pick_sound P u h hg hop hz
      unfold Oper.wp
      rw [h1, Oper.upon_value]
      exact hn r e h.hr (.refl e) h.own h2
    · cases hr
  · rename_i cc hop
    split at hr
    · rename_i f hf
      rw [← h.own] at hr hn
      exact call_sound P u tab hL h.hr hev hop hf hr hc hn
    · unfold bothR at hr
      split at hr
      · rename_i r hh
        cases hr
        exact hnp hh hc hn
      split at hr
      · rename_i r hh
        cases hr
        exact hheap hh hc hn
      · exact hpure hr hc hn
  · rename_i t1 t2 x hop
    unfold bothR at hr
    split at hr
    · rename_i r hh
      cases hr
      exact hheap (by unfold heapS; rw [hop]; exact hh) hc hn
    · exact hpure (by unfold pureS; rw [hop]; exact hr) hc hn
  · unfold bothR at hr
    split at hr
    · rename_i r hh
      cases hr
      exact hnp hh hc hn
    split at hr
    · exact hheap hr hc hn
    · exact hpure hr hc hn
end
end Go.Proofs.Ytndacggailoogaa.Sx
