/- An abstract machine over values by content, ninth part: one operation under its guard; calls by contract. -/
import Derived.Test.YtacafjapnppacaaSxH
namespace Go.Proofs.Ytacafjapnppacaa.Sx
open Go Go.RowKit

section
variable {A : Nat → Type} (P : Program) (u : U A)

/-! ### contracts -/
/-- A value that names no block of the call's own. -/
def noOwn : SV A → Bool
  | .agg l => go l
  | .tup l => go l
  | .fn _ l => go l
  | .cptr l _ => go l
  | .optr _ _ | .rptr _ _ _ | .osl _ _ _ | .wh _ _ _ => false
  | _ => true
where go : List (SV A) → Bool
  | [] => true
  | x :: r => noOwn x && go r
/-- The environment of a callee: no own block yet. -/
def bareE (e : E A) : E A := { e with own := fun _ => .dead, β := fun _ => none }
theorem RepL.bare {e : E A} {xs : List (SV A)} {vs : List Value} (h : RepL P u e xs vs) : RepL P u (bareE e) xs vs :=
  h.ext P u (e := e) (e' := bareE e) ⟨Nat.le_refl _, fun _ _ ho => ⟨ho, rfl⟩, fun _ _ => ⟨.dead _, fun hd => absurd rfl hd⟩⟩
theorem RepL.unbare (hp : ∀ T x, noOwn.go (u.enc T x) = true) {e e' : E A} (hw : e'.w = e.w) (hO : ∀ b, ¬ e.O b → ¬ e'.O b) {xs : List (SV A)} {vs : List Value} (h : RepL P u e xs vs) : noOwn.go xs = true → RepL P u e' xs vs := by
  induction h with
  | nil => intro _; exact .nil
  | top v _ ih => intro hn; exact .top v (ih (by simpa [noOwn.go, noOwn] using hn))
  | undef _ ih => intro hn; exact .undef (ih (by simpa [noOwn.go, noOwn] using hn))
  | int k n _ ih => intro hn; exact .int k n (ih (by simpa [noOwn.go, noOwn] using hn))
  | bool b _ ih => intro hn; exact .bool b (ih (by simpa [noOwn.go, noOwn] using hn))
  | lit b _ ih => intro hn; exact .lit b (ih (by simpa [noOwn.go, noOwn] using hn))
  | str s _ ih => intro hn; exact .str s (ih (by simpa [noOwn.go, noOwn] using hn))
  | nilp _ ih => intro hn; exact .nilp (ih (by simpa [noOwn.go, noOwn] using hn))
  | nils _ ih => intro hn; exact .nils (ih (by simpa [noOwn.go, noOwn] using hn))
  | fn f cap caps _ _ ih1 ih2 => intro hn; simp only [noOwn.go, noOwn, Bool.and_eq_true] at hn; exact .fn f cap caps (ih1 hn.1) (ih2 hn.2)
  | agg l cs _ _ ih1 ih2 => intro hn; simp only [noOwn.go, noOwn, Bool.and_eq_true] at hn; exact .agg l cs (ih1 hn.1) (ih2 hn.2)
  | tup l cs _ _ ih1 ih2 => intro hn; simp only [noOwn.go, noOwn, Bool.and_eq_true] at hn; exact .tup l cs (ih1 hn.1) (ih2 hn.2)
  | csl T ys a len cap vss hl hc hm hx _ ihx ih =>
    intro hn
    exact .csl T ys a len cap vss hl hc (hm.imp id fun ⟨b, o, h1, h2, h3, h4⟩ => ⟨b, o, h1, by rw [hw]; exact h2, hO b h3, by rw [hw]; exact h4⟩) (fun i x hi => ihx i x hi (hp T x)) (ih (by simpa [noOwn.go, noOwn] using hn))
  | cptr cs off b o cv hb ho hm _ _ ihx ih =>
    intro hn
    simp only [noOwn.go, noOwn, Bool.and_eq_true] at hn
    exact .cptr cs off b o cv (by rw [hw]; exact hb) (hO b ho) (by rw [hw]; exact hm) (ihx hn.1) (ih hn.2)
  | optr => intro hn; simp [noOwn.go, noOwn] at hn
  | optrD => intro hn; simp [noOwn.go, noOwn] at hn
  | rptr => intro hn; simp [noOwn.go, noOwn] at hn
  | rptrD => intro hn; simp [noOwn.go, noOwn] at hn
  | osl => intro hn; simp [noOwn.go, noOwn] at hn
  | oslD => intro hn; simp [noOwn.go, noOwn] at hn

/-- A contract: from arguments to what is asked of them and the answer. -/
abbrev Spec (A : Nat → Type) := List (SV A) → Option (Option Prop × SV A)
def outer (w : World) (O : Nat → Prop) : E A := { w := w, O := O, own := fun _ => .dead, β := fun _ => none }
def FnOk (f : Nat) (sp : Spec A) : Prop := ∀ xs c y, sp xs = some (c, y) → holds c → ∀ (w : World) (O : Nat → Prop) vs, (∀ b, O b → b < w.heap.size) → RepL P u (outer w O) xs vs →
  Calls P f vs.toArray w fun r w' => ∃ v, r = .returned v ∧ Below w.heap.size w w' ∧ RepL P u (outer w' O) [y] [v]
def TabOk (tab : List (Nat × Spec A)) : Prop := ∀ p ∈ tab, FnOk P u p.1 p.2
def find (tab : List (Nat × Spec A)) (f : Nat) : Option (Spec A) := match tab with
  | [] => none
  | (g, sp) :: r => if g = f then some sp else find r f
theorem find_ok {tab : List (Nat × Spec A)} (h : TabOk P u tab) {f : Nat} {sp : Spec A} (hf : find tab f = some sp) : FnOk P u f sp := by
  induction tab with
  | nil => cases hf
  | cons p r ih =>
    obtain ⟨g, s⟩ := p
    unfold find at hf
    split at hf
    · rename_i hg
      cases hf
      subst hg
      exact h _ (List.mem_cons_self ..)
    · exact ih (fun q hq => h q (List.mem_cons_of_mem _ hq)) hf
structure Laws (tab : List (Nat × Spec A)) : Prop extends Law P u where
  clean : ∀ T x, noOwn.go (u.enc T x) = true
  tab : TabOk P u tab

def hasBody (f : Nat) : Bool := match P.funcs[f]? with
  | some fn => !(fn.name == "runtime.NumGoroutine") && fn.body.isSome
  | none => false
/-- An own row as it is handed to a callee that reads it: by its content. -/
def argS (own : Nat → Own A) (x : SV A) : SV A := match x with
  | .osl id lo len => match own id with
    | .row T xs => .csl T ((xs.drop lo).take len)
    | .fro T xs => .csl T ((xs.drop lo).take len)
    | _ => .osl id lo len
  | x => x
def rowArg (own : Nat → Own A) (x : SV A) : Bool := match x with
  | .osl id _ _ => match own id with
    | .row _ _ => true
    | _ => false
  | _ => false
def anyRow (own : Nat → Own A) : List (SV A) → Bool
  | [] => false
  | x :: r => rowArg own x || anyRow own r
/-- A value that hangs of no memory. -/
def flat : SV A → Bool
  | .agg l => go l
  | .tup l => go l
  | .fn _ l => go l
  | .cptr _ _ | .csl _ _ | .optr _ _ | .rptr _ _ _ | .osl _ _ _ | .wh _ _ _ => false
  | _ => true
where go : List (SV A) → Bool
  | [] => true
  | x :: r => flat x && go r
theorem RepL.flat {e e' : E A} {xs : List (SV A)} {vs : List Value} (h : RepL P u e xs vs) : flat.go xs = true → RepL P u e' xs vs := by
  induction h with
  | nil => intro _; exact .nil
  | top v _ ih => intro hn; exact .top v (ih (by simpa [flat.go, Sx.flat] using hn))
  | undef _ ih => intro hn; exact .undef (ih (by simpa [flat.go, Sx.flat] using hn))
  | int k n _ ih => intro hn; exact .int k n (ih (by simpa [flat.go, Sx.flat] using hn))
  | bool b _ ih => intro hn; exact .bool b (ih (by simpa [flat.go, Sx.flat] using hn))
  | lit b _ ih => intro hn; exact .lit b (ih (by simpa [flat.go, Sx.flat] using hn))
  | str s _ ih => intro hn; exact .str s (ih (by simpa [flat.go, Sx.flat] using hn))
  | nilp _ ih => intro hn; exact .nilp (ih (by simpa [flat.go, Sx.flat] using hn))
  | nils _ ih => intro hn; exact .nils (ih (by simpa [flat.go, Sx.flat] using hn))
  | fn f cap caps _ _ ih1 ih2 => intro hn; simp only [flat.go, Sx.flat, Bool.and_eq_true] at hn; exact .fn f cap caps (ih1 hn.1) (ih2 hn.2)
  | agg l cs _ _ ih1 ih2 => intro hn; simp only [flat.go, Sx.flat, Bool.and_eq_true] at hn; exact .agg l cs (ih1 hn.1) (ih2 hn.2)
  | tup l cs _ _ ih1 ih2 => intro hn; simp only [flat.go, Sx.flat, Bool.and_eq_true] at hn; exact .tup l cs (ih1 hn.1) (ih2 hn.2)
  | csl => intro hn; simp [flat.go, Sx.flat] at hn
  | cptr => intro hn; simp [flat.go, Sx.flat] at hn
  | optr => intro hn; simp [flat.go, Sx.flat] at hn
  | optrD => intro hn; simp [flat.go, Sx.flat] at hn
  | rptr => intro hn; simp [flat.go, Sx.flat] at hn
  | rptrD => intro hn; simp [flat.go, Sx.flat] at hn
  | osl => intro hn; simp [flat.go, Sx.flat] at hn
  | oslD => intro hn; simp [flat.go, Sx.flat] at hn
/-- A part of an own row, by its content, where nobody writes into its block. -/
theorem row_csl {w0 : World} {O0 : Nat → Prop} {e e' : E A} (hclean : ∀ T x, noOwn.go (u.enc T x) = true) (hr : HR P u w0 O0 e) (hw : e'.w = e.w) (hO : ∀ b, ¬ e.O b → ¬ e'.O b) {id lo len T : Nat} {xs : List (A T)} {v : Value}
    (ho : e.own id = .row T xs ∨ e.own id = .fro T xs) (hno : ∀ b c, e.β id = some (b, c) → ¬ e'.O b) (hx : RepL P u e [.osl id lo len] [v]) : RepL P u e' [.csl T ((xs.drop lo).take len)] [v] := by
  have hent : EntOk P u e w0.heap.size id (.row T xs) := by
    have := hr.ent id
    rcases ho with ho | ho <;> rw [ho] at this <;> exact this
  obtain ⟨b, c, arr, T', vss, hβ, hlo, hheap, harr, hc, hel⟩ := hent
  cases hx with
  | osl _ _ _ b' c' T2 ys hv hβ' hle _ =>
    rw [hβ] at hβ'; cases hβ'
    have hsame : T2 = T ∧ HEq ys xs := by
      rcases ho with ho | ho <;> rw [ho] at hv <;> rcases hv with hv | hv <;> cases hv <;> exact ⟨rfl, HEq.rfl⟩
    obtain ⟨rfl, hys⟩ := hsame
    cases hys
    refine .csl T2 _ _ len (c - lo) (fun i => vss (lo + i)) (by simp; omega) (by omega) (.inr ⟨b, lo * P.cellsOf T2, rfl, by rw [hw]; exact lt_of_get hheap, hno b c hβ, fun i hi => ?_⟩) ?_ .nil
    · have hi' : i < len := by simp at hi; omega
      intro j v hj
      have hlt : lo + i < ys.length := by omega
      obtain ⟨_, _, h3⟩ := hel (lo + i) _ (List.getElem?_eq_getElem hlt)
      have := h3 j v hj
      rw [hw]
      have hcell := cellsAt_heap hheap _ v this
      rw [Nat.zero_add, Nat.add_mul, Nat.add_assoc] at hcell
      rw [Nat.add_assoc]
      exact hcell
    · intro i x hi
      rw [List.getElem?_take] at hi
      split at hi
      · rw [List.getElem?_drop] at hi
        obtain ⟨h1, _, _⟩ := hel (lo + i) x hi
        exact h1.unbare P u hclean hw hO (hclean _ _)
      · cases hi
  | oslD _ _ _ _ hd _ => rcases ho with ho | ho <;> rw [ho] at hd <;> cases hd
def Own.isRow : Own A → Bool
  | .row _ _ => true
  | _ => false
/-- The blocks that a callee finds written to by others: the caller's rows are at rest meanwhile. -/
def quietO (e : E A) (rows : Bool) (b : Nat) : Prop := e.O b ∧ (rows = true → ¬ ∃ id c, (e.own id).isRow = true ∧ e.β id = some (b, c))
theorem arg_rep {w0 : World} {O0 : Nat → Prop} {e : E A} (hclean : ∀ T x, noOwn.go (u.enc T x) = true) (hr : HR P u w0 O0 e) {rows : Bool} {x : SV A} {v : Value} (hx : RepL P u e [x] [v]) (h : rowArg e.own x = true → rows = true) :
    RepL P u (outer e.w (quietO e rows)) [argS e.own x] [v] := by
  have hplain : RepL P u (outer e.w (quietO e rows)) [x] [v] := by
    refine (hx.bare P u).ext P u (e := bareE e) (e' := outer e.w (quietO e rows)) ⟨Nat.le_refl _, fun b _ ho => ⟨fun hq => ho hq.1, rfl⟩, fun _ _ => ⟨.dead _, fun hd => absurd rfl hd⟩⟩
  unfold argS
  split
  · rename_i id lo len
    have hmut : ∀ b c, e.β id = some (b, c) → e.O b → (e.own id).isRow = true ∨ (∃ T xs, e.own id = .fro T xs) → quietO e rows b → False := by
      intro b c hβ hOb hk hq
      rcases hk with hk | ⟨T, xs, hk⟩
      · refine hq.2 (h ?_) ⟨id, c, hk, hβ⟩
        have key : ∀ o : Own A, o.isRow = true → (match o with | .row _ _ => true | _ => false) = true := by intro o h; cases o <;> first | rfl | cases h
        exact key _ hk
      · rcases (hr.O b).1 hOb with h0 | ⟨id', c', h1, h2⟩
        · obtain ⟨b', c2, arr, T', h3, h4, _⟩ := (hr.ent id).place P u (by rw [hk]; simp) (by rw [hk]; simp)
          rw [h3] at hβ; cases hβ
          have := hr.o0 b h0
          omega
        · have := hr.inj id id' b c c' (by rw [hk]; simp) (by rw [hk]; simp) (by intro hx; rw [hx] at h1; cases h1) (by intro hx; rw [hx] at h1; cases h1) hβ h2
          subst this
          rw [hk] at h1; cases h1
    split
    · rename_i T xs ho
      exact row_csl P u hclean hr (e' := outer e.w (quietO e rows)) rfl (fun b hb hq => hb hq.1) (.inl ho) (fun b c hβ hq => hmut b c hβ hq.1 (.inl (by rw [ho]; rfl)) hq) hx
    · rename_i T xs ho
      exact row_csl P u hclean hr (e' := outer e.w (quietO e rows)) rfl (fun b hb hq => hb hq.1) (.inr ho) (fun b c hβ hq => hmut b c hβ hq.1 (.inr ⟨T, xs, ho⟩) hq) hx
    · exact hplain
  · exact hplain
theorem args_rep {w0 : World} {O0 : Nat → Prop} {e : E A} (hclean : ∀ T x, noOwn.go (u.enc T x) = true) (hr : HR P u w0 O0 e) {rows : Bool} : ∀ {xs : List (SV A)} {vs : List Value}, RepL P u e xs vs → (anyRow e.own xs = true → rows = true) →
    RepL P u (outer e.w (quietO e rows)) (xs.map (argS e.own)) vs := by
  intro xs
  induction xs with
  | nil => intro vs hx _; cases hx; exact .nil
  | cons x xs ih =>
    intro vs hx h
    obtain ⟨v, ws, rfl, h1, h2⟩ := hx.split P u
    exact (arg_rep P u hclean hr h1 (fun hx => h (by simp [anyRow, hx]))).cons P u (ih h2 (fun hx => h (by simp [anyRow, hx])))
def callS (tab : List (Nat × Spec A)) (own : Nat → Own A) (f : SV A) (xs : List (SV A)) : Option (Option Prop × SV A) := match f with
  | .fn g cap => if hasBody P g then (match find tab g with
    | some sp => match sp (xs.map (argS own) ++ cap) with
      | some (c, y) => if noOwn y && (flat y || !(anyRow own xs)) then some (c, y) else none
      | none => none
    | none => none) else none
  | _ => none
theorem run_callFunc {f : Nat} (h : hasBody P f = true) (args : Array Value) (w : World) : (callFunc f args).run P w = .ok (.enter f args) w := by
  unfold hasBody at h
  split at h
  · rename_i fn hf
    simp only [Bool.and_eq_true, Bool.not_eq_true', beq_eq_false_iff_ne, ne_eq] at h
    obtain ⟨b, hb⟩ := Option.isSome_iff_exists.1 h.2
    simp [callFunc, hf, h.1, hb]
  · cases h

/-- What lies behind a call: nothing of what was there has turned. -/
def afterE (e : E A) (w' : World) : E A := { e with w := w' }
theorem HR.after {w0 : World} {O0 : Nat → Prop} {e : E A} (hr : HR P u w0 O0 e) {w' : World} (hb : Below e.w.heap.size e.w w') : HR P u w0 O0 (afterE e w') ∧ Ext e (afterE e w') := by
  have hext : Ext e (afterE e w') := ⟨hb.size, fun b hb' hO => ⟨hO, hb.block b hb'⟩, fun id hid => ⟨.refl hid, fun _ => rfl⟩⟩
  refine ⟨⟨hr.below.trans (hb.mono hr.below.size), hr.o0, hr.inj, hr.O, fun id => ?_⟩, hext⟩
  by_cases hf : e.own id = .free
  · show EntOk P u (afterE e w') _ id (e.own id); rw [hf]; trivial
  · by_cases hd : e.own id = .dead
    · show EntOk P u (afterE e w') _ id (e.own id); rw [hd]; trivial
    · refine (hr.ent id).later P u hext rfl (fun b c hβ => hb.block b ?_)
      obtain ⟨b', c', arr, T, h1, _, h3⟩ := (hr.ent id).place P u hf hd
      rw [h1] at hβ; cases hβ
      exact lt_of_get h3
theorem HR.O_lt {w0 : World} {O0 : Nat → Prop} {e : E A} (hr : HR P u w0 O0 e) : ∀ b, e.O b → b < e.w.heap.size := by
  intro b hb
  rcases (hr.O b).1 hb with h | ⟨id, c, h1, h2⟩
  · exact Nat.lt_of_lt_of_le (hr.o0 b h) hr.below.size
  · obtain ⟨b', c', arr, T, h3, _, h4⟩ := (hr.ent id).place P u (by intro h; rw [h] at h1; cases h1) (by intro h; rw [h] at h1; cases h1)
    rw [h3] at h2; cases h2
    exact lt_of_get h4

theorem call_sound {tab : List (Nat × Spec A)} (hL : Laws P u tab) {w0 : World} {O0 : Nat → Prop} {e : E A} {o : Oper} {a : Act} {ev : Operand → SV A} {c : Option Prop} {y : SV A} {cc : Call} {f : Operand} {next : Act → World → Prop} {Q : Exit → Act → World → Prop}
    (hr : HR P u w0 O0 e) (hev : ∀ x, RepL P u e [ev x] [a.eval x]) (hop : o.op = .call cc) (hcal : cc.callee = .value f) (h : callS P tab e.own (ev f) (cc.args.toList.map ev) = some (c, y)) (hc : holds c)
    (hn : ∀ v e', HR P u w0 O0 e' → Ext e e' → e'.own = e.own → RepL P u e' [y] [v] → next (a.put o.dst v) e'.w) : o.wp P a e.w next Q := by
  unfold callS at h
  split at h
  · rename_i g cap hf
    split at h
    · rename_i hb
      split at h
      · rename_i sp hsp
        split at h
        · rename_i c' y' hspec
          split at h
          · rename_i hno
            cases h
            have hfr := hev f
            rw [hf] at hfr
            generalize hvf : a.eval f = vf at hfr
            cases hfr with
            | fn _ _ caps hcaps _ =>
              have hargs := reps P u hev cc.args.toList
              have hcaps' : RepL P u (outer e.w (quietO e (anyRow e.own (cc.args.toList.map ev)))) cap caps :=
                (hcaps.bare P u).ext P u (e := bareE e) (e' := outer e.w (quietO e (anyRow e.own (cc.args.toList.map ev)))) ⟨Nat.le_refl _, fun b _ ho => ⟨fun hq => ho hq.1, rfl⟩, fun _ _ => ⟨.dead _, fun hd => absurd rfl hd⟩⟩
              have hall := (args_rep P u hL.clean hr (rows := anyRow e.own (cc.args.toList.map ev)) hargs (fun h => h)).append P u hcaps'
              have hrun : (execOp a.eval o).run P e.w = .ok (.enter g ((cc.args.toList.map a.eval ++ caps).toArray)) e.w := by
                unfold execOp
                rw [hop]
                simp only [resolve, hcal, hvf, Deferred.ofValue, Sem.run_bind, Sem.run_pure, Result.andThen, invoke]
                rw [run_callFunc P hb]
                congr 2
                apply Array.ext'
                simp
              unfold Oper.wp
              rw [hrun, Oper.upon_enter]
              refine (find_ok P u hL.tab hsp _ _ _ hspec hc e.w (quietO e (anyRow e.own (cc.args.toList.map ev))) _ (fun b hb => hr.O_lt P u b hb.1) hall).mono ?_
              rintro r w' ⟨v, rfl, hbel, hv⟩
              obtain ⟨h1, h2⟩ := hr.after P u hbel
              simp only [Bool.and_eq_true, Bool.or_eq_true, Bool.not_eq_true'] at hno
              refine hn v (afterE e w') h1 h2 rfl ?_
              rcases hno.2 with hfl | hnr
              · exact hv.flat P u (by simp [flat.go, hfl])
              · refine hv.unbare P u hL.clean (e := outer w' (quietO e (anyRow e.own (cc.args.toList.map ev)))) (e' := afterE e w') rfl (fun b hb hO => hb ⟨hO, fun hx => ?_⟩) (by simp [noOwn.go, hno.1])
                rw [hnr] at hx
                cases hx
          · cases h
        · cases h
      · cases h
    · cases h
  · cases h
end
end Go.Proofs.Ytacafjapnppacaa.Sx
