/- An abstract machine over values by content, ninth part: own blocks under other numbers; contracts. -/
import Derived.Test.YtndacggailoogaaSxX
namespace Go.Proofs.Ytndacggailoogaa.Sx
open Go Go.RowKit

section
variable {A : Nat → Type} (P : Program) (u : U A)

/-- The own blocks that a value names. -/
def ids : SV A → List Nat
  | .optr id _ => [id]
  | .rptr id _ _ => [id]
  | .osl id _ _ => [id]
  | .esl id _ _ _ _ _ => [id]
  | .bptr id _ _ _ _ => [id]
  | .omap id => [id]
  | .cx id _ _ => [id]
  | .np id _ _ => [id]
  | .orow id => [id]
  | .vsl id _ _ => [id]
  | .agg l => go l
  | .tup l => go l
  | .fn _ l => go l
  | .cptr l _ => go l
  | .wh _ _ x => ids x
  | _ => []
where go : List (SV A) → List Nat
  | [] => []
  | x :: r => ids x ++ go r
theorem ids_go_mem {id : Nat} : ∀ {l : List (SV A)} {x : SV A}, x ∈ l → id ∈ ids x → id ∈ ids.go l := by
  intro l
  induction l with
  | nil => intro x hx; cases hx
  | cons y l ih =>
    intro x hx h
    simp only [ids.go, List.mem_append]
    rcases List.mem_cons.1 hx with rfl | hx
    · exact .inl h
    · exact .inr (ih hx h)
/-- The same under other numbers. -/
def ren (φ : Nat → Nat) : SV A → SV A
  | .optr id off => .optr (φ id) off
  | .rptr id idx off => .rptr (φ id) idx off
  | .osl id lo len => .osl (φ id) lo len
  | .esl id idx off S lo len => .esl (φ id) idx off S lo len
  | .bptr id idx off S i => .bptr (φ id) idx off S i
  | .omap id => .omap (φ id)
  | .cx id p off => .cx (φ id) p off
  | .np id x off => .np (φ id) x off
  | .orow id => .orow (φ id)
  | .vsl id off len => .vsl (φ id) off len
  | .agg l => .agg (go l)
  | .tup l => .tup (go l)
  | .fn f l => .fn f (go l)
  | .cptr l off => .cptr (go l) off
  | .wh d p x => .wh d p (ren φ x)
  | .lit b => .bool b
  | x => x
where go : List (SV A) → List (SV A)
  | [] => []
  | x :: r => ren φ x :: go r
def renO (φ : Nat → Nat) : Own A → Own A
  | .var cs => .var (ren.go φ cs)
  | .rowC T xs k cs => .rowC T xs k (ren.go φ cs)
  | .nod cs => .nod (ren.go φ cs)
  | .prow a js => .prow (φ a) js
  | o => o
/-- e' is e under other numbers, as far as some blocks go. -/
structure Ren (φ : Nat → Nat) (e e' : E A) (L : List Nat) : Prop where
  w : e'.w = e.w
  O : ∀ b, ¬ e.O b → ¬ e'.O b
  own : ∀ id ∈ L, e'.own (φ id) = renO φ (e.own id)
  β : ∀ id ∈ L, e.own id ≠ .free → e.own id ≠ .dead → e'.β (φ id) = e.β id
  ownN : ∀ id ∈ L, ∀ j, (e.own (nodeNo id j)).isNod = true → (e'.own (nodeNo (φ id) j)).isNod = true ∧ e'.β (nodeNo (φ id) j) = e.β (nodeNo id j)
  lk : Lk e.own
theorem Ren.mono {φ : Nat → Nat} {e e' : E A} {L L' : List Nat} (h : Ren φ e e' L) (hl : ∀ id ∈ L', id ∈ L) : Ren φ e e' L' := ⟨h.w, h.O, fun id hi => h.own id (hl id hi), fun id hi => h.β id (hl id hi), fun id hi => h.ownN id (hl id hi), h.lk⟩
theorem NpOk.ren {φ : Nat → Nat} {e e' : E A} {id off : Nat} {x : NP} {v : Value} (h : NpOk e id off x v) (hr : Ren φ e e' [id]) : NpOk e' (φ id) off x v := by
  have hm : id ∈ [id] := List.mem_singleton.2 rfl
  cases x with
  | nd y =>
    cases y with
    | none => exact h
    | some j =>
      obtain ⟨h1, b, c, h2, rfl⟩ := h
      obtain ⟨g1, g2⟩ := hr.ownN id hm j h1
      exact ⟨g1, b, c, g2.trans h2, rfl⟩
  | row =>
    obtain ⟨b, c, cap, a, js, h1, h2, h3, h4, rfl⟩ := h
    have g1 := hr.own id hm
    have g2 := hr.β id hm (by rw [h1]; simp) (by rw [h1]; simp)
    rw [h1] at g1
    exact ⟨b, c, cap, _, js, g1, g2.trans h2, h3, h4, rfl⟩
  | rp i =>
    obtain ⟨b, c, a, js, h1, h2, h3, rfl⟩ := h
    have g1 := hr.own id hm
    have g2 := hr.β id hm (by rw [h1]; simp) (by rw [h1]; simp)
    rw [h1] at g1
    exact ⟨b, c, _, js, g1, g2.trans h2, h3, rfl⟩
theorem NpDead.ren {φ : Nat → Nat} {e e' : E A} {id : Nat} {x : NP} {v : Value} (h : NpDead e id x v) (hr : Ren φ e e' [id]) : NpDead e' (φ id) x v := by
  obtain ⟨h, hv⟩ := h
  refine ⟨?_, hv⟩
  have key : e.own id = .dead → e'.own (φ id) = .dead := by
    intro hd
    have := hr.own id (List.mem_singleton.2 rfl)
    rw [hd] at this
    exact this
  cases x with
  | nd y =>
    cases y with
    | none => exact h
    | some j => exact absurd h (hr.lk.not_dead _ _)
  | row => exact key h
  | rp i => exact key h
theorem RepL.ren (hclean : ∀ T x, noOwn.go (u.enc T x) = true) {φ : Nat → Nat} {e e' : E A} {xs : List (SV A)} {vs : List Value} (h : RepL P u e xs vs) : Ren φ e e' (ids.go xs) → RepL P u e' (Sx.ren.go φ xs) vs := by
  have hsplit : ∀ {x : SV A} {xs : List (SV A)}, Ren φ e e' (ids.go (x :: xs)) → Ren φ e e' (ids x) ∧ Ren φ e e' (ids.go xs) := by
    intro x xs hr
    simp only [ids.go] at hr
    exact ⟨hr.mono (fun id hi => List.mem_append_left _ hi), hr.mono (fun id hi => List.mem_append_right _ hi)⟩
  have rowOf : ∀ {id T : Nat} {ys : List (A T)}, Ren φ e e' [id] → (e.own id = .row T ys ∨ e.own id = .fro T ys) → (e'.own (φ id) = .row T ys ∨ e'.own (φ id) = .fro T ys) ∧ e'.β (φ id) = e.β id := by
    intro id T ys hr ho
    have h1 := hr.own id (List.mem_singleton.2 rfl)
    have h2 := hr.β id (List.mem_singleton.2 rfl) (by rcases ho with ho | ho <;> rw [ho] <;> simp) (by rcases ho with ho | ho <;> rw [ho] <;> simp)
    rcases ho with ho | ho
    · rw [ho] at h1; exact ⟨.inl h1, h2⟩
    · rw [ho] at h1; exact ⟨.inr h1, h2⟩
  have varOf : ∀ {id : Nat}, Ren φ e e' [id] → (e.own id).isVar = true → (e'.own (φ id)).isVar = true ∧ e'.β (φ id) = e.β id := by
    intro id hr ho
    have h1 := hr.own id (List.mem_singleton.2 rfl)
    have h2 := hr.β id (List.mem_singleton.2 rfl) (by intro h; rw [h] at ho; cases ho) (by intro h; rw [h] at ho; cases ho)
    refine ⟨?_, h2⟩
    rw [h1]
    generalize e.own id = o at ho
    cases o <;> first | rfl | cases ho
  have deadOf : ∀ {id : Nat}, Ren φ e e' [id] → e.own id = .dead → e'.own (φ id) = .dead := by
    intro id hr ho
    have h1 := hr.own id (List.mem_singleton.2 rfl)
    rw [ho] at h1
    exact h1
  induction h with
  | nil => intro _; exact .nil
  | top v _ ih => intro hr; exact .top v (ih (hsplit hr).2)
  | undef _ ih => intro hr; exact .undef (ih (hsplit hr).2)
  | int k n _ ih => intro hr; exact .int k n (ih (hsplit hr).2)
  | bool b _ ih => intro hr; exact .bool b (ih (hsplit hr).2)
  | lit b _ ih => intro hr; exact .bool b (ih (hsplit hr).2)
  | str s _ ih => intro hr; exact .str s (ih (hsplit hr).2)
  | nilp _ ih => intro hr; exact .nilp (ih (hsplit hr).2)
  | nils _ ih => intro hr; exact .nils (ih (hsplit hr).2)
  | fn f cap caps _ _ ih1 ih2 => intro hr; exact .fn f _ caps (ih1 (hsplit hr).1) (ih2 (hsplit hr).2)
  | agg l cs _ _ ih1 ih2 => intro hr; exact .agg _ cs (ih1 (hsplit hr).1) (ih2 (hsplit hr).2)
  | tup l cs _ _ ih1 ih2 => intro hr; exact .tup _ cs (ih1 (hsplit hr).1) (ih2 (hsplit hr).2)
  | csl T ys a len cap vss hl hc hm hz hx _ ihx ih =>
    intro hr
    exact .csl T ys a len cap vss hl hc (hm.imp id fun ⟨b, o, h1, h2, h3, h4⟩ => ⟨b, o, h1, by rw [hr.w]; exact h2, hr.O b h3, by rw [hr.w]; exact h4⟩) hz (fun i x hi => (hx i x hi).unbare P u hclean hr.w hr.O (hclean _ _)) (ih (hsplit hr).2)
  | nsl q T ys a len cap vss hl hc hm hz hx hq _ ihx ih =>
    intro hr
    exact .nsl q T ys a len cap vss hl hc (hm.imp id fun ⟨b, o, h1, h2, h3, h4⟩ => ⟨b, o, h1, by rw [hr.w]; exact h2, hr.O b h3, by rw [hr.w]; exact h4⟩) hz (fun i x hi => (hx i x hi).unbare P u hclean hr.w hr.O (hclean _ _)) hq (ih (hsplit hr).2)
  | cptr cs off b o cv hb ho hm _ _ ihx ih =>
    intro hr
    exact .cptr _ off b o cv (by rw [hr.w]; exact hb) (hr.O b ho) (by rw [hr.w]; exact hm) (ihx (hsplit hr).1) (ih (hsplit hr).2)
  | optr id off b c hv hβ _ ih => intro hr; obtain ⟨h1, h2⟩ := varOf (hsplit hr).1 hv; exact .optr _ off b c h1 (h2.trans hβ) (ih (hsplit hr).2)
  | optrD id off v hv h1 _ ih => intro hr; exact .optrD _ off v (deadOf (hsplit hr).1 hv) h1 (ih (hsplit hr).2)
  | rptr id idx off b c T ys hv hβ hi _ ih => intro hr; obtain ⟨h1, h2⟩ := rowOf (hsplit hr).1 hv; exact .rptr _ idx off b c T ys h1 (h2.trans hβ) hi (ih (hsplit hr).2)
  | rptrD id idx off v hv h1 _ ih => intro hr; exact .rptrD _ idx off v (deadOf (hsplit hr).1 hv) h1 (ih (hsplit hr).2)
  | osl id lo len b c cap T ys hv hβ hi hc _ ih => intro hr; obtain ⟨h1, h2⟩ := rowOf (hsplit hr).1 hv; exact .osl _ lo len b c cap T ys h1 (h2.trans hβ) hi hc (ih (hsplit hr).2)
  | esl id idx off S lo len b c cap T ys hv hβ hi hc hp _ ih => intro hr; obtain ⟨h1, h2⟩ := rowOf (hsplit hr).1 hv; exact .esl _ idx off S lo len b c cap T ys h1 (h2.trans hβ) hi hc hp (ih (hsplit hr).2)
  | bptr id idx off S i b c T ys hv hβ hi hp _ ih => intro hr; obtain ⟨h1, h2⟩ := rowOf (hsplit hr).1 hv; exact .bptr _ idx off S i b c T ys h1 (h2.trans hβ) hi hp (ih (hsplit hr).2)
  | bptrD id idx off S i v hv h1 _ ih => intro hr; exact .bptrD _ idx off S i v (deadOf (hsplit hr).1 hv) h1 (ih (hsplit hr).2)
  | omap id b c K V kvs hv hβ _ ih =>
    intro hr
    have h1 := (hsplit hr).1.own id (List.mem_singleton.2 rfl)
    have h2 := (hsplit hr).1.β id (List.mem_singleton.2 rfl) (by rw [hv]; simp) (by rw [hv]; simp)
    rw [hv] at h1
    exact .omap _ b c K V kvs h1 (h2.trans hβ) (ih (hsplit hr).2)
  | omapD id v hv h1 _ ih => intro hr; exact .omapD _ v (deadOf (hsplit hr).1 hv) h1 (ih (hsplit hr).2)
  | cx id p off b c cap k T ys cs v hv hβ hc hq _ ih =>
    intro hr
    have h1 := (hsplit hr).1.own id (List.mem_singleton.2 rfl)
    have h2 := (hsplit hr).1.β id (List.mem_singleton.2 rfl) (by rw [hv]; simp) (by rw [hv]; simp)
    rw [hv] at h1
    exact .cx _ p off b c cap k T ys _ v h1 (h2.trans hβ) hc hq (ih (hsplit hr).2)
  | cxD id p off v hv h1 _ ih => intro hr; exact .cxD _ p off v (deadOf (hsplit hr).1 hv) h1 (ih (hsplit hr).2)
  | np id x off v hv _ ih => intro hr; exact .np _ x off v (hv.ren (hsplit hr).1) (ih (hsplit hr).2)
  | npD id x off v hv _ ih => intro hr; exact .npD _ x off v (hv.ren (hsplit hr).1) (ih (hsplit hr).2)
  | eslD id idx off S lo len v hv h1 _ ih => intro hr; exact .eslD _ idx off S lo len v (deadOf (hsplit hr).1 hv) h1 (ih (hsplit hr).2)
  | oslD id lo len v hv h1 _ ih => intro hr; exact .oslD _ lo len v (deadOf (hsplit hr).1 hv) h1 (ih (hsplit hr).2)
  | oslZ id lo T ys a hv hlo _ ih => intro hr; obtain ⟨h1, _⟩ := rowOf (hsplit hr).1 hv; exact .oslZ _ lo T ys a h1 hlo (ih (hsplit hr).2)
  | orow id b c cap T ys hv hβ hc _ ih => intro hr; obtain ⟨h1, h2⟩ := rowOf (hsplit hr).1 hv; exact .orow _ b c cap T ys h1 (h2.trans hβ) hc (ih (hsplit hr).2)
  | orowN id T a hv _ ih => intro hr; obtain ⟨h1, _⟩ := rowOf (hsplit hr).1 hv; exact .orowN _ T a h1 (ih (hsplit hr).2)
  | orowD id v hv h1 _ ih => intro hr; exact .orowD _ v (deadOf (hsplit hr).1 hv) h1 (ih (hsplit hr).2)
  | zsl a _ ih => intro hr; exact .zsl a (ih (hsplit hr).2)
  | vsl id off len b c cap hv hβ hc _ ih => intro hr; obtain ⟨h1, h2⟩ := varOf (hsplit hr).1 hv; exact .vsl _ off len b c cap h1 (h2.trans hβ) hc (ih (hsplit hr).2)
  | vslD id off len v hv h1 _ ih => intro hr; exact .vslD _ off len v (deadOf (hsplit hr).1 hv) h1 (ih (hsplit hr).2)
  | el T x cs hx _ _ ih => intro hr; exact .el T x cs (hx.unbare P u hclean hr.w hr.O (hclean _ _)) (ih (hsplit hr).2)

/-! ### contracts -/
/-- A contract of a function that writes nowhere but into blocks that it lays and leaves behind: from arguments to what is asked of them and the answer. -/
abbrev Spec (A : Nat → Type) := List (SV A) → Option (Option Prop × SV A)
/-- A contract of a function that is handed blocks to be written: these by their numbers 0, 1, ..; behind the call these and, behind them, new ones. -/
abbrev HSpec (A : Nat → Type) := List (SV A) → List (Own A) → Option (Option Prop × SV A × List (Own A))
/-- A contract of a function that is handed blocks and leaves them as they were. -/
abbrev LSpec (A : Nat → Type) := List (SV A) → List (Own A) → Option (Option Prop × SV A)
def lookH (sp : LSpec A) : HSpec A := fun xs os => match sp xs os with
  | some (c, y) => some (c, y, os)
  | none => none
/-- A contract of a function that goes one of two ways, each with a result of its own make. -/
abbrev FSpec (A : Nat → Type) := List (SV A) → List (Own A) → Option (Option Prop × Bool × (SV A × List (Own A)) × (SV A × List (Own A)))
def pickF (b : Bool) (sp : FSpec A) : HSpec A := fun xs os => match sp xs os with
  | some (c, t, r1, r2) => (match b with
    | true => some (some ((match c with
      | some p => p
      | none => True) ∧ t = true), r1.1, r1.2)
    | false => some (some ((match c with
      | some p => p
      | none => True) ∧ t = false), r2.1, r2.2))
  | none => none
inductive Con (A : Nat → Type)
  | pure (sp : Spec A)
  | heap (sp : HSpec A)
  | look (sp : LSpec A)
  | fork (sp : FSpec A)
def ownB (os : List (Own A)) (id : Nat) : Own A := match os[id]? with
  | some o => o
  | none => .free
def ownL (os : List (Own A)) : Nat → Own A := hid (ownB os)
theorem ownL_lt {os : List (Own A)} {id : Nat} (h : id < 1152921504606846976) : ownL os id = ownB os id := hid_lt h
theorem ownL_lk (os : List (Own A)) : Lk (ownL os) := .hid _
def outer (w : World) (O : Nat → Prop) : E A := { w := w, O := O, own := fun _ => .dead, β := fun _ => none }
def FnOk (f : Nat) (sp : Spec A) : Prop := ∀ xs c y, sp xs = some (c, y) → holds c → ∀ (w : World) (O : Nat → Prop) vs, (∀ b, O b → b < w.heap.size) → RepL P u (outer w O) xs vs →
  Calls P f vs.toArray w fun r w' => ∃ v, r = .returned v ∧ Below w.heap.size w w' ∧ RepL P u (outer w' O) [y] [v]
def FnOkH (f : Nat) (sp : HSpec A) : Prop := ∀ xs os c y os2, sp xs os = some (c, y, os2) → holds c → ∀ (w0 : W0) (O0 : Nat → Prop) (e : E A) vs, HR P u w0 O0 e → e.own = ownL os → RepL P u e xs vs →
  Calls P f vs.toArray e.w fun r w' => ∃ v e', r = .returned v ∧ e'.w = w' ∧ HR P u w0 O0 e' ∧ (∀ id, e.own id ≠ .free → (e.own id).later (e'.own id)) ∧ e'.own = ownL os2 ∧ RepL P u e' [y] [v]
def ConOk (f : Nat) : Con A → Prop
  | .pure sp => FnOk P u f sp
  | .heap sp => FnOkH P u f sp
  | .look sp => FnOkH P u f (lookH sp)
  | .fork sp => ∀ b, FnOkH P u f (pickF b sp)
def TabOk (tab : List (Nat × Con A)) : Prop := ∀ p ∈ tab, ConOk P u p.1 p.2
def find (tab : List (Nat × Con A)) (f : Nat) : Option (Con A) := match tab with
  | [] => none
  | (g, sp) :: r => if g = f then some sp else find r f
theorem find_ok {tab : List (Nat × Con A)} (h : TabOk P u tab) {f : Nat} {sp : Con A} (hf : find tab f = some sp) : ConOk P u f sp := by
  induction tab with
  | nil => cases hf
  | cons p r ih =>
    obtain ⟨g, s⟩ := p
    unfold find at hf
    split at hf
    · rename_i hg
      cases hf
      subst hg
      exact h _ (List.mem_cons_self ..)
    · exact ih (fun q hq => h q (List.mem_cons_of_mem _ hq)) hf
structure Laws (tab : List (Nat × Con A)) : Prop extends Law P u where
  clean : ∀ T x, noOwn.go (u.enc T x) = true
  tab : TabOk P u tab

/-- The table for one of the two ways. -/
def pickC (b : Bool) : Con A → Con A
  | .fork sp => .heap (pickF b sp)
  | x => x
def pickT (b : Bool) : List (Nat × Con A) → List (Nat × Con A)
  | [] => []
  | (g, x) :: r => (g, pickC b x) :: pickT b r
theorem Laws.pick {tab : List (Nat × Con A)} (h : Laws P u tab) (b : Bool) : Laws P u (pickT b tab) := by
  refine ⟨h.toLaw, h.clean, ?_⟩
  have key : ∀ tab : List (Nat × Con A), TabOk P u tab → TabOk P u (pickT b tab) := by
    intro tab
    induction tab with
    | nil => intro _ p hp; cases hp
    | cons q r ih =>
      obtain ⟨g, x⟩ := q
      intro h p hp
      unfold pickT at hp
      rcases List.mem_cons.1 hp with rfl | hp
      · have hx := h (g, x) (List.mem_cons_self ..)
        cases x with
        | pure sp => exact hx
        | heap sp => exact hx
        | look sp => exact hx
        | fork sp => exact hx b
      · exact ih (fun q hq => h q (List.mem_cons_of_mem _ hq)) p hp
  exact key tab h.tab
def hasBody (f : Nat) : Bool := match P.funcs[f]? with
  | some fn => !(fn.name == "runtime.NumGoroutine") && fn.body.isSome
  | none => false
theorem run_callFunc {f : Nat} (h : hasBody P f = true) (args : Array Value) (w : World) : (callFunc f args).run P w = .ok (.enter f args) w := by
  unfold hasBody at h
  split at h
  · rename_i fn hf
    simp only [Bool.and_eq_true, Bool.not_eq_true', beq_eq_false_iff_ne, ne_eq] at h
    obtain ⟨b, hb⟩ := Option.isSome_iff_exists.1 h.2
    simp [callFunc, hf, h.1, hb]
  · cases h
/-- A value that hangs of no memory. -/
def flat : SV A → Bool
  | .agg l => go l
  | .tup l => go l
  | .fn _ l => go l
  | .cptr _ _ | .csl _ _ | .nsl _ _ _ | .optr _ _ | .rptr _ _ _ | .osl _ _ _ | .esl _ _ _ _ _ _ | .bptr _ _ _ _ _ | .omap _ | .cx _ _ _ | .np _ _ _ | .orow _ | .vsl _ _ _ | .el _ _ | .wh _ _ _ => false
  | _ => true
where go : List (SV A) → Bool
  | [] => true
  | x :: r => flat x && go r
theorem RepL.flat {e e' : E A} {xs : List (SV A)} {vs : List Value} (h : RepL P u e xs vs) : flat.go xs = true → RepL P u e' xs vs := by
  induction h with
  | nil => intro _; exact .nil
  | top v _ ih => intro hn; exact .top v (ih (by simpa [flat.go, Sx.flat] using hn))
  | undef _ ih => intro hn; exact .undef (ih (by simpa [flat.go, Sx.flat] using hn))
  | int k n _ ih => intro hn; exact .int k n (ih (by simpa [flat.go, Sx.flat] using hn))
  | bool b _ ih => intro hn; exact .bool b (ih (by simpa [flat.go, Sx.flat] using hn))
  | lit b _ ih => intro hn; exact .lit b (ih (by simpa [flat.go, Sx.flat] using hn))
  | str s _ ih => intro hn; exact .str s (ih (by simpa [flat.go, Sx.flat] using hn))
  | nilp _ ih => intro hn; exact .nilp (ih (by simpa [flat.go, Sx.flat] using hn))
  | nils _ ih => intro hn; exact .nils (ih (by simpa [flat.go, Sx.flat] using hn))
  | zsl a _ ih => intro hn; exact .zsl a (ih (by simpa [flat.go, Sx.flat] using hn))
  | fn f cap caps _ _ ih1 ih2 => intro hn; simp only [flat.go, Sx.flat, Bool.and_eq_true] at hn; exact .fn f cap caps (ih1 hn.1) (ih2 hn.2)
  | agg l cs _ _ ih1 ih2 => intro hn; simp only [flat.go, Sx.flat, Bool.and_eq_true] at hn; exact .agg l cs (ih1 hn.1) (ih2 hn.2)
  | tup l cs _ _ ih1 ih2 => intro hn; simp only [flat.go, Sx.flat, Bool.and_eq_true] at hn; exact .tup l cs (ih1 hn.1) (ih2 hn.2)
  | _ => intro hn; simp [flat.go, Sx.flat] at hn

/-! ### arguments by content -/
/-- What a callee that only reads is handed: an own block by its content. -/
def arg1 (own : Nat → Own A) (x : SV A) : SV A := match x with
  | .orow id => match own id with
    | .row T xs => .csl T xs
    | .fro T xs => .csl T xs
    | _ => .orow id
  | .osl id lo len => match own id with
    | .row T xs => .csl T ((xs.drop lo).take len)
    | .fro T xs => .csl T ((xs.drop lo).take len)
    | _ => .osl id lo len
  | .optr id off => match own id with
    | .var cs => if noOwn.go cs then .cptr cs off else .optr id off
    | _ => .optr id off
  | .rptr id idx off => match own id with
    | .row T xs => .cptr (u.enc T (xs.getD idx (u.dflt T))) off
    | .fro T xs => .cptr (u.enc T (xs.getD idx (u.dflt T))) off
    | _ => .rptr id idx off
  | .lit b => .bool b
  | x => x
def argL (own : Nat → Own A) : List (SV A) → List (SV A)
  | [] => []
  | x :: r => arg1 u own x :: argL own r
def argS (own : Nat → Own A) (x : SV A) : SV A := match x with
  | .fn f cap => .fn f (argL u own cap)
  | .agg l => .agg (argL u own l)
  | x => arg1 u own x
/-- The blocks that a callee finds written to by others: some of the caller's are at rest meanwhile. -/
def quietO (e : E A) (L : List Nat) (b : Nat) : Prop := e.O b ∧ ¬ ∃ id c, id ∈ L ∧ e.own id ≠ .free ∧ e.own id ≠ .dead ∧ e.β id = some (b, c)
theorem SliceIs.csl {e e' : E A} {T : Nat} {xs : List (A T)} {v : Value} (hclean : ∀ T x, noOwn.go (u.enc T x) = true) (h : SliceIs P u e T xs v) (hw : e'.w = e.w) (hO : ∀ b, ¬ e.O b → ¬ e'.O b) (hb : ∀ b o len cap, v = .slice (some ⟨b, o, none⟩) len cap → xs ≠ [] → ¬ e'.O b) : RepL P u e' [.csl T xs] [v] := by
  obtain ⟨a, len, cap, vss, rfl, h1, h2, h3, h4, h5⟩ := h
  by_cases hx : xs = []
  · subst hx
    exact .csl T [] a len cap vss h1 h2 (.inl rfl) h4 (fun i x hi => by simp at hi) .nil
  · refine .csl T xs a len cap vss h1 h2 (h3.imp (fun h => h) fun ⟨b, o, g1, g2, g3⟩ => ⟨b, o, g1, by rw [hw]; exact g2, hb b o len cap (by rw [g1]) hx, by rw [hw]; exact g3⟩) h4 (fun i x hi => (h5 i x hi).unbare P u hclean hw hO (hclean _ _)) .nil
theorem RepL.quiet {e : E A} {L : List Nat} {xs : List (SV A)} {vs : List Value} (hx : RepL P u e xs vs) : RepL P u (outer e.w (quietO e L)) xs vs :=
  (hx.bare P u).ext P u (e := bareE e) (e' := outer e.w (quietO e L)) ⟨Nat.le_refl _, fun b _ ho => ⟨fun hq => ho hq.1, rfl⟩, fun _ _ => ⟨.dead _, fun hd => absurd rfl hd⟩⟩
theorem arg1_rep (hclean : ∀ T x, noOwn.go (u.enc T x) = true) {w0 : W0} {O0 : Nat → Prop} {e : E A} (hr : HR P u w0 O0 e) {L : List Nat} {x : SV A} {v : Value} (hx : RepL P u e [x] [v]) (h : ∀ id ∈ ids x, id ∈ L) :
    RepL P u (outer e.w (quietO e L)) [arg1 u e.own x] [v] := by
  have hplain : RepL P u (outer e.w (quietO e L)) [x] [v] := hx.quiet P u
  have hO : ∀ b, ¬ e.O b → ¬ (outer (A := A) e.w (quietO e L)).O b := fun b hb hq => hb hq.1
  unfold arg1
  split
  · rename_i id
    have hb : ∀ {T : Nat} {xs : List (A T)}, (e.own id = .row T xs ∨ e.own id = .fro T xs) → ∀ b o len cap, v = .slice (some ⟨b, o, none⟩) len cap → xs ≠ [] → ¬ (outer (A := A) e.w (quietO e L)).O b := by
      rintro T xs ho b o len cap hv hne hq
      subst hv
      have hf : e.own id ≠ .free ∧ e.own id ≠ .dead := by rcases ho with ho | ho <;> rw [ho] <;> simp
      cases hx with
      | orow _ b c _ T ys hv hβ hc _ => exact hq.2 ⟨id, _, h id (by simp [ids]), hf.1, hf.2, hβ⟩
      | orowN _ T2 a hv _ => rcases ho with ho | ho <;> rw [ho] at hv <;> rcases hv with hv | hv <;> cases hv <;> exact hne rfl
      | orowD _ _ hd _ _ => exact hf.2 hd
    split
    · rename_i T xs ho
      exact (orow_slice P u hr (.inl ho) hx).csl P u hclean rfl hO (hb (.inl ho))
    · rename_i T xs ho
      exact (orow_slice P u hr (.inr ho) hx).csl P u hclean rfl hO (hb (.inr ho))
    · exact hplain
  · rename_i id lo len
    have hb : ∀ {T : Nat} {xs : List (A T)}, (e.own id = .row T xs ∨ e.own id = .fro T xs) → ∀ b o len' cap, v = .slice (some ⟨b, o, none⟩) len' cap → (xs.drop lo).take len ≠ [] → ¬ (outer (A := A) e.w (quietO e L)).O b := by
      rintro T xs ho b o len' cap hv hne hq
      subst hv
      have hf : e.own id ≠ .free ∧ e.own id ≠ .dead := by rcases ho with ho | ho <;> rw [ho] <;> simp
      cases hx with
      | osl _ _ _ b c _ T ys hv hβ hi hc _ => exact hq.2 ⟨id, _, h id (by simp [ids]), hf.1, hf.2, hβ⟩
      | oslZ => exact hne (by simp)
      | oslD _ _ _ _ hd _ _ => exact hf.2 hd
    split
    · rename_i T xs ho
      exact (row_slice P u hr (.inl ho) hx).csl P u hclean rfl hO (hb (.inl ho))
    · rename_i T xs ho
      exact (row_slice P u hr (.inr ho) hx).csl P u hclean rfl hO (hb (.inr ho))
    · exact hplain
  · rename_i id off
    split
    · rename_i cs ho
      split
      · rename_i hno
        have hent := hr.ent id
        rw [ho] at hent
        obtain ⟨b, c, vs, T, hβ, _, hheap, hrep⟩ := hent
        cases hx with
        | optrD _ _ _ hd _ _ => rw [ho] at hd; cases hd
        | optr _ _ b' c' hv hβ' _ =>
          rw [hβ] at hβ'; cases hβ'
          have := RepL.cptr (P := P) (u := u) (e := outer e.w (quietO e L)) (xs := []) (vs := []) cs off b 0 vs (lt_of_get hheap) (fun hq => hq.2 ⟨id, _, h id (by simp [ids]), by rw [ho]; simp, by rw [ho]; simp, hβ⟩) (cellsAt_heap hheap) (hrep.unbare P u hclean (e := e) (e' := outer e.w (quietO e L)) rfl hO hno) .nil
          simpa using this
      · exact hplain
    · exact hplain
  · rename_i id idx off
    have key : ∀ {T : Nat} {xs : List (A T)}, (e.own id = .row T xs ∨ e.own id = .fro T xs) → RepL P u (outer e.w (quietO e L)) [.cptr (u.enc T (xs.getD idx (u.dflt T))) off] [v] := by
      intro T xs ho
      have hf : e.own id ≠ .free ∧ e.own id ≠ .dead := by rcases ho with ho | ho <;> rw [ho] <;> simp
      have hent : EntOk P u e w0.fr id (.row T xs) := by
        have := hr.ent id
        rcases ho with ho | ho <;> rw [ho] at this <;> exact this
      cases hx with
      | rptrD _ _ _ _ hd _ _ => exact absurd hd hf.2
      | rptr _ _ _ b' c' T2 ys hv hβ' hi _ =>
        have hsame : T2 = T ∧ HEq ys xs := by
          rcases ho with ho | ho <;> rw [ho] at hv <;> rcases hv with hv | hv <;> cases hv <;> exact ⟨rfl, HEq.rfl⟩
        obtain ⟨rfl, hys⟩ := hsame
        cases hys
        rcases hent with ⟨_, hn⟩ | ⟨b, c, arr, T', fz, vss, hβ, _, hheap, _, hlen, hc, hel⟩
        · rw [hn] at hβ'; cases hβ'
        rw [hβ] at hβ'; cases hβ'
        have hget : ys[idx]? = some (ys.getD idx (u.dflt T2)) := by simp [List.getD, List.getElem?_eq_getElem hi]
        obtain ⟨h1, h2, h3⟩ := hel idx _ hget
        refine .cptr _ off b' (idx * P.cellsOf T2) (vss idx) (lt_of_get hheap) (fun hq => hq.2 ⟨id, c', h id (by simp [ids]), hf.1, hf.2, hβ⟩) (fun j v hj => ?_) (h1.unbare P u hclean (e := e) (e' := outer e.w (quietO e L)) rfl hO (hclean _ _)) .nil
        have := cellsAt_heap hheap _ v (h3 j v hj)
        show e.w.cell? _ = _
        simpa using this
    split
    · rename_i T xs ho; exact key (.inl ho)
    · rename_i T xs ho; exact key (.inr ho)
    · exact hplain
  · cases hplain; exact .bool _ .nil
  · exact hplain
theorem argL_rep (hclean : ∀ T x, noOwn.go (u.enc T x) = true) {w0 : W0} {O0 : Nat → Prop} {e : E A} (hr : HR P u w0 O0 e) {L : List Nat} : ∀ {xs : List (SV A)} {vs : List Value}, RepL P u e xs vs → (∀ id ∈ ids.go xs, id ∈ L) →
    RepL P u (outer e.w (quietO e L)) (argL u e.own xs) vs
  | [], vs, hx, _ => by cases hx; exact .nil
  | x :: xs, vs, hx, h => by
    obtain ⟨v, ws, rfl, h1, h2⟩ := hx.split P u
    simp only [ids.go, List.mem_append] at h
    exact (arg1_rep P u hclean hr h1 (fun id hi => h id (.inl hi))).cons P u (argL_rep hclean hr h2 (fun id hi => h id (.inr hi)))
theorem arg_rep (hclean : ∀ T x, noOwn.go (u.enc T x) = true) {w0 : W0} {O0 : Nat → Prop} {e : E A} (hr : HR P u w0 O0 e) {L : List Nat} {x : SV A} {v : Value} (hx : RepL P u e [x] [v]) (h : ∀ id ∈ ids x, id ∈ L) :
    RepL P u (outer e.w (quietO e L)) [argS u e.own x] [v] := by
  unfold argS
  split
  · cases hx with
    | fn _ _ caps hc _ => exact .fn _ _ caps (argL_rep P u hclean hr hc h) .nil
  · cases hx with
    | agg _ cs hc _ => exact .agg _ cs (argL_rep P u hclean hr hc h) .nil
  · exact arg1_rep P u hclean hr hx h
theorem args_rep (hclean : ∀ T x, noOwn.go (u.enc T x) = true) {w0 : W0} {O0 : Nat → Prop} {e : E A} (hr : HR P u w0 O0 e) {L : List Nat} : ∀ {xs : List (SV A)} {vs : List Value}, RepL P u e xs vs → (∀ id ∈ ids.go xs, id ∈ L) →
    RepL P u (outer e.w (quietO e L)) (xs.map (argS u e.own)) vs
  | [], vs, hx, _ => by cases hx; exact .nil
  | x :: xs, vs, hx, h => by
    obtain ⟨v, ws, rfl, h1, h2⟩ := hx.split P u
    simp only [ids.go, List.mem_append] at h
    exact (arg_rep P u hclean hr h1 (fun id hi => h id (.inl hi))).cons P u (args_rep hclean hr h2 (fun id hi => h id (.inr hi)))
end
end Go.Proofs.Ytndacggailoogaa.Sx
