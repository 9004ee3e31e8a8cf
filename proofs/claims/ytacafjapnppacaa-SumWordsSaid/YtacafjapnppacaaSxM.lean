/- An abstract machine over values by content, thirteenth part: when one abstract value may stand for another; a function's contract out of its body. -/
import Derived.Test.YtacafjapnppacaaSxL
namespace Go.Proofs.Ytacafjapnppacaa.Sx
open Go Go.RowKit

section
variable {A : Nat → Type} (P : Program) (u : U A) (tab : List (Nat × Spec A))

/-- When x may stand for y, where blocks are of no more account but those that are kept. -/
def cast? {T S : Nat} (xs : List (A T)) (ys : List (A S)) : Prop := if h : T = S then h ▸ xs = ys else False
def match1 (own : Nat → Own A) (keep : Nat → Bool) (x y : SV A) : Prop := match y with
  | .top => True
  | .undef => match x with | .undef => True | _ => False
  | .int l b => match x with | .int k a => if kindEq k l then a = b else False | _ => False
  | .bool b => match x with | .bool a => a = b | .lit a => a = b | _ => False
  | .lit b => match x with | .bool a => a = b | .lit a => a = b | _ => False
  | .str t => match x with | .str s => s = t | _ => False
  | .nilp => match x with | .nilp => True | _ => False
  | .nils => match x with | .nils => True | _ => False
  | .csl S ys => match x with
    | .csl _ xs => cast? xs ys
    | .nils => ys = []
    | .osl id lo len => if keep id then False else match own id with
      | .row _ xs => cast? ((xs.drop lo).take len) ys
      | .fro _ xs => cast? ((xs.drop lo).take len) ys
      | _ => False
    | _ => False
  | .optr id off => match x with | .optr id' off' => if Nat.beq id id' && Nat.beq off off' && keep id && live own (.optr id off) then True else False | _ => False
  | .osl id lo len => match x with | .osl id' lo' len' => if Nat.beq id id' && keep id && live own (.osl id 0 0) then lo' = lo ∧ len' = len else False | _ => False
  | _ => False
def matchL (own : Nat → Own A) (keep : Nat → Bool) : List (SV A) → List (SV A) → Prop
  | [], [] => True
  | [x], [y] => match1 own keep x y
  | x :: xs, y :: ys => match1 own keep x y ∧ matchL own keep xs ys
  | _, _ => False
def match2 (own : Nat → Own A) (keep : Nat → Bool) (x y : SV A) : Prop := match y with
  | .agg l => match x with | .agg k => matchL own keep k l | _ => False
  | .cptr l off => match x with | .cptr k off' => off = off' ∧ matchL own keep k l | _ => False
  | .fn g l => match x with | .fn f k => f = g ∧ matchL own keep k l | _ => False
  | y => match1 own keep x y
def matchLL (own : Nat → Own A) (keep : Nat → Bool) : List (SV A) → List (SV A) → Prop
  | [], [] => True
  | [x], [y] => match2 own keep x y
  | x :: xs, y :: ys => match2 own keep x y ∧ matchLL own keep xs ys
  | _, _ => False
def matchV (own : Nat → Own A) (keep : Nat → Bool) (x y : SV A) : Prop := match y with
  | .tup l => match x with | .tup k => matchLL own keep k l | _ => False
  | y => match2 own keep x y

/-- The same world, in which fewer blocks are of account. -/
structure Fewer (e e' : E A) (keep : Nat → Bool) : Prop where
  w : e'.w = e.w
  O : ∀ b, ¬ e.O b → ¬ e'.O b
  gone : ∀ id b c, keep id = false → e.own id ≠ .free → e.own id ≠ .dead → e.β id = some (b, c) → ¬ e'.O b
  kept : ∀ id, keep id = true → (e.own id).isVar = true → (e'.own id).isVar = true ∧ e'.β id = e.β id
  keptR : ∀ id T ys, keep id = true → (e.own id = .row T ys ∨ e.own id = .fro T ys) → (e'.own id = .row T ys ∨ e'.own id = .fro T ys) ∧ e'.β id = e.β id

theorem cast_eq {T S : Nat} {xs : List (A T)} {ys : List (A S)} (h : cast? xs ys) : ∃ h : T = S, h ▸ xs = ys := by
  unfold cast? at h
  split at h
  · rename_i hh; exact ⟨hh, h⟩
  · exact h.elim
theorem row_rep {w0 : World} {O0 : Nat → Prop} {e e' : E A} {keep : Nat → Bool} (hclean : ∀ T x, noOwn.go (u.enc T x) = true) (hr : HR P u w0 O0 e) (hf : Fewer e e' keep) {id lo len T : Nat} {xs : List (A T)} {v : Value}
    (ho : e.own id = .row T xs ∨ e.own id = .fro T xs) (hk : keep id = false) (hx : RepL P u e [.osl id lo len] [v]) : RepL P u e' [.csl T ((xs.drop lo).take len)] [v] := by
  have hent : EntOk P u e w0.heap.size id (.row T xs) := by
    have := hr.ent id
    rcases ho with ho | ho <;> rw [ho] at this <;> exact this
  obtain ⟨b, c, arr, T', vss, hβ, hlo, hheap, harr, hc, hel⟩ := hent
  cases hx with
  | osl _ _ _ b' c' T2 ys hv hβ' hle _ =>
    rw [hβ] at hβ'; cases hβ'
    have hsame : T2 = T ∧ HEq ys xs := by
      rcases ho with ho | ho <;> rw [ho] at hv <;> rcases hv with hv | hv <;> cases hv <;> exact ⟨rfl, HEq.rfl⟩
    obtain ⟨rfl, hys⟩ := hsame
    cases hys
    have hno : ¬ e'.O b := hf.gone id b c hk (by rcases ho with ho | ho <;> rw [ho] <;> simp) (by rcases ho with ho | ho <;> rw [ho] <;> simp) hβ
    refine .csl T2 _ _ len (c - lo) (fun i => vss (lo + i)) (by simp; omega) (by omega) (.inr ⟨b, lo * P.cellsOf T2, rfl, by rw [hf.w]; exact lt_of_get hheap, hno, fun i hi => ?_⟩) ?_ .nil
    · have hi' : i < len := by simp at hi; omega
      intro j v hj
      have hlt : lo + i < ys.length := by omega
      obtain ⟨_, _, h3⟩ := hel (lo + i) _ (List.getElem?_eq_getElem hlt)
      have := h3 j v hj
      rw [hf.w]
      have hcell := cellsAt_heap hheap _ v this
      rw [Nat.zero_add, Nat.add_mul, Nat.add_assoc] at hcell
      rw [Nat.add_assoc]
      exact hcell
    · intro i x hi
      rw [List.getElem?_take] at hi
      split at hi
      · rw [List.getElem?_drop] at hi
        obtain ⟨h1, _, _⟩ := hel (lo + i) x hi
        exact h1.unbare P u hclean hf.w hf.O (hclean _ _)
      · cases hi
  | oslD _ _ _ _ hd _ => rcases ho with ho | ho <;> rw [ho] at hd <;> cases hd
theorem match1_sound {w0 : World} {O0 : Nat → Prop} {e e' : E A} {keep : Nat → Bool} (hclean : ∀ T x, noOwn.go (u.enc T x) = true) (hr : HR P u w0 O0 e) (hf : Fewer e e' keep) {x y : SV A} {v : Value}
    (hx : RepL P u e [x] [v]) (h : match1 e.own keep x y) : RepL P u e' [y] [v] := by
  unfold match1 at h
  split at h
  · exact .top _ .nil
  · split at h
    · cases hx; exact .undef .nil
    · exact h.elim
  · split at h
    · split at h
      · rename_i hk
        simp only [kindEq, decide_eq_true_eq] at hk
        subst hk; subst h
        cases hx; exact .int _ _ .nil
      · exact h.elim
    · exact h.elim
  · split at h
    · subst h; cases hx; exact .bool _ .nil
    · subst h; cases hx; exact .bool _ .nil
    · exact h.elim
  · split at h
    · subst h; cases hx; exact .lit _ .nil
    · subst h; cases hx; exact .lit _ .nil
    · exact h.elim
  · split at h
    · subst h; cases hx; exact .str _ .nil
    · exact h.elim
  · split at h
    · cases hx; exact .nilp .nil
    · exact h.elim
  · split at h
    · cases hx; exact .nils .nil
    · exact h.elim
  · split at h
    · obtain ⟨hh, he⟩ := cast_eq h
      subst hh
      have he : _ = _ := he
      subst he
      exact hx.unbare P u hclean hf.w hf.O rfl
    · subst h
      cases hx
      exact .csl _ [] none 0 0 (fun _ => []) rfl (Nat.le_refl _) (.inl rfl) (fun i x hi => by simp at hi) .nil
    · split at h
      · exact h.elim
      · rename_i hk
        split at h
        · rename_i T xs ho
          obtain ⟨hh, he⟩ := cast_eq h
          subst hh
          have he : _ = _ := he
          subst he
          exact row_rep P u hclean hr hf (.inl ho) (by simpa using hk) hx
        · rename_i T xs ho
          obtain ⟨hh, he⟩ := cast_eq h
          subst hh
          have he : _ = _ := he
          subst he
          exact row_rep P u hclean hr hf (.inr ho) (by simpa using hk) hx
        · exact h.elim
    · exact h.elim
  · split at h
    · split at h
      · rename_i hb
        simp only [Bool.and_eq_true] at hb
        obtain ⟨⟨⟨h1, h2⟩, h3⟩, h4⟩ := hb
        have e1 := Nat.eq_of_beq_eq_true h1
        have e2 := Nat.eq_of_beq_eq_true h2
        subst e1; subst e2
        cases hx with
        | optr _ _ b c hv hβ _ =>
          obtain ⟨h5, h6⟩ := hf.kept _ h3 hv
          exact .optr _ _ b c h5 (h6.trans hβ) .nil
        | optrD _ _ _ hd _ => simp [live, hd, Own.isVar] at h4
      · exact h.elim
    · exact h.elim
  · split at h
    · split at h
      · rename_i hb
        simp only [Bool.and_eq_true] at hb
        obtain ⟨⟨h1, h3⟩, h4⟩ := hb
        have e1 := Nat.eq_of_beq_eq_true h1
        subst e1
        obtain ⟨rfl, rfl⟩ := h
        cases hx with
        | osl _ _ _ b c T ys hv hβ hle _ =>
          obtain ⟨h5, h6⟩ := hf.keptR _ T ys h3 hv
          exact .osl _ _ _ b c T ys h5 (h6.trans hβ) hle .nil
        | oslD _ _ _ _ hd _ => simp [live, hd] at h4
      · exact h.elim
    · exact h.elim
  · exact h.elim
theorem matchL_sound {w0 : World} {O0 : Nat → Prop} {e e' : E A} {keep : Nat → Bool} (hclean : ∀ T x, noOwn.go (u.enc T x) = true) (hr : HR P u w0 O0 e) (hf : Fewer e e' keep) : ∀ {xs ys : List (SV A)} {vs : List Value},
    RepL P u e xs vs → matchL e.own keep xs ys → RepL P u e' ys vs := by
  intro xs
  induction xs with
  | nil =>
    intro ys vs hx h
    cases ys with
    | nil => cases hx; exact .nil
    | cons _ _ => exact h.elim
  | cons x xs ih =>
    intro ys vs hx h
    cases ys with
    | nil => cases xs <;> exact h.elim
    | cons y ys =>
      obtain ⟨v, ws, rfl, h1, h2⟩ := hx.split P u
      have hh : match1 e.own keep x y ∧ matchL e.own keep xs ys := by
        cases xs with
        | nil =>
          cases ys with
          | nil => exact ⟨h, trivial⟩
          | cons _ _ => exact h
        | cons _ _ => exact h
      exact (match1_sound P u hclean hr hf h1 hh.1).cons P u (ih h2 hh.2)
theorem match2_sound {w0 : World} {O0 : Nat → Prop} {e e' : E A} {keep : Nat → Bool} (hclean : ∀ T x, noOwn.go (u.enc T x) = true) (hr : HR P u w0 O0 e) (hf : Fewer e e' keep) {x y : SV A} {v : Value}
    (hx : RepL P u e [x] [v]) (h : match2 e.own keep x y) : RepL P u e' [y] [v] := by
  unfold match2 at h
  split at h
  · split at h
    · cases hx with
      | agg _ cs hl _ => exact .agg _ _ (matchL_sound P u hclean hr hf hl h) .nil
    · exact h.elim
  · split at h
    · obtain ⟨rfl, h⟩ := h
      cases hx with
      | cptr _ _ b o cv hb ho hm hl _ => exact .cptr _ _ b o cv (by rw [hf.w]; exact hb) (hf.O b ho) (by rw [hf.w]; exact hm) (matchL_sound P u hclean hr hf hl h) .nil
    · exact h.elim
  · split at h
    · obtain ⟨rfl, h⟩ := h
      cases hx with
      | fn _ _ caps hl _ => exact .fn _ _ _ (matchL_sound P u hclean hr hf hl h) .nil
    · exact h.elim
  · exact match1_sound P u hclean hr hf hx h
theorem matchLL_sound {w0 : World} {O0 : Nat → Prop} {e e' : E A} {keep : Nat → Bool} (hclean : ∀ T x, noOwn.go (u.enc T x) = true) (hr : HR P u w0 O0 e) (hf : Fewer e e' keep) : ∀ {xs ys : List (SV A)} {vs : List Value},
    RepL P u e xs vs → matchLL e.own keep xs ys → RepL P u e' ys vs := by
  intro xs
  induction xs with
  | nil =>
    intro ys vs hx h
    cases ys with
    | nil => cases hx; exact .nil
    | cons _ _ => exact h.elim
  | cons x xs ih =>
    intro ys vs hx h
    cases ys with
    | nil => cases xs <;> exact h.elim
    | cons y ys =>
      obtain ⟨v, ws, rfl, h1, h2⟩ := hx.split P u
      have hh : match2 e.own keep x y ∧ matchLL e.own keep xs ys := by
        cases xs with
        | nil =>
          cases ys with
          | nil => exact ⟨h, trivial⟩
          | cons _ _ => exact h
        | cons _ _ => exact h
      exact (match2_sound P u hclean hr hf h1 hh.1).cons P u (ih h2 hh.2)
theorem matchV_sound {w0 : World} {O0 : Nat → Prop} {e e' : E A} {keep : Nat → Bool} (hclean : ∀ T x, noOwn.go (u.enc T x) = true) (hr : HR P u w0 O0 e) (hf : Fewer e e' keep) {x y : SV A} {v : Value}
    (hx : RepL P u e [x] [v]) (h : matchV e.own keep x y) : RepL P u e' [y] [v] := by
  unfold matchV at h
  split at h
  · split at h
    · cases hx with
      | tup _ cs hl _ => exact .tup _ _ (matchLL_sound P u hclean hr hf hl h) .nil
    · exact h.elim
  · exact match2_sound P u hclean hr hf hx h

/-! ### a function's contract -/
def startSt (n : Nat) (args : List (SV A)) : St A := { tmps := args ++ List.replicate (n - args.length) .undef, own := fun _ => .free, nx := 0, gu := [] }
def resL (s : St A) : List ResultVar → Option (List (SV A))
  | [] => some []
  | .tmp t :: r => match resL s r with
    | some l => some (plainV (s.get t) :: l)
    | none => none
  | .cell a t :: r => match loadS P u s.own t (plainV (s.get a)), resL s r with
    | some x, some l => some (x :: l)
    | _, _ => none
def resS (s : St A) (rs : List ResultVar) : Option (SV A) := match resL P u s rs with
  | some [x] => some x
  | some l => some (.tup l)
  | none => none
def retW (rs : List ResultVar) (y : SV A) (x : X) (s : St A) : Prop := match x with
  | .exit _ => False
  | _ => match resS P u s rs with
    | some r => matchV s.own (fun _ => false) r y
    | none => False
theorem resL_run {w0 : World} {O0 : Nat → Prop} {s : St A} {e : E A} {a : Act} (h : RepS P u w0 O0 s e a) : ∀ (rs : List ResultVar) (l : List (SV A)), resL P u s rs = some l →
    ∃ vs, (rs.mapM (fun | .tmp t => pure (a.tmps.getD t Go.undef) | .cell b t => do loadVar t (← asAddr (a.tmps.getD b Go.undef)) : ResultVar → Sem Value)).run P e.w = .ok vs e.w ∧ RepL P u e l vs := by
  intro rs
  induction rs with
  | nil => intro l hl; cases hl; exact ⟨[], by simp, .nil⟩
  | cons r rs ih =>
    intro l hl
    cases r with
    | tmp t =>
      unfold resL at hl
      split at hl
      · rename_i l' hl'
        cases hl
        obtain ⟨vs, h1, h2⟩ := ih l' hl'
        refine ⟨a.tmps.getD t Go.undef :: vs, ?_, RepL.cons P u (h.plain P u (.tmp t)) h2⟩
        simp only [List.mapM_cons, Sem.run_bind, Sem.run_pure, Result.andThen, h1]
      · cases hl
    | cell b t =>
      unfold resL at hl
      split at hl
      · rename_i x l' hx hl'
        cases hl
        obtain ⟨vs, h1, h2⟩ := ih l' hl'
        rw [← h.own] at hx
        have hb := h.plain P u (.tmp b)
        obtain ⟨v, h3, h4⟩ := load_sound P u h.hr hb hx
        refine ⟨v :: vs, ?_, RepL.cons P u h4 h2⟩
        have hrun : (do loadVar t (← asAddr (a.tmps.getD b Go.undef)) : Sem Value).run P e.w = .ok v e.w := by
          have h3' : (Instr.loadAt t (a.tmps.getD b Go.undef)).run P e.w = .ok v e.w := h3
          generalize a.tmps.getD b Go.undef = vb at *
          unfold Instr.loadAt Instr.sureAddr at h3'
          unfold asAddr
          cases vb <;> try (simp [stuck, Sem.run] at h3'; done)
          rename_i ad
          cases ad with
          | none => simp [stuck, Sem.run] at h3'
          | some ad => exact h3'
        simp only [List.mapM_cons, Sem.run_bind, Sem.run_pure, Result.andThen] at hrun ⊢
        rw [hrun]
        simp only [h1]
      · cases hl
theorem res_run {w0 : World} {O0 : Nat → Prop} {s : St A} {e : E A} {a : Act} (h : RepS P u w0 O0 s e a) {fn : Func} {y : SV A} (hy : resS P u s fn.results.toList = some y) : ∃ v, (results fn a.tmps).run P e.w = .ok v e.w ∧ RepL P u e [y] [v] := by
  unfold resS at hy
  have hres : ∀ l, resL P u s fn.results.toList = some l → ∃ vs, l.length = vs.length ∧ RepL P u e l vs ∧ (results fn a.tmps).run P e.w = .ok (if h : vs.toArray.size = 1 then vs.toArray[0] else .tuple vs.toArray) e.w := by
    intro l hl
    obtain ⟨vs, h1, h2⟩ := resL_run P u h _ _ hl
    refine ⟨vs, h2.length, h2, ?_⟩
    have hr : fn.results = fn.results.toList.toArray := by simp
    unfold results
    rw [hr]
    simp only [List.mapM_toArray, Sem.run_bind, Sem.run_map, Result.andThen, Sem.run_pure]
    generalize hG : Sem.run P (List.mapM _ fn.results.toList) e.w = R
    have hR : R = .ok vs e.w := by rw [← hG]; exact h1
    rw [hR]
  split at hy
  · rename_i x hl
    cases hy
    obtain ⟨vs, h1, h2, h3⟩ := hres _ hl
    obtain ⟨v, ws, rfl, h4, h5⟩ := h2.split P u
    cases h5
    exact ⟨v, by simpa using h3, h4⟩
  · rename_i l hne hl
    cases hy
    obtain ⟨vs, h1, h2, h3⟩ := hres _ hl
    have hsz : ¬ vs.toArray.size = 1 := by
      intro h
      have : l.length = 1 := by rw [h1]; simpa using h
      match l, this with
      | [x], _ => exact hne x rfl
    rw [dif_neg hsz] at h3
    exact ⟨_, h3, .tup _ _ h2 .nil⟩
  · cases hy

/-- A contract out of a body: 'bodyW' is what is to be shown. -/
def bodyW (draws : Array Oper → St A → (St A → Prop) → Prop) (loops : Nat → ((X → St A → Prop) → St A → Prop) → Code → (X → St A → Prop) → St A → Prop) (fn : Func) (args : List (SV A)) (y : SV A) : Prop := match fn.body with
  | some c => codeW P u tab draws loops 0 c (retW P u fn.results.toList y) (startSt fn.ntmps args)
  | none => False
theorem fn_sound (hL : Laws P u tab) {draws : Array Oper → St A → (St A → Prop) → Prop} (hd : ∀ w0 O0, DrawsOk P u w0 O0 draws)
    {f : Nat} {fn : Func} (hf : P.funcs[f]? = some fn) {sp : Spec A} (h : ∀ xs c y, sp xs = some (c, y) → holds c → noOwn.go xs = true ∧ ∃ loops : Nat → ((X → St A → Prop) → St A → Prop) → Code → (X → St A → Prop) → St A → Prop, (∀ w0 O0, LoopsOk P u w0 O0 loops) ∧ bodyW P u tab draws loops fn xs y) : FnOk P u f sp := by
  intro xs c y hsp hc w O vs hO hx
  obtain ⟨hno, loops, hl, hb⟩ := h xs c y hsp hc
  unfold bodyW at hb
  split at hb
  · rename_i code hcode
    refine calls_of_wp hf hcode ?_
    let e : E A := { w := w, O := O, own := fun _ => .free, β := fun _ => none }
    have hx' : RepL P u e xs vs := hx.unbare P u hL.clean (e := outer w O) (e' := e) rfl (fun _ h => h) hno
    have hlen := hx.length
    have hr : HR P u w O e := by
      refine ⟨.refl _ _, hO, fun id _ _ _ _ h1 => absurd rfl h1, fun b => ⟨fun hb => .inl hb, ?_⟩, fun id => trivial⟩
      rintro (hb | ⟨id, c', h1, _⟩)
      · exact hb
      · cases h1
    have hS : RepS P u w O (startSt fn.ntmps xs) e { tmps := vs.toArray ++ Array.replicate (fn.ntmps - vs.toArray.size) Go.undef, defers := [] } := by
      refine ⟨rfl, by simp [startSt, hlen], rfl, hr, ?_, ?_⟩
      · intro i x hi
        simp only [startSt] at hi
        by_cases hlt : i < xs.length
        · rw [List.getElem?_append_left hlt] at hi
          obtain ⟨v, h1, h2⟩ := get_rep P u (i := 0) hx' hi
          have hv : (vs.toArray ++ Array.replicate (fn.ntmps - vs.toArray.size) Go.undef).getD i Go.undef = v := by
            have : (vs.toArray ++ Array.replicate (fn.ntmps - vs.toArray.size) Go.undef)[i]? = some v := by
              rw [Array.getElem?_append_left (by simp; omega)]
              simpa using h1
            rw [Array.getD_eq_getD_getElem?, this]; rfl
          rw [hv]
          exact slot_plain P u h2
        · rw [List.getElem?_append_right (by omega), List.getElem?_replicate] at hi
          split at hi
          · rename_i hlt2
            cases hi
            have hv : (vs.toArray ++ Array.replicate (fn.ntmps - vs.toArray.size) Go.undef).getD i Go.undef = Go.undef := by
              have : (vs.toArray ++ Array.replicate (fn.ntmps - vs.toArray.size) Go.undef)[i]? = some Go.undef := by
                rw [Array.getElem?_append_right (by simp; omega)]
                rw [Array.getElem?_replicate, if_pos (by simp; omega)]
              rw [Array.getD_eq_getD_getElem?, this]; rfl
            rw [hv]
            exact slot_plain P u (.undef .nil)
          · cases hi
      · intro i d p z hi
        exfalso
        simp only [startSt] at hi
        by_cases hlt : i < xs.length
        · rw [List.getElem?_append_left hlt] at hi
          obtain ⟨v, h1, h2⟩ := get_rep P u (i := 0) hx' hi
          cases h2
        · rw [List.getElem?_append_right (by omega), List.getElem?_replicate] at hi
          split at hi <;> cases hi
    have hnw : noWh (startSt fn.ntmps xs) := by
      intro i d p z hi
      exact absurd (hS.wh i d p z hi).1 (by simp [startSt])
    refine Code.wp_mono ?_ (code_sound P u tab hL (hd w O) (hl w O) code 0 _ _ e _ hS hnw hb)
    rintro ex a' w' ⟨z, s', e', h1, h2, h3, h4, rfl⟩
    have hfin : (ex = .normal ∨ ex = .ret) → bodyPost P fn (fun r w' => ∃ v, r = .returned v ∧ Below w.heap.size w w' ∧ RepL P u (outer w' O) [y] [v]) ex a' e'.w := by
      intro hex
      have hm : ∃ r, resS P u s' fn.results.toList = some r ∧ matchV s'.own (fun _ => false) r y := by
        cases z with
        | exit i => exact h2.elim
        | norm =>
          unfold retW at h2
          simp only at h2
          split at h2
          · rename_i r hr2; exact ⟨r, hr2, h2⟩
          · exact h2.elim
        | ret =>
          unfold retW at h2
          simp only at h2
          split at h2
          · rename_i r hr2; exact ⟨r, hr2, h2⟩
          · exact h2.elim
      obtain ⟨r, hr2, hm⟩ := hm
      obtain ⟨v, h6, h7⟩ := res_run P u h3 hr2
      have hfew : Fewer e' (outer e'.w O) (fun _ => false) := by
        refine ⟨rfl, ?_, ?_, (fun _ h => by cases h), fun _ _ _ h => by cases h⟩
        · intro b hb hbo
          exact hb ((h3.hr.O b).2 (.inl hbo))
        · intro id b c' _ hf1 hf2 hβ hbo
          obtain ⟨b', c2, arr, T, h8, h9, _⟩ := (h3.hr.ent id).place P u hf1 hf2
          rw [h8] at hβ; cases hβ
          have := hO b hbo
          omega
      have hfinal := matchV_sound P u hL.clean h3.hr hfew h7 (by rw [h3.own]; exact hm)
      have hpost : a'.defers = [] ∧ ∃ v, (results fn a'.tmps).run P e'.w = .ok v e'.w ∧ ∃ v', Ending.returned v = .returned v' ∧ Below w.heap.size w e'.w ∧ RepL P u (outer e'.w O) [y] [v'] :=
        ⟨h3.defers, v, h6, v, rfl, h3.hr.below, hfinal⟩
      rcases hex with rfl | rfl <;> exact hpost
    cases z with
    | norm => cases ex <;> first | exact h1.elim | exact hfin (.inl rfl)
    | ret => cases ex <;> first | exact h1.elim | exact hfin (.inr rfl)
    | exit i => exact h2.elim
  · exact hb.elim
end
end Go.Proofs.Ytacafjapnppacaa.Sx
