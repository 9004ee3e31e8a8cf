/- An abstract machine over values by content, thirteenth part, b: a function's contract out of its body. -/
import Derived.Test.YtndacggailoogaaSxM
namespace Go.Proofs.Ytndacggailoogaa.Sx
open Go Go.RowKit

section
variable {A : Nat → Type} (P : Program) (u : U A) (tab : List (Nat × Con A))

def startSt (n : Nat) (args : List (SV A)) (os : List (Own A)) : St A := { tmps := args ++ List.replicate (n - args.length) .undef, own := ownL os, nx := os.length, gu := [] }
def resL (s : St A) : List ResultVar → Option (List (SV A))
  | [] => some []
  | .tmp t :: r => match resL s r with
    | some l => some (plainV (s.get t) :: l)
    | none => none
  | .cell a t :: r => match (match loadA P u s.own t (plainV (s.get a)) with
      | some (_, x) => some x
      | none => loadS P u s.own t (plainV (s.get a))), resL s r with
    | some x, some l => some (x :: l)
    | _, _ => none
/-- What is asked of results that lie in memory. -/
def resW (s : St A) : List ResultVar → Prop → Prop
  | [], K => K
  | .tmp _ :: r, K => resW s r K
  | .cell a t :: r, K => match loadA P u s.own t (plainV (s.get a)) with
    | some (some c, _) => c ∧ resW s r K
    | _ => resW s r K
def resH (s : St A) (rs : List ResultVar) : Prop := ∀ a t, ResultVar.cell a t ∈ rs → ∀ c y, loadA P u s.own t (plainV (s.get a)) = some (c, y) → holds c
theorem resW_out {s : St A} : ∀ {rs : List ResultVar} {K : Prop}, resW P u s rs K → K ∧ resH P u s rs
  | [], _, h => ⟨h, fun _ _ hm => by cases hm⟩
  | .tmp _ :: r, _, h => by
    obtain ⟨h1, h2⟩ := resW_out (rs := r) h
    refine ⟨h1, fun a t hm => ?_⟩
    rcases List.mem_cons.1 hm with hm | hm
    · cases hm
    · exact h2 a t hm
  | .cell a t :: r, K, h => by
    have h2 : (match loadA P u s.own t (plainV (s.get a)) with
      | some (some c, _) => c
      | _ => True) ∧ resW P u s r K := by
      unfold resW at h
      split at h
      · rename_i c y hl; exact h
      · rename_i hn
        exact ⟨trivial, h⟩
    obtain ⟨g1, g2⟩ := resW_out h2.2
    refine ⟨g1, fun a' t' hm c y hl => ?_⟩
    rcases List.mem_cons.1 hm with hm | hm
    · cases hm
      have h3 := h2.1
      rw [hl] at h3
      cases c with
      | none => exact trivial
      | some c => exact h3
    · exact g2 a' t' hm c y hl
def resS (s : St A) (rs : List ResultVar) : Option (SV A) := match resL P u s rs with
  | some [x] => some x
  | some l => some (.tup l)
  | none => none
theorem resL_run (hu : Law P u) {w0 : W0} {O0 : Nat → Prop} {s : St A} {e : E A} {a : Act} (h : RepS P u w0 O0 s e a) : ∀ (rs : List ResultVar) (l : List (SV A)), resH P u s rs → resL P u s rs = some l →
    ∃ vs, (rs.mapM (fun | .tmp t => pure (a.tmps.getD t Go.undef) | .cell b t => do loadVar t (← asAddr (a.tmps.getD b Go.undef)) : ResultVar → Sem Value)).run P e.w = .ok vs e.w ∧ RepL P u e l vs := by
  intro rs
  induction rs with
  | nil => intro l _ hl; cases hl; exact ⟨[], by simp, .nil⟩
  | cons r rs ih =>
    intro l hh hl
    have hh' : resH P u s rs := fun a t hm => hh a t (List.mem_cons_of_mem _ hm)
    cases r with
    | tmp t =>
      unfold resL at hl
      split at hl
      · rename_i l' hl'
        cases hl
        obtain ⟨vs, h1, h2⟩ := ih l' hh' hl'
        refine ⟨a.tmps.getD t Go.undef :: vs, ?_, RepL.cons P u (h.plain P u (.tmp t)) h2⟩
        simp only [List.mapM_cons, Sem.run_bind, Sem.run_pure, Result.andThen, h1]
      · cases hl
    | cell b t =>
      unfold resL at hl
      split at hl
      · rename_i x l' hx hl'
        cases hl
        obtain ⟨vs, h1, h2⟩ := ih l' hh' hl'
        have hb := h.plain P u (.tmp b)
        obtain ⟨v, h3, h4⟩ : ∃ v, (Instr.loadAt t (a.tmps.getD b Go.undef)).run P e.w = .ok v e.w ∧ RepL P u e [x] [v] := by
          split at hx
          · rename_i c y hla
            cases hx
            have hcc := hh b t (List.mem_cons_self ..) c _ hla
            rw [← h.own] at hla
            exact loadA_sound P u hu.part hu.arr h.hr hb hla hcc
          · rw [← h.own] at hx
            exact load_sound P u hu.proj h.hr hb hx
        refine ⟨v :: vs, ?_, RepL.cons P u h4 h2⟩
        have hrun : (do loadVar t (← asAddr (a.tmps.getD b Go.undef)) : Sem Value).run P e.w = .ok v e.w := by
          have h3' : (Instr.loadAt t (a.tmps.getD b Go.undef)).run P e.w = .ok v e.w := h3
          generalize a.tmps.getD b Go.undef = vb at *
          unfold Instr.loadAt Instr.sureAddr at h3'
          unfold asAddr
          cases vb <;> try (simp [stuck, Sem.run] at h3'; done)
          rename_i ad
          cases ad with
          | none => simp [stuck, Sem.run] at h3'
          | some ad => exact h3'
        simp only [List.mapM_cons, Sem.run_bind, Sem.run_pure, Result.andThen] at hrun ⊢
        rw [hrun]
        simp only [h1]
      · cases hl
theorem res_run (hu : Law P u) {w0 : W0} {O0 : Nat → Prop} {s : St A} {e : E A} {a : Act} (h : RepS P u w0 O0 s e a) {fn : Func} {y : SV A} (hh : resH P u s fn.results.toList) (hy : resS P u s fn.results.toList = some y) : ∃ v, (results fn a.tmps).run P e.w = .ok v e.w ∧ RepL P u e [y] [v] := by
  unfold resS at hy
  have hres : ∀ l, resL P u s fn.results.toList = some l → ∃ vs, l.length = vs.length ∧ RepL P u e l vs ∧ (results fn a.tmps).run P e.w = .ok (if h : vs.toArray.size = 1 then vs.toArray[0] else .tuple vs.toArray) e.w := by
    intro l hl
    obtain ⟨vs, h1, h2⟩ := resL_run P u hu h _ _ hh hl
    refine ⟨vs, h2.length, h2, ?_⟩
    have hr : fn.results = fn.results.toList.toArray := by simp
    unfold results
    rw [hr]
    simp only [List.mapM_toArray, Sem.run_bind, Sem.run_map, Result.andThen, Sem.run_pure]
    generalize hG : Sem.run P (List.mapM _ fn.results.toList) e.w = R
    have hR : R = .ok vs e.w := by rw [← hG]; exact h1
    rw [hR]
  split at hy
  · rename_i x hl
    cases hy
    obtain ⟨vs, h1, h2, h3⟩ := hres _ hl
    obtain ⟨v, ws, rfl, h4, h5⟩ := h2.split P u
    cases h5
    exact ⟨v, by simpa using h3, h4⟩
  · rename_i l hne hl
    cases hy
    obtain ⟨vs, h1, h2, h3⟩ := hres _ hl
    have hsz : ¬ vs.toArray.size = 1 := by
      intro h
      have : l.length = 1 := by rw [h1]; simpa using h
      match l, this with
      | [x], _ => exact hne x rfl
    rw [dif_neg hsz] at h3
    exact ⟨_, h3, .tup _ _ h2 .nil⟩
  · cases hy


/-- A function's end, however it comes. -/
def endW (rs : List ResultVar) (G : SV A → St A → Prop) (x : X) (s : St A) : Prop := match x with
  | .exit _ => False
  | _ => match resS P u s rs with
    | some r => resW P u s rs (G r s)
    | none => False
def bodyG (lits : List Nat) (draws : Array Oper → St A → (St A → Prop) → Prop) (loops : Nat → ((X → St A → Prop) → St A → Prop) → Code → (X → St A → Prop) → St A → Prop) (fn : Func) (args : List (SV A)) (os : List (Own A)) (G : SV A → St A → Prop) : Prop := match fn.body with
  | some c => codeW P u tab lits draws loops 0 c (endW P u fn.results.toList G) (startSt fn.ntmps args os)
  | none => False
theorem fn_core (hL : Laws P u tab) {lits : List Nat} {draws : Array Oper → St A → (St A → Prop) → Prop} {loops : Nat → ((X → St A → Prop) → St A → Prop) → Code → (X → St A → Prop) → St A → Prop} {w0 : W0} {O0 : Nat → Prop}
    (hd : DrawsOk P u w0 O0 draws) (hl : LoopsOk P u w0 O0 loops) {f : Nat} {fn : Func} (hf : P.funcs[f]? = some fn) {xs : List (SV A)} {os : List (Own A)} {G : SV A → St A → Prop} {e : E A} {vs : List Value} {R : Ending → World → Prop}
    (hr : HR P u w0 O0 e) (ho : e.own = ownL os) (hx : RepL P u e xs vs) (hb : bodyG P u tab lits draws loops fn xs os G)
    (hG : ∀ r s e' v, G r s → HR P u w0 O0 e' → e'.own = s.own → RepL P u e' [r] [v] → R (.returned v) e'.w) : Calls P f vs.toArray e.w R := by
  unfold bodyG at hb
  split at hb
  · rename_i code hcode
    refine calls_of_wp hf hcode ?_
    have hlen := hx.length
    have hS : RepS P u w0 O0 (startSt fn.ntmps xs os) e { tmps := vs.toArray ++ Array.replicate (fn.ntmps - vs.toArray.size) Go.undef, defers := [] } := by
      refine ⟨rfl, by simp [startSt, hlen], ho, hr, ?_, ?_⟩
      · intro i x hi
        simp only [startSt] at hi
        by_cases hlt : i < xs.length
        · rw [List.getElem?_append_left hlt] at hi
          obtain ⟨v, h1, h2⟩ := get_rep P u (i := 0) hx hi
          have hv : (vs.toArray ++ Array.replicate (fn.ntmps - vs.toArray.size) Go.undef).getD i Go.undef = v := by
            have : (vs.toArray ++ Array.replicate (fn.ntmps - vs.toArray.size) Go.undef)[i]? = some v := by
              rw [Array.getElem?_append_left (by simp; omega)]
              simpa using h1
            rw [Array.getD_eq_getD_getElem?, this]; rfl
          rw [hv]
          exact slot_plain P u h2
        · rw [List.getElem?_append_right (by omega), List.getElem?_replicate] at hi
          split at hi
          · rename_i hlt2
            cases hi
            have hv : (vs.toArray ++ Array.replicate (fn.ntmps - vs.toArray.size) Go.undef).getD i Go.undef = Go.undef := by
              have : (vs.toArray ++ Array.replicate (fn.ntmps - vs.toArray.size) Go.undef)[i]? = some Go.undef := by
                rw [Array.getElem?_append_right (by simp; omega)]
                rw [Array.getElem?_replicate, if_pos (by simp; omega)]
              rw [Array.getD_eq_getD_getElem?, this]; rfl
            rw [hv]
            exact slot_plain P u (.undef .nil)
          · cases hi
      · intro i d p z hi
        exfalso
        simp only [startSt] at hi
        by_cases hlt : i < xs.length
        · rw [List.getElem?_append_left hlt] at hi
          obtain ⟨v, h1, h2⟩ := get_rep P u (i := 0) hx hi
          cases h2
        · rw [List.getElem?_append_right (by omega), List.getElem?_replicate] at hi
          split at hi <;> cases hi
    have hnw : noWh (startSt fn.ntmps xs os) := by
      intro i d p z hi
      exact absurd (hS.wh i d p z hi).1 (by simp [startSt])
    refine Code.wp_mono ?_ (code_sound P u tab hL hd hl code 0 _ _ e _ hS hnw hb)
    rintro ex a' w' ⟨z, s', e', h1, h2, h3, h4, rfl⟩
    have hfin : (ex = .normal ∨ ex = .ret) → bodyPost P fn R ex a' e'.w := by
      intro hex
      have hm : ∃ r, resS P u s' fn.results.toList = some r ∧ resW P u s' fn.results.toList (G r s') := by
        cases z with
        | exit i => exact h2.elim
        | norm =>
          unfold endW at h2
          simp only at h2
          split at h2
          · rename_i r hr2; exact ⟨r, hr2, h2⟩
          · exact h2.elim
        | ret =>
          unfold endW at h2
          simp only at h2
          split at h2
          · rename_i r hr2; exact ⟨r, hr2, h2⟩
          · exact h2.elim
      obtain ⟨r, hr2, hm⟩ := hm
      obtain ⟨hm, hh⟩ := resW_out P u hm
      obtain ⟨v, h6, h7⟩ := res_run P u hL.toLaw h3 hh hr2
      have hpost : a'.defers = [] ∧ ∃ v, (results fn a'.tmps).run P e'.w = .ok v e'.w ∧ R (.returned v) e'.w :=
        ⟨h3.defers, v, h6, hG r s' e' v hm h3.hr h3.own h7⟩
      rcases hex with rfl | rfl <;> exact hpost
    cases z with
    | norm => cases ex <;> first | exact h1.elim | exact hfin (.inl rfl)
    | ret => cases ex <;> first | exact h1.elim | exact hfin (.inr rfl)
    | exit i => exact h2.elim
  · exact hb.elim

/-! ### functions that write nowhere else -/
def bodyW (lits : List Nat) (draws : Array Oper → St A → (St A → Prop) → Prop) (loops : Nat → ((X → St A → Prop) → St A → Prop) → Code → (X → St A → Prop) → St A → Prop) (fn : Func) (args : List (SV A)) (y : SV A) : Prop :=
  bodyG P u tab lits draws loops fn args [] fun r s => matchV u s.own [] r y
theorem fn_sound (hL : Laws P u tab) {draws : Array Oper → St A → (St A → Prop) → Prop} (hd : ∀ w0 O0, DrawsOk P u w0 O0 draws)
    {f : Nat} {fn : Func} (hf : P.funcs[f]? = some fn) {sp : Spec A} (h : ∀ xs c y, sp xs = some (c, y) → holds c → noOwn.go xs = true ∧ ∃ lits, ∃ loops : Nat → ((X → St A → Prop) → St A → Prop) → Code → (X → St A → Prop) → St A → Prop, (∀ w0 O0, LoopsOk P u w0 O0 loops) ∧ bodyW P u tab lits draws loops fn xs y) : FnOk P u f sp := by
  intro xs c y hsp hc w O vs hO hx
  obtain ⟨hno, lits, loops, hl, hb⟩ := h xs c y hsp hc
  let w0 : W0 := ⟨w, fun _ => False, fun _ => none, fun _ _ => none⟩
  let e : E A := { w := w, O := O, own := ownL [], β := fun _ => none }
  have hown : ∀ id, ownL ([] : List (Own A)) id = .free := by
    intro id
    rcases Nat.lt_or_ge id 1152921504606846976 with hlt | hge
    · rw [ownL_lt hlt]; rfl
    · have := (ownL_lk ([] : List (Own A))).noNode (ndIx id) (ndId_lt id) (by rw [ownL_lt (by have := ndId_lt id; omega)]; rfl)
      rw [nodeNo_of hge] at this
      exact this
  have hx' : RepL P u e xs vs := hx.unbare P u hL.clean (e := outer w O) (e' := e) rfl (fun _ h => h) hno
  have hr : HR P u w0 O e := by
    refine ⟨.refl w0, fun b hb => ⟨hO b hb, fun h => h⟩, fun id _ _ _ _ h1 => absurd (hown id) h1, fun b => ⟨fun hb => .inl hb, ?_⟩, fun id => by show EntOk P u e _ id (ownL [] id); rw [hown id]; trivial, fun id p hp => (by cases hp), ownL_lk _, fun id j _ h => (by cases h), fun id p h => (by cases h), fun id j p _ h => (by cases h)⟩
    rintro (hb | ⟨id, c', h1, _⟩)
    · exact hb
    · rw [show e.own id = .free from hown id] at h1; cases h1
  refine fn_core P u tab hL (hd w0 O) (hl w0 O) hf hr rfl hx' hb ?_
  intro r s e' v hm hr' ho hv
  refine ⟨v, rfl, ⟨hr'.below.os, hr'.below.tape, hr'.below.output, hr'.below.size, fun k hk => hr'.below.block k hk (fun h => h)⟩, ?_⟩
  have hview : View (A := A) [] e' (outer e'.w O) := by
    refine ⟨rfl, fun b hb hbo => hb ((hr'.O b).2 (.inl hbo)), fun id b c' _ _ h1 h2 hβ hbo => hr'.notO0 P u h1 h2 hβ hbo, fun h id hs => (by cases hs), fun h id hs => (by cases hs), fun h id len hs => (by cases hs), fun h hs => (by cases hs), fun h id hs => (by cases hs), fun h id hs => (by cases hs), fun h id hs => (by cases hs)⟩
  exact matchV_sound P u hL.toLaw hL.clean hr' hview hv (by rw [ho]; exact hm)

/-! ### functions that are handed blocks to be written -/
def zipL : List (Own A) → Nat → List (Nat × Own A)
  | [], _ => []
  | o :: r, j => (j, o) :: zipL r (j + 1)
def phi0 : List (Own A) → Nat → Nat → Phi
  | o :: r, j, n + 1 => (match o with
    | .var _ => (j, .var j) :: phi0 r (j + 1) n
    | .row _ _ => (j, .row j) :: phi0 r (j + 1) n
    | .mp _ _ _ => (j, .mp j) :: phi0 r (j + 1) n
    | .rowC _ _ _ _ => (j, .var j) :: phi0 r (j + 1) n
    | .ar _ _ => (j, .ar j) :: phi0 r (j + 1) n
    | .prow _ _ => (j, .prow j) :: phi0 r (j + 1) n
    | .nod _ => (j, .var j) :: phi0 r (j + 1) n
    | _ => phi0 r (j + 1) n)
  | _, _, _ => []
def fitOs (own : Nat → Own A) (φ : Phi) : List (Nat × Own A) → Prop
  | [] => True
  | [(id, o)] => matchO u own φ id o
  | (id, o) :: r => matchO u own φ id o ∧ fitOs own φ r
def lensW : List (Own A) → List (Own A) → Prop
  | [], _ => True
  | .var _ :: r, .var _ :: r2 => lensW r r2
  | .row T xs :: r, .row S ys :: r2 => (if _h : T = S then ys.length = xs.length else False) ∧ lensW r r2
  | .ar _ ns :: r, .ar _ ns2 :: r2 => ns.length ≤ ns2.length ∧ lensW r r2
  | .ar _ _ :: _, _ :: _ => False
  | .prow _ js :: r, .prow _ js2 :: r2 => js2.length = js.length ∧ lensW r r2
  | _ :: r, .dead :: r2 => lensW r r2
  | _, _ => False
def phiR (os os2 : List (Own A)) (own : Nat → Own A) (y r : SV A) : Phi := only (zipL os2 0) (bindO own (bindV (phi0 os2 0 os.length) y r) (zipL os2 0))
def endH (os : List (Own A)) (y : SV A) (os2 : List (Own A)) (r : SV A) (s : St A) : Prop := match phiR os os2 s.own y r with
  | φ => match distP φ with
    | true => matchV u s.own φ r y ∧ fitOs u s.own φ (zipL os2 0) ∧ lensW os os2
    | false => False
def bodyH (lits : List Nat) (draws : Array Oper → St A → (St A → Prop) → Prop) (loops : Nat → ((X → St A → Prop) → St A → Prop) → Code → (X → St A → Prop) → St A → Prop) (fn : Func) (args : List (SV A)) (os : List (Own A)) (y : SV A) (os2 : List (Own A)) : Prop :=
  bodyG P u tab lits draws loops fn args os (endH u os y os2)
theorem zipL_look : ∀ (os : List (Own A)) (j id : Nat), look (zipL os j) id = if j ≤ id then os[id - j]? else none
  | [], j, id => by simp [zipL, look]
  | o :: r, j, id => by
    unfold zipL look
    by_cases h : j = id
    · subst h; simp
    · have hb : Nat.beq j id = false := by
        cases hb : Nat.beq j id with
        | false => rfl
        | true => exact absurd (Nat.eq_of_beq_eq_true hb) h
      rw [hb]
      simp only [Bool.false_eq_true, if_false]
      rw [zipL_look r (j + 1) id]
      by_cases hle : j ≤ id
      · rw [if_pos hle, if_pos (by omega), show id - j = (id - (j + 1)) + 1 by omega]
        simp
      · rw [if_neg hle, if_neg (by omega)]
theorem fitOs_mem {own : Nat → Own A} {φ : Phi} : ∀ {l : List (Nat × Own A)} {id : Nat} {o : Own A}, fitOs u own φ l → (id, o) ∈ l → matchO u own φ id o
  | [(k, x)], id, o, h, hm => by
    rcases List.mem_singleton.1 hm with hh; cases hh; exact h
  | (k, x) :: p :: r, id, o, h, hm => by
    obtain ⟨h1, h2⟩ := h
    rcases List.mem_cons.1 hm with hh | hh
    · cases hh; exact h1
    · exact fitOs_mem h2 hh
theorem bindF_keep {h : Nat} {s : Src} : ∀ {φ : Phi} {ys xs : List (SV A)}, lookP φ h = some s → lookP (bindF φ ys xs) h = some s
  | φ, [], _, hs => by unfold bindF; exact hs
  | φ, _ :: _, [], hs => by unfold bindF; split <;> first | exact hs | (rename_i heq; cases heq)
  | φ, y :: ys, x :: xs, hs => by
    unfold bindF
    split
    · rename_i h1 h2
      cases h1; cases h2
      refine bindF_keep ?_
      split
      · exact hs
      · rename_i hn
        unfold lookP
        split
        · rename_i hb
          rw [Nat.eq_of_beq_eq_true hb, hs] at hn
          cases hn
        · exact hs
    · exact hs
theorem bind1_keep {φ : Phi} {y x : SV A} {h : Nat} {s : Src} (hs : lookP φ h = some s) : lookP (bind1 φ y x) h = some s := by
  have key : ∀ (k : Nat) (t : Src), lookP φ k = none → lookP ((k, t) :: φ) h = some s := by
    intro k t hk
    unfold lookP
    split
    · rename_i hkh
      rw [Nat.eq_of_beq_eq_true hkh, hs] at hk
      cases hk
    · exact hs
  unfold bind1
  repeat' split
  all_goals first | exact hs | exact bindF_keep hs | (apply key; assumption)
theorem bindL_keep {h : Nat} {s : Src} : ∀ {φ : Phi} {ys xs : List (SV A)}, lookP φ h = some s → lookP (bindL φ ys xs) h = some s
  | φ, [], _, hs => by unfold bindL; exact hs
  | φ, _ :: _, [], hs => by unfold bindL; exact hs
  | φ, y :: ys, x :: xs, hs => bindL_keep (ys := ys) (xs := xs) (bind1_keep hs)
theorem bind2_keep {φ : Phi} {y x : SV A} {h : Nat} {s : Src} (hs : lookP φ h = some s) : lookP (bind2 φ y x) h = some s := by
  unfold bind2
  split
  · split
    · exact bindL_keep hs
    · exact hs
  · split
    · exact bindL_keep hs
    · exact hs
  · exact bind1_keep hs
theorem bindLL_keep {h : Nat} {s : Src} : ∀ {φ : Phi} {ys xs : List (SV A)}, lookP φ h = some s → lookP (bindLL φ ys xs) h = some s
  | φ, [], _, hs => by unfold bindLL; exact hs
  | φ, _ :: _, [], hs => by unfold bindLL; exact hs
  | φ, y :: ys, x :: xs, hs => bindLL_keep (ys := ys) (xs := xs) (bind2_keep hs)
theorem bindV_keep {φ : Phi} {y x : SV A} {h : Nat} {s : Src} (hs : lookP φ h = some s) : lookP (bindV φ y x) h = some s := by
  unfold bindV
  split
  · split
    · exact bindLL_keep hs
    · exact hs
  · exact bind2_keep hs
theorem bindA_keep {φ : Phi} {h a id : Nat} {s : Src} (hs : lookP φ h = some s) : lookP (bindA φ a id) h = some s := by
  unfold bindA
  split
  · exact hs
  · rename_i hn
    unfold lookP
    split
    · rename_i hb
      rw [Nat.eq_of_beq_eq_true hb, hs] at hn
      cases hn
    · exact hs
theorem bindO_keep {own : Nat → Own A} {h : Nat} {s : Src} {L : List (Nat × Own A)} : ∀ {φ : Phi}, lookP φ h = some s → lookP (bindO own φ L) h = some s := by
  induction L with
  | nil => intro φ hs; unfold bindO; exact hs
  | cons p r ih =>
    intro φ hs
    obtain ⟨k, o⟩ := p
    cases o with
    | var c2 =>
      unfold bindO
      split
      · split
        · exact ih (bindL_keep hs)
        · exact ih hs
      · exact ih hs
    | prow a js =>
      unfold bindO
      split
      · split
        · exact ih (bindA_keep hs)
        · exact ih hs
      · exact ih hs
    | _ => exact ih hs
theorem only_keep {L : List (Nat × Own A)} {h : Nat} {s : Src} (hk : keepsB L h = true) : ∀ {φ : Phi}, lookP φ h = some s → lookP (only L φ) h = some s
  | [], hs => by cases hs
  | (k, t) :: r, hs => by
    unfold lookP at hs
    unfold only
    split at hs
    · rename_i hkh
      cases hs
      have := Nat.eq_of_beq_eq_true hkh
      subst this
      rw [if_pos hk]
      unfold lookP
      rw [if_pos (Nat.beq_refl _)]
    · rename_i hkh
      split
      · unfold lookP
        rw [if_neg hkh]
        exact only_keep hk hs
      · exact only_keep hk hs
theorem phi0_look : ∀ (os2 : List (Own A)) (j n id : Nat) (o : Own A), j ≤ id → id < j + n → os2[id - j]? = some o → (o.mut = true ∨ o.isAr = true) → ∃ s, lookP (phi0 os2 j n) id = some s ∧ s.id? = some id
  | [], j, n, id, o, _, _, h, _ => by simp at h
  | p :: r, j, 0, id, o, h1, h2, h, hm => by omega
  | p :: r, j, n + 1, id, o, h1, h2, h, hm => by
    by_cases hj : j = id
    · subst hj
      simp at h
      subst h
      unfold phi0
      cases p <;> first | (rcases hm with hm | hm <;> cases hm; done) | (refine ⟨_, by unfold lookP; rw [if_pos (Nat.beq_refl _)], rfl⟩; done)
    · have h3 : r[id - (j + 1)]? = some o := by rw [show id - j = (id - (j + 1)) + 1 by omega] at h; simpa using h
      obtain ⟨s, g1, g2⟩ := phi0_look r (j + 1) n id o (by omega) (by omega) h3 hm
      have hb : ¬ Nat.beq j id = true := fun hb => hj (Nat.eq_of_beq_eq_true hb)
      refine ⟨s, ?_, g2⟩
      unfold phi0
      cases p <;> simp only
      all_goals first | exact g1 | (unfold lookP; rw [if_neg hb]; exact g1)
theorem lens_get : ∀ {os os2 : List (Own A)}, lensW os os2 → ∀ {j : Nat} {o : Own A}, os[j]? = some o → ∃ o2, os2[j]? = some o2 ∧ (o2 = .dead ∨ ((o2.mut = true ∨ o2.isAr = true) ∧ o.later o2))
  | [], _, _, j, o, h => by simp at h
  | o0 :: r, [], hl, j, o, h => by cases o0 <;> exact hl.elim
  | o0 :: r, p :: r2, hl, j, o, h => by
    have hgo : ∀ {r2' : List (Own A)}, lensW r r2' → r2' = r2 → ∀ {i : Nat}, r[i]? = some o → ∃ o2, (p :: r2)[i + 1]? = some o2 ∧ (o2 = .dead ∨ ((o2.mut = true ∨ o2.isAr = true) ∧ o.later o2)) := by
      intro r2' h1 h2 i hi
      subst h2
      obtain ⟨o2, g1, g2⟩ := lens_get h1 hi
      exact ⟨o2, by simpa using g1, g2⟩
    unfold lensW at hl
    split at hl
    · rename_i heq; cases heq
    · rename_i h1 h2
      cases h1; cases h2
      cases j with
      | zero => simp at h; subst h; exact ⟨_, rfl, .inr ⟨.inl rfl, .var _ _⟩⟩
      | succ j => exact hgo hl rfl (by simpa using h)
    · rename_i h1 h2
      cases h1; cases h2
      cases j with
      | zero =>
        simp at h; subst h
        have h1 := hl.1
        split at h1
        · rename_i hh
          subst hh
          exact ⟨_, rfl, .inr ⟨.inl rfl, .row _ _ _ h1.symm⟩⟩
        · exact h1.elim
      | succ j => exact hgo hl.2 rfl (by simpa using h)
    · rename_i h1 h2
      cases h1; cases h2
      cases j with
      | zero => simp at h; subst h; exact ⟨_, rfl, .inr ⟨.inr rfl, .ar _ _ _ _⟩⟩
      | succ j => exact hgo hl.2 rfl (by simpa using h)
    · exact hl.elim
    · rename_i h1 h2
      cases h1; cases h2
      cases j with
      | zero => simp at h; subst h; exact ⟨_, rfl, .inr ⟨.inl rfl, .prow _ _ _ _ hl.1.symm⟩⟩
      | succ j => exact hgo hl.2 rfl (by simpa using h)
    · rename_i h1 h2
      cases h1; cases h2
      cases j with
      | zero => simp at h; subst h; exact ⟨_, rfl, .inl rfl⟩
      | succ j => exact hgo hl rfl (by simpa using h)
    · exact hl.elim
theorem lens_ar : ∀ {os os2 : List (Own A)}, lensW os os2 → ∀ {j : Nat} {n : Int} {ns : List Nd}, os[j]? = some (.ar n ns) → ∃ n2 ns2, os2[j]? = some (.ar n2 ns2) ∧ ns.length ≤ ns2.length
  | [], _, _, j, _, _, h => by simp at h
  | o0 :: r, [], hl, j, _, _, h => by cases o0 <;> exact hl.elim
  | o0 :: r, p :: r2, hl, j, n, ns, h => by
    cases j with
    | zero =>
      simp at h; subst h
      cases p <;> first | exact hl.elim | skip
      exact ⟨_, _, rfl, hl.1⟩
    | succ j =>
      have hgo : lensW r r2 → ∃ n2 ns2, (p :: r2)[j + 1]? = some (.ar n2 ns2) ∧ ns.length ≤ ns2.length := fun hl => by
        obtain ⟨n2, ns2, g1, g2⟩ := lens_ar hl (j := j) (by simpa using h)
        exact ⟨n2, ns2, by simpa using g1, g2⟩
      unfold lensW at hl
      split at hl
      · rename_i heq; cases heq
      · rename_i h1 h2; cases h1; cases h2; exact hgo hl
      · rename_i h1 h2; cases h1; cases h2; exact hgo hl.2
      · rename_i h1 h2; cases h1; cases h2; exact hgo hl.2
      · exact hl.elim
      · rename_i h1 h2; cases h1; cases h2; exact hgo hl.2
      · rename_i h1 h2; cases h1; cases h2; exact hgo hl
      · exact hl.elim
theorem nodOf_later {q : Nat} {n n2 : Int} {ns ns2 : List Nd} {i : Nat} (h : (nodOf (A := A) q n ns i).isNod = true) (hl : ns.length ≤ ns2.length) : (nodOf (A := A) q n ns i).later (nodOf q n2 ns2 i) := by
  unfold nodOf at h ⊢
  cases hx : ns[i]? with
  | none => rw [hx] at h; cases h
  | some x =>
    have hi := (List.getElem?_eq_some_iff.1 hx).1
    rw [List.getElem?_eq_getElem (show i < ns2.length by omega)]
    exact .nod _ _
theorem fn_soundH (hL : Laws P u tab) {draws : Array Oper → St A → (St A → Prop) → Prop} (hd : ∀ w0 O0, DrawsOk P u w0 O0 draws)
    {f : Nat} {fn : Func} (hf : P.funcs[f]? = some fn) {sp : HSpec A} (h : ∀ xs os c y os2, sp xs os = some (c, y, os2) → holds c → ∃ lits, ∃ loops : Nat → ((X → St A → Prop) → St A → Prop) → Code → (X → St A → Prop) → St A → Prop, (∀ w0 O0, LoopsOk P u w0 O0 loops) ∧ bodyH P u tab lits draws loops fn xs os y os2) : FnOkH P u f sp := by
  intro xs os c y os2 hsp hc w0 O0 e vs hr ho hx
  obtain ⟨lits, loops, hl, hb⟩ := h xs os c y os2 hsp hc
  refine fn_core P u tab hL (hd w0 O0) (hl w0 O0) hf hr ho hx hb ?_
  intro r s e' v hm hr' ho' hv
  unfold endH at hm
  simp only at hm
  split at hm
  case h_2 => exact hm.elim
  rename_i hdist
  obtain ⟨h1, h2, h3⟩ := hm
  have hlook : ∀ id, look (zipL os2 0) id = os2[id]? := by intro id; rw [zipL_look]; simp
  have hheadF : headOwn (fun _ => .free) (zipL os2 0) = ownL os2 := by
    unfold headOwn ownL
    congr 1
    funext id
    unfold headB ownB
    rw [hlook]
    cases os2[id]? <;> rfl
  have hhead : ∀ id, headOwn (fun _ => .free) (zipL os2 0) id = ownL os2 id := fun id => by rw [hheadF]
  have hhand : ∀ id p, w0.hand id = some p → id < 1152921504606846976 → id < os.length := by
    intro id p hp hlt
    rcases hr.hand id p hp with hh | ⟨hh, _⟩
    · rw [ho, ownL_lt hlt] at hh
      unfold ownB at hh
      split at hh
      · rename_i o hoo; exact (List.getElem?_eq_some_iff.1 hoo).1
      · cases hh
    · rw [ho, ownL_lt hlt] at hh
      unfold ownB at hh
      split at hh
      · rename_i o hoo; exact (List.getElem?_eq_some_iff.1 hoo).1
      · exact absurd rfl hh
  obtain ⟨g1, g2⟩ := reshape P u hL.toLaw hL.clean hr' (φ := phiR os os2 s.own y r) (L := zipL os2 0) (dfl := fun _ => .free) hdist (fun h s hs => only_look hs)
    (fun h o hm => by rw [ho']; exact fitOs_mem u h2 hm) (fun _ => .inl rfl) (fun id p hp => by
      have hlt : id < 1152921504606846976 := by have := hr.hlo id p hp; omega
      have hid := hhand id p hp hlt
      obtain ⟨o2, k1, k2⟩ := lens_get h3 (List.getElem?_eq_getElem hid)
      have hq : headOwn (fun _ => .free) (zipL os2 0) id = o2 := by rw [hhead, ownL_lt hlt]; unfold ownB; rw [k1]
      rw [hq]
      rcases k2 with k2 | ⟨k2, k3⟩
      · exact .inl k2
      · refine .inr ⟨k3.not_free, ?_⟩
        obtain ⟨s', q1, q2⟩ := phi0_look os2 0 os.length id o2 (Nat.zero_le _) (by omega) (by simpa using k1) k2
        refine ⟨s', only_keep ?_ (bindO_keep (bindV_keep q1)), q2⟩
        unfold keepsB
        rw [hlook, k1]
        cases o2 <;> first | rfl | (rcases k2 with k2 | k2 <;> cases k2))
  refine ⟨v, mkE O0 e'.w (headOwn (fun _ => .free) (zipL os2 0)) (headβ (phiR os os2 s.own y r) e'.β), rfl, rfl, g1, fun id hid => ?_, hheadF, matchV_sound P u hL.toLaw hL.clean hr' g2 hv (by rw [ho']; exact h1)⟩
  rw [mkE_own, hhead]
  rw [ho] at hid ⊢
  have key : ∀ id, id < 1152921504606846976 → ownL os id ≠ .free → (ownL os id).later (ownL os2 id) := by
    intro id hlt hid
    rw [ownL_lt hlt] at hid ⊢
    rw [ownL_lt hlt]
    unfold ownB at hid ⊢
    cases hoo : os[id]? with
    | none => rw [hoo] at hid; exact absurd rfl hid
    | some o =>
      obtain ⟨o2, k1, k2⟩ := lens_get h3 hoo
      simp only [k1]
      rcases k2 with rfl | ⟨_, k2⟩
      · exact .dead _
      · exact k2
  rcases Nat.lt_or_ge id 1152921504606846976 with hlt | hge
  · exact key id hlt hid
  · have hr := ndId_lt id
    have hnn := (ownL_lk os).hi_nod hge hid
    have harr : (ownL os (ndId id)).isAr = true := by
      by_cases har : (ownL os (ndId id)).isAr = true
      · exact har
      · have := (ownL_lk os).noNode (ndIx id) hr (not_ar har)
        rw [nodeNo_of hge] at this
        exact absurd this hid
    obtain ⟨n, ns, ho1⟩ := isAr_eq harr
    have ho2 := ho1
    rw [ownL_lt (by omega)] at ho2
    unfold ownB at ho2
    have hos1 : os[ndId id]? = some (.ar n ns) := by
      cases hq : os[ndId id]? with
      | none => rw [hq] at ho2; cases ho2
      | some o => rw [hq] at ho2; simp only at ho2; rw [ho2]
    obtain ⟨n2, ns2, h4, h5⟩ := lens_ar h3 hos1
    have ho3 : ownL os2 (ndId id) = .ar n2 ns2 := by rw [ownL_lt (by omega)]; unfold ownB; rw [h4]
    have q1 := (ownL_lk os).node (ndIx id) hr ho1
    have q2 := (ownL_lk os2).node (ndIx id) hr ho3
    rw [nodeNo_of hge] at q1 q2
    rw [q1, q2]
    rw [q1] at hnn
    exact nodOf_later hnn h5
end
end Go.Proofs.Ytndacggailoogaa.Sx
