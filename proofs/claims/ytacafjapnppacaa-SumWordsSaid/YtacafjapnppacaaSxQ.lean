/- An abstract machine over values by content, seventeenth part: loops by what stays true of their rounds. -/
import Derived.Test.YtacafjapnppacaaSxP
import Derived.Deep.LoopGhost
namespace Go.Proofs.Ytacafjapnppacaa.Sx
open Go Go.RowKit

section
variable {A : Nat → Type} (P : Program) (u : U A) (tab : List (Nat × Spec A))

/-- What is said of a loop: what a round knows (inv), the temporaries that are as they were ahead of the loop (keep), those that are as told (slots); of the blocks that temporaries stood for ahead of the loop: those that are as they were, those that are as told; a number that each round lowers. -/
structure Ann (A : Nat → Type) : Type 1 where
  G : Type
  inv : G → Prop
  keep : List Nat := []
  slots : G → List (Nat × SV A)
  keepO : List Nat := []
  owns : G → List (Nat × Own A) := fun _ => []
  μ : G → Nat
def idAt (s : St A) (t : Nat) : List Nat := match s.get t with
  | .optr id _ => [id]
  | .osl id _ _ => [id]
  | .rptr id _ _ => [id]
  | _ => []
def keepOs (s : St A) : List Nat → List (Nat × Own A)
  | [] => []
  | t :: r => match idAt s t with
    | [id] => (id, s.own id) :: keepOs s r
    | _ => keepOs s r
def toldOs (s : St A) : List (Nat × Own A) → List (Nat × Own A)
  | [] => []
  | (t, o) :: r => match idAt s t with
    | [id] => (id, o) :: toldOs s r
    | _ => toldOs s r
def keepTs (s : St A) : List Nat → List (Nat × SV A)
  | [] => []
  | t :: r => (t, s.get t) :: keepTs s r
def look (L : List (Nat × Own A)) (id : Nat) : Option (Own A) := match L with
  | [] => none
  | (k, o) :: r => if Nat.beq k id then some o else look r id
def headOwn (own : Nat → Own A) (L : List (Nat × Own A)) (id : Nat) : Own A := match look L id with
  | some o => o
  | none => match own id with
    | .free => .free
    | _ => .dead
def setTs (l : List (SV A)) : List (Nat × SV A) → List (SV A)
  | [] => l
  | (t, x) :: r => setTs (l.set t (plainV x)) r
def annTs (s : St A) (n : Ann A) (g : n.G) : List (Nat × SV A) := keepTs s n.keep ++ n.slots g
def annOs (s : St A) (n : Ann A) (g : n.G) : List (Nat × Own A) := keepOs s n.keepO ++ toldOs s (n.owns g)
/-- The state ahead of a round. -/
def headSt (s : St A) (n : Ann A) (g : n.G) : St A := { tmps := setTs (s.tmps.map fun _ => .top) (annTs s n g), own := headOwn s.own (annOs s n g), nx := s.nx, gu := [] }
def matchO (own : Nat → Own A) (keep : Nat → Bool) (o p : Own A) : Prop := match p with
  | .var c2 => match o with
    | .var c => matchL own keep c c2
    | _ => False
  | .row _ ys => match o with
    | .row _ xs => cast? xs ys
    | _ => False
  | .fro _ ys => match o with
    | .row _ xs => cast? xs ys
    | .fro _ xs => cast? xs ys
    | _ => False
  | _ => False
def fitTs (s : St A) (keep : Nat → Bool) : List (Nat × SV A) → Prop
  | [] => True
  | (t, x) :: r => match r with
    | [] => matchV s.own keep (s.get t) (plainV x)
    | _ => matchV s.own keep (s.get t) (plainV x) ∧ fitTs s keep r
def fitOs (s : St A) (keep : Nat → Bool) : List (Nat × Own A) → Prop
  | [] => True
  | (id, o) :: r => match r with
    | [] => matchO s.own keep (s.own id) o
    | _ => matchO s.own keep (s.own id) o ∧ fitOs s keep r
def keeps (L : List (Nat × Own A)) (id : Nat) : Bool := match look L id with
  | some _ => true
  | none => false
/-- A state comes to the head of the loop. -/
def fitW (s0 s : St A) (n : Ann A) (g : n.G) : Prop := match Nat.beq s.tmps.length s0.tmps.length with
  | true => (match annOs s0 n g with
    | [] => fitTs s (fun _ => false) (annTs s0 n g)
    | L => fitTs s (keeps L) (annTs s0 n g) ∧ fitOs s (keeps L) L)
  | false => False
def invW (n : Ann A) (W : (X → St A → Prop) → St A → Prop) (Q : X → St A → Prop) (s : St A) : Prop :=
  (∃ g, n.inv g ∧ fitW s s n g) ∧ ∀ g, n.inv g → W (fun x s' => match x with
    | .norm => ∃ g', n.inv g' ∧ n.μ g' < n.μ g ∧ fitW s s' n g'
    | .exit i => Q (.exit i) s'
    | .ret => Q .ret s') (headSt s n g)
inductive LoopAnn (A : Nat → Type) : Type 1
  | rounds (n : Nat)
  | inv (n : Ann A)
def loopsBy (l : List (Nat × LoopAnn A)) (b : Nat) (W : (X → St A → Prop) → St A → Prop) (c : Code) (Q : X → St A → Prop) (s : St A) : Prop := match l with
  | [] => False
  | (k, n) :: r => if Nat.beq k b then (match n with
    | .rounds m => iterW W m Q s
    | .inv n => invW n W Q s) else loopsBy r b W c Q s

theorem fitTs_mem {s : St A} {keep : Nat → Bool} : ∀ {l : List (Nat × SV A)} {t : Nat} {x : SV A}, fitTs s keep l → (t, x) ∈ l → matchV s.own keep (s.get t) (plainV x)
  | (t', x') :: r, t, x, h, hm => by
    unfold fitTs at h
    cases r with
    | nil => rcases List.mem_singleton.1 hm with hh; cases hh; exact h
    | cons p r =>
      obtain ⟨h1, h2⟩ := h
      rcases List.mem_cons.1 hm with hh | hh
      · cases hh; exact h1
      · exact fitTs_mem h2 hh
theorem fitOs_mem {s : St A} {keep : Nat → Bool} : ∀ {l : List (Nat × Own A)} {id : Nat} {o : Own A}, fitOs s keep l → (id, o) ∈ l → matchO s.own keep (s.own id) o
  | (t', x') :: r, t, x, h, hm => by
    unfold fitOs at h
    cases r with
    | nil => rcases List.mem_singleton.1 hm with hh; cases hh; exact h
    | cons p r =>
      obtain ⟨h1, h2⟩ := h
      rcases List.mem_cons.1 hm with hh | hh
      · cases hh; exact h1
      · exact fitOs_mem h2 hh
theorem look_mem {L : List (Nat × Own A)} {id : Nat} {o : Own A} (h : look L id = some o) : (id, o) ∈ L := by
  induction L with
  | nil => cases h
  | cons p r ih =>
    obtain ⟨k, o'⟩ := p
    unfold look at h
    split at h
    · rename_i hk
      cases h
      rw [Nat.eq_of_beq_eq_true hk]
      exact List.mem_cons_self ..
    · exact List.mem_cons_of_mem _ (ih h)
theorem setTs_get : ∀ {r : List (Nat × SV A)} {l : List (SV A)} {i : Nat} {x : SV A}, (setTs l r)[i]? = some x → l[i]? = some x ∨ ∃ y, (i, y) ∈ r ∧ x = plainV y
  | [], l, i, x, h => .inl h
  | (t, z) :: r, l, i, x, h => by
    rcases setTs_get (r := r) h with h0 | ⟨y, h1, h2⟩
    · clear h
      rw [List.getElem?_set] at h0
      split at h0
      · rename_i hti
        subst hti
        split at h0
        · cases h0; exact .inr ⟨z, List.mem_cons_self .., rfl⟩
        · cases h0
      · exact .inl h0
    · exact .inr ⟨y, List.mem_cons_of_mem _ h1, h2⟩
theorem setTs_length : ∀ (r : List (Nat × SV A)) (l : List (SV A)), (setTs l r).length = l.length
  | [], l => rfl
  | (t, z) :: r, l => by rw [setTs, setTs_length r]; simp
theorem plain_notWh (x : SV A) (d : Nat) (p : Bool) (y : SV A) : plainV x ≠ .wh d p y := by
  unfold plainV
  split
  · simp
  · rename_i h; exact h d p y

/-- A state that fits stands for the head's. -/
theorem head_sound (hL : Laws P u tab) {w0 : World} {O0 : Nat → Prop} {s0 s : St A} {e : E A} {a : Act} (h : RepS P u w0 O0 s e a) (hn : noWh s) {n : Ann A} {g : n.G} (hf : fitW s0 s n g) :
    ∃ e', e'.w = e.w ∧ RepS P u w0 O0 (headSt s0 n g) e' a ∧ noWh (headSt s0 n g) := by
  have hf' : s.tmps.length = s0.tmps.length ∧ fitTs s (keeps (annOs s0 n g)) (annTs s0 n g) ∧ fitOs s (keeps (annOs s0 n g)) (annOs s0 n g) := by
    unfold fitW at hf
    split at hf
    · rename_i hl
      refine ⟨Nat.eq_of_beq_eq_true hl, ?_⟩
      split at hf
      · rename_i h0
        rw [h0]
        exact ⟨hf, trivial⟩
      · exact hf
    · exact hf.elim
  obtain ⟨hlen, hT, hO⟩ := hf'
  generalize hLd : annOs s0 n g = L at *
  let own2 := headOwn s0.own L
  let e' : E A := { w := e.w, O := fun b => O0 b ∨ ∃ id c, (own2 id).mut = true ∧ e.β id = some (b, c), own := own2, β := e.β }
  have hhead : ∀ id, (∃ o, look L id = some o ∧ own2 id = o ∧ matchO s.own (keeps L) (s.own id) o) ∨ (keeps L id = false ∧ (own2 id = .free ∨ own2 id = .dead)) := by
    intro id
    show (∃ o, look L id = some o ∧ headOwn s0.own L id = o ∧ _) ∨ (_ ∧ (headOwn s0.own L id = .free ∨ headOwn s0.own L id = .dead))
    unfold headOwn keeps
    cases hl : look L id with
    | some o => exact .inl ⟨o, rfl, rfl, fitOs_mem hO (look_mem hl)⟩
    | none =>
      refine .inr ⟨rfl, ?_⟩
      simp only
      split
      · exact .inl rfl
      · exact .inr rfl
  have hlive : ∀ id, own2 id ≠ .free → own2 id ≠ .dead → keeps L id = true ∧ ((own2 id).mut = true → (s.own id).mut = true) ∧ s.own id ≠ .free ∧ s.own id ≠ .dead := by
    intro id h1 h2
    rcases hhead id with ⟨o, g1, g2, g3⟩ | ⟨_, h3 | h3⟩
    · refine ⟨by unfold keeps; rw [g1], ?_⟩
      rw [g2]
      generalize s.own id = q at *
      unfold matchO at g3
      cases o <;> cases q <;> first | exact g3.elim | (refine ⟨fun hm => ?_, by simp, by simp⟩; first | rfl | cases hm)
    · exact absurd h3 h1
    · exact absurd h3 h2
  have hinj : ∀ id id' b c c', own2 id ≠ .free → own2 id ≠ .dead → own2 id' ≠ .free → own2 id' ≠ .dead → e.β id = some (b, c) → e.β id' = some (b, c') → id = id' := by
    intro id id' b c c' h1 h2 h3 h4 h5 h6
    obtain ⟨_, _, g1, g2⟩ := hlive id h1 h2
    obtain ⟨_, _, g3, g4⟩ := hlive id' h3 h4
    exact h.hr.inj id id' b c c' (by rw [h.own]; exact g1) (by rw [h.own]; exact g2) (by rw [h.own]; exact g3) (by rw [h.own]; exact g4) h5 h6
  have hmutL : ∀ id, (own2 id).mut = true → own2 id ≠ .free ∧ own2 id ≠ .dead := by
    intro id hm
    constructor <;> (intro hx; rw [hx] at hm; cases hm)
  have hOle : ∀ b, ¬ e.O b → ¬ e'.O b := by
    intro b hb hb'
    apply hb
    rcases hb' with hb' | ⟨id, c, h1, h2⟩
    · exact (h.hr.O b).2 (.inl hb')
    · obtain ⟨g1, g2⟩ := hmutL id h1
      exact (h.hr.O b).2 (.inr ⟨id, c, by rw [h.own]; exact (hlive id g1 g2).2.1 h1, h2⟩)
  have hfew : Fewer e e' (keeps L) := by
    refine ⟨rfl, hOle, ?_, ?_, ?_⟩
    · intro id b c hk h1 h2 hβ hb'
      rcases hb' with hb' | ⟨id', c', h3, h4⟩
      · obtain ⟨b', c2, arr, T, h5, h6, _⟩ := (h.hr.ent id).place P u h1 h2
        rw [h5] at hβ; cases hβ
        have := h.hr.o0 b hb'
        omega
      · obtain ⟨g1, g2⟩ := hmutL id' h3
        obtain ⟨g3, _, g4, g5⟩ := hlive id' g1 g2
        have := h.hr.inj id id' b c c' h1 h2 (by rw [h.own]; exact g4) (by rw [h.own]; exact g5) hβ h4
        subst this
        rw [hk] at g3; cases g3
    · intro id hk hv
      refine ⟨?_, rfl⟩
      rcases hhead id with ⟨o, g1, g2, g3⟩ | ⟨hk', _⟩
      · show (own2 id).isVar = true
        rw [g2]
        rw [h.own] at hv
        generalize s.own id = q at *
        unfold matchO at g3
        cases o <;> cases q <;> first | exact g3.elim | rfl | cases hv
      · rw [hk] at hk'; cases hk'
    · intro id T ys hk hv
      refine ⟨?_, rfl⟩
      rcases hhead id with ⟨o, g1, g2, g3⟩ | ⟨hk', _⟩
      · show own2 id = _ ∨ own2 id = _
        rw [g2]
        rw [h.own] at hv
        rcases hv with hv | hv
        · rw [hv] at g3
          unfold matchO at g3
          cases o with
          | row S zs =>
            simp only at g3
            obtain ⟨hh, he⟩ := cast_eq g3
            subst hh
            exact .inl (by rw [← show ys = zs from he])
          | fro S zs =>
            simp only at g3
            obtain ⟨hh, he⟩ := cast_eq g3
            subst hh
            exact .inr (by rw [← show ys = zs from he])
          | _ => exact g3.elim
        · rw [hv] at g3
          unfold matchO at g3
          cases o with
          | fro S zs =>
            simp only at g3
            obtain ⟨hh, he⟩ := cast_eq g3
            subst hh
            exact .inr (by rw [← show ys = zs from he])
          | _ => exact g3.elim
      · rw [hk] at hk'; cases hk'
  have hun : ∀ {T : Nat} {x : A T} {vs : List Value}, RepL P u e (u.enc T x) vs → RepL P u e' (u.enc T x) vs := fun hx => hx.unbare P u hL.clean (e := e) (e' := e') rfl hOle (hL.clean _ _)
  have hr' : HR P u w0 O0 e' := by
    refine ⟨h.hr.below, h.hr.o0, hinj, fun b => Iff.rfl, fun id => ?_⟩
    show EntOk P u e' w0.heap.size id (own2 id)
    rcases hhead id with ⟨o, g1, g2, g3⟩ | ⟨_, h3 | h3⟩
    · rw [g2]
      have hent := h.hr.ent id
      rw [h.own] at hent
      have hrow : ∀ {T : Nat} {xs : List (A T)}, EntOk P u e w0.heap.size id (.row T xs) → EntOk P u e' w0.heap.size id (.row T xs) := by
        rintro T xs ⟨b, c, arr, T', vss, k1, k2, k3, k4, k5, k6⟩
        exact ⟨b, c, arr, T', vss, k1, k2, k3, k4, k5, fun i x hi => ⟨hun (k6 i x hi).1, (k6 i x hi).2⟩⟩
      generalize s.own id = q at *
      unfold matchO at g3
      cases o with
      | free => exact g3.elim
      | dead => exact g3.elim
      | var c2 =>
        cases q with
        | var c =>
          obtain ⟨b, cc, vs, T, k1, k2, k3, k4⟩ := hent
          have hl := matchL_sound P u hL.clean h.hr hfew k4 (by rw [h.own]; exact g3)
          exact ⟨b, cc, vs, T, k1, k2, k3, hl⟩
        | _ => exact g3.elim
      | row S zs =>
        cases q with
        | row T xs =>
          simp only at g3
          obtain ⟨hh, he⟩ := cast_eq g3
          subst hh
          rw [← show xs = zs from he]
          exact hrow hent
        | _ => exact g3.elim
      | fro S zs =>
        cases q with
        | row T xs =>
          simp only at g3
          obtain ⟨hh, he⟩ := cast_eq g3
          subst hh
          rw [← show xs = zs from he]
          exact hrow hent
        | fro T xs =>
          simp only at g3
          obtain ⟨hh, he⟩ := cast_eq g3
          subst hh
          rw [← show xs = zs from he]
          exact hrow hent
        | _ => exact g3.elim
    · rw [h3]; trivial
    · rw [h3]; trivial
  have hget : ∀ (i : Nat) (x : SV A), (headSt s0 n g).tmps[i]? = some x → x = .top ∨ ∃ y, (i, y) ∈ annTs s0 n g ∧ x = plainV y := by
    intro i x hi
    rcases setTs_get hi with hi | hi
    · simp only [List.getElem?_map, Option.map_eq_some_iff] at hi
      obtain ⟨_, _, h2⟩ := hi
      exact .inl h2.symm
    · exact .inr hi
  have hno : noWh (headSt s0 n g) := by
    intro i d p y hi
    rcases hget i _ hi with hx | ⟨z, _, hz⟩
    · cases hx
    · exact plain_notWh z d p y hz.symm
  refine ⟨e', rfl, ⟨h.defers, ?_, ?_, hr', ?_, fun i d p y hi => absurd hi (hno i d p y)⟩, hno⟩
  · rw [h.size, hlen]
    simp only [headSt, setTs_length, List.length_map]
  · show own2 = (headSt s0 n g).own
    simp only [headSt, hLd]
    rfl
  · intro i x hi
    rcases hget i x hi with rfl | ⟨y, hy, rfl⟩
    · exact slot_plain P u (.top _ .nil)
    · refine slot_plain P u (matchV_sound P u hL.clean h.hr hfew (x := s.get i) ?_ (by rw [h.own]; exact fitTs_mem hT hy))
      have hs := h.get P u i
      unfold slotOk at hs
      split at hs
      · rename_i d p z hz
        exfalso
        unfold St.get at hz
        split at hz
        · rename_i q hq
          rw [hz] at hq
          exact hn _ _ _ _ hq
        · cases hz
      · exact hs
theorem inv_sound (hL : Laws P u tab) {w0 : World} {O0 : Nat → Prop} {W : (X → St A → Prop) → St A → Prop} {c : Code} (hW : Sound P u w0 O0 W c) (n : Ann A) : Sound P u w0 O0 (invW n W) (.loop c) := by
  intro Q s e a h hn hk
  obtain ⟨⟨g0, hg0, hf0⟩, hround⟩ := hk
  obtain ⟨e1, hw1, hS1, hn1⟩ := head_sound P u tab hL h hn hf0
  rw [← hw1]
  refine wp_loop_ghost (fun m a w => ∃ g e', n.μ g = m ∧ n.inv g ∧ e'.w = w ∧ RepS P u w0 O0 (headSt s n g) e' a ∧ noWh (headSt s n g)) (n.μ g0) ⟨g0, e1, rfl, hg0, rfl, hS1, hn1⟩ ?_
  rintro m a' w' ⟨g, e2, hm, hg, rfl, hS, hno⟩
  refine Code.wp_mono ?_ (hW _ _ e2 a' hS hno (hround g hg))
  rintro ex a2 w2 ⟨z, s', e3, h1, h2, h3, h4, rfl⟩
  cases z with
  | norm =>
    cases ex <;> first | exact h1.elim | skip
    obtain ⟨g', hg', hlt, hf⟩ := h2
    obtain ⟨e4, hw4, hS4, hn4⟩ := head_sound P u tab hL h3 h4 hf
    exact ⟨n.μ g', by omega, g', e4, rfl, hg', hw4, hS4, hn4⟩
  | exit i =>
    cases ex <;> first | exact h1.elim | skip
    exact ⟨.exit i, s', e3, h1, h2, h3, h4, rfl⟩
  | ret =>
    cases ex <;> first | exact h1.elim | skip
    exact ⟨.ret, s', e3, h1, h2, h3, h4, rfl⟩
theorem loops_sound (hL : Laws P u tab) {w0 : World} {O0 : Nat → Prop} : ∀ l : List (Nat × LoopAnn A), LoopsOk P u w0 O0 (loopsBy l)
  | [], b, W, c, hW => fun Q s e a h hn hk => hk.elim
  | (k, n) :: r, b, W, c, hW => by
    intro Q s e a h hn hk
    unfold loopsBy at hk
    split at hk
    · split at hk
      · exact iter_sound P u hW _ Q s e a h hn hk
      · exact inv_sound P u tab hL hW _ Q s e a h hn hk
    · exact loops_sound hL r b W c hW Q s e a h hn hk
/-- What a body comes to holds (behind a name that is not looked through). -/
structure BodyOk (l : List (Nat × LoopAnn A)) (fn : Func) (xs : List (SV A)) (y : SV A) : Prop where
  out : bodyW P u tab (drawW P u tab) (loopsBy l) fn xs y
/-- A function's contract, its regions that draw by the order of the text, its loops as told. -/
theorem fn_ok (hm : P.follows .mixedOrders = true) (hL : Laws P u tab) {f : Nat} {fn : Func} (hf : P.funcs[f]? = some fn) {sp : Spec A}
    (h : ∀ xs c y, sp xs = some (c, y) → holds c → noOwn.go xs = true ∧ ∃ l : List (Nat × LoopAnn A), BodyOk P u tab l fn xs y) : FnOk P u f sp :=
  fn_sound P u tab hL (fun w0 O0 => draw_sound P u tab hm hL) hf fun xs c y h1 h2 => by
    obtain ⟨h3, l, h4⟩ := h xs c y h1 h2
    exact ⟨h3, loopsBy l, fun w0 O0 => loops_sound P u tab hL l, h4.out⟩
theorem headSt_length (s0 : St A) (n : Ann A) (g : n.G) : (headSt s0 n g).tmps.length = s0.tmps.length := by simp only [headSt, setTs_length, List.length_map]
end
end Go.Proofs.Ytacafjapnppacaa.Sx
