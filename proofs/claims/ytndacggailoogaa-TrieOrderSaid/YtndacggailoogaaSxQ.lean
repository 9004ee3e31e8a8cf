/- An abstract machine over values by content, seventeenth part: loops by what stays true of their rounds. -/
import Derived.Test.YtndacggailoogaaSxP
import Derived.Deep.LoopGhost
namespace Go.Proofs.Ytndacggailoogaa.Sx
open Go Go.RowKit

section
variable {A : Nat → Type} (P : Program) (u : U A) (tab : List (Nat × Con A))

/-- What is said of a loop: what a round knows (inv), the temporaries that are as they were ahead of the loop (keep), those that are as told (slots); the blocks that temporaries of before stood for and that are as they were (keepO), the blocks as told (owns); a number that each round lowers. A told block's number below 64 is a new one; 64 + k is the block k itself. -/
structure Ann (A : Nat → Type) : Type 1 where
  G : Type
  inv : G → Prop
  keep : List Nat := []
  slots : G → List (Nat × SV A)
  keepO : List Nat := []
  owns : G → List (Nat × Own A) := fun _ => []
  μ : G → Nat
def idAt (s : St A) (t : Nat) : Option Nat := match s.get t with
  | .optr id _ => some id
  | .osl id _ _ => some id
  | .orow id => some id
  | .vsl id _ _ => some id
  | .rptr id _ _ => some id
  | .np id _ _ => some id
  | _ => none
def keepOs (s : St A) : List Nat → List (Nat × Own A)
  | [] => []
  | t :: r => match idAt s t with
    | some id => (id, s.own id) :: keepOs s r
    | none => keepOs s r
def shN (b r : Nat) : Nat := if Nat.blt r 64 then 64 * b + r else r - 64
def absOs (b : Nat) : List (Nat × Own A) → List (Nat × Own A)
  | [] => []
  | (r, o) :: l => if Nat.blt r 64 then absOs b l else (r - 64, renO (shN b) o) :: absOs b l
def relOs (b : Nat) : List (Nat × Own A) → List (Nat × Own A)
  | [] => []
  | (r, o) :: l => if Nat.blt r 64 then (64 * b + r, renO (shN b) o) :: relOs b l else relOs b l
def keepTs (s : St A) : List Nat → List (Nat × SV A)
  | [] => []
  | t :: r => (t, s.get t) :: keepTs s r
def shTs (b : Nat) : List (Nat × SV A) → List (Nat × SV A)
  | [] => []
  | (t, x) :: r => (t, ren (shN b) x) :: shTs b r
def setTs (l : List (SV A)) : List (Nat × SV A) → List (SV A)
  | [] => l
  | (t, x) :: r => setTs (l.set t (plainV x)) r
def annTs (s : St A) (n : Ann A) (g : n.G) : List (Nat × SV A) := keepTs s n.keep ++ shTs s.nx (n.slots g)
def annA (s : St A) (n : Ann A) (g : n.G) : List (Nat × Own A) := keepOs s n.keepO ++ absOs s.nx (n.owns g)
def annOs (s : St A) (n : Ann A) (g : n.G) : List (Nat × Own A) := annA s n g ++ relOs s.nx (n.owns g)
def dflO (own : Nat → Own A) (id : Nat) : Own A := match own id with
  | .free => .free
  | _ => .dead
def idents : List (Nat × Own A) → Phi
  | [] => []
  | (h, o) :: r => (match o with
    | .var _ => (h, .var h) :: idents r
    | .row _ _ => (h, .row h) :: idents r
    | .fro _ _ => (h, .row h) :: idents r
    | .mp _ _ _ => (h, .mp h) :: idents r
    | .rowC _ _ _ _ => (h, .var h) :: idents r
    | .ar _ _ => (h, .ar h) :: idents r
    | .prow _ _ => (h, .prow h) :: idents r
    | .nod _ => (h, .var h) :: idents r
    | _ => idents r)
def bindTs (s : St A) (φ : Phi) : List (Nat × SV A) → Phi
  | [] => φ
  | (t, x) :: r => bindTs s (bindV φ (plainV x) (s.get t)) r
def phiA (s0 s : St A) (n : Ann A) (g : n.G) : Phi := only (annOs s0 n g) (bindO s.own (bindTs s (idents (annA s0 n g)) (annTs s0 n g)) (annOs s0 n g))
/-- The state ahead of a round. -/
def headSt (s : St A) (n : Ann A) (g : n.G) : St A := { tmps := setTs (s.tmps.map fun _ => .top) (annTs s n g), own := headOwn (dflO s.own) (annOs s n g), nx := s.nx + 1, gu := [] }
def fitTs (s : St A) (φ : Phi) : List (Nat × SV A) → Prop
  | [] => True
  | (t, x) :: r => match r with
    | [] => matchV u s.own φ (s.get t) (plainV x)
    | _ => matchV u s.own φ (s.get t) (plainV x) ∧ fitTs s φ r
def newOs (own : Nat → Own A) : List (Nat × Own A) → Bool
  | [] => true
  | (h, _) :: r => match own h with
    | .free => newOs own r
    | _ => false
/-- A state comes to the head of the loop. -/
def forceSrc (s : Src) (K : Src → Prop) : Prop := match s with
  | .nil => K .nil
  | .var i => forceN i fun i => K (.var i)
  | .row i => forceN i fun i => K (.row i)
  | .part i l => forceN i fun i => K (.part i l)
  | .mp i => forceN i fun i => K (.mp i)
  | .ar i => forceN i fun i => K (.ar i)
  | .prow i => forceN i fun i => K (.prow i)
theorem forceSrc_eq (s : Src) (K : Src → Prop) : forceSrc s K = K s := by cases s <;> simp only [forceSrc, forceN_eq]
def forceP (φ : Phi) (K : Phi → Prop) : Prop :=
  List.rec (motive := fun _ => (Phi → Prop) → Prop) (fun K => K []) (fun x _ ih K => forceN x.1 fun h => forceSrc x.2 fun s => ih fun r' => K ((h, s) :: r')) φ K
theorem forceP_eq : ∀ (φ : Phi) (K : Phi → Prop), forceP φ K = K φ
  | [], K => rfl
  | x :: r, K => by
    show forceN x.1 (fun h => forceSrc x.2 fun s => forceP r fun r' => K ((h, s) :: r')) = K (x :: r)
    rw [forceN_eq, forceSrc_eq, forceP_eq r]
/-- A state comes to the head of the loop. -/
def fitW (s0 s : St A) (n : Ann A) (g : n.G) : Prop := match Nat.beq s.tmps.length s0.tmps.length && newOs s0.own (relOs s0.nx (n.owns g)) with
  | true => forceP (phiA s0 s n g) fun φ => (match distP φ with
      | true => (match annOs s0 n g with
        | [] => fitTs u s φ (annTs s0 n g)
        | L => fitTs u s φ (annTs s0 n g) ∧ fitOs u s.own φ L)
      | false => False)
  | false => False
def invW (n : Ann A) (W : (X → St A → Prop) → St A → Prop) (Q : X → St A → Prop) (s : St A) : Prop :=
  (∃ g, n.inv g ∧ fitW u s s n g) ∧ ∀ g, n.inv g → forceS (headSt s n g) (W fun x s' => match x with
    | .norm => ∃ g', n.inv g' ∧ n.μ g' < n.μ g ∧ fitW u s s' n g'
    | .exit i => Q (.exit i) s'
    | .ret => Q .ret s')
inductive LoopAnn (A : Nat → Type) : Type 1
  | rounds (n : Nat)
  | inv (n : Ann A)
  | see (t : Nat) (f : Nat → Ann A)
  | cut (t : Nat) (f : Nat → Ann A)
  | see2 (t t' : Nat) (f : Nat → Nat → Ann A)
/-- A fork whose ways come to a state that is told: it goes on from that one. -/
def cutW (n : Ann A) (W : (X → St A → Prop) → St A → Prop) (Q : X → St A → Prop) (s : St A) : Prop :=
  W (fun x s' => match x with
    | .norm => ∃ g, n.inv g ∧ fitW u s s' n g
    | .exit i => Q (.exit i) s'
    | .ret => Q .ret s') s ∧ ∀ g, n.inv g → forceS (headSt s n g) (Q .norm)
def loopsBy (l : List (Nat × LoopAnn A)) (b : Nat) (W : (X → St A → Prop) → St A → Prop) (c : Code) (Q : X → St A → Prop) (s : St A) : Prop := match l with
  | [] => False
  | (k, n) :: r => if Nat.beq k b then (match n with
    | .rounds m => (match Nat.blt b 1000000 with
      | true => iterW W m Q s
      | false => False)
    | .inv n => (match Nat.blt b 1000000 with
      | true => invW u n W Q s
      | false => False)
    | .see t f => (match Nat.blt b 1000000 with
      | true => (match s.get t with
        | .int _ (.ofNat k) => invW u (f k) W Q s
        | _ => False)
      | false => False)
    | .see2 t t' f => (match Nat.blt b 1000000 with
      | true => (match s.get t with
        | .int _ (.ofNat k) => (match s.get t' with
          | .int _ (.ofNat k') => invW u (f k k') W Q s
          | _ => False)
        | _ => False)
      | false => False)
    | .cut t f => (match Nat.blt b 1000000 with
      | true => False
      | false => (match s.get t with
        | .int _ (.ofNat k) => cutW u (f k) W Q s
        | _ => False))) else loopsBy r b W c Q s

theorem fitTs_mem {s : St A} {φ : Phi} : ∀ {l : List (Nat × SV A)} {t : Nat} {x : SV A}, fitTs u s φ l → (t, x) ∈ l → matchV u s.own φ (s.get t) (plainV x)
  | (t', x') :: r, t, x, h, hm => by
    unfold fitTs at h
    cases r with
    | nil => rcases List.mem_singleton.1 hm with hh; cases hh; exact h
    | cons p r =>
      obtain ⟨h1, h2⟩ := h
      rcases List.mem_cons.1 hm with hh | hh
      · cases hh; exact h1
      · exact fitTs_mem h2 hh
theorem setTs_get : ∀ {r : List (Nat × SV A)} {l : List (SV A)} {i : Nat} {x : SV A}, (setTs l r)[i]? = some x → l[i]? = some x ∨ ∃ y, (i, y) ∈ r ∧ x = plainV y
  | [], l, i, x, h => .inl h
  | (t, z) :: r, l, i, x, h => by
    rcases setTs_get (r := r) h with h0 | ⟨y, h1, h2⟩
    · clear h
      rw [List.getElem?_set] at h0
      split at h0
      · rename_i hti
        subst hti
        split at h0
        · cases h0; exact .inr ⟨z, List.mem_cons_self .., rfl⟩
        · cases h0
      · exact .inl h0
    · exact .inr ⟨y, List.mem_cons_of_mem _ h1, h2⟩
theorem setTs_length : ∀ (r : List (Nat × SV A)) (l : List (SV A)), (setTs l r).length = l.length
  | [], l => rfl
  | (t, z) :: r, l => by rw [setTs, setTs_length r]; simp
theorem plain_notWh (x : SV A) (d : Nat) (p : Bool) (y : SV A) : plainV x ≠ .wh d p y := by
  unfold plainV
  split
  · simp
  · rename_i h; exact h d p y

theorem bindTs_keep {s : St A} {h : Nat} {c : Src} : ∀ {l : List (Nat × SV A)} {φ : Phi}, lookP φ h = some c → lookP (bindTs s φ l) h = some c
  | [], φ, hs => by unfold bindTs; exact hs
  | (t, x) :: r, φ, hs => by unfold bindTs; exact bindTs_keep (bindV_keep hs)
theorem idents_look : ∀ {l : List (Nat × Own A)} {h : Nat} {o : Own A}, (h, o) ∈ l → o ≠ .free → o ≠ .dead → ∃ c, lookP (idents l) h = some c ∧ c.id? = some h
  | (k, p) :: r, h, o, hm, h1, h2 => by
    by_cases hk : k = h
    · subst hk
      have hb : Nat.beq k k = true := Nat.beq_refl _
      rcases List.mem_cons.1 hm with hh | hh
      · cases hh
        unfold idents
        cases p <;> simp only <;> first | exact absurd rfl h1 | exact absurd rfl h2 | (unfold lookP; rw [if_pos hb]; exact ⟨_, rfl, rfl⟩)
      · obtain ⟨c, g1, g2⟩ := idents_look hh h1 h2
        unfold idents
        cases p <;> simp only <;> first | exact ⟨c, g1, g2⟩ | (unfold lookP; rw [if_pos hb]; exact ⟨_, rfl, rfl⟩)
    · have hb : ¬ Nat.beq k h = true := fun hb => hk (Nat.eq_of_beq_eq_true hb)
      have hh : (h, o) ∈ r := by
        rcases List.mem_cons.1 hm with hh | hh
        · cases hh; exact absurd rfl hk
        · exact hh
      obtain ⟨c, g1, g2⟩ := idents_look hh h1 h2
      unfold idents
      cases p <;> simp only <;> first | exact ⟨c, g1, g2⟩ | (unfold lookP; rw [if_neg hb]; exact ⟨c, g1, g2⟩)
theorem newOs_mem {own : Nat → Own A} : ∀ {l : List (Nat × Own A)} {h : Nat} {o : Own A}, newOs own l = true → (h, o) ∈ l → own h = .free
  | (k, p) :: r, h, o, hn, hm => by
    unfold newOs at hn
    split at hn
    · rename_i hk
      rcases List.mem_cons.1 hm with hh | hh
      · cases hh; exact hk
      · exact newOs_mem hn hh
    · cases hn
/-- A state that fits stands for the head's. -/
theorem head_sound (hL : Laws P u tab) {w0 : W0} {O0 : Nat → Prop} {s0 s : St A} {e : E A} {a : Act} (h : RepS P u w0 O0 s e a) (hn : noWh s) (h0 : ∀ id p, w0.hand id = some p → s0.own id ≠ .free) {n : Ann A} {g : n.G} (hf : fitW u s0 s n g) :
    ∃ e', e'.w = e.w ∧ RepS P u w0 O0 (headSt s0 n g) e' a ∧ noWh (headSt s0 n g) := by
  have hf' : s.tmps.length = s0.tmps.length ∧ newOs s0.own (relOs s0.nx (n.owns g)) = true ∧ distP (phiA s0 s n g) = true ∧ fitTs u s (phiA s0 s n g) (annTs s0 n g) ∧ fitOs u s.own (phiA s0 s n g) (annOs s0 n g) := by
    unfold fitW at hf
    split at hf
    · rename_i hl
      simp only [Bool.and_eq_true] at hl
      refine ⟨Nat.eq_of_beq_eq_true hl.1, hl.2, ?_⟩
      rw [forceP_eq] at hf
      split at hf
      · rename_i hd
        refine ⟨hd, ?_⟩
        split at hf
        · rename_i h0
          rw [h0]
          exact ⟨hf, trivial⟩
        · exact hf
      · exact hf.elim
    · exact hf.elim
  obtain ⟨hlen, hnew, hd, hT, hO⟩ := hf'
  have hmO : ∀ {h : Nat} {o : Own A}, (h, o) ∈ annOs s0 n g → matchO u s.own (phiA s0 s n g) h o := fun hm => fitOs_mem u hO hm
  have hre := reshape P u hL.toLaw hL.clean h.hr (φ := phiA s0 s n g) (L := annOs s0 n g) (dfl := dflO s0.own) hd (fun h s hs => only_look hs) (fun h' o hm => by rw [h.own]; exact hmO hm)
    (fun id => by
      unfold dflO
      split
      · exact .inl rfl
      · exact .inr rfl)
    (fun id p hp => by
      have hnf := h0 id p hp
      have hidlt : id < 1152921504606846976 := by have := h.hr.hlo id p hp; omega
      cases hl : look (annOs s0 n g) id with
      | none =>
        refine .inl ?_
        rw [headOwn_lt hidlt]
        unfold headB
        rw [hl]
        show dflO s0.own id = .dead
        unfold dflO
        split
        · rename_i hq; exact absurd hq hnf
        · rfl
      | some o =>
        have hq : headOwn (dflO s0.own) (annOs s0 n g) id = o := by rw [headOwn_lt hidlt]; unfold headB; rw [hl]
        rw [hq]
        have hm := look_mem hl
        have hmo := hmO hm
        have hfr : o ≠ .free := by rintro rfl; exact hmo
        by_cases hdd : o = .dead
        · exact .inl hdd
        · refine .inr ⟨hfr, ?_⟩
          rcases List.mem_append.1 hm with hm | hm
          · obtain ⟨c, g1, g2⟩ := idents_look hm hfr hdd
            refine ⟨c, only_keep ?_ (bindO_keep (bindTs_keep g1)), g2⟩
            unfold keepsB
            rw [hl]
            cases o <;> first | rfl | exact absurd rfl hfr | exact absurd rfl hdd
          · exact absurd (newOs_mem hnew hm) hnf)
  obtain ⟨hr', hview⟩ := hre
  have hget : ∀ (i : Nat) (x : SV A), (headSt s0 n g).tmps[i]? = some x → x = .top ∨ ∃ y, (i, y) ∈ annTs s0 n g ∧ x = plainV y := by
    intro i x hi
    rcases setTs_get hi with hi | hi
    · simp only [List.getElem?_map, Option.map_eq_some_iff] at hi
      obtain ⟨_, _, h2⟩ := hi
      exact .inl h2.symm
    · exact .inr hi
  have hno : noWh (headSt s0 n g) := by
    intro i d p y hi
    rcases hget i _ hi with hx | ⟨z, _, hz⟩
    · cases hx
    · exact plain_notWh z d p y hz.symm
  refine ⟨mkE O0 e.w (headOwn (dflO s0.own) (annOs s0 n g)) (headβ (phiA s0 s n g) e.β), rfl, ⟨h.defers, ?_, rfl, hr', ?_, fun i d p y hi => absurd hi (hno i d p y)⟩, hno⟩
  · rw [h.size, hlen]
    simp only [headSt, setTs_length, List.length_map]
  · intro i x hi
    rcases hget i x hi with rfl | ⟨y, hy, rfl⟩
    · exact slot_plain P u (.top _ .nil)
    · refine slot_plain P u (matchV_sound P u hL.toLaw hL.clean h.hr hview (x := s.get i) ?_ (by rw [h.own]; exact fitTs_mem u hT hy))
      have hs := h.get P u i
      unfold slotOk at hs
      split at hs
      · rename_i d p z hz
        exfalso
        unfold St.get at hz
        split at hz
        · rename_i q hq
          rw [hz] at hq
          exact hn _ _ _ _ hq
        · cases hz
      · exact hs
theorem inv_sound (hL : Laws P u tab) {w0 : W0} {O0 : Nat → Prop} {W : (X → St A → Prop) → St A → Prop} {c : Code} (hW : Sound P u w0 O0 W c) (n : Ann A) : Sound P u w0 O0 (invW u n W) (.loop c) := by
  intro Q s e a h hn hk
  obtain ⟨⟨g0, hg0, hf0⟩, hround⟩ := hk
  have h0 : ∀ id p, w0.hand id = some p → s.own id ≠ .free := by
    intro id p hp
    rw [← h.own]
    rcases h.hr.hand id p hp with hq | ⟨hq, _⟩
    · rw [hq]; simp
    · exact hq
  obtain ⟨e1, hw1, hS1, hn1⟩ := head_sound P u tab hL h hn h0 hf0
  rw [← hw1]
  refine wp_loop_ghost (fun m a w => ∃ g e', n.μ g = m ∧ n.inv g ∧ e'.w = w ∧ RepS P u w0 O0 (headSt s n g) e' a ∧ noWh (headSt s n g)) (n.μ g0) ⟨g0, e1, rfl, hg0, rfl, hS1, hn1⟩ ?_
  rintro m a' w' ⟨g, e2, hm, hg, rfl, hS, hno⟩
  refine Code.wp_mono ?_ (hW _ _ e2 a' hS hno ((forceS_eq _ _).mp (hround g hg)))
  rintro ex a2 w2 ⟨z, s', e3, h1, h2, h3, h4, rfl⟩
  cases z with
  | norm =>
    cases ex <;> first | exact h1.elim | skip
    obtain ⟨g', hg', hlt, hf⟩ := h2
    obtain ⟨e4, hw4, hS4, hn4⟩ := head_sound P u tab hL h3 h4 h0 hf
    exact ⟨n.μ g', by omega, g', e4, rfl, hg', hw4, hS4, hn4⟩
  | exit i =>
    cases ex <;> first | exact h1.elim | skip
    exact ⟨.exit i, s', e3, h1, h2, h3, h4, rfl⟩
  | ret =>
    cases ex <;> first | exact h1.elim | skip
    exact ⟨.ret, s', e3, h1, h2, h3, h4, rfl⟩
theorem cut_sound (hL : Laws P u tab) {w0 : W0} {O0 : Nat → Prop} {W : (X → St A → Prop) → St A → Prop} {c : Code} (hW : Sound P u w0 O0 W c) (n : Ann A) : Sound P u w0 O0 (cutW u n W) c := by
  intro Q s e a h hn hk
  obtain ⟨hk, hgo⟩ := hk
  have h0 : ∀ id p, w0.hand id = some p → s.own id ≠ .free := by
    intro id p hp
    rw [← h.own]
    rcases h.hr.hand id p hp with hq | ⟨hq, _⟩
    · rw [hq]; simp
    · exact hq
  refine Code.wp_mono ?_ (hW _ s e a h hn hk)
  rintro ex a2 w2 ⟨z, s', e3, h1, h2, h3, h4, rfl⟩
  cases z with
  | norm =>
    cases ex <;> first | exact h1.elim | skip
    obtain ⟨g, hg, hf⟩ := h2
    obtain ⟨e4, hw4, hS4, hn4⟩ := head_sound P u tab hL h3 h4 h0 hf
    exact ⟨.norm, _, e4, trivial, (forceS_eq _ _).mp (hgo g hg), hS4, hn4, hw4⟩
  | exit i =>
    cases ex <;> first | exact h1.elim | skip
    exact ⟨.exit i, s', e3, h1, h2, h3, h4, rfl⟩
  | ret =>
    cases ex <;> first | exact h1.elim | skip
    exact ⟨.ret, s', e3, h1, h2, h3, h4, rfl⟩
theorem loops_sound (hL : Laws P u tab) {w0 : W0} {O0 : Nat → Prop} : ∀ l : List (Nat × LoopAnn A), LoopsOk P u w0 O0 (loopsBy u l)
  | [], b, W, c, hW => ⟨fun _ Q s e a h hn hk => hk.elim, fun _ Q s e a h hn hk => hk.elim⟩
  | (k, n) :: r, b, W, c, hW => by
    constructor
    · intro hb Q s e a h hn hk
      unfold loopsBy at hk
      split at hk
      · rw [hb] at hk
        cases n with
        | rounds m => exact iter_sound P u hW _ Q s e a h hn hk
        | inv n => exact inv_sound P u tab hL hW _ Q s e a h hn hk
        | see t f =>
          simp only at hk
          split at hk
          · exact inv_sound P u tab hL hW _ Q s e a h hn hk
          · exact hk.elim
        | cut t f => exact hk.elim
        | see2 t t' f =>
          simp only at hk
          split at hk
          · split at hk
            · exact inv_sound P u tab hL hW _ Q s e a h hn hk
            · exact hk.elim
          · exact hk.elim
      · exact (loops_sound hL r b W c hW).1 hb Q s e a h hn hk
    · intro hb Q s e a h hn hk
      unfold loopsBy at hk
      split at hk
      · rw [hb] at hk
        cases n with
        | rounds m => exact hk.elim
        | inv n => exact hk.elim
        | see t f => exact hk.elim
        | see2 t t' f => exact hk.elim
        | cut t f =>
          simp only at hk
          split at hk
          · exact cut_sound P u tab hL hW _ Q s e a h hn hk
          · exact hk.elim
      · exact (loops_sound hL r b W c hW).2 hb Q s e a h hn hk
/-- What a body comes to holds (behind a name that is not looked through). -/
structure BodyOk (lits : List Nat) (l : List (Nat × LoopAnn A)) (fn : Func) (xs : List (SV A)) (y : SV A) : Prop where
  out : bodyW P u tab lits (drawW P u tab) (loopsBy u l) fn xs y
structure BodyOkH (lits : List Nat) (l : List (Nat × LoopAnn A)) (fn : Func) (xs : List (SV A)) (os : List (Own A)) (y : SV A) (os2 : List (Own A)) : Prop where
  out : bodyH P u tab lits (drawW P u tab) (loopsBy u l) fn xs os y os2
/-- A function's contract, its regions that draw by the order of the text, its loops as told. -/
theorem fn_ok (hm : P.follows .mixedOrders = true) (hL : Laws P u tab) {f : Nat} {fn : Func} (hf : P.funcs[f]? = some fn) {sp : Spec A}
    (h : ∀ xs c y, sp xs = some (c, y) → holds c → noOwn.go xs = true ∧ ∃ (lits : List Nat) (l : List (Nat × LoopAnn A)), BodyOk P u tab lits l fn xs y) : FnOk P u f sp :=
  fn_sound P u tab hL (fun w0 O0 => draw_sound P u tab hm hL) hf fun xs c y h1 h2 => by
    obtain ⟨h3, lits, l, h4⟩ := h xs c y h1 h2
    exact ⟨h3, lits, loopsBy u l, fun w0 O0 => loops_sound P u tab hL l, h4.out⟩
theorem fn_okH (hm : P.follows .mixedOrders = true) (hL : Laws P u tab) {f : Nat} {fn : Func} (hf : P.funcs[f]? = some fn) {sp : HSpec A}
    (h : ∀ xs os c y os2, sp xs os = some (c, y, os2) → holds c → ∃ (lits : List Nat) (l : List (Nat × LoopAnn A)), BodyOkH P u tab lits l fn xs os y os2) : FnOkH P u f sp :=
  fn_soundH P u tab hL (fun w0 O0 => draw_sound P u tab hm hL) hf fun xs os c y os2 h1 h2 => by
    obtain ⟨lits, l, h4⟩ := h xs os c y os2 h1 h2
    exact ⟨lits, loopsBy u l, fun w0 O0 => loops_sound P u tab hL l, h4.out⟩
theorem headSt_length (s0 : St A) (n : Ann A) (g : n.G) : (headSt s0 n g).tmps.length = s0.tmps.length := by simp only [headSt, setTs_length, List.length_map]
end
end Go.Proofs.Ytndacggailoogaa.Sx
