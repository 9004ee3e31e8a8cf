/- An abstract machine over values by content, fifteenth part: one operation of a region that draws its order, by what it looks at alone. -/
import Derived.Test.YtndacggailoogaaSxN
namespace Go.Proofs.Ytndacggailoogaa.Sx
open Go Go.RowKit

section
variable {A : Nat → Type} (P : Program) (u : U A) (tab : List (Nat × Con A))

theorem noOwn_ids : ∀ x : SV A, noOwn x = true → ids x = [] := by
  intro x
  apply SV.rec (motive_1 := fun x => noOwn x = true → ids x = []) (motive_2 := fun l => noOwn.go l = true → ids.go l = [])
  all_goals (intros; first
    | rfl
    | (rename_i h; simp only [noOwn] at h; cases h; done)
    | (rename_i ih h; simp only [noOwn] at h; simp only [ids]; exact ih h)
    | (rename_i ih1 ih2 h; simp only [noOwn.go, Bool.and_eq_true] at h; simp only [ids.go]; rw [ih1 h.1, ih2 h.2]; rfl))
theorem noOwn_go_ids : ∀ l : List (SV A), noOwn.go l = true → ids.go l = []
  | [], _ => rfl
  | x :: r, h => by
    simp only [noOwn.go, Bool.and_eq_true] at h
    simp only [ids.go, noOwn_ids x h.1, noOwn_go_ids r h.2, List.append_nil]
theorem arg1_congr {own own' : Nat → Own A} {x : SV A} (h : ∀ id ∈ ids x, own id = own' id) : arg1 u own x = arg1 u own' x := by
  cases x <;> first | rfl | (unfold arg1; simp only; rw [h _ (by simp [ids])])
theorem argL_congr {own own' : Nat → Own A} : ∀ {xs : List (SV A)}, (∀ id ∈ ids.go xs, own id = own' id) → argL u own xs = argL u own' xs
  | [], _ => rfl
  | x :: r, h => by
    simp only [ids.go, List.mem_append] at h
    unfold argL
    rw [arg1_congr u (fun id hi => h id (.inl hi)), argL_congr (fun id hi => h id (.inr hi))]
theorem argS_congr {own own' : Nat → Own A} {x : SV A} (h : ∀ id ∈ ids x, own id = own' id) : argS u own x = argS u own' x := by
  unfold argS
  split
  · rw [argL_congr u h]
  · rw [argL_congr u h]
  · exact arg1_congr u h
theorem args_congr {own own' : Nat → Own A} : ∀ {xs : List (SV A)}, (∀ id ∈ ids.go xs, own id = own' id) → xs.map (argS u own) = xs.map (argS u own')
  | [], _ => rfl
  | x :: r, h => by
    simp only [ids.go, List.mem_append] at h
    simp only [List.map_cons]
    rw [argS_congr u (fun id hi => h id (.inl hi)), args_congr (fun id hi => h id (.inr hi))]
theorem restS_congr : ∀ {L : List Nat} {own own' : Nat → Own A}, (∀ id ∈ L, own id = own' id) → restS own L = restS own' L
  | [], _, _, _ => rfl
  | id :: r, own, own', h => by
    unfold restS
    rw [h id (List.mem_cons_self ..)]
    cases own' id with
    | row T xs =>
      simp only
      rw [restS_congr (L := r) (own := upd own id (.fro T xs)) (own' := upd own' id (.fro T xs)) (fun q hq => by
        unfold upd
        split
        · rfl
        · exact h q (List.mem_cons_of_mem _ hq))]
    | var c => rfl
    | mp K V kvs => rfl
    | rowC => rfl
    | ar => rfl
    | nod => rfl
    | prow => rfl
    | _ => exact restS_congr (fun q hq => h q (List.mem_cons_of_mem _ hq))
theorem callP_congr {own own' : Nat → Own A} {sp : Spec A} {xs : List (SV A)} (h : ∀ id ∈ ids.go xs, own id = own' id) : callP u own sp xs = callP u own' sp xs := by
  unfold callP
  rw [args_congr u h, restS_congr h]
/-- Blocks that name no others. -/
def subN : List Nat → List Nat → Bool
  | [], _ => true
  | x :: r, R => memN x R && subN r R
/-- The blocks that a block leads to. -/
def rch : Own A → List Nat
  | .var cs => ids.go cs
  | .prow a _ => [a]
  | _ => []
def closedB (own : Nat → Own A) (R : List Nat) : List Nat → Bool
  | [] => true
  | x :: r => subN (rch (own x)) R && closedB own R r
theorem subN_mem : ∀ {l R : List Nat}, subN l R = true → ∀ x ∈ l, x ∈ R
  | [], _, _, x, h => by cases h
  | y :: r, R, hs, x, h => by
    simp only [subN, Bool.and_eq_true] at hs
    rcases List.mem_cons.1 h with rfl | h
    · exact memN_iff.1 hs.1
    · exact subN_mem hs.2 x h
theorem closedB_mem {own : Nat → Own A} {R : List Nat} : ∀ {l : List Nat}, closedB own R l = true → ∀ x ∈ l, ∀ id ∈ rch (own x), id ∈ R
  | [], _, x, h, _, _ => by cases h
  | y :: r, hc, x, h, id, hid => by
    simp only [closedB, Bool.and_eq_true] at hc
    rcases List.mem_cons.1 h with rfl | h
    · exact subN_mem hc.1 id hid
    · exact closedB_mem hc.2 x h id hid
theorem addN_mem {x : Nat} : ∀ {r l : List Nat}, x ∈ addN l r → x ∈ l ∨ x ∈ r
  | [], l, h => .inl h
  | y :: r, l, h => by
    rcases addN_mem (r := r) h with h | h
    · split at h
      · exact .inl h
      · rcases List.mem_append.1 h with h | h
        · exact .inl h
        · rcases List.mem_singleton.1 h with rfl
          exact .inr (List.mem_cons_self ..)
    · exact .inr (List.mem_cons_of_mem _ h)
theorem reach_congr {own own' : Nat → Own A} {R : List Nat} (hc : ∀ x ∈ R, ∀ id ∈ rch (own x), id ∈ R) (hag : ∀ id ∈ R, own id = own' id) : ∀ (n : Nat) (l : List Nat) (i : Nat), (∀ id ∈ l, id ∈ R) → reach own n l i = reach own' n l i ∧ ∀ id ∈ reach own n l i, id ∈ R
  | 0, l, i, h => ⟨rfl, h⟩
  | n + 1, l, i, h => by
    unfold reach
    cases hl : l[i]? with
    | none => exact ⟨rfl, h⟩
    | some id =>
      have hid := h id (List.mem_of_getElem? hl)
      simp only
      rw [← hag id hid]
      cases ho : own id with
      | var cs =>
        simp only
        refine reach_congr hc hag n _ _ (fun q hq => ?_)
        rcases addN_mem hq with hq | hq
        · exact h q hq
        · exact hc id hid q (by rw [ho]; exact hq)
      | prow a js =>
        simp only
        refine reach_congr hc hag n _ _ (fun q hq => ?_)
        rcases addN_mem hq with hq | hq
        · exact h q hq
        · exact hc id hid q (by rw [ho]; exact hq)
      | _ => exact reach_congr hc hag n _ _ h
theorem mapI_congr {own own' : Nat → Own A} {φ : Nat → Nat} : ∀ {l : List Nat}, (∀ id ∈ l, own id = own' id) → mapI l own φ = mapI l own' φ
  | [], _ => rfl
  | x :: r, h => by
    unfold mapI
    rw [h x (List.mem_cons_self ..), mapI_congr (fun q hq => h q (List.mem_cons_of_mem _ hq))]
theorem handAll_congr {own own' : Nat → Own A} : ∀ {l : List Nat}, (∀ id ∈ l, own id = own' id) → handAll own l = handAll own' l
  | [], _ => rfl
  | x :: r, h => by
    unfold handAll
    rw [h x (List.mem_cons_self ..), handAll_congr (fun q hq => h q (List.mem_cons_of_mem _ hq))]
theorem freeB_congr {own own' : Nat → Own A} {k : Nat} : ∀ {n : Nat}, (∀ i, i < n → own (k + i) = own' (k + i)) → freeB own k n = freeB own' k n
  | 0, _ => rfl
  | n + 1, h => by
    unfold freeB
    rw [h n (by omega), freeB_congr (fun i hi => h i (by omega))]
theorem callH_congr {own own' : Nat → Own A} {k : Nat} {sp : HSpec A} {xs : List (SV A)} {R : List Nat} (hc : ∀ x ∈ R, ∀ id ∈ rch (own x), id ∈ R) (hag : ∀ id ∈ R, own id = own' id) (hk : ∀ i, i < 64 → own (k + i) = own' (k + i)) (hx : ∀ id ∈ ids.go xs, id ∈ R) :
    callH k own sp xs = callH k own' sp xs := by
  obtain ⟨h1, h2⟩ := reach_congr hc hag 32 (addN [] (ids.go xs)) 0 (fun id hi => by
    rcases addN_mem hi with hi | hi
    · cases hi
    · exact hx id hi)
  unfold callH
  rw [← h1]
  generalize reach own 32 (addN [] (ids.go xs)) 0 = l at h2
  have hl : ∀ id ∈ l, own id = own' id := fun id hi => hag id (h2 id hi)
  simp only
  rw [mapI_congr hl, handAll_congr hl]
  split
  · rename_i c y os2 hs
    cases hn : Nat.ble (os2.length - l.length) 64 with
    | true => rw [freeB_congr (own := own) (own' := own') (k := k) (n := os2.length - l.length) (fun i hi => hk i (by have := Nat.le_of_ble_eq_true hn; omega))]
    | false => simp only [Bool.and_false, Bool.false_and]
  · rfl
theorem frzV_fro {own : Nat → Own A} {x : SV A} : (∀ p ∈ (frzV own x).2, ∃ (T : Nat) (ys : List (A T)), p.2 = .fro T ys) ∧ ∀ id ∈ ids (frzV own x).1, id ∈ ids x := by
  unfold frzV
  split
  · split
    · exact ⟨fun p hp => (by rcases List.mem_singleton.1 hp with rfl; exact ⟨_, _, rfl⟩), fun id h => (by cases h)⟩
    · exact ⟨fun p hp => (by cases hp), fun id h => (by cases h)⟩
    · exact ⟨fun p hp => (by cases hp), fun id h => h⟩
  · split
    · exact ⟨fun p hp => (by rcases List.mem_singleton.1 hp with rfl; exact ⟨_, _, rfl⟩), fun id h => (by cases h)⟩
    · exact ⟨fun p hp => (by cases hp), fun id h => (by cases h)⟩
    · exact ⟨fun p hp => (by cases hp), fun id h => h⟩
  · exact ⟨fun p hp => (by cases hp), fun id h => h⟩
theorem frzL_fro : ∀ {xs : List (SV A)} {own : Nat → Own A}, (∀ p ∈ (frzL own xs).2, ∃ (T : Nat) (ys : List (A T)), p.2 = .fro T ys) ∧ ∀ id ∈ ids.go (frzL own xs).1, id ∈ ids.go xs
  | [], own => ⟨fun p hp => (by cases hp), fun id h => (by cases h)⟩
  | x :: r, own => by
    obtain ⟨h1, h2⟩ := frzV_fro (own := own) (x := x)
    obtain ⟨h3, h4⟩ := frzL_fro (xs := r) (own := updL own (frzV own x).2)
    have e1 : (frzL own (x :: r)).2 = (frzV own x).2 ++ (frzL (updL own (frzV own x).2) r).2 := rfl
    have e2 : (frzL own (x :: r)).1 = (frzV own x).1 :: (frzL (updL own (frzV own x).2) r).1 := rfl
    refine ⟨fun p hp => ?_, fun id hi => ?_⟩
    · rw [e1, List.mem_append] at hp
      exact hp.elim (h1 p) (h3 p)
    · rw [e2] at hi
      simp only [ids.go, List.mem_append] at hi ⊢
      exact hi.elim (fun h => .inl (h2 id h)) (fun h => .inr (h4 id h))
theorem updO_rch {own : Nat → Own A} {k x : Nat} {T : Nat} {ys : List (A T)} : ∀ id ∈ rch (updO own k (.fro T ys) x), id ∈ rch (own x) := by
  intro id hid
  rw [updO_fro] at hid
  unfold upd at hid
  split at hid
  · cases hid
  · exact hid
theorem updL_rch : ∀ {F : Eff A} {own : Nat → Own A} {x : Nat}, (∀ p ∈ F, ∃ (T : Nat) (ys : List (A T)), p.2 = .fro T ys) → ∀ id ∈ rch (updL own F x), id ∈ rch (own x)
  | [], own, x, _, id, h => h
  | (k, o) :: r, own, x, hF, id, h => by
    have h := updL_rch (F := r) (fun p hp => hF p (List.mem_cons_of_mem _ hp)) id h
    obtain ⟨T, ys, ho⟩ := hF (k, o) (List.mem_cons_self ..)
    have ho : o = .fro T ys := ho
    subst ho
    exact updO_rch id h
theorem callF_congr {own own' : Nat → Own A} {k : Nat} {sp : HSpec A} {xs : List (SV A)} {R : List Nat} (hc : ∀ x ∈ R, ∀ id ∈ rch (own x), id ∈ R) (hag : ∀ id ∈ R, own id = own' id) (hk : ∀ i, i < 64 → own (k + i) = own' (k + i)) (hx : ∀ id ∈ ids.go xs, id ∈ R) :
    callF k own sp xs = callF k own' sp xs := by
  obtain ⟨h1, h2⟩ := frzL_fro (xs := xs) (own := own)
  have hin : callH k (updL own (frzL own xs).2) sp (frzL own xs).1 = callH k (updL own' (frzL own xs).2) sp (frzL own xs).1 :=
    callH_congr (R := R) (fun x hxR id hid => hc x hxR id (updL_rch h1 id hid)) (fun id hi => updL_agree (hag id hi)) (fun i hi => updL_agree (hk i hi)) (fun id hi => hx id (h2 id hi))
  unfold callF
  rw [callH_congr hc hag hk hx, hin, frzL_congr (own := own) (own' := own') (fun id hi => hag id (hx id hi))]
theorem noLitO_congr {own own' : Nat → Own A} : ∀ {l : List Nat}, (∀ id ∈ l, own id = own' id) → noLitO own l = noLitO own' l
  | [], _ => rfl
  | x :: r, h => by
    unfold noLitO
    rw [h x (List.mem_cons_self ..), noLitO_congr (fun q hq => h q (List.mem_cons_of_mem _ hq))]
theorem callL_congr {own own' : Nat → Own A} {k : Nat} {sp : LSpec A} {xs : List (SV A)} {R : List Nat} (hc : ∀ x ∈ R, ∀ id ∈ rch (own x), id ∈ R) (hag : ∀ id ∈ R, own id = own' id) (hk : ∀ i, i < 64 → own (k + i) = own' (k + i)) (hx : ∀ id ∈ ids.go xs, id ∈ R) :
    callL k own sp xs = callL k own' sp xs := by
  obtain ⟨h1, h2⟩ := reach_congr hc hag 32 (addN [] (ids.go xs)) 0 (fun id hi => by
    rcases addN_mem hi with hi | hi
    · cases hi
    · exact hx id hi)
  unfold callL
  rw [callH_congr hc hag hk hx, ← h1, noLitO_congr (fun id hi => hag id (h2 id hi))]
theorem runS_congr (hL : Laws P u tab) {m : St A} {own' : Nat → Own A} {g : Option (Nat × Bool)} {o : Oper} {R : List Nat} (hk : constOk (A := A) o = true) (hn : ∀ id ∈ named m, id ∈ R)
    (hc : ∀ x ∈ R, ∀ id ∈ rch (m.own x), id ∈ R) (hag : ∀ id ∈ R, m.own id = own' id) (hf : ∀ i, i < 64 → m.own (newK m o + i) = own' (newK m o + i)) (hbx : ∀ id ∈ boxI o, id ∈ R) :
    runS P u tab { m with own := own' } g o = runS P u tab m g o := by
  have hev : (fun x => view { m with own := own' } g (St.ev { m with own := own' } x)) = fun x => view m g (m.ev x) := by
    funext x
    rw [view_own]
    rfl
  have hids : ∀ x ∈ o.op.operands.toList, ∀ id ∈ ids (view m g (m.ev x)), id ∈ R := fun x hx id hid => hn id (ids_ev hk hx hid)
  have hal : ∀ x ∈ o.op.operands.toList, ∀ id ∈ ids (view m g (m.ev x)), own' id = m.own id := fun x hx id hid => (hag id (hids x hx id hid)).symm
  have hnew : newK { m with own := own' } o = newK m o := rfl
  have hk0 : own' (newK m o) = m.own (newK m o) := (hf 0 (by omega)).symm
  have hp := pure_congr P u (own := own') (own' := m.own) (o := o) (ev := fun x => view m g (m.ev x)) hal
  have hh := heap_congr P u hL.clean noOwn_go_ids (k := newK m o) (own := own') (own' := m.own) (o := o) (ev := fun x => view m g (m.ev x)) hk0 hal
  have hnq := np_congr P u (k := newK m o) (own := own') (own' := m.own) (o := o) (ev := fun x => view m g (m.ev x)) hk0 hal (fun id hid => (hag id (hbx id hid)).symm)
  unfold runS
  simp only [pickS_own, hnew]
  simp only [hev]
  split
  · rfl
  · rename_i cc hop
    split
    · rename_i f hcf
      have hvf : ∀ f, view { m with own := own' } g (St.ev { m with own := own' } f) = view m g (m.ev f) := fun f => congrFun hev f
      simp only [hvf]
      have hfi : ∀ id ∈ ids (view m g (m.ev f)), id ∈ R := hids f (by rw [hop]; simp [Op.operands, Call.operands, hcf])
      have hai : ∀ id ∈ ids.go (cc.args.toList.map fun x => view m g (m.ev x)), id ∈ R := by
        have : ∀ l : List Operand, (∀ x ∈ l, x ∈ o.op.operands.toList) → ∀ id ∈ ids.go (l.map fun x => view m g (m.ev x)), id ∈ R := by
          intro l
          induction l with
          | nil => intro _ id hi; cases hi
          | cons x r ih =>
            intro hl id hi
            simp only [List.map_cons, ids.go, List.mem_append] at hi
            rcases hi with hi | hi
            · exact hids x (hl x (List.mem_cons_self ..)) id hi
            · exact ih (fun y hy => hl y (List.mem_cons_of_mem _ hy)) id hi
        exact this _ (fun x hx => by rw [hop]; simp [Op.operands, Call.operands, hcf]; exact .inr (by simpa using hx))
      unfold callS
      split
      · rename_i g' cap hg'
        have hcap : ∀ id ∈ ids.go ((cc.args.toList.map fun x => view m g (m.ev x)) ++ cap), id ∈ R := by
          intro id hi
          have happ : ∀ l r : List (SV A), ids.go (l ++ r) = ids.go l ++ ids.go r := by
            intro l r
            induction l with
            | nil => rfl
            | cons x l ih => simp only [List.cons_append, ids.go, ih, List.append_assoc]
          rw [happ, List.mem_append] at hi
          rcases hi with hi | hi
          · exact hai id hi
          · exact hfi id (by rw [hg']; exact hi)
        split
        · split
          · exact callP_congr u (fun id hi => (hag id (hcap id hi)).symm)
          · exact (callF_congr hc hag hf hcap).symm
          · exact (callL_congr hc hag hf hcap).symm
          · rfl
          · rfl
        · rfl
      · rfl
    · rw [hh, hp, hnq]
  · rename_i t1 t2 x hop
    have hvx : view { m with own := own' } g (St.ev { m with own := own' } x) = view m g (m.ev x) := congrFun hev x
    simp only [hvx]
    have hx := hal x (by rw [hop]; simp [Op.operands])
    rw [convH_congr P u hk0 hx, convS_congr P u hx]
  · rw [hnq]
    split
    · rw [hh]
    · rw [hp]

/-! ### one operation by what it looks at alone -/
def tg : Eff A → List Nat
  | [] => []
  | (k, _) :: r => k :: tg r
def inFresh (k t : Nat) : Bool := Nat.ble k t && Nat.blt t (k + 64)
def effIn (R : List Nat) (k : Nat) : List Nat → Bool
  | [] => true
  | t :: r => (memN t R || inFresh k t) && effIn R k r
/-- What an operation reads, what it asks no more of than to be a variable, and what it turns into something of another make. -/
structure Rd where
  r : List Nat
  s : List Nat
  d : List Nat
  c : List (Nat × Nat × Nat)
  w : Option (Nat × Nat × Nat)
/-- An operation that reckons an address of a variable, and reads nothing. -/
def dryOp (m : St A) (o : Oper) : Option Nat := match o.guard with
  | none => (match o.op with
    | .nilCheck x => (match view m none (m.ev x) with
      | .optr id _ => some id
      | _ => none)
    | .fieldAddr _ x _ => (match view m none (m.ev x) with
      | .optr id _ => some id
      | _ => none)
    | .move x => (match view m none (m.ev x) with
      | .optr id _ => some id
      | .osl _ _ _ => some 999999999
      | .orow _ => some 999999999
      | _ => none)
    | _ => none)
  | some _ => none
/-- A load from a variable: which cells it reads. -/
def ldOp (m : St A) (o : Oper) : Option (Nat × Nat × Nat) := match o.guard with
  | none => (match o.op with
    | .load t x => (match view m none (m.ev x) with
      | .optr id off => some (id, off, P.cellsOf t)
      | _ => none)
    | _ => none)
  | some _ => none
/-- A store into a variable: which cells it writes. -/
def stOp (m : St A) (o : Oper) : Option (Nat × Nat × Nat) := match o.guard with
  | none => (match o.op with
    | .store t x _ => (match view m none (m.ev x) with
      | .optr id off => some (id, off, P.cellsOf t)
      | _ => none)
    | _ => none)
  | some _ => none
def dOf (own : Nat → Own A) (G : Eff A) : Eff A → List Nat
  | [] => []
  | (t, _) :: r => if (own t).isVar && (updL own G t).isVar then dOf own G r else t :: dOf own G r
theorem dOf_not {own : Nat → Own A} {G : Eff A} : ∀ {F : Eff A} {t : Nat}, t ∈ tg F → t ∉ dOf own G F → (own t).isVar = true ∧ (updL own G t).isVar = true
  | [], t, h, _ => by cases h
  | (k, x) :: r, t, h, hn => by
    unfold dOf at hn
    simp only [tg, List.mem_cons] at h
    split at hn
    · rename_i hk
      rw [Bool.and_eq_true] at hk
      rcases h with rfl | h
      · exact hk
      · exact dOf_not h hn
    · simp only [List.mem_cons, not_or] at hn
      rcases h with rfl | h
      · exact absurd rfl hn.1
      · exact dOf_not h hn.2
theorem dOf_congr {own own' : Nat → Own A} {G : Eff A} : ∀ {F : Eff A}, (∀ t ∈ tg F, own t = own' t ∧ updL own G t = updL own' G t) → dOf own G F = dOf own' G F
  | [], _ => rfl
  | (k, x) :: r, h => by
    have h1 := h k (by simp [tg])
    unfold dOf
    rw [h1.1, h1.2, dOf_congr (F := r) (fun t ht => h t (by simp [tg, ht]))]
def stepV (ops : Array Oper) (s : St A) (o : Oper) : Option (Option Prop × SV A × Eff A × Rd) := match mask (looks ops o) s with
  | m => match dryOp m o with
    | some id => if whOk m && Nat.blt id 1073741824 then (match stepE P u tab ops m o with
      | some (c, y, []) => some (c, y, [], ⟨[], [id], [], [], none⟩)
      | _ => none) else none
    | none => match ldOp P m o with
    | some q => if whOk m && Nat.blt q.1 1073741824 then (match stepE P u tab ops m o with
      | some (c, y, []) => some (c, y, [], ⟨[], [], [], [q], none⟩)
      | _ => none) else none
    | none => match reach m.own 32 (addN (boxI o) (named m)) 0 with
      | R => if whOk m && constOk (A := A) o && subN (boxI o) R && subN (named m) R && closedB m.own R R && allLt 1073741824 R then (match stepE P u tab ops m o with
        | some (c, y, F) => if effIn R (newK m o) (tg F) then some (c, y, F, ⟨R, [], dOf m.own F F, [], stOp P m o⟩) else none
        | none => none) else none
def putOk (s : St A) (dst : Option Nat) : Bool := match dst with
  | none => true
  | some d => if s.gu.contains d then (match s.get d with
    | .top => true
    | _ => false) else true
def app (s : St A) (dst : Option Nat) (y : SV A) (F : Eff A) : St A := { s with own := updL s.own F, tmps := match dst with
  | none => s.tmps
  | some d => s.tmps.set d y }
theorem put_app {s : St A} {dst : Option Nat} {y : SV A} {F : Eff A} (h : putOk s dst = true) : putS { s with own := updL s.own F } dst y = some (app s dst y F) := by
  cases dst with
  | none => rfl
  | some d =>
    have h2 : (if s.gu.contains d then (match s.get d with | .top => true | _ => false) else true) = true := h
    show (if s.gu.contains d then (match s.get d with | .top => some (app s (some d) y F) | _ => none) else some (app s (some d) y F)) = _
    split
    · rename_i hc
      rw [if_pos hc] at h2
      split at h2
      · rename_i ht; first | rfl | rw [ht]
      · cases h2
    · rfl
theorem mask_get {L : List Nat} {s : St A} {d : Nat} : (mask L s).get d = s.get d ∨ (mask L s).get d = .top := by
  unfold St.get mask
  simp only [maskL_get]
  cases s.tmps[d]? with
  | none => exact .inl rfl
  | some x =>
    simp only [Option.map_some]
    split
    · exact .inl rfl
    · exact .inr rfl
theorem stepV_sound (hL : Laws P u tab) {w0 : W0} {O0 : Nat → Prop} {s : St A} {e : E A} {a : Act} (h : RepS P u w0 O0 s e a) {ops : Array Oper} {o : Oper} {c : Option Prop} {y : SV A} {F : Eff A} {R : Rd} {next : Act → World → Prop} {Q : Exit → Act → World → Prop}
    (hs : stepV P u tab ops s o = some (c, y, F, R)) (hp : putOk s o.dst = true) (hc : holds c) (hn : ∀ a' e', RepS P u w0 O0 (app s o.dst y F) e' a' → next a' e'.w) :
    if Region.wanted o (yielded ops a.tmps) then o.wp P a e.w next Q ∨ (o.asks P a e.w ∧ LetsOut Q) else next (a.put o.dst Go.undef) e.w := by
  have key : whOk (mask (looks ops o) s) = true ∧ stepE P u tab ops (mask (looks ops o) s) o = some (c, y, F) := by
    unfold stepV at hs
    simp only at hs
    split at hs
    · split at hs
      case isFalse => cases hs
      rename_i hwh
      rw [Bool.and_eq_true] at hwh
      split at hs
      · rename_i c0 y0 hst
        cases hs
        exact ⟨hwh.1, hst⟩
      · cases hs
    split at hs
    · split at hs
      case isFalse => cases hs
      rename_i hwh
      rw [Bool.and_eq_true] at hwh
      split at hs
      · rename_i c0 y0 hst
        cases hs
        exact ⟨hwh.1, hst⟩
      · cases hs
    · split at hs
      case isFalse => cases hs
      rename_i hok
      simp only [Bool.and_eq_true] at hok
      obtain ⟨⟨⟨⟨⟨hwh, _⟩, _⟩, _⟩, _⟩, _⟩ := hok
      split at hs
      case h_2 => cases hs
      rename_i c0 y0 F0 hst
      split at hs
      case isFalse => cases hs
      cases hs
      exact ⟨hwh, hst⟩
  obtain ⟨hwh, hst⟩ := key
  have hm := h.mask P u hwh
  generalize hmm : mask (looks ops o) s = m at *
  have hmo : m.own = s.own := by rw [← hmm]; rfl
  have hget : ∀ d, m.get d = s.get d ∨ m.get d = .top := fun d => by rw [← hmm]; exact mask_get
  have hlen : m.tmps.length = s.tmps.length := by rw [← hmm]; exact maskL_length _ _ _
  have hmg : m.gu = s.gu := by rw [← hmm]; rfl
  unfold stepE at hst
  split at hst
  · cases hst
  · rename_i hg
    rw [guard_skip P u hm hg]
    simp only [Bool.false_eq_true, if_false]
    cases hst
    exact hn _ e (h.put P u (slot_plain P u (.undef .nil)) (by intro _ _ _ hx; cases hx) (put_app (F := []) hp))
  · rename_i hg
    rw [guard_run P u hm hg]
    simp only [if_true]
    refine .inl (run_sound P u tab hL hm (by intro d p hd; cases hd) hst hc fun v e' h1 h2 h3 h4 => ?_)
    have h5 := h.ext P u h1 h2
    rw [h3, hmo] at h5
    exact hn _ e' (h5.put P u (slot_plain P u h4) (by intro d p z hx; subst hx; cases h4) (put_app hp))
  · rename_i d p hg
    split at hst
    · rename_i hgu
      split at hst
      · rename_i c' y' hr
        cases hst
        have hdm : m.get d ≠ .top ∧ m.get d ≠ .undef := by
          unfold guardOf at hg
          split at hg
          · cases hg
          · split at hg
            · cases hg
            · rename_i d' hd'
              split at hg
              · split at hg <;> cases hg
              · cases hg
              · rename_i b hb; cases hg; rw [hb]; simp
              · rename_i b hb; cases hg; rw [hb]; simp
              · rename_i b hb; split at hg <;> cases hg; rw [hb]; simp
              · cases hg
        have hdt : s.get d ≠ .top ∧ d < s.tmps.length := by
          have hgo : s.get d ≠ .top ∧ s.get d ≠ .undef := by
            rcases hget d with hh | hh
            · rw [← hh]; exact hdm
            · exact absurd hh hdm.1
          refine ⟨hgo.1, ?_⟩
          by_cases hlt : d < s.tmps.length
          · exact hlt
          · exfalso
            apply hgo.2
            unfold St.get
            rw [List.getElem?_eq_none (Nat.le_of_not_lt hlt)]
        have hwok : ∀ (y : SV A) d0 p0 y0, SV.wh d p y = SV.wh d0 p0 y0 → d0 ∈ s.gu ∧ s.get d0 ≠ .top ∧ d0 < s.tmps.length := by
          intro y d0 p0 y0 hx
          cases hx
          exact ⟨by rw [← hmg]; simpa using hgu, hdt.1, hdt.2⟩
        by_cases hw : Region.wanted o (yielded ops a.tmps) = true
        · rw [if_pos hw]
          have hgd := (guard_under P u hm hg).1 hw
          have hc' : holds c' := by
            cases c' with
            | none => trivial
            | some c' => exact underP_sound P u hm 16 d p c' hc hgd
          refine .inl (run_sound P u tab hL hm (by intro d0 p0 hd; cases hd; exact hgd) hr hc' fun v e' h1 h2 h3 h4 => ?_)
          have h5 := h.ext P u h1 h2
          rw [h3, hmo] at h5
          refine hn _ e' (h5.put P u (x := .wh d p y') ?_ (hwok y') (put_app (F := []) hp))
          exact ⟨fun _ => h4, fun hne => absurd hgd hne⟩
        · rw [if_neg hw]
          have hgd : a.tmps.getD d Go.undef ≠ .bool p := fun hb => hw ((guard_under P u hm hg).2 hb)
          refine hn _ e (h.put P u (x := .wh d p y') ?_ (hwok y') (put_app (F := []) hp))
          exact ⟨fun hb => absurd hb hgd, fun _ => rfl⟩
      · cases hst
    · cases hst
theorem effIn_mem {R : List Nat} {k : Nat} : ∀ {l : List Nat}, effIn R k l = true → ∀ t ∈ l, t ∈ R ∨ inFresh k t = true
  | [], _, t, h => by cases h
  | x :: r, hw, t, h => by
    simp only [effIn, Bool.and_eq_true, Bool.or_eq_true] at hw
    rcases List.mem_cons.1 h with rfl | h
    · exact hw.1.imp memN_iff.1 (fun h => h)
    · exact effIn_mem hw.2 t h
theorem updL_out {id : Nat} (hlt : id < 1152921504606846976) : ∀ {F : Eff A} {own : Nat → Own A}, id ∉ tg F → updL own F id = own id
  | [], _, _ => rfl
  | (k, o) :: r, own, h => by
    simp only [tg, List.mem_cons, not_or] at h
    unfold updL
    rw [updL_out hlt (F := r) h.2, updO_ne hlt h.1]
theorem updL_in {id : Nat} (hlt : id < 1152921504606846976) : ∀ {F : Eff A} {own own' : Nat → Own A}, id ∈ tg F → updL own F id = updL own' F id
  | [], _, _, h => by cases h
  | (k, o) :: r, own, own', h => by
    unfold updL
    by_cases hr : id ∈ tg r
    · exact updL_in hlt hr
    · rw [updL_out hlt hr, updL_out hlt hr]
      simp only [tg, List.mem_cons] at h
      rcases h with rfl | h
      · rw [updO_same hlt, updO_same hlt]
      · exact absurd h hr
/-- At high numbers. -/
theorem updL_hi {id : Nat} (hge : 1152921504606846976 ≤ id) : ∀ {F : Eff A} {own : Nat → Own A}, (∀ t ∈ tg F, t < 1152921504606846976) → ndId id ∉ tg F → updL own F id = own id
  | [], _, _, _ => rfl
  | (k, o) :: r, own, hF, h => by
    simp only [tg, List.mem_cons, not_or] at h
    have hk : k < 1152921504606846976 := hF k (by simp [tg])
    unfold updL
    rw [updL_hi hge (F := r) (fun t ht => hF t (by simp [tg, ht])) h.2]
    by_cases har : o.isAr = true
    · obtain ⟨n, ns, rfl⟩ := isAr_eq har
      rw [updO_ge hge, if_neg h.1]
    · rw [updO_plain (not_ar har), upd_ne _ _ (by omega)]
theorem dry_congr {ops : Array Oper} {m : St A} {own' : Nat → Own A} {o : Oper} {id : Nat} (h : dryOp m o = some id) (hv : (m.own id).isVar = (own' id).isVar) :
    stepE P u tab ops { m with own := own' } o = stepE P u tab ops m o := by
  unfold dryOp at h
  split at h
  case h_2 => cases h
  rename_i hg
  have hev : ∀ x, view { m with own := own' } none (St.ev { m with own := own' } x) = view m none (m.ev x) := fun x => by rw [view_own]; rfl
  have hrun : runS P u tab { m with own := own' } none o = runS P u tab m none o := by
    split at h
    · rename_i x hop
      split at h
      · rename_i id' off hx
        cases h
        unfold runS
        simp only [hop, isHeap, hev]
        unfold npS pureS bothR
        simp only [hop, hx, live, hv, Bool.false_eq_true, if_false]
        try congr
      · cases h
    · rename_i t x i hop
      split at h
      · rename_i id' off hx
        cases h
        unfold runS
        simp only [hop, isHeap, hev]
        unfold npS pureS bothR
        simp only [hop, hx, fieldAddrS, live, hv, Bool.false_eq_true, if_false]
        try congr
      · cases h
    · rename_i x hop
      split at h
      · rename_i id' off hx
        cases h
        unfold runS
        simp only [hop, isHeap, hev]
        unfold npS pureS bothR
        simp only [hop, hx, Bool.false_eq_true, if_false]
        try congr
      · rename_i i1 i2 i3 hx
        cases h
        unfold runS
        simp only [hop, isHeap, hev]
        unfold npS pureS bothR
        simp only [hop, hx, Bool.false_eq_true, if_false]
        try congr
      · rename_i i1 hx
        cases h
        unfold runS
        simp only [hop, isHeap, hev]
        unfold npS pureS bothR
        simp only [hop, hx, Bool.false_eq_true, if_false]
        try congr
      · cases h
    · cases h
  unfold stepE guardOf
  simp only [hg, hrun]
/-- A window of cells stands in both memories alike. -/
def sameCells (own own' : Nat → Own A) (q : Nat × Nat × Nat) : Prop := own q.1 = own' q.1 ∨ ∃ cs cs', own q.1 = .var cs ∧ own' q.1 = .var cs' ∧ (cs.drop q.2.1).take q.2.2 = (cs'.drop q.2.1).take q.2.2
theorem sameCells.symm {own own' : Nat → Own A} {q : Nat × Nat × Nat} (h : sameCells own own' q) : sameCells own' own q := by
  rcases h with h | ⟨cs, cs', h1, h2, h3⟩
  · exact .inl h.symm
  · exact .inr ⟨cs', cs, h2, h1, h3.symm⟩
theorem ld_congr {ops : Array Oper} {m : St A} {own' : Nat → Own A} {o : Oper} {q : Nat × Nat × Nat} (h : ldOp P m o = some q) (hv : sameCells m.own own' q) :
    stepE P u tab ops { m with own := own' } o = stepE P u tab ops m o := by
  unfold ldOp at h
  split at h
  case h_2 => cases h
  rename_i hg
  have hev : ∀ x, view { m with own := own' } none (St.ev { m with own := own' } x) = view m none (m.ev x) := fun x => by rw [view_own]; rfl
  have hrun : runS P u tab { m with own := own' } none o = runS P u tab m none o := by
    split at h
    · rename_i t x hop
      split at h
      · rename_i id' off hx
        cases h
        unfold runS
        simp only [hop, isHeap, hev]
        unfold npS pureS bothR
        simp only [hop, hx, loadS, loadA, Bool.false_eq_true, if_false]
        rcases hv with hv | ⟨cs, cs', h1, h2, h3⟩
        · simp only at hv
          rw [hv]
        · simp only at h1 h2 h3
          rw [h1, h2]
          simp only [h3]
      · cases h
    · cases h
  unfold stepE guardOf
  simp only [hg, hrun]
theorem st_cells {ops : Array Oper} {m : St A} {o : Oper} {q : Nat × Nat × Nat} {c : Option Prop} {y : SV A} {F : Eff A} (h : stOp P m o = some q) (hs : stepE P u tab ops m o = some (c, y, F)) {off n : Nat} (hd : q.2.1 + q.2.2 ≤ off ∨ off + n ≤ q.2.1) :
    sameCells m.own (updL m.own F) (q.1, off, n) := by
  unfold stOp at h
  split at h
  case h_2 => cases h
  rename_i hg
  split at h
  case h_2 => cases h
  rename_i t x v hop
  split at h
  case h_2 => cases h
  rename_i id off0 hx
  cases h
  unfold stepE guardOf at hs
  simp only [hg] at hs
  unfold runS at hs
  simp only [hop, isHeap] at hs
  unfold npS heapS bothR at hs
  simp only [hop, hx, if_true] at hs
  unfold storeS at hs
  simp only at hs
  split at hs
  case h_2 => cases hs
  rename_i cs hcs
  split at hs
  case h_2 => cases hs
  rename_i l hl
  split at hs
  case isFalse => cases hs
  rename_i hok
  cases hs
  refine .inr ⟨cs, setAt cs off0 l, hcs, by simp [updL, upd_same], ?_⟩
  obtain ⟨hl1, _, hl2⟩ := hok
  simp only at hd
  show List.take n (List.drop off cs) = List.take n (List.drop off (setAt cs off0 l))
  unfold setAt
  apply List.ext_getElem?
  intro j
  rw [List.getElem?_take, List.getElem?_take]
  split
  · rename_i hj
    rw [List.getElem?_drop, List.getElem?_drop]
    rcases hd with hd | hd
    · rw [List.getElem?_append_right (by simp only [List.length_append, List.length_take]; omega), List.getElem?_drop]
      congr 1
      simp only [List.length_append, List.length_take]
      omega
    · rw [List.getElem?_append_left (by simp only [List.length_append, List.length_take]; omega), List.getElem?_append_left (by rw [List.length_take]; omega), List.getElem?_take, if_pos (by omega)]
  · rfl
theorem fresh_in {k t : Nat} (h : inFresh k t = true) : ∃ i, i < 64 ∧ t = k + i := by
  unfold inFresh at h
  rw [Bool.and_eq_true] at h
  have h1 : k ≤ t := Nat.le_of_ble_eq_true h.1
  have h2 : t < k + 64 := by have h3 : Nat.ble (t + 1) (k + 64) = true := h.2; exact Nat.le_of_ble_eq_true h3
  exact ⟨t - k, by omega, by omega⟩
theorem newK_D (m : St A) (o : Oper) : newK m o < 1073741824 := by
  unfold newK
  split <;> exact Nat.mod_lt _ (by decide)
theorem eff_lt {R : List Nat} {m : St A} {o : Oper} {l : List Nat} (hR : allLt 1073741824 R = true) (he : effIn R (newK m o) l = true) : ∀ t ∈ l, t < 1152921504606846976 := by
  intro t ht
  rcases effIn_mem he t ht with h | h
  · have := allLt_mem hR t h
    omega
  · obtain ⟨i, hi, rfl⟩ := fresh_in h
    have := newK_D m o
    omega
/-- An operation's outcome where another memory is the same to it. -/
theorem stepV_congr (hL : Laws P u tab) {ops : Array Oper} {s s' : St A} {o : Oper} {c : Option Prop} {y : SV A} {F : Eff A} {R : Rd} (hm : mask (looks ops o) s' = { mask (looks ops o) s with own := s'.own })
    (hag : ∀ id ∈ R.r, s.own id = s'.own id) (hsh : ∀ id ∈ R.s, (s.own id).isVar = (s'.own id).isVar)
    (hcl : ∀ q ∈ R.c, sameCells s.own s'.own q) (hf : ∀ i, i < 64 → s.own (newK s o + i) = s'.own (newK s o + i)) (hr : stepV P u tab ops s o = some (c, y, F, R)) :
    stepV P u tab ops s' o = some (c, y, F, R) := by
  have hK : newK (mask (looks ops o) s) o = newK s o := by
    unfold newK
    split
    · rfl
    · show (64 * (s.nx + (maskL _ 0 s.tmps).length)) % 1073741824 = _
      rw [maskL_length]
  unfold stepV at hr ⊢
  simp only at hr ⊢
  rw [hm]
  generalize hmm : mask (looks ops o) s = m at *
  have hmo : m.own = s.own := by rw [← hmm]; rfl
  have hdry : dryOp { m with own := s'.own } o = dryOp m o := by
    unfold dryOp
    simp only [view_own]
    rfl
  rw [hdry]
  split at hr
  · rename_i id hid
    split at hr
    case isFalse => cases hr
    rename_i hwh
    split at hr
    case h_2 => cases hr
    rename_i c0 y0 hst
    cases hr
    have hst' : stepE P u tab ops { m with own := s'.own } o = stepE P u tab ops m o := dry_congr P u tab hid (by rw [hmo]; exact hsh id (List.mem_singleton.2 rfl))
    simp only [whOk_own, hst']
    rw [if_pos hwh, hst]
  rename_i hnd
  have hld : ldOp P { m with own := s'.own } o = ldOp P m o := by
    unfold ldOp
    simp only [view_own]
    rfl
  have hso : stOp P { m with own := s'.own } o = stOp P m o := by
    unfold stOp
    simp only [view_own]
    rfl
  rw [hld]
  split at hr
  · rename_i q hq
    split at hr
    case isFalse => cases hr
    rename_i hwh
    split at hr
    case h_2 => cases hr
    rename_i c0 y0 hst
    cases hr
    have hst' : stepE P u tab ops { m with own := s'.own } o = stepE P u tab ops m o := ld_congr P u tab hq (by rw [hmo]; exact hcl q (List.mem_singleton.2 rfl))
    simp only [whOk_own, hst']
    rw [if_pos hwh, hst]
  rename_i hnl
  split at hr
  case isFalse => cases hr
  rename_i hok
  split at hr
  case h_2 => cases hr
  rename_i c0 y0 F0 hst
  split at hr
  case isFalse => cases hr
  rename_i hef
  cases hr
  generalize hRR : reach m.own 32 (addN (boxI o) (named m)) 0 = R at *
  simp only at hag
  simp only [Bool.and_eq_true] at hok
  obtain ⟨⟨⟨⟨⟨hwh, hco⟩, hsb⟩, hsub⟩, hcl⟩, hallt⟩ := hok
  have hbx := subN_mem hsb
  have hc := closedB_mem hcl
  have hn := subN_mem hsub
  have hag' : ∀ id ∈ R, m.own id = s'.own id := by rw [hmo]; exact hag
  have hreach : reach s'.own 32 (addN (boxI o) (named m)) 0 = R := by
    rw [← hRR]
    exact ((reach_congr hc hag' 32 (addN (boxI o) (named m)) 0 (fun id hi => by
      rcases addN_mem hi with hi | hi
      · exact hbx id hi
      · exact hn id hi)).1).symm
  have hnam : named { m with own := s'.own } = named m := rfl
  have hcl' : closedB s'.own R R = true := by
    have : ∀ l : List Nat, (∀ x ∈ l, x ∈ R) → closedB m.own R l = closedB s'.own R l := by
      intro l
      induction l with
      | nil => intro _; rfl
      | cons x r ih =>
        intro hl
        unfold closedB
        rw [hag' x (hl x (List.mem_cons_self ..)), ih (fun y hy => hl y (List.mem_cons_of_mem _ hy))]
    rw [← this R (fun _ h => h)]; exact hcl
  have hrun : ∀ g, runS P u tab { m with own := s'.own } g o = runS P u tab m g o := fun g => runS_congr P u tab hL hco hn hc hag' (by rw [hK, hmo]; exact hf) hbx
  have hst' : stepE P u tab ops { m with own := s'.own } o = stepE P u tab ops m o := by
    unfold stepE
    simp only [guardOf_own, hrun, underP_own']
  simp only [hreach, hnam, whOk_own, hst']
  rw [if_pos (by simp [hwh, hco, hsb, hsub, hcl', hallt])]
  rw [hst]
  have hK2 : newK { m with own := s'.own } o = newK m o := rfl
  simp only [hK2]
  rw [if_pos hef]
  have hd : dOf s'.own F F = dOf m.own F F := dOf_congr fun t ht => ⟨by
    rcases effIn_mem hef t ht with h | h
    · exact (hag' t h).symm
    · have := fresh_in h
      obtain ⟨i, hi, rfl⟩ := this
      rw [hmo, hK]
      exact (hf i hi).symm, updL_in (eff_lt hallt hef t ht) ht⟩
  rw [hd, hso]
end
end Go.Proofs.Ytndacggailoogaa.Sx
