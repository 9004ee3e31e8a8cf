/- An abstract machine over values by content, fourteenth part: of what an operation's outcome hangs. -/
import Derived.Test.YtndacggailoogaaSxZ
namespace Go.Proofs.Ytndacggailoogaa.Sx
open Go Go.RowKit

section
variable {A : Nat → Type} (P : Program) (u : U A) (tab : List (Nat × Con A))

/-- All temporaries but some are known no more. -/
def maskL (L : List Nat) : Nat → List (SV A) → List (SV A)
  | _, [] => []
  | i, x :: r => (if L.contains i then x else .top) :: maskL L (i + 1) r
theorem maskL_get (L : List Nat) : ∀ (l : List (SV A)) (i k : Nat), (maskL L i l)[k]? = (l[k]?).map fun x => if L.contains (i + k) then x else .top
  | [], _, _ => by simp [maskL]
  | x :: r, i, 0 => by simp [maskL]
  | x :: r, i, k + 1 => by
    rw [maskL]
    simp only [List.getElem?_cons_succ]
    rw [maskL_get L r (i + 1) k, show i + 1 + k = i + (k + 1) by omega]
theorem maskL_length (L : List Nat) : ∀ (l : List (SV A)) (i : Nat), (maskL L i l).length = l.length
  | [], _ => rfl
  | x :: r, i => by simp [maskL, maskL_length L r (i + 1)]
theorem maskL_set (L : List Nat) (l : List (SV A)) (d : Nat) (x : SV A) (h : L.contains d = false) : maskL L 0 (l.set d x) = maskL L 0 l := by
  apply List.ext_getElem?
  intro k
  rw [maskL_get, maskL_get, List.getElem?_set]
  by_cases hk : d = k
  · subst hk
    by_cases hl : d < l.length
    · have hd : d ∉ L := by simpa using h
      simp [hl, hd]
    · simp [hl]
  · simp [hk]
def chain (ops : Array Oper) : Nat → Oper → List Nat
  | 0, _ => []
  | n + 1, o => match o.guard with
    | none => []
    | some (j, _) => match ops[j]? with
      | some o' => (match o'.dst with
        | some d => d :: chain ops n o'
        | none => [])
      | none => []
def tmpsOf : List Operand → List Nat
  | [] => []
  | .tmp t :: r => t :: tmpsOf r
  | _ :: r => tmpsOf r
/-- The temporaries that an operation looks at, its guards with them. -/
def looks (ops : Array Oper) (o : Oper) : List Nat := tmpsOf o.op.operands.toList ++ chain ops 16 o
def mask (L : List Nat) (s : St A) : St A := { s with tmps := maskL L 0 s.tmps }
def whOk (m : St A) : Bool := m.tmps.all fun x => match x with
  | .wh d _ _ => match m.get d with
    | .top => false
    | _ => true
  | _ => true
theorem RepS.mask {w0 : W0} {O0 : Nat → Prop} {s : St A} {e : E A} {a : Act} (h : RepS P u w0 O0 s e a) {L : List Nat} (hw : whOk (mask L s) = true) : RepS P u w0 O0 (Sx.mask L s) e a := by
  have hget : ∀ (i : Nat) (x : SV A), (maskL L 0 s.tmps)[i]? = some x → x = .top ∨ s.tmps[i]? = some x := by
    intro i x hi
    rw [maskL_get] at hi
    simp only [Option.map_eq_some_iff] at hi
    obtain ⟨y, h1, h2⟩ := hi
    split at h2
    · subst h2; exact .inr h1
    · exact .inl h2.symm
  refine ⟨h.defers, by rw [h.size]; exact (maskL_length _ _ _).symm, h.own, h.hr, ?_, ?_⟩
  · intro i x hi
    rcases hget i x hi with rfl | hi
    · exact slot_plain P u (.top _ .nil)
    · exact h.slot i x hi
  · intro i d p y hi
    rcases hget i _ hi with hx | hi'
    · cases hx
    refine ⟨(h.wh i d p y hi').1, fun ht => ?_⟩
    have h1 := List.all_eq_true.1 hw _ (List.mem_of_getElem? hi)
    have h2 : (Sx.mask L s).get d = .top := by unfold St.get; rw [ht]
    simp [h2] at h1

/-- What the temporaries name. -/
def named (m : St A) : List Nat := ids.go m.tmps
def constOk (o : Oper) : Bool := o.op.operands.toList.all fun x => match x with
  | .const v => (ids (constS (A := A) v)).isEmpty
  | _ => true
/-! ### an outcome hangs of nothing else -/
theorem implies_own (m : St A) (o' : Nat → Own A) (n d : Nat) (p : Bool) (e : Nat) (q : Bool) : implies { m with own := o' } n d p e q = implies m n d p e q := by
  induction n generalizing d p with
  | zero => rfl
  | succ n ih =>
    unfold implies
    have hg : St.get { m with own := o' } d = m.get d := rfl
    rw [hg]
    simp only [ih]
theorem underP_own (m : St A) (o' : Nat → Own A) (n d : Nat) (p : Bool) (c : Prop) : underP { m with own := o' } n d p c = underP m n d p c := by
  induction n generalizing d p c with
  | zero => rfl
  | succ n ih =>
    unfold underP
    have hg : St.get { m with own := o' } d = m.get d := rfl
    rw [hg]
    simp only [ih]
theorem underP_own' (m : St A) (o' : Nat → Own A) (n d : Nat) (p : Bool) : underP { m with own := o' } n d p = underP m n d p := funext fun c => underP_own m o' n d p c
theorem view_own (m : St A) (o' : Nat → Own A) (g : Option (Nat × Bool)) (x : SV A) : view { m with own := o' } g x = view m g x := by
  unfold view
  split
  · rfl
  · unfold whV
    split
    · rw [implies_own]
    · rfl
theorem armV_own (m : St A) (o' : Nat → Own A) (g : Option (Nat × Bool)) (d : Nat) (p : Bool) (x : SV A) : armV { m with own := o' } g d p x = armV m g d p x := by
  unfold armV
  split
  · rw [implies_own]
    split
    · rfl
    · split
      · rw [implies_own]
      · rfl
  · rfl
theorem pickS_own (m : St A) (o' : Nat → Own A) (g : Option (Nat × Bool)) (c x y : Operand) : pickS { m with own := o' } g c x y = pickS m g c x y := by
  unfold pickS
  split
  · rename_i d
    rw [view_own, armV_own, armV_own, armV_own, armV_own]
    rfl
  · rfl
theorem guardOf_own (m : St A) (o' : Nat → Own A) (ops : Array Oper) (o : Oper) : guardOf ops o { m with own := o' } = guardOf ops o m := rfl
theorem whOk_own (m : St A) (o' : Nat → Own A) : whOk { m with own := o' } = whOk m := rfl
theorem ids_view {m : St A} {g : Option (Nat × Bool)} {x : SV A} {id : Nat} (h : id ∈ ids (view m g x)) : id ∈ ids x := by
  unfold view at h
  split at h
  · unfold plainV at h
    split at h
    · simp [ids] at h
    · exact h
  · unfold whV at h
    split at h
    · split at h
      · simpa [ids] using h
      · simp [ids] at h
    · exact h
theorem ids_ev {m : St A} {g : Option (Nat × Bool)} {o : Oper} (hk : constOk (A := A) o = true) {x : Operand} (hx : x ∈ o.op.operands.toList) {id : Nat} (h : id ∈ ids (view m g (m.ev x))) : id ∈ named m := by
  have h1 := ids_view h
  have h2 := List.all_eq_true.1 hk x hx
  cases x with
  | tmp t =>
    unfold St.ev St.get at h1
    simp only at h1
    split at h1
    · rename_i z hz; exact ids_go_mem (List.mem_of_getElem? hz) h1
    · simp [ids] at h1
  | const v =>
    simp only [List.isEmpty_iff] at h2
    have h1 : id ∈ ids (constS (A := A) v) := h1
    rw [h2] at h1
    cases h1
  | func f => simp [St.ev, ids, ids.go] at h1
  | global g => simp [St.ev, ids] at h1


/-! two memories that are the same where an operation looks -/
theorem live_congr {own own' : Nat → Own A} {x : SV A} (h : ∀ id ∈ ids x, own id = own' id) : live own x = live own' x := by
  cases x <;> first | rfl | (unfold live; simp only; rw [h _ (by simp [ids])])
theorem loadS_congr {own own' : Nat → Own A} {t : TypeId} {x : SV A} (h : ∀ id ∈ ids x, own id = own' id) : loadS P u own t x = loadS P u own' t x := by
  cases x <;> first | rfl | (unfold loadS; simp only; rw [h _ (by simp [ids])]) | (rename_i id p off; cases p <;> first | rfl | (unfold loadS; simp only; rw [h _ (by simp [ids])]))
theorem loadA_congr {own own' : Nat → Own A} {t : TypeId} {x : SV A} (h : ∀ id ∈ ids x, own id = own' id) : loadA P u own t x = loadA P u own' t x := by
  cases x <;> first | rfl | (unfold loadA; simp only; rw [h _ (by simp [ids])])
theorem arrAddr_congr {own own' : Nat → Own A} {len el : Nat} {n : Int} {x : SV A} (h : ∀ id ∈ ids x, own id = own' id) : arrAddr own len el n x = arrAddr own' len el n x := by
  cases x <;> first | rfl | (unfold arrAddr; simp only; rw [h _ (by simp [ids])])
theorem partAddr_congr {own own' : Nat → Own A} {len el : Nat} {n : Int} {x : SV A} (h : ∀ id ∈ ids x, own id = own' id) : partAddr u own len el n x = partAddr u own' len el n x := by
  cases x <;> first | rfl | (unfold partAddr; simp only; rw [h _ (by simp [ids])])
theorem sliceA_congr {own own' : Nat → Own A} {n el : Nat} {lo hi : Option (SV A)} {x : SV A} (h : ∀ id ∈ ids x, own id = own' id) : sliceA u own n el lo hi x = sliceA u own' n el lo hi x := by
  cases x <;> first | rfl | (unfold sliceA; simp only; rw [h _ (by simp [ids])])
theorem fieldAddrS_congr {own own' : Nat → Own A} {t : TypeId} {i : Nat} {x : SV A} (h : ∀ id ∈ ids x, own id = own' id) : fieldAddrS P own t i x = fieldAddrS P own' t i x := by
  unfold fieldAddrS; rw [live_congr h]
theorem indexAddrS_congr {own own' : Nat → Own A} {t : TypeId} {x i : SV A} (h : ∀ id ∈ ids x, own id = own' id) : indexAddrS P u own t x i = indexAddrS P u own' t x i := by
  unfold indexAddrS
  have hl := live_congr h
  cases i <;> simp only
  rw [hl]
  simp only [arrAddr_congr h, partAddr_congr u h]
  cases x
  case cx id p off =>
    cases p <;> simp only <;> (try rw [h _ (by simp [ids])]) <;> (try rw [hl])
  all_goals simp only <;> (try rw [h _ (by simp [ids])]) <;> (try rw [hl])
theorem lenO_congr {own own' : Nat → Own A} {x : SV A} (h : ∀ id ∈ ids x, own id = own' id) : lenO own x = lenO own' x := by
  have hl := live_congr h
  cases x <;> first | rfl | (unfold lenO; simp only; rw [hl]) | (unfold lenO; simp only; rw [h _ (by simp [ids])])
theorem contT_congr {own own' : Nat → Own A} {T : Nat} {x : SV A} (h : ∀ id ∈ ids x, own id = own' id) : contT P u own T x = contT P u own' T x := by
  cases x <;> first | rfl | (unfold contT; simp only; rw [h _ (by simp [ids])])
theorem convS_congr {own own' : Nat → Own A} {s d : TypeId} {x : SV A} (h : ∀ id ∈ ids x, own id = own' id) : convS P u own s d x = convS P u own' s d x := by
  unfold convS
  have hc : ∀ T, contT P u own T x = contT P u own' T x := fun T => contT_congr P u h
  simp only [hc]
theorem sliceS_congr {own own' : Nat → Own A} {t : TypeId} {x : SV A} {lo hi : Option (SV A)} (h : ∀ id ∈ ids x, own id = own' id) : sliceS P u own t x lo hi = sliceS P u own' t x lo hi := by
  have hl := live_congr h
  unfold sliceS
  simp only [sliceA_congr u h]
  cases x <;> simp only <;> (try rw [h _ (by simp [ids])]) <;> (try rw [hl])
theorem bin1_congr {own own' : Nat → Own A} {op : BinOp} {t : TypeId} {x y : SV A} (h : ∀ id ∈ ids x, own id = own' id) (k : ∀ id ∈ ids y, own id = own' id) : bin1 P u own op t x y = bin1 P u own' op t x y := by
  have hp : ptrEq P own t x y = ptrEq P own' t x y := by unfold ptrEq; rw [live_congr h, live_congr k]
  unfold bin1 binD
  rw [hp]
theorem pure_congr {own own' : Nat → Own A} {o : Oper} {ev : Operand → SV A} (h : ∀ x ∈ o.op.operands.toList, ∀ id ∈ ids (ev x), own id = own' id) : pureS P u own o ev = pureS P u own' o ev := by
  unfold pureS
  split <;> (first | (rename_i hop; rw [hop] at h; simp only [Op.operands] at h) | skip)
  all_goals first
    | rfl
    | (rw [bin1_congr P u (h _ (by simp)) (h _ (by simp))])
    | (rw [convS_congr P u (h _ (by simp))])
    | (rw [loadA_congr P u (h _ (by simp)), loadS_congr P u (h _ (by simp))])
    | (rw [fieldAddrS_congr P (h _ (by simp))])
    | (rw [indexAddrS_congr P u (h _ (by simp))])
    | (rw [sliceS_congr P u (h _ (by simp))])
    | (rw [lenO_congr (h _ (by simp))])
    | skip
  · rename_i x
    have hl : live own (ev x) = live own' (ev x) := live_congr (h x (by simp))
    cases hx : ev x <;> rw [hx] at hl <;> first | rfl | simp only [hl]
  · rename_i cc
    split
    · rename_i b hb
      have hb2 : builtinS P own b cc.argTypes.toList (cc.args.toList.map ev) = builtinS P own' b cc.argTypes.toList (cc.args.toList.map ev) := by
        unfold builtinS
        split
        · rename_i t x hts hxs
          have hx : x ∈ cc.args.toList.map ev := by rw [hxs]; exact List.mem_singleton.2 rfl
          obtain ⟨z, hz, rfl⟩ := List.mem_map.1 hx
          unfold lenS
          rw [lenO_congr (h z (by simp [Call.operands, hb]; simpa using hz))]
        · rfl
        · rfl
        · rfl
        · rfl
        · rfl
      rw [hb2]
    · rfl
theorem updO_agree {own own' : Nat → Own A} {id k : Nat} {o : Own A} (h : own id = own' id) : updO own k o id = updO own' k o id := by
  have hu : upd own k o id = upd own' k o id := by
    unfold upd
    split
    · rfl
    · exact h
  rcases Nat.lt_or_ge id 1152921504606846976 with hlt | hge
  · rw [updO_lt hlt, updO_lt hlt]; exact hu
  · by_cases har : o.isAr = true
    · obtain ⟨n, ns, rfl⟩ := isAr_eq har
      rw [updO_ge hge, updO_ge hge, h]
    · rw [updO_plain (not_ar har), updO_plain (not_ar har)]; exact hu
theorem updL_agree {own own' : Nat → Own A} {id : Nat} : ∀ {F : Eff A}, own id = own' id → updL own F id = updL own' F id
  | [], h => h
  | (k, o) :: r, h => by
    unfold updL
    exact updL_agree (F := r) (updO_agree h)
theorem frzV_congr {own own' : Nat → Own A} {x : SV A} (h : ∀ id ∈ ids x, own id = own' id) : frzV own x = frzV own' x := by
  cases x <;> first | rfl | (unfold frzV; simp only; rw [h _ (by simp [ids])])
theorem frzL_congr : ∀ {xs : List (SV A)} {own own' : Nat → Own A}, (∀ id ∈ ids.go xs, own id = own' id) → frzL own xs = frzL own' xs
  | [], _, _, _ => rfl
  | x :: r, own, own', h => by
    simp only [ids.go, List.mem_append] at h
    unfold frzL
    rw [frzV_congr (fun id hi => h id (.inl hi))]
    split
    rename_i y f hf
    rw [frzL_congr (xs := r) (own := updL own f) (own' := updL own' f) (fun id hi => updL_agree (h id (.inr hi)))]
theorem cellsV_ids (hclean : ∀ T x, noOwn.go (u.enc T x) = true) (hnid : ∀ l : List (SV A), noOwn.go l = true → ids.go l = []) {x : SV A} {l : List (SV A)} (h : cellsV u x = some l) : ∀ id ∈ ids.go l, id ∈ ids x := by
  unfold cellsV at h
  split at h
  · split at h <;> cases h
    intro id hi; exact hi
  · split at h <;> cases h
    intro id hi
    rw [hnid _ (hclean _ _)] at hi
    cases hi
  · split at h <;> cases h
    intro id hi
    simpa [ids.go] using hi
theorem elemS_congr (hclean : ∀ T x, noOwn.go (u.enc T x) = true) (hnid : ∀ l : List (SV A), noOwn.go l = true → ids.go l = []) {own own' : Nat → Own A} {T : Nat} {x : SV A} (h : ∀ id ∈ ids x, own id = own' id) : elemS P u own T x = elemS P u own' T x := by
  unfold elemS
  split
  · rfl
  · split
    · rename_i l0 hl0
      rw [frzL_congr (fun id hi => h id (cellsV_ids u hclean hnid hl0 id hi))]
    · rfl
theorem rowS_congr (hclean : ∀ T x, noOwn.go (u.enc T x) = true) (hnid : ∀ l : List (SV A), noOwn.go l = true → ids.go l = []) {ev : Operand → SV A} {el : Nat} : ∀ {ps : List (Nat × Operand)} {own own' : Nat → Own A} {i : Nat}, (∀ p ∈ ps, ∀ id ∈ ids (ev p.2), own id = own' id) → rowS P u ev el own i ps = rowS P u ev el own' i ps
  | [], _, _, _, _ => rfl
  | (j, x) :: r, own, own', i, h => by
    have he : elemS P u own el (ev x) = elemS P u own' el (ev x) := elemS_congr P u hclean hnid (h (j, x) (List.mem_cons_self ..))
    unfold rowS
    split
    · rw [he]
      cases elemS P u own' el (ev x) with
      | none => rfl
      | some p =>
        obtain ⟨y, f⟩ := p
        simp only
        rw [rowS_congr hclean hnid (ps := r) (own := updL own f) (own' := updL own' f) (fun p hp id hi => updL_agree (h p (List.mem_cons_of_mem _ hp) id hi))]
    · rfl
theorem storeS_congr (hclean : ∀ T x, noOwn.go (u.enc T x) = true) (hnid : ∀ l : List (SV A), noOwn.go l = true → ids.go l = []) {own own' : Nat → Own A} {t : TypeId} {a x : SV A} (h : ∀ id ∈ ids a, own id = own' id) (k : ∀ id ∈ ids x, own id = own' id) : storeS P u own t a x = storeS P u own' t a x := by
  cases a <;> first | rfl | skip
  · unfold storeS; simp only; rw [h _ (by simp [ids])]
  · rename_i id idx off
    have hid := h id (by simp [ids])
    unfold storeS
    simp only
    rw [hid]
    cases own' id with
    | row T xs =>
      simp only
      unfold storeA
      have helt : elemS P u own t x = elemS P u own' t x := elemS_congr P u hclean hnid k
      rw [helt]
      split
      · rfl
      rw [elemS_congr P u hclean hnid k]
      generalize (if Nat.beq T t then (if Nat.beq off 0 then elemS P u own' T x else none) else none) = z
      cases z with
      | some p =>
        obtain ⟨y, f⟩ := p
        simp only
        rw [updL_agree (F := f) hid]
      | none =>
        simp only
        cases hl0 : cellsV u x with
        | none => rfl
        | some l0 =>
          simp only
          rw [frzL_congr (fun q hq => k q (cellsV_ids u hclean hnid hl0 q hq))]
          generalize frzL own' l0 = z
          obtain ⟨l, f⟩ := z
          simp only
          rw [updL_agree (F := f) hid]
    | _ => rfl
  · rename_i id idx off S i
    have hid := h id (by simp [ids])
    unfold storeS storeB
    simp only
    rw [hid]
    have helt : elemS P u own S x = elemS P u own' S x := elemS_congr P u hclean hnid k
    rw [helt]
  · rename_i id p off
    have hid := h id (by simp [ids])
    cases p
    · rfl
    · unfold storeS
      simp only
      rw [hid]
theorem laidS_congr {own own' : Nat → Own A} {k t : Nat} {y : A t} (hk : own k = own' k) : laidS u k own t y = laidS u k own' t y := by
  unfold laidS
  rw [hk]
theorem appendS_congr {own own' : Nat → Own A} {k : Nat} {t1 t2 : TypeId} {x y : SV A} (hk : own k = own' k) (h : ∀ id ∈ ids x, own id = own' id) (g : ∀ id ∈ ids y, own id = own' id) : appendS P u k own t1 t2 x y = appendS P u k own' t1 t2 x y := by
  unfold appendS
  simp only [contT_congr P u g, hk]
  cases x <;> simp only <;> (try rw [h _ (by simp [ids])])
theorem copyS_congr {own own' : Nat → Own A} {t1 : TypeId} {x y : SV A} (h : ∀ id ∈ ids x, own id = own' id) (g : ∀ id ∈ ids y, own id = own' id) : copyS P u own t1 x y = copyS P u own' t1 x y := by
  unfold copyS
  simp only [contT_congr P u g]
  cases x <;> simp only <;> (try rw [h _ (by simp [ids])])
theorem clearS_congr {own own' : Nat → Own A} {t1 : TypeId} {x : SV A} (h : ∀ id ∈ ids x, own id = own' id) : clearS P u own t1 x = clearS P u own' t1 x := by
  unfold clearS
  cases x <;> simp only <;> (try rw [h _ (by simp [ids])])
theorem makeS_congr {own own' : Nat → Own A} {k : Nat} {t1 : TypeId} {x y : SV A} (hk : own k = own' k) : makeS P u k own t1 x y = makeS P u k own' t1 x y := by
  unfold makeS
  simp only [hk]
theorem convH_congr {own own' : Nat → Own A} {k : Nat} {s d : TypeId} {x : SV A} (hk : own k = own' k) (h : ∀ id ∈ ids x, own id = own' id) : convH P u k own s d x = convH P u k own' s d x := by
  unfold convH
  simp only [hk]
  cases x <;> simp only <;> (try rw [h _ (by simp [ids])])
theorem heap_congr (hclean : ∀ T x, noOwn.go (u.enc T x) = true) (hnid : ∀ l : List (SV A), noOwn.go l = true → ids.go l = []) {k : Nat} {own own' : Nat → Own A} {o : Oper} {ev : Operand → SV A} (hk : own k = own' k) (h : ∀ x ∈ o.op.operands.toList, ∀ id ∈ ids (ev x), own id = own' id) : heapS P u k own o ev = heapS P u k own' o ev := by
  unfold heapS
  split <;> (first | (rename_i hop; rw [hop] at h; simp only [Op.operands] at h) | skip)
  · rename_i t x
    have helt : elemS P u own t (ev x) = elemS P u own' t (ev x) := elemS_congr P u hclean hnid (h x (by simp))
    rw [hk, helt]
    simp only [laidS_congr u hk]
  · rw [hk]
    simp only [laidS_congr u hk]
  · rw [storeS_congr P u hclean hnid (h _ (by simp)) (h _ (by simp))]
  · rename_i t len ps
    split
    · rename_i el hel
      rw [rowS_congr P u hclean hnid (fun p hp => h p.2 (by simp; exact ⟨p.1, by simpa using hp⟩)), hk]
      split
      · split
        · rename_i xs f hf _
          rw [updL_agree (F := f) hk]
        · rfl
        · rfl
      · rfl
    · rfl
  · rw [makeS_congr P u hk]
  · unfold mmakeS; rw [hk]
  · rename_i t x i ok
    have hx := h x (by simp)
    unfold mlookS
    cases hxx : ev x <;> simp only <;> first | rfl | (rw [hxx] at hx; rw [hx _ (by simp [ids])])
  · rename_i t m i x
    have hm := h m (by simp)
    have hx := h x (by simp)
    unfold mupdS
    cases hmm : ev m <;> simp only <;> first | rfl | skip
    rename_i id
    rw [hmm] at hm
    have hid := hm id (by simp [ids])
    have helt : ∀ vt, elemS P u own vt (ev x) = elemS P u own' vt (ev x) := fun vt => elemS_congr P u hclean hnid hx
    simp only [helt]
    have hupd : ∀ f : Eff A, updL own f id = updL own' f id := fun f => updL_agree hid
    simp only [hupd]
  · rw [convH_congr P u hk (h _ (by simp))]
  · rename_i cc
    split
    · rename_i b hb
      have harg : ∀ x ∈ cc.args.toList.map ev, ∀ id ∈ ids x, own id = own' id := by
        intro x hx
        obtain ⟨z, hz, rfl⟩ := List.mem_map.1 hx
        exact h z (by simp [Call.operands, hb]; simpa using hz)
      split
      · rename_i t1 t2 x y hts hxs
        rw [hxs] at harg
        exact appendS_congr P u hk (harg _ (by simp)) (harg _ (by simp))
      · rename_i t1 t2 x y hts hxs
        rw [hxs] at harg
        exact copyS_congr P u (harg _ (by simp)) (harg _ (by simp))
      · rename_i t x hts hxs
        rw [hxs] at harg
        exact clearS_congr P u (harg _ (by simp))
      · rename_i t1 t2 x y hts hxs
        rw [hxs] at harg
        have hx := harg x (by simp)
        unfold mdelS
        cases x <;> simp only <;> first | rfl | rw [hx _ (by simp [ids])]
      · rename_i t x hts hxs
        rw [hxs] at harg
        have hx := harg x (by simp)
        unfold mlenS
        cases x <;> simp only <;> first | rfl | rw [hx _ (by simp [ids])]
      · rfl
    · rfl
  · rfl
/-- What an operation looks at besides its operands. -/
def boxI (o : Oper) : List Nat := match o.op with
  | .box _ _ => [0]
  | _ => []
theorem arOf_congr {own own' : Nat → Own A} {id : Nat} (h : own id = own' id) : arOf own id = arOf own' id := by
  unfold arOf
  rw [h]
theorem np_congr {k : Nat} {own own' : Nat → Own A} {o : Oper} {ev : Operand → SV A} (hk : own k = own' k) (h : ∀ x ∈ o.op.operands.toList, ∀ id ∈ ids (ev x), own id = own' id) (hb : ∀ id ∈ boxI o, own id = own' id) : npS P u k own o ev = npS P u k own' o ev := by
  have hop1 : ∀ {x : Operand} {id : Nat} {z : NP} {off : Nat}, x ∈ o.op.operands.toList → ev x = .np id z off → own id = own' id := by
    intro x id z off hx he
    exact h x hx id (by rw [he]; simp [ids])
  unfold npS
  split <;> (first | (rename_i hop; rw [hop] at hop1; simp only [Op.operands] at hop1) | skip)
  · rename_i t a
    split
    · rename_i id j off he; rw [arOf_congr (hop1 (by simp) he)]
    · rename_i id i off he; rw [hop1 (by simp) he]
    · rfl
  · rename_i t a x
    split
    · rename_i id j off he; rw [arOf_congr (hop1 (by simp) he)]
    · rfl
  · rfl
  · rename_i t x i
    split
    · rfl
    · rename_i id off he; rw [hop1 (by simp) he]
    · rfl
  · rfl
  · rfl
  · rename_i t len ps
    rw [hk]
  · rename_i t x
    unfold boxN
    rw [hk, arOf_congr (own := own) (own' := own') (hb 0 (by unfold boxI; rw [hop]; simp))]
  · rename_i cc
    split
    · rename_i b hb'
      have harg : ∀ x ∈ cc.args.toList.map ev, ∀ id ∈ ids x, own id = own' id := by
        intro x hx
        obtain ⟨z, hz, rfl⟩ := List.mem_map.1 hx
        exact h z (by rw [hop]; simp [Op.operands, Call.operands, hb']; simpa using hz)
      split
      · rename_i t1 t2 id off id' off' hts hxs
        rw [hxs] at harg
        unfold appN
        rw [hk, harg (.np id .row off) (by simp) id (by simp [ids]), harg (.np id' .row off') (by simp) id' (by simp [ids])]
      · rename_i t id off hts hxs
        rw [hxs] at harg
        rw [harg (.np id .row off) (by simp) id (by simp [ids])]
      · rfl
    · rfl
  · rfl
end
end Go.Proofs.Ytndacggailoogaa.Sx
