/- An abstract machine over values by content, eighth part, e: all operations that lay blocks of the call's own or write into them. -/
import Derived.Test.YtndacggailoogaaSxU
namespace Go.Proofs.Ytndacggailoogaa.Sx
open Go Go.RowKit

section
variable {A : Nat → Type} (P : Program) (u : U A)

/-- A row that nobody writes to any more, by its content. -/
theorem fro_csl (hclean : ∀ T x, noOwn.go (u.enc T x) = true) {w0 : W0} {O0 : Nat → Prop} {e : E A} (hr : HR P u w0 O0 e) {id lo len T : Nat} {xs : List (A T)} {v : Value} (ho : e.own id = .fro T xs) (hx : RepL P u e [.osl id lo len] [v]) : RepL P u e [.csl T ((xs.drop lo).take len)] [v] := by
  have hsame : ∀ {T2 : Nat} {zs : List (A T2)}, (e.own id = .row T2 zs ∨ e.own id = .fro T2 zs) → T2 = T ∧ HEq zs xs := by
    intro T2 zs hv
    rw [ho] at hv
    rcases hv with hv | hv <;> cases hv
    exact ⟨rfl, HEq.rfl⟩
  cases hx with
  | oslD _ _ _ _ hd _ _ => rw [ho] at hd; cases hd
  | oslZ _ _ T2 zs a hv hlo _ => exact .csl T _ a 0 0 (fun _ => []) (by simp) (Nat.le_refl _) (.inl (by simp)) (fun i hi => by simp at hi) (fun i x hi => by simp at hi) .nil
  | osl _ _ _ b c cap T2 zs hv hβ hle hcc _ =>
    obtain ⟨rfl, hh⟩ := hsame hv
    cases hh
    have hent := hr.ent id
    rw [ho] at hent
    rcases hent with ⟨_, hn⟩ | ⟨b2, c2, arr, T', fz, ows, hβ2, hfr, hheap, hfz, harr, hc2, hel⟩
    · rw [hn] at hβ; cases hβ
    rw [hβ] at hβ2; cases hβ2
    have hno : ¬ e.O b := by
      intro hO
      rcases (hr.O b).1 hO with h0 | ⟨id', c', h1, h2⟩
      · exact hr.notO0 P u (by rw [ho]; simp) (by rw [ho]; simp) hβ h0
      · have := hr.inj id id' b c c' (by rw [ho]; simp) (by rw [ho]; simp) (mut_live h1).1 (mut_live h1).2 hβ h2
        subst this
        rw [ho] at h1; cases h1
    refine .csl T2 _ _ len cap (fun i => ows (lo + i)) (by simp; omega) (by omega) (.inr ⟨b, lo * P.cellsOf T2, rfl, lt_of_get hheap, hno, fun i hi => ?_⟩) (fun i hi => ?_) ?_ .nil
    · have hi' : i < len := by simp at hi; omega
      intro j v hj
      obtain ⟨_, _, h3⟩ := hel (lo + i) _ (List.getElem?_eq_getElem (by omega))
      have hcell := cellsAt_heap hheap _ v (h3 j v hj)
      rw [Nat.zero_add, Nat.add_mul, Nat.add_assoc] at hcell
      rw [Nat.add_assoc]
      exact hcell
    · have hi' : i < len := by simp at hi; omega
      exact (hel (lo + i) _ (List.getElem?_eq_getElem (by omega))).2.1
    · intro i x hi
      rw [List.getElem?_take] at hi
      split at hi
      · rw [List.getElem?_drop] at hi
        exact (hel (lo + i) x hi).1
      · cases hi
/-- A value that goes into a row: own rows are written to no more, and stand by their content. -/
def frzV (own : Nat → Own A) (x : SV A) : SV A × Eff A := match x with
  | .orow id => match own id with
    | .row T xs => (.csl T xs, [(id, .fro T xs)])
    | .fro T xs => (.csl T xs, [])
    | _ => (.orow id, [])
  | .osl id lo len => match own id with
    | .row T xs => (.csl T ((xs.drop lo).take len), [(id, .fro T xs)])
    | .fro T xs => (.csl T ((xs.drop lo).take len), [])
    | _ => (.osl id lo len, [])
  | x => (x, [])
def frzL (own : Nat → Own A) : List (SV A) → List (SV A) × Eff A
  | [] => ([], [])
  | x :: r => match frzV own x with
    | (y, f) => match frzL (updL own f) r with
      | (l, g) => (y :: l, f ++ g)
theorem updL_app (own : Nat → Own A) : ∀ f g : Eff A, updL own (f ++ g) = updL (updL own f) g
  | [], g => rfl
  | (k, o) :: f, g => updL_app (updO own k o) f g
theorem frzV_sound (hclean : ∀ T x, noOwn.go (u.enc T x) = true) {w0 : W0} {O0 : Nat → Prop} {e : E A} (hr : HR P u w0 O0 e) {x y : SV A} {v : Value} {f : Eff A} (hx : RepL P u e [x] [v]) (h : frzV e.own x = (y, f)) :
    ∃ e', e'.w = e.w ∧ HR P u w0 O0 e' ∧ Ext e e' ∧ e'.own = updL e.own f ∧ RepL P u e' [y] [v] := by
  have hrow : ∀ {id lo len T : Nat} {xs : List (A T)}, e.own id = .row T xs → RepL P u e [.osl id lo len] [v] → ∃ e' : E A, e'.w = e.w ∧ HR P u w0 O0 e' ∧ Ext e e' ∧ e'.own = upd e.own id (.fro T xs) ∧ RepL P u e' [.csl T ((xs.drop lo).take len)] [v] := by
    intro id lo len T xs ho hx
    obtain ⟨h1, h2⟩ := hr.froze P u ho
    exact ⟨mkE O0 e.w (upd e.own id (.fro T xs)) e.β, rfl, h2, h1, rfl, fro_csl P u hclean h2 (by show upd e.own id _ id = _; rw [upd_same]) (hx.ext P u h1)⟩
  unfold frzV at h
  split at h
  · rename_i id
    split at h
    · rename_i T xs ho
      cases h
      obtain ⟨e', h1, h2, h3, h4, h5⟩ := hrow ho (orow_osl P u (.inl ho) hx)
      exact ⟨e', h1, h2, h3, h4, by simpa using h5⟩
    · rename_i T xs ho
      cases h
      exact ⟨e, rfl, hr, .refl e, rfl, by simpa using fro_csl P u hclean hr ho (orow_osl P u (.inr ho) hx)⟩
    · cases h; exact ⟨e, rfl, hr, .refl e, rfl, hx⟩
  · rename_i id lo len
    split at h
    · rename_i T xs ho
      cases h
      obtain ⟨e', h1, h2, h3, h4, h5⟩ := hrow ho hx
      exact ⟨e', h1, h2, h3, h4, h5⟩
    · rename_i T xs ho
      cases h
      exact ⟨e, rfl, hr, .refl e, rfl, fro_csl P u hclean hr ho hx⟩
    · cases h; exact ⟨e, rfl, hr, .refl e, rfl, hx⟩
  · cases h; exact ⟨e, rfl, hr, .refl e, rfl, hx⟩
theorem frzL_sound (hclean : ∀ T x, noOwn.go (u.enc T x) = true) {w0 : W0} {O0 : Nat → Prop} : ∀ {xs : List (SV A)} {e : E A} {ys : List (SV A)} {vs : List Value} {f : Eff A}, HR P u w0 O0 e → RepL P u e xs vs → frzL e.own xs = (ys, f) →
    ∃ e', e'.w = e.w ∧ HR P u w0 O0 e' ∧ Ext e e' ∧ e'.own = updL e.own f ∧ RepL P u e' ys vs
  | [], e, ys, vs, f, hr, hx, h => by cases h; cases hx; exact ⟨e, rfl, hr, .refl e, rfl, .nil⟩
  | x :: xs, e, ys, vs, f, hr, hx, h => by
    obtain ⟨v, ws, rfl, h1, h2⟩ := hx.split P u
    unfold frzL at h
    split at h
    rename_i y f1 hf1
    split at h
    rename_i l g hg
    cases h
    obtain ⟨e1, a1, a2, a3, a4, a5⟩ := frzV_sound P u hclean hr h1 hf1
    rw [← a4] at hg
    obtain ⟨e2, b1, b2, b3, b4, b5⟩ := frzL_sound hclean (e := e1) a2 (h2.ext P u a3) hg
    exact ⟨e2, b1.trans a1, b2, a3.trans b3, by rw [b4, a4, updL_app], (a5.ext P u b3).cons P u b5⟩

/-- An element, out of a value. -/
def elemS (own : Nat → Own A) (T : Nat) (x : SV A) : Option (A T × Eff A) := match (match x with
    | .el S y => if h : S = T then (if Nat.beq (u.enc T (h ▸ y)).length (P.cellsOf T) then some (h ▸ y) else none) else none
    | _ => (none : Option (A T))) with
  | some y => some (y, [])
  | none => match cellsV u x with
    | some l0 => match frzL own l0 with
      | (l, f) => match u.dec T l with
        | some y => some (y, f)
        | none => none
    | none => none
theorem elemS_sound (hu : Law P u) (hclean : ∀ T x, noOwn.go (u.enc T x) = true) {w0 : W0} {O0 : Nat → Prop} {e : E A} (hr : HR P u w0 O0 e) {T : Nat} {x : SV A} {y : A T} {v : Value} {f : Eff A} (hx : RepL P u e [x] [v]) (h : elemS P u e.own T x = some (y, f)) :
    ∃ e', e'.w = e.w ∧ HR P u w0 O0 e' ∧ Ext e e' ∧ e'.own = updL e.own f ∧ RepL P u e' (u.enc T y) v.cells.toList ∧ v.cells.size = P.cellsOf T := by
  unfold elemS at h
  split at h
  · rename_i y' hy
    cases h
    split at hy
    · rename_i S z
      split at hy
      · rename_i hh
        subst hh
        split at hy
        · rename_i hb
          have hb := Nat.eq_of_beq_eq_true hb
          cases hy
          cases hx with
          | el _ _ cs hr2 _ => exact ⟨e, rfl, hr, .refl e, rfl, hr2, by rw [← hb, hr2.length]; rfl⟩
        · cases hy
      · cases hy
    · cases hy
  · split at h
    · rename_i l0 hl0
      split at h
      rename_i l f' hf
      split at h
      · rename_i y' hd
        cases h
        obtain ⟨h1, _⟩ := cellsV_rep P u hx hl0
        obtain ⟨e', a1, a2, a3, a4, a5⟩ := frzL_sound P u hclean hr h1 hf
        exact ⟨e', a1, a2, a3, a4, hu.dec _ _ _ _ _ hd a5, by rw [← hu.len _ _ _ hd, a5.length]; simp⟩
      · cases h
    · cases h
/-- The elements of a slice that is written out. -/
def rowS (ev : Operand → SV A) (el : Nat) : (Nat → Own A) → Nat → List (Nat × Operand) → Option (List (A el) × Eff A)
  | _, _, [] => some ([], [])
  | own, i, (j, x) :: r => if Nat.beq j i then (match elemS P u own el (ev x) with
    | some (y, f) => match rowS ev el (updL own f) (i + 1) r with
      | some (ys, g) => some (y :: ys, f ++ g)
      | none => none
    | none => none) else none
theorem rowS_rep (hu : Law P u) (hclean : ∀ T x, noOwn.go (u.enc T x) = true) {w0 : W0} {O0 : Nat → Prop} {ρ : Operand → Value} {ev : Operand → SV A} {el : Nat} : ∀ (ps : List (Nat × Operand)) (i : Nat) (e : E A) (xs : List (A el)) (f : Eff A), HR P u w0 O0 e → (∀ x, RepL P u e [ev x] [ρ x]) → rowS P u ev el e.own i ps = some (xs, f) →
    ∃ (vs : List Value) (e' : E A), e'.w = e.w ∧ HR P u w0 O0 e' ∧ Ext e e' ∧ e'.own = updL e.own f ∧ ps.map (fun p => (p.1, ρ p.2)) = (vs.zipIdx i).map (fun x => (x.2, x.1)) ∧ vs.length = xs.length ∧ (∀ v ∈ vs, v.cells.size = P.cellsOf el) ∧ ∀ (j : Nat) (x : A el), xs[j]? = some x → ∃ v : Value, vs[j]? = some v ∧ RepL P u e' (u.enc el x) v.cells.toList := by
  intro ps
  induction ps with
  | nil =>
    intro i e xs f hr hev h
    cases h
    exact ⟨[], e, rfl, hr, .refl e, rfl, rfl, rfl, by simp, by simp⟩
  | cons p ps ih =>
    obtain ⟨j, x⟩ := p
    intro i e xs f hr hev h
    unfold rowS at h
    split at h
    · rename_i hji
      have hji := Nat.eq_of_beq_eq_true hji
      subst hji
      split at h
      · rename_i y f1 hy
        split at h
        · rename_i ys g hys
          cases h
          obtain ⟨e1, a1, a2, a3, a4, a5, a6⟩ := elemS_sound P u hu hclean hr (hev x) hy
          rw [← a4] at hys
          obtain ⟨vs, e2, b1, b2, b3, b4, g1, g2, g3, g4⟩ := ih (j + 1) e1 ys g a2 (fun x => (hev x).ext P u a3) hys
          refine ⟨ρ x :: vs, e2, b1.trans a1, b2, a3.trans b3, by rw [b4, a4, updL_app], by simp [g1], by simp [g2], ?_, ?_⟩
          · intro v hv
            rcases List.mem_cons.1 hv with rfl | hv
            · exact a6
            · exact g3 v hv
          · intro k z hk
            cases k with
            | zero => cases hk; exact ⟨ρ x, rfl, a5.ext P u b3⟩
            | succ k => exact g4 k z hk
        · cases h
      · cases h
    · cases h
/-- The zero of an element. -/
def zeroEl (T : Nat) : Option (A T) := match u.bld T [] with
  | some x => some x
  | none => match zeroS (A := A) P T with
    | some l => u.dec T l
    | none => none
theorem zero_blk {z : Array Value} (hz : 0 < z.size) (n : Nat) : (Builtin.zeroCells z n).toList = blk (fun _ => z.toList) n := by
  have hz' : ∀ i, i < n → ((fun _ => z.toList) i : List Value).length = z.size := fun i _ => by simp
  apply List.ext_getElem?
  intro k
  by_cases hk : k < n * z.size
  · have hi : k / z.size < n := Nat.div_lt_of_lt_mul (by rwa [Nat.mul_comm])
    have hj := Nat.mod_lt k hz
    have hkk : k = k / z.size * z.size + k % z.size := by rw [Nat.mul_comm]; exact (Nat.div_add_mod k z.size).symm
    have h2 := blk_get hz' (k / z.size) (k % z.size) hi hj
    rw [← hkk] at h2
    rw [h2]
    simp [Builtin.zeroCells, hk, hj]
  · rw [List.getElem?_eq_none (by simp [Builtin.zeroCells]; omega), List.getElem?_eq_none (by rw [blk_length hz']; omega)]
theorem zeroEl_cells (hu : Law P u) {T : Nat} {x : A T} (h : zeroEl P u T = some x) : ∃ l, zeroS P T = some l ∧ l.length = P.cellsOf T ∧ ∀ (e : E A) (vs : List Value), RepL P u e l vs → RepL P u e (u.enc T x) vs := by
  unfold zeroEl at h
  split at h
  · rename_i x' hx
    cases h
    have hb := hu.bld _ _ _ hx
    unfold buildO at hb
    split at hb
    · rename_i z pl hz hpl
      simp only [fillS, Option.map_some, Option.some.injEq, SV.agg.injEq] at hb
      refine ⟨z, hz, ?_, fun e vs hr => by rw [← hb]; exact hr⟩
      have hz' := hz
      unfold zeroS at hz'
      cases hi : P.info? T with
      | none => simp [hi] at hz'
      | some it =>
        cases hzz : it.zero with
        | none => simp [hi, hzz] at hz'
        | some zv =>
          rw [hb]
          exact hu.zeroLen T x hx
    · cases hb
  · split at h
    · rename_i l hl
      exact ⟨l, hl, hu.len _ _ _ h, fun e vs hr => hu.dec _ _ _ _ _ h hr⟩
    · cases h
theorem zeroEl_rep (hu : Law P u) {e : E A} {T : Nat} {x : A T} (h : zeroEl P u T = some x) : ∃ i z, P.info? T = some i ∧ i.zero = some z ∧ RepL P u e (u.enc T x) z.cells.toList := by
  obtain ⟨l, hl, _, hd⟩ := zeroEl_cells P u hu h
  unfold zeroS at hl
  cases hi : P.info? T with
  | none => simp [hi] at hl
  | some it =>
    cases hz : it.zero with
    | none => simp [hi, hz] at hl
    | some zv =>
      simp only [hi, hz, Option.bind_some] at hl
      exact ⟨it, zv, rfl, hz, hd _ _ (cellsS_rep P u hl)⟩
/-- Some cells of a row's element are written. -/
theorem HR.putEl {w0 : W0} {O0 : Nat → Prop} {e : E A} (hr : HR P u w0 O0 e) {id idx off T b c : Nat} {ys : List (A T)} {ns : List Value} {y : A T} (ho : e.own id = .row T ys) (hβ' : e.β id = some (b, c)) (hi : idx < ys.length) (h1c : ∀ c ∈ ns, c.oneCell' = true)
    (hle : off + ns.length ≤ P.cellsOf T) (hy : ∀ vs : List Value, RepL P u e (u.enc T (ys.getD idx (u.dflt T))) vs → vs.length = P.cellsOf T → RepL P u e (u.enc T y) (vs.take off ++ ns ++ vs.drop (off + ns.length))) :
    ∃ e', (storeCells ⟨b, idx * P.cellsOf T + off, none⟩ ns).run P e.w = .ok () e'.w ∧ HR P u w0 O0 e' ∧ Ext e e' ∧ e'.own = upd e.own id (.row T (ys.set idx y)) ∧ e'.β = e.β := by
  have hent := hr.ent id
  rw [ho] at hent
  rcases hent with ⟨_, hn⟩ | ⟨b2, c2, arr, T', fz, ows, hβ, hfr, hheap, hfz, harr, hc, hel⟩
  · rw [hn] at hβ'; cases hβ'
  rw [hβ] at hβ'; cases hβ'
  have hget : ys[idx]? = some (ys.getD idx (u.dflt T)) := by simp [List.getD, List.getElem?_eq_getElem hi]
  obtain ⟨g1, g2, g3⟩ := hel idx _ hget
  have hidx : idx + 1 ≤ c := by omega
  have hbound : idx * P.cellsOf T + P.cellsOf T ≤ arr.length := by
    rw [harr]
    calc idx * P.cellsOf T + P.cellsOf T = (idx + 1) * P.cellsOf T := by rw [Nat.add_mul, Nat.one_mul]
      _ ≤ c * P.cellsOf T := Nat.mul_le_mul_right _ hidx
  have hst := run_storeCells_fz P b (idx * P.cellsOf T + off) T' fz ns 0 ⟨arr⟩ e.w hheap hfz (by simp only [List.size_toArray]; omega) h1c
  simp only [Nat.add_zero] at hst
  obtain ⟨hext, hmk⟩ := hr.set P u (k := id) (o := .row T (ys.set idx y)) (cs := (arr.take (idx * P.cellsOf T + off) ++ ns ++ arr.drop (idx * P.cellsOf T + off + ns.length)).toArray) (by rw [ho]; rfl) hβ rfl (by rw [ho]; exact .row _ _ _ (by simp))
  refine ⟨_, hst, hmk (.inr ?_), hext, rfl, rfl⟩
  have hcells := hy _ g1 g2
  refine ⟨b, c, _, T', fz, fun i => if i = idx then (ows idx).take off ++ ns ++ (ows idx).drop (off + ns.length) else ows i, hβ, hfr, setRow_heap _ _ _ _ _ _ hheap, ?_, ?_, by simpa using hc, ?_⟩
  · have : (arr.take (idx * P.cellsOf T + off) ++ ns ++ arr.drop (idx * P.cellsOf T + off + ns.length)).length = arr.length := by
      simp only [List.length_append, List.length_take, List.length_drop]; omega
    rw [this]; exact hfz
  · simp only [List.length_append, List.length_take, List.length_drop]
    omega
  · intro i z hz
    by_cases hii : i = idx
    · subst hii
      simp only [List.getElem?_set_self hi, Option.some.injEq] at hz
      subst hz
      simp only [if_true]
      refine ⟨hcells.ext P u hext, ?_, ?_⟩
      · simp only [List.length_append, List.length_take, List.length_drop]; omega
      · intro j v hj
        rw [splice_get _ _ _ _ (by rw [g2]; exact hle)] at hj
        rw [splice_get _ _ _ _ (by omega)]
        split at hj
        · rename_i h7; rw [if_pos (by omega)]; exact g3 j v hj
        · rename_i h7
          rw [if_neg (by omega)]
          split at hj
          · rename_i h8; rw [if_pos (by omega), show i * P.cellsOf T + j - (i * P.cellsOf T + off) = j - off by omega]; exact hj
          · rename_i h8; rw [if_neg (by omega)]; exact g3 j v hj
    · rw [List.getElem?_set_ne (Ne.symm hii)] at hz
      simp only [if_neg hii]
      obtain ⟨f1, f2, f3⟩ := hel i z hz
      refine ⟨f1.ext P u hext, f2, fun j v hj => ?_⟩
      have hjl : j < P.cellsOf T := by rw [← f2]; exact (List.getElem?_eq_some_iff.1 hj).1
      have hold := f3 j v hj
      rw [splice_get _ _ _ _ (by omega)]
      rcases Nat.lt_or_gt_of_ne hii with hlt | hgt
      · have h9 : (i + 1) * P.cellsOf T ≤ idx * P.cellsOf T := Nat.mul_le_mul_right _ hlt
        rw [Nat.add_mul, Nat.one_mul] at h9
        rw [if_pos (by omega)]; exact hold
      · have h9 : (idx + 1) * P.cellsOf T ≤ i * P.cellsOf T := Nat.mul_le_mul_right _ hgt
        rw [Nat.add_mul, Nat.one_mul] at h9
        rw [if_neg (by omega), if_neg (by omega)]; exact hold
/-- An element of which a part is other. -/
theorem part_put {T S off : Nat} {p : PartU A T S} (hp : PartIs P u off p) {e : E A} {x : A T} {vs ns : List Value} {lo n : Nat} {ys : List (A S)} (hx : RepL P u e (u.enc T x) vs) (hn : ns.length = n) (hy : n ≤ ys.length) (hle : lo + n ≤ p.n)
    (hns : ∀ (i : Nat) (z : A S) (v : Value), i < n → ys[i]? = some z → ns[i]? = some v → RepL P u e (u.enc S z) [v]) :
    RepL P u e (u.enc T (p.put x ((p.get x).take lo ++ ys.take n ++ (p.get x).drop (lo + n)))) (vs.take (off + lo) ++ ns ++ vs.drop (off + lo + ns.length)) := by
  have hg := hp.getLen x
  have hfit := hp.fits
  have hvl : vs.length = P.cellsOf T := by rw [← hx.length, hp.len]
  have hyl : (ys.take n).length = n := by rw [List.length_take]; omega
  have hll : ((p.get x).take lo ++ ys.take n ++ (p.get x).drop (lo + n)).length = p.n := by simp only [List.length_append, List.length_take, List.length_drop]; omega
  refine repL_of P u ?_ ?_
  · rw [hp.len]; simp only [List.length_append, List.length_take, List.length_drop]; omega
  · intro k c v hc hv
    rw [splice_get _ _ _ _ (by omega)] at hv
    by_cases hk : k < off ∨ off + p.n ≤ k
    · rw [hp.rest _ _ hll k hk] at hc
      have hv' : vs[k]? = some v := by
        split at hv
        · exact hv
        · split at hv
          · omega
          · exact hv
      exact repL_at P u hx hc hv'
    · obtain ⟨i, rfl⟩ : ∃ i, k = off + i := ⟨k - off, by omega⟩
      have hil : i < p.n := by omega
      obtain ⟨z, hz⟩ : ∃ z, ((p.get x).take lo ++ ys.take n ++ (p.get x).drop (lo + n))[i]? = some z := ⟨_, List.getElem?_eq_getElem (by omega)⟩
      obtain ⟨d, k1, k2⟩ := hp.put x _ hll i z hz
      rw [k1] at hc; cases hc
      have hz2 := hz
      have hsp := splice_get (p.get x) (ys.take n) lo i (by omega)
      rw [hyl] at hsp
      rw [hsp] at hz2
      have hkeep : (p.get x)[i]? = some z → vs[off + i]? = some v → RepL P u e [c] [v] := by
        intro h1 h2
        obtain ⟨d', q1, q2⟩ := hp.get x i z h1
        rw [k2] at q2; cases q2
        exact repL_at P u hx q1 h2
      split at hz2
      · rename_i h1
        rw [if_pos (by omega)] at hv
        exact hkeep hz2 hv
      · rename_i h1
        rw [if_neg (by omega)] at hv
        split at hz2
        · rename_i h2
          rw [if_pos (by omega)] at hv
          rw [List.getElem?_take, if_pos (by omega)] at hz2
          rw [← k2]
          exact hns (i - lo) z v (by omega) hz2 (by rw [← hv]; congr 1; omega)
        · rename_i h2
          rw [if_neg (by omega)] at hv
          exact hkeep hz2 hv
end
end Go.Proofs.Ytndacggailoogaa.Sx
