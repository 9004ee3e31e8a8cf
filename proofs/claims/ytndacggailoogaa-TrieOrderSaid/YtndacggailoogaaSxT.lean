/- An abstract machine over values by content, eighth part, c: 'append' by content. -/
import Derived.Test.YtndacggailoogaaSxS
namespace Go.Proofs.Ytndacggailoogaa.Sx
open Go Go.RowKit

section
variable {A : Nat → Type} (P : Program) (u : U A)

/-- A type whose elements may stand in a row that is made. -/
def okRow (T : TypeId) : Bool := match P.info? T with
  | some i => (match i.zero with
    | some z => Nat.beq z.cells.size i.size && Nat.blt 0 i.size && Nat.blt 0 i.bytes && (aggT P T).isSome
    | none => false)
  | none => false
def bytesT (T : TypeId) : Nat := match P.info? T with
  | some i => i.bytes
  | none => 0
theorem okRow_spec {T : TypeId} (h : okRow P T = true) : ∃ i z, P.info? T = some i ∧ i.zero = some z ∧ z.cells.size = i.size ∧ 0 < i.size ∧ 0 < i.bytes ∧ P.cellsOf T = i.size ∧ bytesT P T = i.bytes ∧ aggT P T ≠ none := by
  unfold okRow at h
  split at h
  · rename_i i hi
    split at h
    · rename_i z hz
      simp only [Bool.and_eq_true] at h
      obtain ⟨⟨⟨h1, h2⟩, h3⟩, h4⟩ := h
      have e1 := Nat.eq_of_beq_eq_true h1
      have e2 : 0 < i.size := by have : 1 ≤ i.size := by simpa [Nat.blt] using h2
                                 omega
      have e3 : 0 < i.bytes := by have : 1 ≤ i.bytes := by simpa [Nat.blt] using h3
                                  omega
      exact ⟨i, z, hi, hz, e1, e2, e3, by simp [Program.cellsOf, hi], by simp [bytesT, hi], by intro hn; rw [hn] at h4; cases h4⟩
    · cases h
  · cases h
/-- A new row. -/
theorem HR.newRow {w0 : W0} {O0 : Nat → Prop} {e : E A} (hr : HR P u w0 O0 e) {w' : World} {k T c : Nat} {xs : List (A T)} {arr : List Value} {T' : TypeId} {fz : Nat × Nat} {vss : Nat → List Value} (hk : e.own k = .free ∧ k < 1152921504606846976)
    (h1 : w'.os = e.w.os) (h2 : w'.tape = e.w.tape) (h3 : w'.output = e.w.output) (h4 : w'.heap = e.w.heap.push (.cells ⟨arr⟩ T' fz)) (hfz : Fz arr.length fz)
    (hlen : arr.length = c * P.cellsOf T) (hc : xs.length ≤ c) (hx : ∀ (i : Nat) (x : A T), xs[i]? = some x → RepL P u e (u.enc T x) (vss i)) (hz : ∀ i, i < xs.length → (vss i).length = P.cellsOf T)
    (hget : ∀ i j, i < xs.length → j < P.cellsOf T → arr[i * P.cellsOf T + j]? = (vss i)[j]?) :
    ∃ e', e'.w = w' ∧ HR P u w0 O0 e' ∧ Ext e e' ∧ e'.own = upd e.own k (.row T xs) ∧ RepL P u e' [.orow k] [.slice (some ⟨e.w.heap.size, 0, none⟩) xs.length c] := by
  have hsz : w'.heap.size = e.w.heap.size + 1 := by rw [h4]; simp
  have hold : ∀ b, b < e.w.heap.size → w'.heap[b]? = e.w.heap[b]? := fun b hb => by rw [h4, Array.getElem?_push, if_neg (by omega)]
  have hnew : w'.heap[e.w.heap.size]? = some (.cells ⟨arr⟩ T' fz) := by rw [h4]; simp
  obtain ⟨hext, hmk⟩ := hr.new P u (k := k) (c := c) (o := .row T xs) hk.1 hk.2 (by simp) (by simp) h1 h2 h3 (by omega) hold
  refine ⟨_, rfl, hmk (.inr (rowAt_of P u (b := e.w.heap.size) (c := c) (vss := vss) (by show upd e.β k _ k = _; rw [upd_same]) (.inl hr.below.size) hnew hfz hlen hc (fun i x hi => (hx i x hi).ext P u hext) hz hget)), hext, rfl, ?_⟩
  exact .orow k _ c c T xs (.inl (by show upd e.own k _ k = _; rw [upd_same])) (by show upd e.β k _ k = _; rw [upd_same]) ⟨hc, Nat.le_refl _⟩ .nil
/-- The cells of two rows, one behind the other. -/
def vss2 (n : Nat) (vs ws : Nat → List Value) : Nat → List Value := fun i => if i < n then vs i else ws (i - n)
theorem vss2_rep {e : E A} {T n m : Nat} {xs ys : List (A T)} {vs ws : Nat → List Value} (hn : xs.length = n) (hx : ∀ (i : Nat) (x : A T), xs[i]? = some x → RepL P u e (u.enc T x) (vs i)) (hy : ∀ (i : Nat) (x : A T), ys[i]? = some x → RepL P u e (u.enc T x) (ws i))
    (hzx : ∀ i, i < n → (vs i).length = P.cellsOf T) (hzy : ∀ i, i < m → (ws i).length = P.cellsOf T) (hm : ys.length = m) :
    (∀ (i : Nat) (x : A T), (xs ++ ys)[i]? = some x → RepL P u e (u.enc T x) (vss2 n vs ws i)) ∧ (∀ i, i < (xs ++ ys).length → (vss2 n vs ws i).length = P.cellsOf T) := by
  constructor
  · intro i x hi
    unfold vss2
    by_cases h : i < n
    · rw [if_pos h]
      rw [List.getElem?_append_left (by omega)] at hi
      exact hx i x hi
    · rw [if_neg h]
      rw [List.getElem?_append_right (by omega), hn] at hi
      exact hy _ x hi
  · intro i hi
    rw [List.length_append] at hi
    unfold vss2
    by_cases h : i < n
    · rw [if_pos h]; exact hzx i h
    · rw [if_neg h]; exact hzy _ (by omega)
theorem vss2_get {s n m : Nat} {vs ws : Nat → List Value} (hzx : ∀ i, i < n → (vs i).length = s) (hzy : ∀ i, i < m → (ws i).length = s) (tail : List Value) {i j : Nat} (hi : i < n + m) (hj : j < s) :
    (blk vs n ++ blk ws m ++ tail)[i * s + j]? = (vss2 n vs ws i)[j]? := by
  have hln := blk_length hzx
  have hlm := blk_length hzy
  unfold vss2
  by_cases h : i < n
  · rw [if_pos h]
    have : (i + 1) * s ≤ n * s := Nat.mul_le_mul_right _ h
    rw [Nat.add_mul, Nat.one_mul] at this
    rw [List.append_assoc, List.getElem?_append_left (by omega)]
    exact blk_get hzx i j h hj
  · rw [if_neg h]
    have h1 : i * s = n * s + (i - n) * s := by rw [← Nat.add_mul]; congr 1; omega
    have : (i - n + 1) * s ≤ m * s := Nat.mul_le_mul_right _ (by omega)
    rw [Nat.add_mul, Nat.one_mul] at this
    rw [List.getElem?_append_left (by rw [List.length_append]; omega), List.getElem?_append_right (by omega), hln, h1]
    rw [show n * s + (i - n) * s + j - n * s = (i - n) * s + j by omega]
    exact blk_get hzy (i - n) j (by omega) hj
theorem room_le {n b : Nat} (hb : 0 < b) (h : n * b ≤ 140737488355328) : n ≤ 9223372036854775807 := by
  have : n * 1 ≤ n * b := Nat.mul_le_mul_left _ hb
  omega
/-- An append to a slice without room. -/
theorem append_nil {w0 : W0} {O0 : Nat → Prop} {e : E A} (hr : HR P u w0 O0 e) {k T t ty : Nat} (ht : P.underlying t = some (.slice T)) (hT : okRow P T = true) (hk : e.own k = .free ∧ k < 1152921504606846976) {ab : Option Addr} {ys : List (A T)} {vy : Value}
    (hy : SliceIs P u e T ys vy) (hb : ys.length * bytesT P T ≤ 140737488355328) :
    ∃ v' e', (Builtin.append_ #[t, t] ty #[.slice ab 0 0, vy]).run P e.w = .ok v' e'.w ∧ HR P u w0 O0 e' ∧ Ext e e' ∧ e'.own = upd e.own k (.row T ys) ∧ RepL P u e' [.orow k] [v'] := by
  obtain ⟨i, z, hi, hz, hzs, hs, hbt, hcs, hbs, _⟩ := okRow_spec P hT
  obtain ⟨a, m, cp, vss0, rfl, hl0, hcp0, hm0, hz0, hx0⟩ := hy
  obtain ⟨vss, hl, hcp, hzv, hxv, hfirst, _, _⟩ := SliceIs.first P u (xs := ys) (T := T) ⟨a, m, cp, vss0, rfl, hl0, hcp0, hm0, hz0, hx0⟩ (by rw [hcs]; exact hs)
  rw [hbs, hl] at hb
  have hold : ∀ w' : World, w'.heap = e.w.heap → (Builtin.firstCells i.size 0 (.slice ab 0 0)).run P w' = .ok ([] : List Value).toArray w' := by
    intro w' _
    cases ab with
    | none => simp [Builtin.firstCells]
    | some a => simp [Builtin.firstCells, loadCells, loadCellsFrom]
  rcases run_append P t ty T i z e.w ht hi hz ab 0 0 a m cp [] (blk vss m) hold (fun w' hw => by rw [← hcs]; exact hfirst m w' (Nat.le_refl _) (fun b _ => by rw [hw])) (by simpa using hb) (by simpa using room_le hbt hb) with ⟨h0, hrun⟩ | ⟨h0, hrun⟩
  · have hm : m = 0 := by omega
    subst hm
    have hys : ys = [] := List.eq_nil_of_length_eq_zero hl
    subst hys
    obtain ⟨hext, hr'⟩ := hr.newNil P u (k := k) T hk.1 hk.2
    refine ⟨.slice ab 0 0, _, ?_, hr', hext, rfl, .orowN k T ab (.inl (by show upd e.own k _ k = _; rw [upd_same])) .nil⟩
    rw [hrun]
    cases ab with
    | none => rfl
    | some a => simp [blk, storeCells]; rfl
  · simp only [Nat.zero_add] at hrun h0
    have hge := grownCap_ge e.w m 0 T
    have hlen := grown_len (olds := []) (news := blk vss m) (z := z.cells) (size := i.size) (n := 0) (m := m) (cap := grownCap e.w m 0 T) (by simp) (by rw [blk_length hzv, hcs]) hzs (by omega)
    simp only [Nat.zero_add] at hlen
    obtain ⟨e', h1, h2, h3, h4, h5⟩ := hr.newRow P u (k := k) (T := T) (c := grownCap e.w m 0 T) (xs := ys) (arr := (([] : List Value).toArray ++ (blk vss m).toArray ++ Builtin.zeroCells z.cells (grownCap e.w m 0 T - m)).toList) (T' := T) (fz := (0, 0)) (vss := vss) hk
      (w' := e.w.drew.alloc (.cells (([] : List Value).toArray ++ (blk vss m).toArray ++ Builtin.zeroCells z.cells (grownCap e.w m 0 T - m)) T)) rfl rfl rfl rfl (.inl rfl) (by rw [hcs]; simpa using hlen) (by omega) hxv (fun i hi => hzv i (by omega)) (by
        intro i' j hi' hj
        have := vss2_get (n := 0) (m := m) (s := P.cellsOf T) (vs := vss) (ws := vss) (fun i h => by omega) hzv (Builtin.zeroCells z.cells (grownCap e.w m 0 T - m)).toList (i := i') (j := j) (by omega) hj
        simpa [vss2, blk] using this)
    refine ⟨_, e', ?_, h2, h3, h4, by rw [hl] at h5; exact h5⟩
    rw [hrun, h1]
theorem blk_one (hu : Law P u) {e : E A} {T : Nat} {ys : List (A T)} {vss : Nat → List Value} (hx : ∀ (i : Nat) (x : A T), ys[i]? = some x → RepL P u e (u.enc T x) (vss i)) : ∀ {m : Nat}, m ≤ ys.length → ∀ v ∈ blk vss m, v.oneCell' = true
  | 0, _, v, hv => by simp [blk] at hv
  | m + 1, hm, v, hv => by
    rw [blk, List.mem_append] at hv
    rcases hv with hv | hv
    · exact blk_one hu hx (m := m) (by omega) v hv
    · exact cellOk_all P u (hx m _ (List.getElem?_eq_getElem (by omega))) (hu.cells _ _) v hv
/-- An append to the first elements of an own row. -/
theorem append_own (hu : Law P u) {w0 : W0} {O0 : Nat → Prop} {e : E A} (hr : HR P u w0 O0 e) {k id T t ty n : Nat} (ht : P.underlying t = some (.slice T)) (hT : okRow P T = true) (hk : e.own k = .free ∧ k < 1152921504606846976) {xs ys : List (A T)} {vx vy : Value} (hid : e.own id = .row T xs)
    (hx : RepL P u e [.osl id 0 n] [vx]) (hy : SliceIs P u e T ys vy) (hb : (n + ys.length) * bytesT P T ≤ 140737488355328) :
    ∃ v' e', (Builtin.append_ #[t, t] ty #[vx, vy]).run P e.w = .ok v' e'.w ∧ HR P u w0 O0 e' ∧ Ext e e' ∧ e'.own = upd (upd e.own id .dead) k (.row T (xs.take n ++ ys)) ∧ RepL P u e' [.orow k] [v'] := by
  have hki : k ≠ id := by rintro rfl; have hk1 := hk.1; rw [hid] at hk1; cases hk1
  have hlive : (e.own id).plain = true := by rw [hid]; rfl
  obtain ⟨hdext, hdr⟩ := hr.drop P u hlive
  have hkd : upd e.own id .dead k = .free ∧ k < 1152921504606846976 := ⟨by rw [upd_ne _ _ hki]; exact hk.1, hk.2⟩
  have hsame : ∀ {T2 : Nat} {zs : List (A T2)}, (e.own id = .row T2 zs ∨ e.own id = .fro T2 zs) → T2 = T ∧ HEq zs xs := by
    intro T2 zs hv
    rw [hid] at hv
    rcases hv with hv | hv <;> cases hv
    exact ⟨rfl, HEq.rfl⟩
  cases hx with
  | oslD _ _ _ _ hd _ _ => rw [hid] at hd; cases hd
  | oslZ _ _ T2 zs a hv hlo _ =>
    have hy' : SliceIs P u (mkE O0 e.w (upd e.own id .dead) e.β) T ys vy := by
      obtain ⟨a', m, cp, vss, h1, h2, h3, h4, h5, h6⟩ := hy
      exact ⟨a', m, cp, vss, h1, h2, h3, h4, h5, fun i x hi => (h6 i x hi).ext P u hdext⟩
    obtain ⟨v', e', h1, h2, h3, h4, h5⟩ := append_nil P u hdr (k := k) (ty := ty) ht hT hkd (ab := a) hy' (by simpa using hb)
    refine ⟨v', e', h1, h2, hdext.trans h3, ?_, h5⟩
    rw [h4]
    simp
    rfl
  | osl _ _ _ b c cap T2 zs hv hβ hle hcc _ =>
    obtain ⟨rfl, hh⟩ := hsame hv
    cases hh
    obtain ⟨i, z, hi, hz, hzs, hs, hbt, hcs, hbs, _⟩ := okRow_spec P hT
    obtain ⟨a, m, cp, vss0, rfl, hl0, hcp0, hm0, hz0, hx0⟩ := hy
    obtain ⟨vss, hl, hcp, hzv, hxv, hfirst, _, _⟩ := SliceIs.first P u (xs := ys) (T := T2) ⟨a, m, cp, vss0, rfl, hl0, hcp0, hm0, hz0, hx0⟩ (by rw [hcs]; exact hs)
    rw [hbs, hl] at hb
    have hent := hr.ent id
    rw [hid] at hent
    rcases hent with ⟨_, hn⟩ | ⟨b2, c2, arr, T', fz, ows, hβ2, hfr, hheap, hfz, harr, hc2, hel⟩
    · rw [hn] at hβ; cases hβ
    rw [hβ] at hβ2; cases hβ2
    have hnl : n ≤ zs.length := by omega
    have how : ∀ i, i < n → (ows i).length = P.cellsOf T2 := fun i hi => (hel i _ (List.getElem?_eq_getElem (by omega))).2.1
    have hox : ∀ (i : Nat) (x : A T2), (zs.take n)[i]? = some x → RepL P u e (u.enc T2 x) (ows i) := by
      intro i x hi
      rw [List.getElem?_take] at hi
      split at hi
      · exact (hel i x hi).1
      · cases hi
    have hog : ∀ (k : Nat) (v : Value), (blk ows n)[k]? = some v → arr[k]? = some v := by
      intro k v hk
      obtain ⟨i, j, rfl, h1, h2, h3⟩ := blk_split how (by rw [hcs]; exact hs) hk
      exact (hel i _ (List.getElem?_eq_getElem (by omega))).2.2 j v h3
    have hol := blk_length how
    have htl : (zs.take n).length = n := by rw [List.length_take]; omega
    have hbig : (n * P.cellsOf T2) ≤ arr.length := by rw [harr]; exact Nat.mul_le_mul_right _ (by omega)
    have htake : arr.take (n * P.cellsOf T2) = blk ows n := by
      apply List.ext_getElem?
      intro q
      rw [List.getElem?_take]
      by_cases hq : q < n * P.cellsOf T2
      · rw [if_pos hq]
        have : q < (blk ows n).length := by omega
        rw [List.getElem?_eq_getElem this]
        exact hog q _ (List.getElem?_eq_getElem this)
      · rw [if_neg hq, List.getElem?_eq_none (by omega)]
    have hold : ∀ w' : World, w'.heap = e.w.heap → (Builtin.firstCells i.size n (.slice (some ⟨b, 0 * P.cellsOf T2, none⟩) n cap)).run P w' = .ok (blk ows n).toArray w' := by
      intro w' hw'
      refine run_firstCells_some w' i.size n _ n _ (blk ows n) (by rw [hol, hcs]) (fun j v hj => ?_)
      rw [add_add', World.cell?_of_block (w := e.w) (by show w'.heap[b]? = e.w.heap[b]?; rw [hw'])]
      have := cellsAt_heap hheap j v (hog j v hj)
      simpa using this
    obtain ⟨hvx, hvz⟩ := vss2_rep P u (n := n) (m := m) htl hox hxv how hzv hl
    have hlen3 : (zs.take n ++ ys).length = n + m := by rw [List.length_append, htl, hl]
    rcases run_append P t ty T2 i z e.w ht hi hz (some ⟨b, 0 * P.cellsOf T2, none⟩) n cap a m cp (blk ows n) (blk vss m) hold (fun w' hw => by rw [← hcs]; exact hfirst m w' (Nat.le_refl _) (fun b _ => by rw [hw])) hb (room_le hbt hb) with ⟨h0, hrun⟩ | ⟨h0, hrun⟩
    · have hnews := blk_length hzv
      have hfit : n * P.cellsOf T2 + m * P.cellsOf T2 ≤ arr.length := by rw [harr, ← Nat.add_mul]; exact Nat.mul_le_mul_right _ (by omega)
      have h1c : ∀ v ∈ blk vss m, v.oneCell' = true := blk_one P u hu hxv (by omega)
      have hst := run_storeCells_fz P b (n * P.cellsOf T2) T' fz (blk vss m) 0 ⟨arr⟩ e.w hheap hfz (by simp only [List.size_toArray]; omega) h1c
      obtain ⟨hext, hmk⟩ := hr.move P u (k := id) (k' := k) (o := .row T2 (zs.take n ++ ys)) (cs := (arr.take (n * P.cellsOf T2) ++ blk vss m ++ arr.drop (n * P.cellsOf T2 + (blk vss m).length)).toArray) (by rw [hid]; rfl) hβ hk.1 hk.2 rfl (by rw [hid]; rfl)
      refine ⟨.slice (some ⟨b, 0, none⟩) (n + m) cap, _, ?_, hmk (.inr ?_), hext, rfl, ?_⟩
      · rw [hrun]
        simp only [Nat.zero_mul, add_add', Nat.zero_add, ← hcs, Nat.sub_zero]
        simp only [Nat.add_zero] at hst
        rw [hst]
        rfl
      · refine rowAt_of P u (b := b) (c := c) (vss := vss2 n ows vss) (by show upd e.β k _ k = _; rw [upd_same]) hfr (setRow_heap _ _ _ _ _ _ hheap) (fz := fz) ?_ ?_ (by omega) (fun i x hi => (hvx i x hi).ext P u hext) hvz ?_
        · have : (arr.take (n * P.cellsOf T2) ++ blk vss m ++ arr.drop (n * P.cellsOf T2 + (blk vss m).length)).length = arr.length := by
            simp only [List.length_append, List.length_take, List.length_drop]; omega
          rw [this]; exact hfz
        · simp only [List.length_append, List.length_take, List.length_drop]; omega
        · intro i' j hi' hj
          rw [htake]
          exact vss2_get how hzv _ (by omega) hj
      · have := RepL.orow (P := P) (u := u) (e := mkE O0 (e.w.setRow b (arr.take (n * P.cellsOf T2) ++ blk vss m ++ arr.drop (n * P.cellsOf T2 + (blk vss m).length)).toArray) (upd (upd e.own id .dead) k (.row T2 (zs.take n ++ ys))) (upd e.β k (some (b, c)))) (xs := []) (vs := []) k b c cap T2 (zs.take n ++ ys)
          (.inl (by show upd _ k _ k = _; rw [upd_same])) (by show upd _ k _ k = _; rw [upd_same]) ⟨by omega, by omega⟩ .nil
        rw [hlen3] at this
        exact this
    · have hge := grownCap_ge e.w (n + m) cap T2
      have hlen := grown_len (olds := blk ows n) (news := blk vss m) (z := z.cells) (size := i.size) (n := n) (m := m) (cap := grownCap e.w (n + m) cap T2) (by rw [hol, hcs]) (by rw [blk_length hzv, hcs]) hzs hge
      obtain ⟨e', g1, g2, g3, g4, g5⟩ := hdr.newRow P u (k := k) (T := T2) (c := grownCap e.w (n + m) cap T2) (xs := zs.take n ++ ys) (arr := ((blk ows n).toArray ++ (blk vss m).toArray ++ Builtin.zeroCells z.cells (grownCap e.w (n + m) cap T2 - (n + m))).toList) (T' := T2) (fz := (0, 0)) (vss := vss2 n ows vss) hkd
        (w' := e.w.drew.alloc (.cells ((blk ows n).toArray ++ (blk vss m).toArray ++ Builtin.zeroCells z.cells (grownCap e.w (n + m) cap T2 - (n + m))) T2)) rfl rfl rfl rfl (.inl rfl) (by rw [hcs]; simpa [Nat.add_assoc] using hlen) (by omega) (fun i x hi => (hvx i x hi).ext P u hdext) hvz (by
          intro i' j hi' hj
          have := vss2_get (n := n) (m := m) (s := P.cellsOf T2) (vs := ows) (ws := vss) how hzv (Builtin.zeroCells z.cells (grownCap e.w (n + m) cap T2 - (n + m))).toList (i := i') (j := j) (by omega) hj
          simpa using this)
      refine ⟨_, e', ?_, g2, hdext.trans g3, g4, by rw [hlen3] at g5; exact g5⟩
      rw [hrun, g1]
      rfl
end
end Go.Proofs.Ytndacggailoogaa.Sx
