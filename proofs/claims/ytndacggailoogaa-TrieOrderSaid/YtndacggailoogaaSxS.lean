/- An abstract machine over values by content, eighth part, b: what 'append', 'copy', 'make' and their like do to memory. -/
import Derived.Test.YtndacggailoogaaSxH
namespace Go.Proofs.Ytndacggailoogaa.Sx
open Go Go.RowKit

section
variable {A : Nat → Type} (P : Program) (u : U A)

theorem splice_get {α : Type} (l v : List α) (o k : Nat) (h : o + v.length ≤ l.length) : (l.take o ++ v ++ l.drop (o + v.length))[k]? = if k < o then l[k]? else if k < o + v.length then v[k - o]? else l[k]? := by
  by_cases hk : k < o
  · rw [if_pos hk, List.append_assoc, List.getElem?_append_left (by simp; omega), List.getElem?_take, if_pos hk]
  · rw [if_neg hk]
    by_cases hk2 : k < o + v.length
    · rw [if_pos hk2, List.append_assoc, List.getElem?_append_right (by simp; omega), List.getElem?_append_left (by simp; omega)]
      congr 1
      simp; omega
    · rw [if_neg hk2, List.getElem?_append_right (by simp; omega), List.getElem?_drop]
      congr 1
      simp; omega
theorem run_newVar {t : TypeId} {v : Value} (w : World) : (newVar t v).run P w = .ok ⟨w.heap.size, 0, none⟩ (w.alloc (.cells v.cells t)) := rfl
theorem unfrozen {w : World} {g i : Nat} {cur : Array Value} {t : TypeId} {fz : Nat × Nat} (hg : w.heap[g]? = some (.cells cur t fz)) (hfz : Fz cur.size fz) (hi : i < cur.size) : w.frozen? ⟨g, i, none⟩ = false := by
  obtain ⟨lo, hi'⟩ := fz
  simp only [World.frozen?, hg]
  rcases hfz with h | h
  · cases h; simp
  · simp only at h
    have : ¬ lo ≤ i := by omega
    simp [this]
/-- Cells are written into a block of which no cell is marked. -/
theorem run_storeCells_fz (g o : Nat) (t : TypeId) (fz : Nat × Nat) : ∀ (vs : List Value) (i : Nat) (cur : Array Value) (w : World), w.heap[g]? = some (.cells cur t fz) → Fz cur.size fz → o + i + vs.length ≤ cur.size → (∀ v ∈ vs, v.oneCell' = true) →
    (storeCells ⟨g, o, none⟩ vs i).run P w = .ok () (w.setRow g (cur.toList.take (o + i) ++ vs ++ cur.toList.drop (o + i + vs.length)).toArray)
  | [], i, cur, w, hg, _, _, _ => by
    simp only [storeCells, List.append_nil, List.length_nil, Nat.add_zero, List.take_append_drop, Array.toArray_toList]
    rw [setRow_self w g cur t fz hg]
    rfl
  | v :: rest, i, cur, w, hg, hfz, hl, h1 => by
    have hi : o + i < cur.size := by simp at hl; omega
    have hadd : (⟨g, o, none⟩ : Addr).add i = ⟨g, o + i, none⟩ := by unfold Addr.add; split <;> simp_all
    have hcell : w.cell? ⟨g, o + i, none⟩ = some cur[o + i] := by simp [World.cell?, hg, hi]
    have hfro := unfrozen hg hfz hi
    have hst : (store ((⟨g, o, none⟩ : Addr).add i) v).run P w = .ok () (w.setRow g (cur.setIfInBounds (o + i) v)) := by
      rw [hadd, run_store P w _ v _ (h1 v (by simp)), hcell]
      simp [hfro, setCell_eq_setRow w g (o + i) cur t fz v hg]
    have ih := run_storeCells_fz g o t fz rest (i + 1) (cur.setIfInBounds (o + i) v) (w.setRow g (cur.setIfInBounds (o + i) v)) (setRow_heap w g cur _ t _ hg) (by simpa using hfz) (by simp at hl ⊢; omega) (fun x hx => h1 x (by simp [hx]))
    simp only [storeCells, Sem.run_bind, hst, Result.andThen_ok, ih, setRow_setRow]
    congr 3
    have e := list_seg_step cur.toList (o + i) v rest (by simp at hl ⊢; omega)
    simpa [Array.toList_setIfInBounds, Nat.add_assoc] using e

/-- The cells of some elements, one behind the other. -/
def blk (vss : Nat → List Value) : Nat → List Value
  | 0 => []
  | m + 1 => blk vss m ++ vss m
theorem blk_length {vss : Nat → List Value} {s : Nat} : ∀ {m : Nat}, (∀ i, i < m → (vss i).length = s) → (blk vss m).length = m * s
  | 0, _ => by simp [blk]
  | m + 1, h => by
    rw [blk, List.length_append, blk_length (m := m) (fun i hi => h i (by omega)), h m (by omega), Nat.add_mul, Nat.one_mul]
theorem blk_get {vss : Nat → List Value} {s : Nat} : ∀ {m : Nat}, (∀ i, i < m → (vss i).length = s) → ∀ i j, i < m → j < s → (blk vss m)[i * s + j]? = (vss i)[j]?
  | m + 1, h, i, j, hi, hj => by
    have hl := blk_length (m := m) (fun i hi => h i (by omega))
    rw [blk]
    by_cases him : i < m
    · have : i * s + j < m * s := by
        have : (i + 1) * s ≤ m * s := Nat.mul_le_mul_right _ him
        rw [Nat.add_mul, Nat.one_mul] at this
        omega
      rw [List.getElem?_append_left (by omega)]
      exact blk_get (m := m) (fun i hi => h i (by omega)) i j him hj
    · obtain rfl : i = m := by omega
      rw [List.getElem?_append_right (by omega), hl]
      congr 1
      omega
theorem blk_split {vss : Nat → List Value} {s : Nat} {m k : Nat} (h : ∀ i, i < m → (vss i).length = s) (hs : 0 < s) {v : Value} (hk : (blk vss m)[k]? = some v) : ∃ i j, k = i * s + j ∧ i < m ∧ j < s ∧ (vss i)[j]? = some v := by
  have hlt : k < m * s := by rw [← blk_length h]; exact (List.getElem?_eq_some_iff.1 hk).1
  have hi : k / s < m := Nat.div_lt_of_lt_mul (by rwa [Nat.mul_comm])
  have hj := Nat.mod_lt k hs
  have hkk : k = k / s * s + k % s := by rw [Nat.mul_comm]; exact (Nat.div_add_mod k s).symm
  refine ⟨k / s, k % s, hkk, hi, hj, ?_⟩
  rw [← blk_get h _ _ hi hj, ← hkk]
  exact hk
/-- The first elements of a slice, as its cells. -/
theorem SliceIs.first {e : E A} {T : Nat} {xs : List (A T)} {a : Option Addr} {len cap : Nat} (h : SliceIs P u e T xs (.slice a len cap)) (hs : 0 < P.cellsOf T) : ∃ vss : Nat → List Value, xs.length = len ∧ len ≤ cap ∧ (∀ i, i < len → (vss i).length = P.cellsOf T) ∧
    (∀ (i : Nat) (x : A T), xs[i]? = some x → RepL P u e (u.enc T x) (vss i)) ∧ (∀ (n : Nat) (w : World), n ≤ len → (∀ b, b < e.w.heap.size → w.heap[b]? = e.w.heap[b]?) → (Builtin.firstCells (P.cellsOf T) n (.slice a len cap)).run P w = .ok (blk vss n).toArray w) ∧
    (a = none → len = 0) ∧ (len ≠ 0 → ∃ b o, a = some ⟨b, o, none⟩) := by
  obtain ⟨a', len', cap', vss, hv, hl, hc, hm, hz, hx⟩ := h
  cases hv
  refine ⟨vss, hl, hc, fun i hi => hz i (by omega), hx, ?_, ?_, ?_⟩
  · intro n w hn hw
    have hz' : ∀ i, i < n → (vss i).length = P.cellsOf T := fun i hi => hz i (by omega)
    rcases hm with rfl | ⟨b, o, rfl, hb, hm⟩
    · have : n = 0 := by simp at hl; omega
      subst this
      cases a with
      | none => simp [Builtin.firstCells, blk]
      | some a => simp [Builtin.firstCells, blk, loadCells, loadCellsFrom]
    · refine run_firstCells_some w _ n ⟨b, o, none⟩ len cap (blk vss n) (blk_length hz') (fun k v hk => ?_)
      obtain ⟨i, j, rfl, hi, hj, hv⟩ := blk_split hz' hs hk
      have := hm i (by omega) j v hv
      rw [add_add', World.cell?_of_block (w := e.w) (hw b hb)]
      rw [← Nat.add_assoc]
      exact this
  · intro ha
    rcases hm with rfl | ⟨b, o, h, _⟩
    · simp at hl; omega
    · rw [ha] at h; cases h
  · intro hn
    rcases hm with rfl | ⟨b, o, h, _⟩
    · simp at hl; omega
    · exact ⟨b, o, h⟩
/-- What stands in a block, as a row: the elements' cells, and whatever stands behind. -/
theorem rowAt_of {e : E A} {fr : Nat → Prop} {id T : Nat} {xs : List (A T)} {b c : Nat} {arr : List Value} {T' : TypeId} {fz : Nat × Nat} {vss : Nat → List Value} (hβ : e.β id = some (b, c)) (hfr : fr b) (hh : e.w.heap[b]? = some (.cells ⟨arr⟩ T' fz)) (hfz : Fz arr.length fz)
    (hlen : arr.length = c * P.cellsOf T) (hc : xs.length ≤ c) (hx : ∀ (i : Nat) (x : A T), xs[i]? = some x → RepL P u e (u.enc T x) (vss i)) (hz : ∀ i, i < xs.length → (vss i).length = P.cellsOf T)
    (hget : ∀ i j, i < xs.length → j < P.cellsOf T → arr[i * P.cellsOf T + j]? = (vss i)[j]?) : RowAt P u e fr id T xs := by
  refine ⟨b, c, arr, T', fz, vss, hβ, hfr, hh, hfz, hlen, hc, fun i x hi => ?_⟩
  have hil : i < xs.length := (List.getElem?_eq_some_iff.1 hi).1
  refine ⟨hx i x hi, hz i hil, fun j v hj => ?_⟩
  rw [hget i j hil (by rw [← hz i hil]; exact (List.getElem?_eq_some_iff.1 hj).1)]
  exact hj

/-! ### append -/
theorem grown_len {z : Array Value} {size n m cap : Nat} {olds news : List Value} (ho : olds.length = n * size) (hn : news.length = m * size) (hz : z.size = size) (hc : n + m ≤ cap) :
    (olds.toArray ++ news.toArray ++ Builtin.zeroCells z (cap - (n + m))).size = cap * size := by
  simp only [Array.size_append, List.size_toArray, size_zeroCells, hz, ho, hn, ← Nat.add_mul]
  congr 1
  omega
/-- The three ways of an append: in place, nothing, a new block. -/
theorem run_append (t ty T : TypeId) (i : TypeInfo) (z : Value) (w : World) (ht : P.underlying t = some (.slice T)) (hi : P.info? T = some i) (hz : i.zero = some z)
    (ab : Option Addr) (n cap : Nat) (a : Option Addr) (m cp : Nat) (olds news : List Value)
    (hold : ∀ w' : World, w'.heap = w.heap → (Builtin.firstCells i.size n (.slice ab n cap)).run P w' = .ok olds.toArray w')
    (hnew : ∀ w' : World, w'.heap = w.heap → (Builtin.firstCells i.size m (.slice a m cp)).run P w' = .ok news.toArray w')
    (hbytes : (n + m) * i.bytes ≤ 140737488355328) (h63 : n + m ≤ 9223372036854775807) :
    (n + m ≤ cap ∧ (Builtin.append_ #[t, t] ty #[.slice ab n cap, .slice a m cp]).run P w = (match ab with
      | some ad => (storeCells (ad.add (n * i.size)) news).run P w
      | none => .ok () w).andThen fun _ w' => .ok (.slice ab (n + m) cap) w') ∨
    (cap < n + m ∧ (Builtin.append_ #[t, t] ty #[.slice ab n cap, .slice a m cp]).run P w =
      .ok (.slice (some ⟨w.heap.size, 0, none⟩) (n + m) (grownCap w (n + m) cap T))
        (w.drew.alloc (.cells (olds.toArray ++ news.toArray ++ Builtin.zeroCells z.cells (grownCap w (n + m) cap T - (n + m))) T))) := by
  by_cases hroom : n + m ≤ cap
  · refine .inl ⟨hroom, ?_⟩
    have hf := hnew w rfl
    cases ab with
    | none => simp [Builtin.append_, run_underlying ht, sizeOf, typeInfo, hi, Builtin.lenOf, hroom, hf]
    | some ad => simp [Builtin.append_, run_underlying ht, sizeOf, typeInfo, hi, Builtin.lenOf, hroom, hf]
  · refine .inr ⟨by omega, ?_⟩
    have h63' : ¬ (9223372036854775807 < ((n : Int) + (m : Int))) := by omega
    have h48' : ¬ (281474976710656 < Builtin.nextslicecap (n + m) cap * i.bytes) := by have := growslice_fits (need := n + m) (old := cap) (by omega) hbytes; omega
    have hf := hnew w.drew rfl
    have hfo := hold w.drew rfl
    simp [Builtin.append_, run_underlying ht, sizeOf, typeInfo, zeroValue, hi, hz, Builtin.lenOf, hroom, h63', h48', Question.forced, hf, hfo, newRow, grownCap]
    congr 2
    apply Array.ext'
    simp
end
end Go.Proofs.Ytndacggailoogaa.Sx
