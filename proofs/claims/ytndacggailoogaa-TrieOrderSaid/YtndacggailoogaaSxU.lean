/- An abstract machine over values by content, eighth part, d: the other writes into rows: in place, copies, zeros; rows that are made; marks. -/
import Derived.Test.YtndacggailoogaaSxT
namespace Go.Proofs.Ytndacggailoogaa.Sx
open Go Go.RowKit

section
variable {A : Nat → Type} (P : Program) (u : U A)

/-- Some elements of an own row are written anew. -/
theorem HR.splice (hu : Law P u) {w0 : W0} {O0 : Nat → Prop} {e : E A} (hr : HR P u w0 O0 e) {id T lo b c : Nat} {xs ys : List (A T)} {vss : Nat → List Value} (hs : 0 < P.cellsOf T) (hid : e.own id = .row T xs) (hβ : e.β id = some (b, c)) (hle : lo + ys.length ≤ xs.length)
    (hx : ∀ (i : Nat) (x : A T), ys[i]? = some x → RepL P u e (u.enc T x) (vss i)) (hz : ∀ i, i < ys.length → (vss i).length = P.cellsOf T) :
    ∃ e', (storeCells ⟨b, lo * P.cellsOf T, none⟩ (blk vss ys.length)).run P e.w = .ok () e'.w ∧ HR P u w0 O0 e' ∧ Ext e e' ∧ e'.own = upd e.own id (.row T (xs.take lo ++ ys ++ xs.drop (lo + ys.length))) ∧ e'.β = e.β := by
  have hent := hr.ent id
  rw [hid] at hent
  rcases hent with ⟨_, hn⟩ | ⟨b2, c2, arr, T', fz, ows, hβ2, hfr, hheap, hfz, harr, hc2, hel⟩
  · rw [hn] at hβ; cases hβ
  rw [hβ] at hβ2; cases hβ2
  have hnews := blk_length hz
  have hfit : lo * P.cellsOf T + ys.length * P.cellsOf T ≤ arr.length := by rw [harr, ← Nat.add_mul]; exact Nat.mul_le_mul_right _ (by omega)
  have hst := run_storeCells_fz P b (lo * P.cellsOf T) T' fz (blk vss ys.length) 0 ⟨arr⟩ e.w hheap hfz (by simp only [List.size_toArray]; omega) (blk_one P u hu hx (Nat.le_refl _))
  simp only [Nat.add_zero] at hst
  have hlen : (xs.take lo ++ ys ++ xs.drop (lo + ys.length)).length = xs.length := by simp only [List.length_append, List.length_take, List.length_drop]; omega
  obtain ⟨hext, hmk⟩ := hr.set P u (k := id) (o := .row T (xs.take lo ++ ys ++ xs.drop (lo + ys.length))) (cs := (arr.take (lo * P.cellsOf T) ++ blk vss ys.length ++ arr.drop (lo * P.cellsOf T + (blk vss ys.length).length)).toArray) (by rw [hid]; rfl) hβ rfl (by rw [hid]; exact .row _ _ _ hlen.symm)
  refine ⟨_, hst, hmk (.inr ?_), hext, rfl, rfl⟩
  have hal : (arr.take (lo * P.cellsOf T) ++ blk vss ys.length ++ arr.drop (lo * P.cellsOf T + (blk vss ys.length).length)).length = arr.length := by simp only [List.length_append, List.length_take, List.length_drop]; omega
  refine rowAt_of P u (b := b) (c := c) (vss := fun i => if i < lo then ows i else if i < lo + ys.length then vss (i - lo) else ows i) hβ hfr (setRow_heap _ _ _ _ _ _ hheap) (fz := fz) (by rw [hal]; exact hfz) (by rw [hal]; exact harr) (by omega) ?_ ?_ ?_
  · intro i x hi
    refine RepL.ext P u hext ?_
    rw [splice_get _ _ _ _ (by omega)] at hi
    by_cases h1 : i < lo
    · rw [if_pos h1] at hi ⊢; exact (hel i x hi).1
    · rw [if_neg h1] at hi ⊢
      by_cases h2 : i < lo + ys.length
      · rw [if_pos h2] at hi ⊢; exact hx _ x hi
      · rw [if_neg h2] at hi ⊢; exact (hel i x hi).1
  · intro i hi
    have how : (ows i).length = P.cellsOf T := (hel i _ (List.getElem?_eq_getElem (by omega))).2.1
    split
    · exact how
    · split
      · exact hz _ (by omega)
      · exact how
  · intro i j hi hj
    have hil : i < xs.length := by omega
    have hom : ∀ j, j < P.cellsOf T → arr[i * P.cellsOf T + j]? = (ows i)[j]? := by
      intro j hj
      have h := hel i _ (List.getElem?_eq_getElem hil)
      have hjl : j < (ows i).length := by rw [h.2.1]; exact hj
      rw [List.getElem?_eq_getElem hjl]
      exact h.2.2 j _ (List.getElem?_eq_getElem hjl)
    rw [splice_get _ _ _ _ (by omega)]
    by_cases h1 : i < lo
    · have : (i + 1) * P.cellsOf T ≤ lo * P.cellsOf T := Nat.mul_le_mul_right _ h1
      rw [Nat.add_mul, Nat.one_mul] at this
      rw [if_pos h1, if_pos (by omega)]; exact hom j hj
    · have hge : lo * P.cellsOf T ≤ i * P.cellsOf T := Nat.mul_le_mul_right _ (by omega)
      rw [if_neg h1, if_neg (by omega)]
      by_cases h2 : i < lo + ys.length
      · have : (i - lo + 1) * P.cellsOf T ≤ ys.length * P.cellsOf T := Nat.mul_le_mul_right _ (by omega)
        rw [Nat.add_mul, Nat.one_mul] at this
        have h3 : i * P.cellsOf T = lo * P.cellsOf T + (i - lo) * P.cellsOf T := by rw [← Nat.add_mul]; congr 1; omega
        rw [if_pos h2, if_pos (by omega), h3, show lo * P.cellsOf T + (i - lo) * P.cellsOf T + j - lo * P.cellsOf T = (i - lo) * P.cellsOf T + j by omega]
        exact blk_get hz _ _ (by omega) hj
      · have : (lo + ys.length) * P.cellsOf T ≤ i * P.cellsOf T := Nat.mul_le_mul_right _ (by omega)
        rw [Nat.add_mul] at this
        rw [if_neg h2, if_neg (by omega)]; exact hom j hj
theorem take_is {e : E A} {T n : Nat} {xs : List (A T)} {v : Value} (h : SliceIs P u e T xs v) (hs : 0 < P.cellsOf T) : ∃ a len cap, v = .slice a len cap ∧ xs.length = len ∧ ∃ vss : Nat → List Value, (∀ i, i < len → (vss i).length = P.cellsOf T) ∧ (∀ (i : Nat) (x : A T), xs[i]? = some x → RepL P u e (u.enc T x) (vss i)) ∧
    ∀ n, n ≤ len → (Builtin.firstCells (P.cellsOf T) n v).run P e.w = .ok (blk vss n).toArray e.w := by
  obtain ⟨a, len, cap, vss0, rfl, h1, h2, h3, h4, h5⟩ := h
  obtain ⟨vss, hl, hcp, hzv, hxv, hfirst, _, _⟩ := SliceIs.first P u (xs := xs) (T := T) ⟨a, len, cap, vss0, rfl, h1, h2, h3, h4, h5⟩ hs
  exact ⟨a, len, cap, rfl, hl, vss, hzv, hxv, fun n hn => hfirst n e.w hn (fun b _ => rfl)⟩
/-- An append that stays within what is known of a row. -/
theorem append_in (hu : Law P u) {w0 : W0} {O0 : Nat → Prop} {e : E A} (hr : HR P u w0 O0 e) {id T t ty lo n : Nat} (ht : P.underlying t = some (.slice T)) (hT : okRow P T = true) {xs ys : List (A T)} {vx vy : Value} (hid : e.own id = .row T xs)
    (hx : RepL P u e [.osl id lo n] [vx]) (hy : SliceIs P u e T ys vy) (hle : lo + n + ys.length ≤ xs.length) :
    ∃ v' e', (Builtin.append_ #[t, t] ty #[vx, vy]).run P e.w = .ok v' e'.w ∧ HR P u w0 O0 e' ∧ Ext e e' ∧ e'.own = upd e.own id (.row T (xs.take (lo + n) ++ ys ++ xs.drop (lo + n + ys.length))) ∧ RepL P u e' [.osl id lo (n + ys.length)] [v'] := by
  have hsame : ∀ {T2 : Nat} {zs : List (A T2)}, (e.own id = .row T2 zs ∨ e.own id = .fro T2 zs) → T2 = T ∧ HEq zs xs := by
    intro T2 zs hv
    rw [hid] at hv
    rcases hv with hv | hv <;> cases hv
    exact ⟨rfl, HEq.rfl⟩
  obtain ⟨i, z, hi, hz, hzs, hs, hbt, hcs, hbs, _⟩ := okRow_spec P hT
  obtain ⟨a, m, cp, rfl, hl, vss, hzv, hxv, hfirst⟩ := take_is P u (n := 0) hy (by rw [hcs]; exact hs)
  cases hx with
  | oslD _ _ _ _ hd _ _ => rw [hid] at hd; cases hd
  | oslZ _ _ T2 zs ab hv hlo _ =>
    obtain ⟨rfl, hh⟩ := hsame hv
    cases hh
    have hys : ys = [] := List.eq_nil_of_length_eq_zero (by omega)
    subst hys
    have hm : m = 0 := by simp at hl; omega
    subst hm
    have hupd : upd e.own id (.row T2 (zs.take (lo + 0) ++ [] ++ zs.drop (lo + 0 + ([] : List (A T2)).length))) = e.own := by
      funext q
      by_cases hq : q = id
      · subst hq; rw [upd_same, hid]; simp
      · rw [upd_ne _ _ hq]
    refine ⟨.slice ab 0 0, e, ?_, hr, .refl e, hupd.symm, .oslZ id lo T2 zs ab hv hlo .nil⟩
    have hf := hfirst 0 (Nat.le_refl _)
    rw [hcs] at hf
    cases ab with
    | none => simp [Builtin.append_, run_underlying ht, sizeOf, typeInfo, hi, Builtin.lenOf, hf]
    | some ad => simp [Builtin.append_, run_underlying ht, sizeOf, typeInfo, hi, Builtin.lenOf, hf, blk, storeCells]
  | osl _ _ _ b c cap T2 zs hv hβ hle2 hcc _ =>
    obtain ⟨rfl, hh⟩ := hsame hv
    cases hh
    subst hl
    obtain ⟨e', h1, h2, h3, h4, h5⟩ := hr.splice P u hu (lo := lo + n) (ys := ys) (vss := vss) (by rw [hcs]; exact hs) hid hβ hle hxv hzv
    have hf := hfirst ys.length (Nat.le_refl _)
    rw [hcs] at hf h1
    have hroom : n + ys.length ≤ cap := by omega
    refine ⟨.slice (some ⟨b, lo * P.cellsOf T2, none⟩) (n + ys.length) (cap), e', ?_, h2, h3, h4, ?_⟩
    · have hadd : (⟨b, lo * P.cellsOf T2, none⟩ : Addr).add (n * i.size) = ⟨b, (lo + n) * i.size, none⟩ := by rw [add_add', hcs, ← Nat.add_mul]
      simp [Builtin.append_, run_underlying ht, sizeOf, typeInfo, hi, Builtin.lenOf, hroom, hf, hadd, h1]
    · refine .osl id lo _ b c cap T2 (zs.take (lo + n) ++ ys ++ zs.drop (lo + n + ys.length)) (.inl (by rw [h4, upd_same])) (by rw [h5]; exact hβ) ?_ ?_ .nil
      · simp only [List.length_append, List.length_take, List.length_drop]; omega
      · simp only [List.length_append, List.length_take, List.length_drop]; omega
/-- A copy into an own row. -/
theorem copy_row (hu : Law P u) {w0 : W0} {O0 : Nat → Prop} {e : E A} (hr : HR P u w0 O0 e) {id T t t2 ty lo n : Nat} (ht : P.underlying t = some (.slice T)) (hT : okRow P T = true) {xs ys : List (A T)} {vx vy : Value} (hid : e.own id = .row T xs)
    (hx : RepL P u e [.osl id lo n] [vx]) (hle : lo + n ≤ xs.length) (hy : SliceIs P u e T ys vy) :
    ∃ e', (Builtin.copy_ #[t, t2] ty #[vx, vy]).run P e.w = .ok (.int .i64 (min ys.length n : Nat)) e'.w ∧ HR P u w0 O0 e' ∧ Ext e e' ∧ e'.own = upd e.own id (.row T (xs.take lo ++ ys.take n ++ xs.drop (lo + min ys.length n))) := by
  have hsame : ∀ {T2 : Nat} {zs : List (A T2)}, (e.own id = .row T2 zs ∨ e.own id = .fro T2 zs) → T2 = T ∧ HEq zs xs := by
    intro T2 zs hv
    rw [hid] at hv
    rcases hv with hv | hv <;> cases hv
    exact ⟨rfl, HEq.rfl⟩
  obtain ⟨i, z, hi, hz, hzs, hs, hbt, hcs, hbs, _⟩ := okRow_spec P hT
  obtain ⟨a, m, cp, rfl, hl, vss, hzv, hxv, hfirst⟩ := take_is P u (n := 0) hy (by rw [hcs]; exact hs)
  subst hl
  have htl : (ys.take n).length = min ys.length n := by rw [List.length_take, Nat.min_comm]
  cases hx with
  | oslD _ _ _ _ hd _ _ => rw [hid] at hd; cases hd
  | oslZ _ _ T2 zs ab hv hlo _ =>
    obtain ⟨rfl, hh⟩ := hsame hv
    cases hh
    have hupd : upd e.own id (.row T2 (zs.take lo ++ ys.take 0 ++ zs.drop (lo + min ys.length 0))) = e.own := by
      funext q
      by_cases hq : q = id
      · subst hq; rw [upd_same, hid]; simp
      · rw [upd_ne _ _ hq]
    refine ⟨e, ?_, hr, .refl e, hupd.symm⟩
    have hf := hfirst 0 (Nat.zero_le _)
    rw [hcs] at hf
    cases ab with
    | none => simp [Builtin.copy_, run_underlying ht, sizeOf, typeInfo, hi, Builtin.lenOf, hf, goInt]
    | some ad => simp [Builtin.copy_, run_underlying ht, sizeOf, typeInfo, hi, Builtin.lenOf, hf, goInt, blk, storeCells]
  | osl _ _ _ b c cap T2 zs hv hβ hle2 hcc _ =>
    obtain ⟨rfl, hh⟩ := hsame hv
    cases hh
    obtain ⟨e', h1, h2, h3, h4, h5⟩ := hr.splice P u hu (lo := lo) (ys := ys.take n) (vss := vss) (by rw [hcs]; exact hs) hid hβ (by omega) (fun i x hi => by
      rw [List.getElem?_take] at hi
      split at hi
      · exact hxv i x hi
      · cases hi) (fun i hi => hzv i (by omega))
    have hf := hfirst (min ys.length n) (by omega)
    rw [hcs] at hf h1
    rw [htl] at h1
    refine ⟨e', ?_, h2, h3, by rw [h4, htl]⟩
    have hmin : Nat.min ys.length n = min ys.length n := rfl
    simp [Builtin.copy_, run_underlying ht, sizeOf, typeInfo, hi, Builtin.lenOf, hmin, hf, goInt, hcs, h1]
end
end Go.Proofs.Ytndacggailoogaa.Sx
