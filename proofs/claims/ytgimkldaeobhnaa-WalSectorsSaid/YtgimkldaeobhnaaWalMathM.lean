/- The log, in plain terms: a log that broke, and the one that is found behind a restart; the laws. -/
import Derived.Test.YtgimkldaeobhnaaWalSpecB
namespace Go.Proofs.Ytgimkldaeobhnaa.Dsk
open Go Go.Proofs.Ytgimkldaeobhnaa.Sx

/-! ### a disk that only stops, or only fails -/
def Only (e : Int) (d : Dk) : Prop := (e = 9 ∧ d.fail = -1) ∨ (e = 10 ∧ d.left = -1 ∧ d.down = false)
theorem Only.e {e : Int} {d : Dk} (h : Only e d) : callE d = 0 ∨ callE d = e := by
  rcases h with ⟨rfl, h⟩ | ⟨rfl, h1, h2⟩
  · exact call_two h
  · unfold callE
    rw [if_neg (by rw [h1, h2]; decide)]
    split
    · exact .inr rfl
    · exact .inl rfl
theorem Only.call {e : Int} {d : Dk} (h : Only e d) : Only e d.call := by
  rcases h with ⟨rfl, h⟩ | ⟨rfl, h1, h2⟩
  · exact .inl ⟨rfl, fail_call h⟩
  · refine .inr ⟨rfl, ?_, ?_⟩
    · show mx (-1) (IntKind.i64.wrap (d.left - 1)) = -1
      rw [h1]; decide
    · show (d.down || d.left == 0) = false
      rw [h1, h2]; decide
theorem Only.write {e : Int} {d : Dk} (h : Only e d) (n : Int) (x : Sec) : Only e (d.write n x) := by
  unfold Dk.write
  split
  · exact h
  split
  · split
    · exact h.call
    · exact h.call
  · exact h
theorem Only.flush {e : Int} {d : Dk} (h : Only e d) : Only e d.flush := by
  unfold Dk.flush
  split
  · exact h
  split
  · exact h.call
  · exact h.call
theorem Only.writeE {e : Int} {d : Dk} (h : Only e d) {n : Int} (hn : 0 ≤ n ∧ n < d.kept.length) : writeE d n = 0 ∨ writeE d n = e := by
  unfold Dsk.writeE
  split
  · rename_i hd
    rcases h with ⟨rfl, _⟩ | ⟨_, _, h2⟩
    · exact .inr rfl
    · rw [h2] at hd; cases hd
  · rw [if_pos (inD_iff.2 hn)]; exact h.e
theorem Only.flushE {e : Int} {d : Dk} (h : Only e d) : flushE d = 0 ∨ flushE d = e := by
  unfold Dsk.flushE
  split
  · rename_i hd
    rcases h with ⟨rfl, _⟩ | ⟨_, _, h2⟩
    · exact .inr rfl
    · rw [h2] at hd; cases hd
  · exact h.e
theorem clearGo_only {e r : Int} (hr : 0 ≤ r ∧ r ≤ 1) : ∀ (m : Nat) (d : Dk) (k : Int), d.kept.length ≤ 512 → Only e d → 0 ≤ k → k + m ≤ halfOf d → ((clearGo d r k m).2 = 0 ∨ (clearGo d r k m).2 = e) ∧ Only e (clearGo d r k m).1
  | 0, d, k, _, hc, _, _ => ⟨hc.flushE, hc.flush⟩
  | m + 1, d, k, hd, hc, hk, hm => by
    have hh := half_in hd
    have hp : posOf d r k = r * halfOf d + k := posOf_eq hd hr ⟨hk, by omega⟩
    have hl : halfOf (d.write (posOf d r k) zeroS) = halfOf d := half_len (write_len ..)
    have hi : 0 ≤ posOf d r k ∧ posOf d r k < d.kept.length := by rw [hp]; rcases (show r = 0 ∨ r = 1 by omega) with rfl | rfl <;> omega
    rw [clearGo]
    split
    · exact ⟨hc.writeE hi, hc.write _ _⟩
    · exact clearGo_only hr m _ _ (by rw [write_len]; exact hd) (hc.write _ _) (by omega) (by rw [hl]; omega)
theorem clearM_only {e r k : Int} {d : Dk} (hr : 0 ≤ r ∧ r ≤ 1) (hd : d.kept.length ≤ 512) (hc : Only e d) (hk : 0 ≤ k) : ((clearM d r k).2 = 0 ∨ (clearM d r k).2 = e) ∧ Only e (clearM d r k).1 := by
  unfold clearM
  by_cases hm : k ≤ halfOf d
  · exact clearGo_only hr _ d k hd hc hk (by omega)
  · rw [show (halfOf d - k).toNat = 0 by omega]
    exact ⟨hc.flushE, hc.flush⟩
theorem putEnd_only {e p kind id : Int} {b : List Int} {d : Dk} (hp : 0 ≤ p ∧ p < d.kept.length) (hc : Only e d) : ((putEnd d p kind id b).2 = 0 ∨ (putEnd d p kind id b).2 = e) ∧ Only e (putEnd d p kind id b).1 := by
  unfold putEnd
  split
  · exact ⟨hc.flushE, hc.flush⟩
  split
  · exact ⟨hc.flush.writeE (by rw [flush_len]; exact hp), hc.flush.write _ _⟩
  · exact ⟨(hc.flush.write _ _).flushE, (hc.flush.write _ _).flush⟩
theorem putGo_only {e p kind id : Int} {b : List Int} (hb : b.length ≤ 20000) : ∀ (m : Nat) (d : Dk) (j : Nat), j + m = secsN b.length → (0 ≤ p ∧ p + (secsN b.length : Int) < d.kept.length) → d.kept.length ≤ 512 → Only e d → ((putGo d p kind id b j m).2 = 0 ∨ (putGo d p kind id b j m).2 = e) ∧ Only e (putGo d p kind id b j m).1
  | 0, d, j, hj, hp, hd, hc => putEnd_only (by omega) hc
  | m + 1, d, j, hj, hp, hd, hc => by
    have hw : IntKind.i64.wrap (p + ((j : Int) + 1)) = p + 1 + (j : Int) := by rw [wrap_i64_id (by omega)]; omega
    rw [putGo, hw]
    split
    · exact ⟨hc.writeE (by omega), hc.write _ _⟩
    · exact putGo_only hb m _ (j + 1) (by omega) (by rw [write_len]; exact hp) (by rw [write_len]; exact hd) (hc.write _ _)
theorem putM_only {d : Dk} {e r a kind id : Int} {b : List Int} (hd : d.kept.length ≤ 512) (hr : 0 ≤ r ∧ r ≤ 1) (ha : 0 ≤ a) (hb : b.length ≤ 20000) (hf : a + secsOf (b.length : Int) ≤ halfOf d) (hx : Only e d) : ((putM d r a kind id b).2 = 0 ∨ (putM d r a kind id b).2 = e) ∧ Only e (putM d r a kind id b).1 :=
  putGo_only hb _ d 0 (by omega) (pos_in hd hr ha hb hf).2 hd hx
theorem append_only {e : Int} {l : Lg} {b : List Int} (g : Good l) (hb : b.length ≤ 16384) (hf : l.next + 1 + (secsN b.length : Int) ≤ halfOf l.d) (hx : Only e l.d) : ((appendM l b).2 = 0 ∨ (appendM l b).2 = e) ∧ Only e (appendM l b).1.d := by
  have hle := g.lay.le
  have h := putM_only (kind := 2) (id := (l.recs.length : Int)) g.len g.lay.r01 (show 0 ≤ l.next by omega) (show b.length ≤ 20000 by omega) (by rw [secs_eq b.length (by omega)]; omega) hx
  rw [append_eq g hb hf]
  split
  · exact h
  · exact ⟨.inl rfl, h.2⟩
theorem begin_only {e : Int} {l : Lg} {b : List Int} (g : BegR l) (hb : b.length ≤ 16384) (hf : 2 + (secsN b.length : Int) ≤ halfOf l.d) (hx : Only e l.d) : ((beginM l b).2 = 0 ∨ (beginM l b).2 = e) ∧ Only e (beginM l b).1.d := by
  have hr := g.r01
  have h4 := g.half
  have ho : 0 ≤ 1 - l.region ∧ 1 - l.region ≤ 1 := by omega
  have eA := begA_eq g
  have eB := begB_eq g b
  have eC := begC_eq g b
  have lA : (begA l).1.kept.length = l.d.kept.length := by rw [eA]; exact clearM_len ..
  have lB : (begB l b).1.kept.length = l.d.kept.length := by rw [eB, putM_len, lA]
  have hs := secs_eq b.length (by omega)
  have cA := clearM_only (k := 0) ho g.len hx (Int.le_refl 0)
  rw [← eA] at cA
  have cB := putM_only (kind := 2) (id := 0) (a := 1) (b := b) (by rw [lA]; exact g.len) ho (by omega) (by omega) (by rw [half_len lA]; omega) cA.2
  rw [← eB] at cB
  have cC := putM_only (kind := 1) (id := l.turn + 1) (a := 0) (b := []) (by rw [lB]; exact g.len) ho (by omega) (by decide) (by rw [half_len lB, show secsOf (([] : List Int).length : Int) = 1 by decide]; omega) cB.2
  rw [← eC] at cC
  rw [begin_eq g hb hf]
  split
  · exact cA
  split
  · exact cB
  split
  · exact cC
  · exact ⟨.inl rfl, cC.2⟩
theorem Only.calm {e : Int} {d : Dk} (h : Calm d) (he : e = 9 ∨ e = 10) : Only e d := by
  rcases he with rfl | rfl
  · exact .inl ⟨rfl, h.fail⟩
  · exact .inr ⟨rfl, h.left, h.down⟩

/-! ### a log that broke -/
theorem Good.dok {l : Lg} (g : Good l) : DOk l := ⟨g.b, g.y, g.lay.r01, by have := g.lay.le; omega, by have := g.recs_le; omega⟩
theorem append_dok {l : Lg} {b : List Int} (g : Good l) (hb : b.length ≤ 16384) (hy : bytesOk b) : DOk (appendM l b).1 := by
  by_cases hf : l.next + 1 + (secsN b.length : Int) ≤ halfOf l.d
  · by_cases he : (appendM l b).2 = 0
    · exact ((append_came g hb hy hf).1 he).good.dok
    · have hl := append_len l b
      have hb2 : DkB (appendM l b).1.d (0 + 1000) := append_b g.b (by omega)
      have hy2 := append_y g.y hy
      have ha := append_eq g hb hf
      split at ha
      · rw [ha] at hl hb2 hy2 ⊢
        refine ⟨hb2.mono (by omega), hy2, g.lay.r01, ?_, ?_⟩
        · rw [half_len hl]
          show 0 ≤ l.next ∧ l.next ≤ halfOf l.d
          have := g.lay.le; omega
        · show l.recs.length ≤ 1000
          have := g.recs_le; omega
      · rw [ha] at he
        exact absurd rfl he
  · rw [append_full g hb hf]
    exact g.dok
theorem begin_dok {l : Lg} {b : List Int} (g : Good l) (ht : l.turn < 4294967295) (hb : b.length ≤ 16384) (hy : bytesOk b) : DOk (beginM l b).1 := by
  by_cases hf : 2 + (secsN b.length : Int) ≤ halfOf l.d
  · by_cases he : (beginM l b).2 = 0
    · exact ((begin_good g ht hb hy hf).1 he).good.dok
    · have hl := beginM_len l b
      have hb2 : DkB (beginM l b).1.d (0 + 1000) := begin_b g.b (by omega)
      have hy2 := begin_y g.y hy
      have key : ∀ x : Dk × Int, beginM l b = failM l x → DOk (beginM l b).1 := by
        intro x hx
        rw [hx] at hl hb2 hy2 ⊢
        refine ⟨hb2.mono (by omega), hy2, g.lay.r01, ?_, ?_⟩
        · rw [half_len hl]
          show 0 ≤ l.next ∧ l.next ≤ halfOf l.d
          have := g.lay.le; omega
        · show l.recs.length ≤ 1000
          have := g.recs_le; omega
      have ha := begin_eq (g.beg ht) hb hf
      split at ha
      · exact key _ ha
      split at ha
      · exact key _ ha
      split at ha
      · exact key _ ha
      · rw [ha] at he
        exact absurd rfl he
  · rw [begin_full g.br hb hf]
    exact g.dok
theorem append_lost {l : Lg} {b : List Int} (g : Good l) (hb : b.length ≤ 16384) (hy : bytesOk b) (hf : l.next + 1 + (secsN b.length : Int) ≤ halfOf l.d) (he : (appendM l b).2 ≠ 0) {P : List (List Int) → Int → Prop} (h1 : P l.recs l.turn) (h2 : P (l.recs ++ [b]) l.turn) : Lost (appendM l b).1 P := by
  obtain ⟨hbr, ha⟩ := (append_came g hb hy hf).2 he
  have hh : halfOf (appendM l b).1.d = halfOf l.d := half_len (append_len l b)
  refine ⟨append_dok g hb hy, hbr, by rw [hh]; exact g.half, ha.mono fun c hc => ?_⟩
  rw [hh]
  rcases hc with hc | hc
  · exact ⟨_, _, _, _, hc, h1⟩
  · exact ⟨_, _, _, _, hc, h2⟩
theorem begin_lost {l : Lg} {b : List Int} (g : Good l) (ht : l.turn < 4294967295) (hb : b.length ≤ 16384) (hy : bytesOk b) (hf : 2 + (secsN b.length : Int) ≤ halfOf l.d) (he : (beginM l b).2 ≠ 0) {P : List (List Int) → Int → Prop} (h1 : P l.recs l.turn) (h2 : P [b] (l.turn + 1)) : Lost (beginM l b).1 P := by
  obtain ⟨hbr, ha⟩ := (begin_good g ht hb hy hf).2 he
  have hh : halfOf (beginM l b).1.d = halfOf l.d := half_len (beginM_len l b)
  refine ⟨begin_dok g ht hb hy, hbr, by rw [hh]; exact g.half, ha.mono fun c hc => ?_⟩
  rw [hh]
  rcases hc with hc | hc
  · exact ⟨_, _, _, _, hc, h1⟩
  · exact ⟨_, _, _, _, hc, h2⟩
/-- A disk on which a log is lost. -/
structure LostD (d : Dk) (P : List (List Int) → Int → Prop) : Prop where
  b : DkB d 200000
  y : DkY d
  half : 4 ≤ halfOf d
  after : RecsAfter d P
theorem Lost.d {l : Lg} {P : List (List Int) → Int → Prop} (h : Lost l P) : LostD l.d P := ⟨h.ok.b.mono (by omega), h.ok.y, h.half, h.after⟩
theorem re_len (d : Dk) (a t b : Int) : (d.restart a t b).kept.length = d.kept.length := keptR_len ..
/-- It is opened behind a restart. -/
theorem LostD.reopen {d : Dk} {P : List (List Int) → Int → Prop} (h : LostD d P) (a t b x : Int) :
    (openOk { d.restart a t b with left := x }) ∧
    ((openM { d.restart a t b with left := x }).2 = 0 → Good (openM { d.restart a t b with left := x }).1 ∧ P (openM { d.restart a t b with left := x }).1.recs (openM { d.restart a t b with left := x }).1.turn ∧ (openM { d.restart a t b with left := x }).1.d.fail = -1 ∧ halfOf (openM { d.restart a t b with left := x }).1.d = halfOf d) ∧
    ((openM { d.restart a t b with left := x }).2 ≠ 0 → (openM { d.restart a t b with left := x }).2 = 9 ∧ LostD (openM { d.restart a t b with left := x }).1.d P ∧ halfOf (openM { d.restart a t b with left := x }).1.d = halfOf d) ∧
    (x = -1 → (openM { d.restart a t b with left := x }).2 = 0) := by
  have hl : ({ d.restart a t b with left := x } : Dk).kept.length = d.kept.length := re_len d a t b
  have hc : cont ({ d.restart a t b with left := x } : Dk) = cont (d.restart a t b) := funext fun i => cont_arm (d := d.restart a t b) rfl x (-1) d.calls i
  have hb : DkB ({ d.restart a t b with left := x } : Dk) 0 := h.b.restart a t b
  have hy : DkY ({ d.restart a t b with left := x } : Dk) := h.y.restart a t b
  have hh : halfOf ({ d.restart a t b with left := x } : Dk) = halfOf d := half_len hl
  have hw : ({ d.restart a t b with left := x } : Dk).wait = [] := rfl
  have hdn : ({ d.restart a t b with left := x } : Dk).down = false := rfl
  have hfl : ({ d.restart a t b with left := x } : Dk).fail = -1 := rfl
  have hlf : ({ d.restart a t b with left := x } : Dk).left = x := rfl
  obtain ⟨r, u, rs, n, hlay, hP⟩ := h.after a t b
  rw [← hc] at hlay
  generalize ({ d.restart a t b with left := x } : Dk) = e at *
  rw [← hh] at hlay
  have h4 : 4 ≤ halfOf e := by rw [hh]; exact h.half
  have hcm := open_came hw hb.1 hy hdn h4 hlay
  have heq := open_lay hw hb.1 hy hdn h4 hlay
  have hle := hlay.le
  refine ⟨⟨hb.mono (by omega), hy⟩, fun h0 => ?_, fun h0 => ?_, fun hx => ?_⟩
  · have hg := hcm.1 h0
    refine ⟨hg.good, ?_, ?_, ?_⟩
    · rw [hg.recs, hg.turn]; exact hP
    · rw [heq]; exact clearM_fail hfl
    · rw [half_len hg.len, hh]
  · have hlen : (openM e).1.d.kept.length = e.kept.length := by rw [heq]; exact clearM_len ..
    have he : halfOf (openM e).1.d = halfOf e := half_len hlen
    refine ⟨(open_two hw hb.1 hy hdn h4 hlay hfl).resolve_left h0, ⟨(open_b hb hy).mono (by omega), open_y hy, by rw [he]; exact h4, (hcm.2 h0).mono fun c hcc => ?_⟩, by rw [he, hh]⟩
    rw [he]
    exact ⟨r, u, rs, n, hcc, hP⟩
  · exact (open_calm hw hb.1 hy h4 hlay ⟨hdn, by rw [hlf, hx], hfl⟩).1

theorem chunk_at (b : List Int) (k j : Nat) (hj : j < 64) : (chunkS b k).l.getD j 0 = b.getD (64 * k + j) 0 := by
  rw [chunkS_l, List.getD_eq_getElem?_getD, List.getD_eq_getElem?_getD, List.getElem?_append]
  split
  · rename_i h
    rw [List.getElem?_take, if_pos hj, List.getElem?_drop]
  · rename_i h
    rw [List.length_take, List.length_drop] at h
    rw [List.getElem?_replicate, List.getElem?_eq_none (show b.length ≤ 64 * k + j by omega)]
    split <;> rfl
theorem sec_ext64 {x y : Sec} (h : ∀ i : Nat, i < 64 → x.l.getD i 0 = y.l.getD i 0) : x = y := sec_ext fun i => by
  by_cases hi : i < 64
  · exact h i hi
  · have hx := x.h
    have hy := y.h
    rw [List.getD_eq_getElem?_getD, List.getD_eq_getElem?_getD, List.getElem?_eq_none (by omega), List.getElem?_eq_none (by omega)]
theorem chunk_nil (k : Nat) : chunkS [] k = zeroS := sec_ext64 fun i hi => by
  rw [chunk_at _ _ _ hi, zero_at]
  rfl
/-- One byte more of a row. -/
theorem chunk_set {x : List Int} {i : Nat} (hi : i < x.length) {s : Sec} (h : s.l = (chunkS (x.take i) (i / 64)).l.set (i % 64) (x.getD i 0)) : s = chunkS (x.take (i + 1)) (i / 64) := by
  have hdm : 64 * (i / 64) + i % 64 = i := Nat.div_add_mod i 64
  refine sec_ext64 fun j hj => ?_
  rw [h, chunk_at _ _ _ hj, List.getD_eq_getElem?_getD, List.getElem?_set]
  have hl : (chunkS (x.take i) (i / 64)).l.length = 64 := (chunkS (x.take i) (i / 64)).h
  by_cases e : i % 64 = j
  · subst e
    rw [if_pos rfl, if_pos (by omega), hdm, List.getD_eq_getElem?_getD, List.getD_eq_getElem?_getD, List.getElem?_take, if_pos (by omega)]
    rfl
  · rw [if_neg e, ← List.getD_eq_getElem?_getD, chunk_at _ _ _ hj, List.getD_eq_getElem?_getD, List.getD_eq_getElem?_getD, List.getElem?_take, List.getElem?_take]
    by_cases h1 : 64 * (i / 64) + j < i
    · rw [if_pos h1, if_pos (by omega)]
    · rw [if_neg h1, if_neg (by omega)]
theorem chunk_keep {x : List Int} {i k : Nat} (hk : k ≠ i / 64) : chunkS (x.take (i + 1)) k = chunkS (x.take i) k := by
  have hdm : 64 * (i / 64) + i % 64 = i := Nat.div_add_mod i 64
  refine sec_ext64 fun j hj => ?_
  rw [chunk_at _ _ _ hj, chunk_at _ _ _ hj, List.getD_eq_getElem?_getD, List.getD_eq_getElem?_getD, List.getElem?_take, List.getElem?_take]
  by_cases h1 : 64 * k + j < i
  · rw [if_pos h1, if_pos (by omega)]
  · rw [if_neg h1, if_neg (by omega)]
/-! ### where the rows lie -/
theorem at_one {b more : List Int} (hb : b.length ≤ 300) : atAt b more 1 = 2 + (secsN b.length : Int) := by
  show IntKind.i64.wrap (1 + secsOf (b.length : Int)) = _
  have hsn : 64 * secsN b.length ≤ b.length + 63 := by unfold secsN; omega
  rw [secs_eq b.length (by omega), wrap_i64_id (by omega)]
  omega
theorem row_le {b more : List Int} (hb : b.length ≤ 300) (hm : more.length ≤ 300) (k : Nat) : (rowAt b more k).length ≤ 300 := by
  unfold rowAt
  match k with
  | 0 => exact hb
  | 1 => exact hm
  | k + 2 => exact Nat.zero_le _
theorem at_in {b more : List Int} (hb : b.length ≤ 300) (hm : more.length ≤ 300) {k : Nat} (hk : k < 2) : 1 ≤ atAt b more k ∧ atAt b more k + 1 + (secsN (rowAt b more k).length : Int) ≤ 13 := by
  have h1 : 64 * secsN b.length ≤ b.length + 63 := by unfold secsN; omega
  have h2 : 64 * secsN more.length ≤ more.length + 63 := by unfold secsN; omega
  match k, hk with
  | 0, _ =>
    show (1 : Int) ≤ 1 ∧ (1 : Int) + 1 + (secsN b.length : Int) ≤ 13
    omega
  | 1, _ =>
    rw [at_one hb]
    show (1 : Int) ≤ 2 + (secsN b.length : Int) ∧ 2 + (secsN b.length : Int) + 1 + (secsN more.length : Int) ≤ 13
    omega
theorem layF_zero {b more : List Int} (hb : b.length ≤ 300) {k : Nat} (hk : k < 2) {j : Int} (hj : atAt b more k ≤ j) : layF b more k j = zeroS := by
  match k, hk with
  | 0, _ =>
    have hj : (1 : Int) ≤ j := hj
    show (if j = 0 then headS 1 2 [] else zeroS) = zeroS
    rw [if_neg (by omega)]
  | 1, _ =>
    rw [at_one hb] at hj
    show rowC (layF b more 0) 1 2 ((0 : Nat) : Int) b j = zeroS
    unfold rowC bodyC
    rw [if_neg (by omega), if_neg (by omega)]
    show (if j = 0 then headS 1 2 [] else zeroS) = zeroS
    rw [if_neg (by omega)]
theorem lay_two {b more : List Int} (hb : b.length ≤ 300) : layF b more 2 = wantF b more := by
  show rowC (rowC (fun i => if i = 0 then headS 1 2 [] else zeroS) 1 2 ((0 : Nat) : Int) b) (atAt b more 1) 2 ((1 : Nat) : Int) more = _
  rw [at_one hb]
  unfold wantF
  rw [show (1 : Int) + 1 + (secsN b.length : Int) = 2 + (secsN b.length : Int) by omega]
  rfl
theorem lay_start {b more : List Int} {h : Int} {ws : List Sec} (hb : b.length ≤ 300) (hm : more.length ≤ 300) (h16 : 16 ≤ h) {k : Nat} (hk : k < 2) (hs : Stands ws h (layF b more k)) :
    Stands (ws.set (atAt b more k).toNat (headS 2 (k : Int) (rowAt b more k))) h (layG b more k 0) := by
  have ha := at_in hb hm hk
  refine ⟨by rw [List.length_set]; exact hs.1, fun i h0 h1 => ?_⟩
  have hl := hs.1
  rw [getS_set (by omega)]
  unfold layG
  by_cases e : i = atAt b more k
  · rw [if_pos (by omega), if_pos e]
  · rw [if_neg (by omega), if_neg e, hs.2 i h0 h1]
    split
    · rw [List.take_zero, chunk_nil, layF_zero hb hk (by omega)]
    · rfl
theorem lay_end {b more : List Int} {h : Int} {ws : List Sec} {k : Nat} (hs : Stands ws h (layG b more k (rowAt b more k).length)) : Stands ws h (layF b more (k + 1)) := by
  refine ⟨hs.1, fun i h0 h1 => ?_⟩
  rw [hs.2 i h0 h1]
  show layG b more k (rowAt b more k).length i = rowC (layF b more k) (atAt b more k) 2 (k : Int) (rowAt b more k) i
  unfold layG rowC bodyC
  rw [List.take_length]
theorem lay_byte {b more : List Int} {h : Int} {ws : List Sec} (hb : b.length ≤ 300) (hm : more.length ≤ 300) (h16 : 16 ≤ h) {k i : Nat} (hk : k < 2) (hi : i < (rowAt b more k).length) (hs : Stands ws h (layG b more k i)) {s : Sec} {a : Nat} (ha : (a : Int) = atAt b more k + 1 + ((i / 64 : Nat) : Int))
    (hq : s.l = (getS ws a).l.set (i % 64) ((rowAt b more k).getD i 0)) : Stands (ws.set a s) h (layG b more k (i + 1)) := by
  have hat := at_in hb hm hk
  have hsn : (rowAt b more k).length ≤ 64 * secsN (rowAt b more k).length := by unfold secsN; omega
  have hdm : 64 * (i / 64) + i % 64 = i := Nat.div_add_mod i 64
  have hml : i % 64 < 64 := Nat.mod_lt _ (by decide)
  refine ⟨by rw [List.length_set]; exact hs.1, fun j h0 h1 => ?_⟩
  have hl := hs.1
  have h2 := hs.2 (a : Int) (by omega) (by omega)
  rw [Int.toNat_natCast] at h2
  have hg : layG b more k i (a : Int) = chunkS ((rowAt b more k).take i) (i / 64) := by
    unfold layG
    rw [if_neg (by omega), if_pos (by omega), show ((a : Int) - atAt b more k - 1).toNat = i / 64 by omega]
  rw [hg] at h2
  rw [h2] at hq
  rw [getS_set (by omega)]
  by_cases e : a = j.toNat
  · rw [if_pos e, chunk_set hi hq]
    have hj : j = (a : Int) := by omega
    unfold layG
    rw [if_neg (by omega), if_pos (by omega), show (j - atAt b more k - 1).toNat = i / 64 by omega]
  · rw [if_neg e, hs.2 j h0 h1]
    unfold layG
    by_cases e1 : j = atAt b more k
    · rw [if_pos e1, if_pos e1]
    · rw [if_neg e1, if_neg e1]
      split
      · rw [chunk_keep]
        omega
      · rfl
/-! ### what the log lays -/
theorem sect_plain {l : Lg} {b more : List Int} {h : Int} {d : Dk} (hc : Came d l 1 1 [[]] 2) (cm : Calm l.d) (hh : halfOf d = h) (hl : (d.kept.length : Int) = 2 * h) (h16 : 16 ≤ h) (hb : b.length ≤ 300) (hyb : bytesOk b) (hm : more.length ≤ 300) (hym : bytesOk more) :
    begOk l b ∧ (beginM l b).2 = 0 ∧ appOk (beginM l b).1 more ∧ (appendM (beginM l b).1 more).2 = 0 ∧ SectI b more h (appendM (beginM l b).1 more).1.d := by
  have g := hc.good
  have h1 : 64 * secsN b.length ≤ b.length + 63 := by unfold secsN; omega
  have h2 : 64 * secsN more.length ≤ more.length + 63 := by unfold secsN; omega
  have hh1 : halfOf l.d = h := (half_len hc.len).trans hh
  have ht : l.turn < 4294967295 := by rw [hc.turn]; decide
  have hf1 : 2 + (secsN b.length : Int) ≤ halfOf l.d := by omega
  obtain ⟨e1, cm2⟩ := begin_calm (g.beg ht) (b := b) (by omega) hf1 cm
  have hc2 := (begin_good g ht (b := b) (by omega) hyb hf1).1 e1
  rw [hc.region, hc.turn] at hc2
  have hbk : begOk l b := g.begOk (by omega)
  generalize beginM l b = x at *
  have g2 := hc2.good
  have hh2 : halfOf x.1.d = h := (half_len hc2.len).trans hh1
  have hf2 : x.1.next + 1 + (secsN more.length : Int) ≤ halfOf x.1.d := by rw [hc2.next]; omega
  obtain ⟨e2, cm3⟩ := append_calm g2 (b := more) (by omega) hf2 cm2
  have hc3 := (append_came g2 (b := more) (by omega) hym hf2).1 e2
  have r2 : x.1.region = 0 := hc2.region
  rw [r2, hc2.turn, hc2.recs, hc2.next] at hc3
  refine ⟨hbk, e1, g2.app (by omega), e2, ?_⟩
  generalize appendM x.1 more = y at *
  have g3 := hc3.good
  have hh3 : halfOf y.1.d = h := (half_len hc3.len).trans hh2
  have lay := g3.lay
  have tl := g3.tail
  rw [hc3.region, hc3.turn, hc3.recs, hc3.next, hh3] at lay
  rw [hc3.region, hc3.next, hh3, Int.zero_mul] at tl
  have hz : (0 : Int) * h = 0 := Int.zero_mul _
  have hd := lay.head
  have hch := lay.chain
  rw [hz] at hd hch
  obtain ⟨⟨p1, p2, _, _⟩, ⟨p3, p4, _, _⟩, _⟩ := hch
  have out : ∀ i : Int, h ≤ i → i < 2 * h → cont y.1.d i = cont l.d i := by
    intro i hi1 hi2
    rw [hc3.same i (by omega) (by rw [hh2]; omega), hc2.same i (by omega) (by rw [hh1]; omega)]
  have ll := g.lay
  rw [hc.region, hc.turn, hc.recs, hc.next, hh1] at ll
  have lh := ll.head
  have lc := ll.chain
  rw [Int.one_mul] at lh lc
  refine ⟨g3.wait, by rw [hc3.len, hc2.len, hc.len]; exact hl, g3.down, fun i h0 hi => ?_, ?_, ?_⟩
  · unfold wantF rowC bodyC
    by_cases i0 : i = 1 + 1 + (secsN b.length : Int)
    · rw [if_pos i0, i0]
      have := p3
      rw [Int.zero_add] at this
      exact this
    rw [if_neg i0]
    by_cases i1 : 1 + 1 + (secsN b.length : Int) + 1 ≤ i ∧ i < 1 + 1 + (secsN b.length : Int) + 1 + (secsN more.length : Int)
    · rw [if_pos i1]
      have := p4 (i - (1 + 1 + (secsN b.length : Int)) - 1).toNat (by omega)
      rw [show (0 : Int) + (1 + 1 + (secsN b.length : Int)) + 1 + (((i - (1 + 1 + (secsN b.length : Int)) - 1).toNat : Nat) : Int) = i by omega] at this
      exact this
    rw [if_neg i1]
    show _ = if i = 1 then headS 2 0 b else if 1 + 1 ≤ i ∧ i < 1 + 1 + (secsN b.length : Int) then chunkS b (i - 1 - 1).toNat else if i = 0 then headS 1 2 [] else zeroS
    by_cases i2 : i = 1
    · rw [if_pos i2, i2]
      exact p1
    rw [if_neg i2]
    by_cases i3 : 1 + 1 ≤ i ∧ i < 1 + 1 + (secsN b.length : Int)
    · rw [if_pos i3]
      have := p2 (i - 1 - 1).toNat (by omega)
      rw [show (0 : Int) + 1 + 1 + (((i - 1 - 1).toNat : Nat) : Int) = i by omega] at this
      exact this
    rw [if_neg i3]
    by_cases i4 : i = 0
    · rw [if_pos i4, i4]; exact hd
    rw [if_neg i4]
    have := tl i (by omega) hi
    rwa [Int.zero_add] at this
  · rw [out h (Int.le_refl _) (by omega)]; exact lh
  · rw [out (h + 1) (by omega) (by omega)]
    exact lc.1.1
theorem halfB_in {s : Int} (h : 0 ≤ s ∧ s < 256) : 16 ≤ halfB s ∧ halfB s ≤ 65 := by
  have h1 := Int.tmod_nonneg 50 h.1
  have h2 := Int.tmod_lt_of_pos s (by decide : (0 : Int) < 50)
  unfold halfB
  rw [wrap_i64_id (n := s.tmod 50) (by omega), wrap_i64_id (by omega)]
  omega

/-! ### WalScript -/
theorem good_open {l : Lg} (g : Good l) (c : Calm l.d) : (openM l.d).2 = 0 ∧ Came l.d (openM l.d).1 l.region l.turn l.recs l.next ∧ Calm (openM l.d).1.d := by
  have h0 := open_calm g.wait g.len g.y g.half g.lay c
  exact ⟨h0.1, (open_came g.wait g.len g.y g.down g.half g.lay).1 h0.1, h0.2⟩
theorem ScrI.next {h : Int} {k : Nat} {l : Lg} (i : ScrI h k l) : ScrI h (k + 1) l := ⟨i.good, i.calm, i.half, by have := i.turn; omega⟩
theorem scr_open {h : Int} {k : Nat} {l : Lg} (i : ScrI h k l) : openOk l.d ∧ (openM l.d).2 = 0 ∧ ScrI h (k + 1) (openM l.d).1 ∧ (openM l.d).1.recs = l.recs ∧ (openM l.d).1.turn = l.turn ∧ (openM l.d).1.next = l.next := by
  obtain ⟨h0, hc, hm⟩ := good_open i.good i.calm
  exact ⟨i.good.open_ok, h0, ⟨hc.good, hm, (half_len hc.len).trans i.half, by rw [hc.turn]; have := i.turn; omega⟩, hc.recs, hc.turn, hc.next⟩
theorem scr_begin {h : Int} {k : Nat} {l : Lg} {b : List Int} (i : ScrI h k l) (hk : k ≤ 100) (hb : b.length ≤ 17000) (hy : bytesOk b) : begOk l b ∧ ScrI h (k + 1) (beginM l b).1 ∧
    ((b.length : Int) > 16384 → beginM l b = (l, 12)) ∧ (¬ (b.length : Int) > 16384 → IntKind.i64.wrap (1 + secsOf (b.length : Int)) > h → beginM l b = (l, 4)) ∧
    (¬ (b.length : Int) > 16384 → ¬ IntKind.i64.wrap (1 + secsOf (b.length : Int)) > h → (beginM l b).2 = 0 ∧ (beginM l b).1.recs = [b] ∧ (beginM l b).1.turn = IntKind.i64.wrap (l.turn + 1) ∧ (beginM l b).1.next = IntKind.i64.wrap (1 + secsOf (b.length : Int))) := by
  have g := i.good
  have ht := i.turn
  have ht1 := g.lay.t32
  have hh := i.half
  refine ⟨g.begOk (by omega), ?_⟩
  by_cases h1 : (b.length : Int) > 16384
  · have e := begin_long (b := b) g.br h1
    rw [e]
    exact ⟨i.next, fun _ => rfl, fun hx => absurd h1 hx, fun hx => absurd h1 hx⟩
  · rw [beg_room (by omega)]
    by_cases h2 : 2 + (secsN b.length : Int) > h
    · have e := begin_full (b := b) g.br (by omega) (by rw [hh]; omega)
      rw [e]
      exact ⟨i.next, fun hx => absurd hx h1, fun _ _ => rfl, fun _ hx => absurd h2 hx⟩
    · obtain ⟨e, cm⟩ := begin_calm (g.beg (by omega)) (b := b) (by omega) (by rw [hh]; omega) i.calm
      have hc := (begin_good g (by omega) (b := b) (by omega) hy (by rw [hh]; omega)).1 e
      refine ⟨⟨hc.good, cm, (half_len hc.len).trans hh, by rw [hc.turn]; omega⟩, fun hx => absurd hx h1, fun _ hx => absurd hx h2, fun _ _ => ⟨e, hc.recs, ?_, hc.next⟩⟩
      rw [hc.turn, wrap_i64_id (by omega)]
theorem scr_append {h : Int} {k : Nat} {l : Lg} {b : List Int} (i : ScrI h k l) (hb : b.length ≤ 17000) (hy : bytesOk b) : appOk l b ∧ ScrI h (k + 1) (appendM l b).1 ∧
    ((b.length : Int) > 16384 → appendM l b = (l, 12)) ∧ (¬ (b.length : Int) > 16384 → IntKind.i64.wrap (l.next + secsOf (b.length : Int)) > h → appendM l b = (l, 4)) ∧
    (¬ (b.length : Int) > 16384 → ¬ IntKind.i64.wrap (l.next + secsOf (b.length : Int)) > h → (appendM l b).2 = 0 ∧ (appendM l b).1.recs = l.recs ++ [b] ∧ (appendM l b).1.turn = l.turn ∧ (appendM l b).1.next = IntKind.i64.wrap (l.next + secsOf (b.length : Int))) := by
  have g := i.good
  have ht := i.turn
  have hh := i.half
  have hle := g.lay.le
  have hin := half_in g.len
  refine ⟨g.app (by omega), ?_⟩
  by_cases h1 : (b.length : Int) > 16384
  · have e := append_long (b := b) g.br h1
    rw [e]
    exact ⟨i.next, fun _ => rfl, fun hx => absurd h1 hx, fun hx => absurd h1 hx⟩
  · have hsn : 64 * secsN b.length ≤ b.length + 63 := by unfold secsN; omega
    rw [secs_eq b.length (by omega), wrap_i64_id (by omega), show l.next + (1 + (secsN b.length : Int)) = l.next + 1 + (secsN b.length : Int) by omega]
    by_cases h2 : l.next + 1 + (secsN b.length : Int) > h
    · have e := append_full (b := b) g (by omega) (by rw [hh]; omega)
      rw [e]
      exact ⟨i.next, fun hx => absurd hx h1, fun _ _ => rfl, fun _ hx => absurd h2 hx⟩
    · obtain ⟨e, cm⟩ := append_calm g (b := b) (by omega) (by rw [hh]; omega) i.calm
      have hc := (append_came g (b := b) (by omega) hy (by rw [hh]; omega)).1 e
      exact ⟨⟨hc.good, cm, (half_len hc.len).trans hh, by rw [hc.turn]; omega⟩, fun hx => absurd hx h1, fun _ hx => absurd hx h2, fun _ _ => ⟨e, hc.recs, hc.turn, hc.next⟩⟩
theorem bytesA_ok {a : Act} (h : actOk a) : (bytesA a).length ≤ 17000 ∧ bytesOk (bytesA a) := by
  obtain ⟨_, hl, hb, hn⟩ := h
  have h1 := Int.tmod_nonneg 17000 hn.1
  have h2 := Int.tmod_lt_of_pos a.long (by decide : (0 : Int) < 17000)
  unfold bytesA
  split
  · refine ⟨by rw [List.length_replicate]; omega, fun x hx => ?_⟩
    rw [List.eq_of_mem_replicate hx]
    decide
  · refine ⟨?_, take_bytes hb _⟩
    rw [take_len a.bytes 300 (by omega)]
    omega
theorem head_mem {xs : List Act} (h : actsOk xs) {m : Int} {k : Nat} (hk : k < (headA xs m).length) : actOk ((headA xs m).getD k zeroA) := by
  have : (headA xs m).getD k zeroA ∈ headA xs m := by
    rw [List.getD_eq_getElem?_getD, List.getElem?_eq_getElem hk]
    exact List.getElem_mem _
  exact h.2 _ (List.mem_of_mem_take (List.mem_of_mem_drop this))
theorem headA_len (xs : List Act) (m : Int) (hm : 0 ≤ m) : (headA xs m).length = min xs.length m.toNat ∧ ((headA xs m).length : Int) = mn (xs.length : Int) m := by
  unfold headA
  rw [List.drop_zero, List.length_take]
  unfold mn
  split <;> omega
theorem halfN_in {s : Int} (h : 0 ≤ s ∧ s < 65536) : 4 ≤ halfN s ∧ halfN s ≤ 256 := by
  have h1 := Int.tmod_nonneg 253 h.1
  have h2 := Int.tmod_lt_of_pos s (by decide : (0 : Int) < 253)
  unfold halfN
  rw [wrap_i64_id (n := s.tmod 253) (by omega), wrap_i64_id (by omega)]
  omega
/-! ### WalStops -/
theorem StoI.next {k : Nat} {l : Lg} (i : StoI k l) : StoI (k + 1) l := ⟨i.good, i.fail, i.half, by have := i.turn; omega⟩
theorem bK_ok {xs : List Act} (h : actsOk xs) {k : Nat} (hk : k < (headA xs 20).length) : (bK xs k).length ≤ 300 ∧ bytesOk (bK xs k) := by
  have ha := head_mem h hk
  unfold bK
  refine ⟨?_, take_bytes ha.2.2.1 _⟩
  rw [take_len _ 300 (by omega)]
  omega
theorem recs_map_le {l : Lg} (g : Good l) : (l.recs.map bytesOf).length ≤ 256 := by rw [List.length_map]; exact g.recs_le
/-- A record is appended. -/
theorem sto_append {xs : List Act} {k : Nat} {l : Lg} (hx : actsOk xs) (hk : k < (headA xs 20).length) (i : StoI k l) :
    StoA xs k ⟨(appendM l (bK xs k)).1, (appendM l (bK xs k)).2, false, l.recs.map bytesOf, l.turn, l.recs.map bytesOf ++ [bytesOf (bK xs k)], l.turn⟩ := by
  have g := i.good
  have hb := bK_ok hx hk
  have hk2 := (headA_len xs 20 (by omega)).1
  have ht := i.turn
  have ht1 := g.lay.t32
  by_cases hf : l.next + 1 + (secsN (bK xs k).length : Int) ≤ halfOf l.d
  · have h2 := append_only g (b := bK xs k) (by omega) hf (.inl ⟨rfl, i.fail⟩ : Only 9 l.d)
    have hc := append_came g (b := bK xs k) (by omega) hb.2 hf
    have hdk := append_dok g (b := bK xs k) (by omega) hb.2
    have hrl := recs_map_le g
    refine .inr ⟨?_, rfl, ⟨hdk, h2.1, fun h0 => ?_, fun h9 => ?_⟩, by show (l.recs.map bytesOf).length ≤ 300; omega, ⟨by show 0 ≤ l.turn; omega, by show l.turn ≤ 1000; omega⟩, rfl, rfl⟩
    · show (appendM l (bK xs k)).2 ≠ 4
      rcases h2.1 with h | h <;> rw [h] <;> decide
    · have hc := hc.1 h0
      have hff : (appendM l (bK xs k)).1.d.fail = -1 := by
        rcases h2.2 with ⟨_, h⟩ | ⟨h, _⟩
        · exact h
        · exact absurd h (by decide)
      refine ⟨⟨hc.good, hff, (half_len hc.len).trans i.half, ?_⟩, ?_, hc.turn⟩
      · show (appendM l (bK xs k)).1.turn ≤ _
        rw [hc.turn]; omega
      · show (appendM l (bK xs k)).1.recs.map bytesOf = _
        rw [hc.recs, List.map_append]; rfl
    · have h9 : (appendM l (bK xs k)).2 = 9 := h9
      refine ⟨append_lost g (by omega) hb.2 hf (by rw [h9]; decide) (.inl ⟨rfl, rfl⟩) (.inr ⟨by rw [List.map_append]; rfl, rfl⟩), by show (l.recs.map bytesOf).length ≤ _; omega, ?_, ?_, by show l.turn ≤ 1001; omega, by show l.turn ≤ 1001; omega⟩
      · show (l.recs.map bytesOf ++ [bytesOf (bK xs k)]).length ≤ _
        rw [List.length_append, List.length_singleton]; omega
      · exact (half_len (append_len l (bK xs k))).trans i.half
  · rw [append_full g (by omega) hf]
    exact .inl ⟨rfl, i, rfl, rfl⟩
/-- It is begun anew. -/
theorem sto_begin {xs : List Act} {k : Nat} {l : Lg} (hx : actsOk xs) (hk : k < (headA xs 20).length) (i : StoI k l) :
    begOk l (bK xs k) ∧ StoB xs k ⟨(beginM l (bK xs k)).1, (beginM l (bK xs k)).2, true, l.recs.map bytesOf, l.turn, [bytesOf (bK xs k)], l.turn + 1⟩ := by
  have g := i.good
  have hb := bK_ok hx hk
  have hk2 := (headA_len xs 20 (by omega)).1
  have ht := i.turn
  have ht1 := g.lay.t32
  have hsn : 64 * secsN (bK xs k).length ≤ (bK xs k).length + 63 := by unfold secsN; omega
  have hf : 2 + (secsN (bK xs k).length : Int) ≤ halfOf l.d := by rw [i.half]; omega
  have hlt : l.turn < 4294967295 := by omega
  have h2 := begin_only (g.beg hlt) (b := bK xs k) (by omega) hf (.inl ⟨rfl, i.fail⟩ : Only 9 l.d)
  have hc := begin_good g hlt (b := bK xs k) (by omega) hb.2 hf
  have hdk := begin_dok g hlt (b := bK xs k) (by omega) hb.2
  have hrl := recs_map_le g
  refine ⟨g.begOk (by omega), ⟨hdk, h2.1, fun h0 => ?_, fun h9 => ?_⟩, by show (l.recs.map bytesOf).length ≤ 300; omega, ⟨by show 0 ≤ l.turn; omega, by show l.turn ≤ 1000; omega⟩, rfl, rfl⟩
  · have hc := hc.1 h0
    have hff : (beginM l (bK xs k)).1.d.fail = -1 := by
      rcases h2.2 with ⟨_, h⟩ | ⟨h, _⟩
      · exact h
      · exact absurd h (by decide)
    refine ⟨⟨hc.good, hff, (half_len hc.len).trans i.half, ?_⟩, ?_, hc.turn⟩
    · show (beginM l (bK xs k)).1.turn ≤ _
      rw [hc.turn]; omega
    · show (beginM l (bK xs k)).1.recs.map bytesOf = _
      rw [hc.recs]; rfl
  · have h9 : (beginM l (bK xs k)).2 = 9 := h9
    refine ⟨begin_lost g hlt (by omega) hb.2 hf (by rw [h9]; decide) (.inl ⟨rfl, rfl⟩) (.inr ⟨rfl, rfl⟩), by show (l.recs.map bytesOf).length ≤ _; omega, by show 1 ≤ _; omega, ?_, by show l.turn ≤ 1001; omega, by show l.turn + 1 ≤ 1001; omega⟩
    exact (half_len (beginM_len l (bK xs k))).trans i.half
/-- What is found behind the stop. -/
theorem sto_found {l : Lg} {x : StoG} {k : Nat} (j : StoJ k x) (h9 : x.e = 9) (g : Good l) (hf : l.d.fail = -1) (hh : halfOf l.d = 30) (hP : (l.recs.map bytesOf = x.rs ∧ l.turn = x.t) ∨ (l.recs.map bytesOf = x.more ∧ l.turn = x.next)) : StoK ⟨l, 0, false, x.rs, x.t, x.more, x.next⟩ := by
  obtain ⟨_, h1, h2, _, h3, h4⟩ := j.lost h9
  exact ⟨g, hf, hh, hP, ⟨h1, h2⟩, h3, h4⟩
theorem new_ok : bytesOk [110, 101, 119] := by
  intro x hx
  simp at hx
  omega
/-- It is written to again. -/
theorem sto_new {l : Lg} (g : Good l) (c : Calm l.d) (hh : halfOf l.d = 30) (ht : l.turn ≤ 1001) :
    (((appendM l [110, 101, 119]).2 = 0 ∧ Good (appendM l [110, 101, 119]).1 ∧ Calm (appendM l [110, 101, 119]).1.d) ∨ appendM l [110, 101, 119] = (l, 4)) ∧
    begOk l [110, 101, 119] ∧ (beginM l [110, 101, 119]).2 = 0 ∧ (beginM l [110, 101, 119]).1.recs.length = 1 ∧ Good (beginM l [110, 101, 119]).1 ∧ Calm (beginM l [110, 101, 119]).1.d := by
  have hs : secsN ([110, 101, 119] : List Int).length = 1 := rfl
  refine ⟨?_, g.begOk (by decide), ?_⟩
  · by_cases hf : l.next + 1 + (secsN ([110, 101, 119] : List Int).length : Int) ≤ halfOf l.d
    · obtain ⟨e, cm⟩ := append_calm g (b := [110, 101, 119]) (by decide) hf c
      exact .inl ⟨e, ((append_came g (b := [110, 101, 119]) (by decide) new_ok hf).1 e).good, cm⟩
    · exact .inr (append_full g (by decide) hf)
  · have hf : 2 + (secsN ([110, 101, 119] : List Int).length : Int) ≤ halfOf l.d := by rw [hs]; omega
    obtain ⟨e, cm⟩ := begin_calm (g.beg (by omega)) (b := [110, 101, 119]) (by decide) hf c
    have hc := (begin_good g (by omega) (b := [110, 101, 119]) (by decide) new_ok hf).1 e
    exact ⟨e, by rw [hc.recs]; rfl, hc.good, cm⟩
end Go.Proofs.Ytgimkldaeobhnaa.Dsk
