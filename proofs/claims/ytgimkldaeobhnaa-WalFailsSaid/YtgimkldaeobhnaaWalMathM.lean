/- The log, in plain terms: a log that broke, and the one that is found behind a restart. -/
import Derived.Test.YtgimkldaeobhnaaWalSpecB
namespace Go.Proofs.Ytgimkldaeobhnaa.Dsk
open Go Go.Proofs.Ytgimkldaeobhnaa.Sx

/-! ### a disk that only stops, or only fails -/
def Only (e : Int) (d : Dk) : Prop := (e = 9 ∧ d.fail = -1) ∨ (e = 10 ∧ d.left = -1 ∧ d.down = false)
theorem Only.e {e : Int} {d : Dk} (h : Only e d) : callE d = 0 ∨ callE d = e := by
  rcases h with ⟨rfl, h⟩ | ⟨rfl, h1, h2⟩
  · exact call_two h
  · unfold callE
    rw [if_neg (by rw [h1, h2]; decide)]
    split
    · exact .inr rfl
    · exact .inl rfl
theorem Only.call {e : Int} {d : Dk} (h : Only e d) : Only e d.call := by
  rcases h with ⟨rfl, h⟩ | ⟨rfl, h1, h2⟩
  · exact .inl ⟨rfl, fail_call h⟩
  · refine .inr ⟨rfl, ?_, ?_⟩
    · show mx (-1) (IntKind.i64.wrap (d.left - 1)) = -1
      rw [h1]; decide
    · show (d.down || d.left == 0) = false
      rw [h1, h2]; decide
theorem Only.write {e : Int} {d : Dk} (h : Only e d) (n : Int) (x : Sec) : Only e (d.write n x) := by
  unfold Dk.write
  split
  · exact h
  split
  · split
    · exact h.call
    · exact h.call
  · exact h
theorem Only.flush {e : Int} {d : Dk} (h : Only e d) : Only e d.flush := by
  unfold Dk.flush
  split
  · exact h
  split
  · exact h.call
  · exact h.call
theorem Only.writeE {e : Int} {d : Dk} (h : Only e d) {n : Int} (hn : 0 ≤ n ∧ n < d.kept.length) : writeE d n = 0 ∨ writeE d n = e := by
  unfold Dsk.writeE
  split
  · rename_i hd
    rcases h with ⟨rfl, _⟩ | ⟨_, _, h2⟩
    · exact .inr rfl
    · rw [h2] at hd; cases hd
  · rw [if_pos (inD_iff.2 hn)]; exact h.e
theorem Only.flushE {e : Int} {d : Dk} (h : Only e d) : flushE d = 0 ∨ flushE d = e := by
  unfold Dsk.flushE
  split
  · rename_i hd
    rcases h with ⟨rfl, _⟩ | ⟨_, _, h2⟩
    · exact .inr rfl
    · rw [h2] at hd; cases hd
  · exact h.e
theorem clearGo_only {e r : Int} (hr : 0 ≤ r ∧ r ≤ 1) : ∀ (m : Nat) (d : Dk) (k : Int), d.kept.length ≤ 512 → Only e d → 0 ≤ k → k + m ≤ halfOf d → ((clearGo d r k m).2 = 0 ∨ (clearGo d r k m).2 = e) ∧ Only e (clearGo d r k m).1
  | 0, d, k, _, hc, _, _ => ⟨hc.flushE, hc.flush⟩
  | m + 1, d, k, hd, hc, hk, hm => by
    have hh := half_in hd
    have hp : posOf d r k = r * halfOf d + k := posOf_eq hd hr ⟨hk, by omega⟩
    have hl : halfOf (d.write (posOf d r k) zeroS) = halfOf d := half_len (write_len ..)
    have hi : 0 ≤ posOf d r k ∧ posOf d r k < d.kept.length := by rw [hp]; rcases (show r = 0 ∨ r = 1 by omega) with rfl | rfl <;> omega
    rw [clearGo]
    split
    · exact ⟨hc.writeE hi, hc.write _ _⟩
    · exact clearGo_only hr m _ _ (by rw [write_len]; exact hd) (hc.write _ _) (by omega) (by rw [hl]; omega)
theorem clearM_only {e r k : Int} {d : Dk} (hr : 0 ≤ r ∧ r ≤ 1) (hd : d.kept.length ≤ 512) (hc : Only e d) (hk : 0 ≤ k) : ((clearM d r k).2 = 0 ∨ (clearM d r k).2 = e) ∧ Only e (clearM d r k).1 := by
  unfold clearM
  by_cases hm : k ≤ halfOf d
  · exact clearGo_only hr _ d k hd hc hk (by omega)
  · rw [show (halfOf d - k).toNat = 0 by omega]
    exact ⟨hc.flushE, hc.flush⟩
theorem putEnd_only {e p kind id : Int} {b : List Int} {d : Dk} (hp : 0 ≤ p ∧ p < d.kept.length) (hc : Only e d) : ((putEnd d p kind id b).2 = 0 ∨ (putEnd d p kind id b).2 = e) ∧ Only e (putEnd d p kind id b).1 := by
  unfold putEnd
  split
  · exact ⟨hc.flushE, hc.flush⟩
  split
  · exact ⟨hc.flush.writeE (by rw [flush_len]; exact hp), hc.flush.write _ _⟩
  · exact ⟨(hc.flush.write _ _).flushE, (hc.flush.write _ _).flush⟩
theorem putGo_only {e p kind id : Int} {b : List Int} (hb : b.length ≤ 20000) : ∀ (m : Nat) (d : Dk) (j : Nat), j + m = secsN b.length → (0 ≤ p ∧ p + (secsN b.length : Int) < d.kept.length) → d.kept.length ≤ 512 → Only e d → ((putGo d p kind id b j m).2 = 0 ∨ (putGo d p kind id b j m).2 = e) ∧ Only e (putGo d p kind id b j m).1
  | 0, d, j, hj, hp, hd, hc => putEnd_only (by omega) hc
  | m + 1, d, j, hj, hp, hd, hc => by
    have hw : IntKind.i64.wrap (p + ((j : Int) + 1)) = p + 1 + (j : Int) := by rw [wrap_i64_id (by omega)]; omega
    rw [putGo, hw]
    split
    · exact ⟨hc.writeE (by omega), hc.write _ _⟩
    · exact putGo_only hb m _ (j + 1) (by omega) (by rw [write_len]; exact hp) (by rw [write_len]; exact hd) (hc.write _ _)
theorem putM_only {d : Dk} {e r a kind id : Int} {b : List Int} (hd : d.kept.length ≤ 512) (hr : 0 ≤ r ∧ r ≤ 1) (ha : 0 ≤ a) (hb : b.length ≤ 20000) (hf : a + secsOf (b.length : Int) ≤ halfOf d) (hx : Only e d) : ((putM d r a kind id b).2 = 0 ∨ (putM d r a kind id b).2 = e) ∧ Only e (putM d r a kind id b).1 :=
  putGo_only hb _ d 0 (by omega) (pos_in hd hr ha hb hf).2 hd hx
theorem append_only {e : Int} {l : Lg} {b : List Int} (g : Good l) (hb : b.length ≤ 16384) (hf : l.next + 1 + (secsN b.length : Int) ≤ halfOf l.d) (hx : Only e l.d) : ((appendM l b).2 = 0 ∨ (appendM l b).2 = e) ∧ Only e (appendM l b).1.d := by
  have hle := g.lay.le
  have h := putM_only (kind := 2) (id := (l.recs.length : Int)) g.len g.lay.r01 (show 0 ≤ l.next by omega) (show b.length ≤ 20000 by omega) (by rw [secs_eq b.length (by omega)]; omega) hx
  rw [append_eq g hb hf]
  split
  · exact h
  · exact ⟨.inl rfl, h.2⟩
theorem begin_only {e : Int} {l : Lg} {b : List Int} (g : BegR l) (hb : b.length ≤ 16384) (hf : 2 + (secsN b.length : Int) ≤ halfOf l.d) (hx : Only e l.d) : ((beginM l b).2 = 0 ∨ (beginM l b).2 = e) ∧ Only e (beginM l b).1.d := by
  have hr := g.r01
  have h4 := g.half
  have ho : 0 ≤ 1 - l.region ∧ 1 - l.region ≤ 1 := by omega
  have eA := begA_eq g
  have eB := begB_eq g b
  have eC := begC_eq g b
  have lA : (begA l).1.kept.length = l.d.kept.length := by rw [eA]; exact clearM_len ..
  have lB : (begB l b).1.kept.length = l.d.kept.length := by rw [eB, putM_len, lA]
  have hs := secs_eq b.length (by omega)
  have cA := clearM_only (k := 0) ho g.len hx (Int.le_refl 0)
  rw [← eA] at cA
  have cB := putM_only (kind := 2) (id := 0) (a := 1) (b := b) (by rw [lA]; exact g.len) ho (by omega) (by omega) (by rw [half_len lA]; omega) cA.2
  rw [← eB] at cB
  have cC := putM_only (kind := 1) (id := l.turn + 1) (a := 0) (b := []) (by rw [lB]; exact g.len) ho (by omega) (by decide) (by rw [half_len lB, show secsOf (([] : List Int).length : Int) = 1 by decide]; omega) cB.2
  rw [← eC] at cC
  rw [begin_eq g hb hf]
  split
  · exact cA
  split
  · exact cB
  split
  · exact cC
  · exact ⟨.inl rfl, cC.2⟩
theorem Only.calm {e : Int} {d : Dk} (h : Calm d) (he : e = 9 ∨ e = 10) : Only e d := by
  rcases he with rfl | rfl
  · exact .inl ⟨rfl, h.fail⟩
  · exact .inr ⟨rfl, h.left, h.down⟩

/-! ### a log that broke -/
theorem Good.dok {l : Lg} (g : Good l) : DOk l := ⟨g.b, g.y, g.lay.r01, by have := g.lay.le; omega, by have := g.recs_le; omega⟩
theorem append_dok {l : Lg} {b : List Int} (g : Good l) (hb : b.length ≤ 16384) (hy : bytesOk b) : DOk (appendM l b).1 := by
  by_cases hf : l.next + 1 + (secsN b.length : Int) ≤ halfOf l.d
  · by_cases he : (appendM l b).2 = 0
    · exact ((append_came g hb hy hf).1 he).good.dok
    · have hl := append_len l b
      have hb2 : DkB (appendM l b).1.d (0 + 1000) := append_b g.b (by omega)
      have hy2 := append_y g.y hy
      have ha := append_eq g hb hf
      split at ha
      · rw [ha] at hl hb2 hy2 ⊢
        refine ⟨hb2.mono (by omega), hy2, g.lay.r01, ?_, ?_⟩
        · rw [half_len hl]
          show 0 ≤ l.next ∧ l.next ≤ halfOf l.d
          have := g.lay.le; omega
        · show l.recs.length ≤ 1000
          have := g.recs_le; omega
      · rw [ha] at he
        exact absurd rfl he
  · rw [append_full g hb hf]
    exact g.dok
theorem begin_dok {l : Lg} {b : List Int} (g : Good l) (ht : l.turn < 4294967295) (hb : b.length ≤ 16384) (hy : bytesOk b) : DOk (beginM l b).1 := by
  by_cases hf : 2 + (secsN b.length : Int) ≤ halfOf l.d
  · by_cases he : (beginM l b).2 = 0
    · exact ((begin_good g ht hb hy hf).1 he).good.dok
    · have hl := beginM_len l b
      have hb2 : DkB (beginM l b).1.d (0 + 1000) := begin_b g.b (by omega)
      have hy2 := begin_y g.y hy
      have key : ∀ x : Dk × Int, beginM l b = failM l x → DOk (beginM l b).1 := by
        intro x hx
        rw [hx] at hl hb2 hy2 ⊢
        refine ⟨hb2.mono (by omega), hy2, g.lay.r01, ?_, ?_⟩
        · rw [half_len hl]
          show 0 ≤ l.next ∧ l.next ≤ halfOf l.d
          have := g.lay.le; omega
        · show l.recs.length ≤ 1000
          have := g.recs_le; omega
      have ha := begin_eq (g.beg ht) hb hf
      split at ha
      · exact key _ ha
      split at ha
      · exact key _ ha
      split at ha
      · exact key _ ha
      · rw [ha] at he
        exact absurd rfl he
  · rw [begin_full g.br hb hf]
    exact g.dok
theorem append_lost {l : Lg} {b : List Int} (g : Good l) (hb : b.length ≤ 16384) (hy : bytesOk b) (hf : l.next + 1 + (secsN b.length : Int) ≤ halfOf l.d) (he : (appendM l b).2 ≠ 0) {P : List (List Int) → Int → Prop} (h1 : P l.recs l.turn) (h2 : P (l.recs ++ [b]) l.turn) : Lost (appendM l b).1 P := by
  obtain ⟨hbr, ha⟩ := (append_came g hb hy hf).2 he
  have hh : halfOf (appendM l b).1.d = halfOf l.d := half_len (append_len l b)
  refine ⟨append_dok g hb hy, hbr, by rw [hh]; exact g.half, ha.mono fun c hc => ?_⟩
  rw [hh]
  rcases hc with hc | hc
  · exact ⟨_, _, _, _, hc, h1⟩
  · exact ⟨_, _, _, _, hc, h2⟩
theorem begin_lost {l : Lg} {b : List Int} (g : Good l) (ht : l.turn < 4294967295) (hb : b.length ≤ 16384) (hy : bytesOk b) (hf : 2 + (secsN b.length : Int) ≤ halfOf l.d) (he : (beginM l b).2 ≠ 0) {P : List (List Int) → Int → Prop} (h1 : P l.recs l.turn) (h2 : P [b] (l.turn + 1)) : Lost (beginM l b).1 P := by
  obtain ⟨hbr, ha⟩ := (begin_good g ht hb hy hf).2 he
  have hh : halfOf (beginM l b).1.d = halfOf l.d := half_len (beginM_len l b)
  refine ⟨begin_dok g ht hb hy, hbr, by rw [hh]; exact g.half, ha.mono fun c hc => ?_⟩
  rw [hh]
  rcases hc with hc | hc
  · exact ⟨_, _, _, _, hc, h1⟩
  · exact ⟨_, _, _, _, hc, h2⟩
/-- A disk on which a log is lost. -/
structure LostD (d : Dk) (P : List (List Int) → Int → Prop) : Prop where
  b : DkB d 200000
  y : DkY d
  half : 4 ≤ halfOf d
  after : RecsAfter d P
theorem Lost.d {l : Lg} {P : List (List Int) → Int → Prop} (h : Lost l P) : LostD l.d P := ⟨h.ok.b.mono (by omega), h.ok.y, h.half, h.after⟩
theorem re_len (d : Dk) (a t b : Int) : (d.restart a t b).kept.length = d.kept.length := keptR_len ..
/-- It is opened behind a restart. -/
theorem LostD.reopen {d : Dk} {P : List (List Int) → Int → Prop} (h : LostD d P) (a t b x : Int) :
    (openOk { d.restart a t b with left := x }) ∧
    ((openM { d.restart a t b with left := x }).2 = 0 → Good (openM { d.restart a t b with left := x }).1 ∧ P (openM { d.restart a t b with left := x }).1.recs (openM { d.restart a t b with left := x }).1.turn ∧ (openM { d.restart a t b with left := x }).1.d.fail = -1 ∧ halfOf (openM { d.restart a t b with left := x }).1.d = halfOf d) ∧
    ((openM { d.restart a t b with left := x }).2 ≠ 0 → (openM { d.restart a t b with left := x }).2 = 9 ∧ LostD (openM { d.restart a t b with left := x }).1.d P ∧ halfOf (openM { d.restart a t b with left := x }).1.d = halfOf d) ∧
    (x = -1 → (openM { d.restart a t b with left := x }).2 = 0) := by
  have hl : ({ d.restart a t b with left := x } : Dk).kept.length = d.kept.length := re_len d a t b
  have hc : cont ({ d.restart a t b with left := x } : Dk) = cont (d.restart a t b) := funext fun i => cont_arm (d := d.restart a t b) rfl x (-1) d.calls i
  have hb : DkB ({ d.restart a t b with left := x } : Dk) 0 := h.b.restart a t b
  have hy : DkY ({ d.restart a t b with left := x } : Dk) := h.y.restart a t b
  have hh : halfOf ({ d.restart a t b with left := x } : Dk) = halfOf d := half_len hl
  have hw : ({ d.restart a t b with left := x } : Dk).wait = [] := rfl
  have hdn : ({ d.restart a t b with left := x } : Dk).down = false := rfl
  have hfl : ({ d.restart a t b with left := x } : Dk).fail = -1 := rfl
  have hlf : ({ d.restart a t b with left := x } : Dk).left = x := rfl
  obtain ⟨r, u, rs, n, hlay, hP⟩ := h.after a t b
  rw [← hc] at hlay
  generalize ({ d.restart a t b with left := x } : Dk) = e at *
  rw [← hh] at hlay
  have h4 : 4 ≤ halfOf e := by rw [hh]; exact h.half
  have hcm := open_came hw hb.1 hy hdn h4 hlay
  have heq := open_lay hw hb.1 hy hdn h4 hlay
  have hle := hlay.le
  refine ⟨⟨hb.mono (by omega), hy⟩, fun h0 => ?_, fun h0 => ?_, fun hx => ?_⟩
  · have hg := hcm.1 h0
    refine ⟨hg.good, ?_, ?_, ?_⟩
    · rw [hg.recs, hg.turn]; exact hP
    · rw [heq]; exact clearM_fail hfl
    · rw [half_len hg.len, hh]
  · have hlen : (openM e).1.d.kept.length = e.kept.length := by rw [heq]; exact clearM_len ..
    have he : halfOf (openM e).1.d = halfOf e := half_len hlen
    refine ⟨(open_two hw hb.1 hy hdn h4 hlay hfl).resolve_left h0, ⟨(open_b hb hy).mono (by omega), open_y hy, by rw [he]; exact h4, (hcm.2 h0).mono fun c hcc => ?_⟩, by rw [he, hh]⟩
    rw [he]
    exact ⟨r, u, rs, n, hcc, hP⟩
  · exact (open_calm hw hb.1 hy h4 hlay ⟨hdn, by rw [hlf, hx], hfl⟩).1
end Go.Proofs.Ytgimkldaeobhnaa.Dsk
