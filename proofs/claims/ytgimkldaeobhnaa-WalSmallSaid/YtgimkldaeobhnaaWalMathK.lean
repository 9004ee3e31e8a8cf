/- The log, in plain terms: beginning, whatever the disk does. -/
import Derived.Test.YtgimkldaeobhnaaWalMathJ
namespace Go.Proofs.Ytgimkldaeobhnaa.Dsk
open Go Go.Proofs.Ytgimkldaeobhnaa.Sx

/-- What may stand on the disk while the other region is laid: that region's head is of no turn that far; the rest of the disk is as it was. -/
def BegQ (c : Int → Sec) (h o t : Int) (i : Int) (s : Sec) : Prop := if i = o * h then Low t s else if o * h < i ∧ i < o * h + h then True else s = c i
theorem begQ_zero {c : Int → Sec} {h o t i : Int} (h1 : o * h ≤ i) (h2 : i < o * h + h) : TQ (BegQ c h o t) i zeroS := by
  refine ⟨?_, fun s m hs => ?_⟩
  · show if _ then _ else _
    split
    · exact low_tq.1
    · rw [if_pos (by omega)]; trivial
  · replace hs : if _ then _ else _ := hs
    show if _ then _ else _
    split
    · rename_i hi
      rw [if_pos hi] at hs
      exact low_tq.2 s m hs
    · rw [if_pos (by omega)]; trivial
theorem begQ_in {c : Int → Sec} {h o t i : Int} (x : Sec) (h1 : o * h < i) (h2 : i < o * h + h) : TQ (BegQ c h o t) i x := by
  refine ⟨?_, fun s m _ => ?_⟩ <;>
  · show if _ then _ else _
    rw [if_neg (by omega), if_pos (by omega)]; trivial
/-- What a log must be to begin. -/
structure BegR (l : Lg) : Prop where
  wait : l.d.wait = []
  len : l.d.kept.length ≤ 512
  y : DkY l.d
  br : l.broken = false
  half : 4 ≤ halfOf l.d
  r01 : 0 ≤ l.region ∧ l.region ≤ 1
  turn : 0 ≤ l.turn ∧ l.turn < 4294967295
  other : Low l.turn (cont l.d ((1 - l.region) * halfOf l.d))
  mine : Low (l.turn + 1) (cont l.d (l.region * halfOf l.d))
theorem begin_broken {l : Lg} {b : List Int} (h : l.broken = true) : beginM l b = (l, 11) := by unfold beginM; rw [if_pos h]
theorem begin_long {l : Lg} {b : List Int} (h : l.broken = false) (h2 : (b.length : Int) > 16384) : beginM l b = (l, 12) := by unfold beginM; rw [if_neg (by rw [h]; decide), if_pos h2]
theorem beg_room {b : List Int} (hb : b.length ≤ 16384) : IntKind.i64.wrap (1 + secsOf (b.length : Int)) = 2 + (secsN b.length : Int) := by
  have hsn : 64 * secsN b.length ≤ b.length + 63 := by unfold secsN; omega
  rw [secs_eq b.length (by omega), wrap_i64_id (by omega)]
  omega
theorem begin_full {l : Lg} {b : List Int} (h : l.broken = false) (hb : b.length ≤ 16384) (hf : ¬ 2 + (secsN b.length : Int) ≤ halfOf l.d) : beginM l b = (l, 4) := by
  unfold beginM
  rw [if_neg (by rw [h]; decide), if_neg (by omega), if_pos (by rw [beg_room hb]; omega)]
theorem begin_eq {l : Lg} {b : List Int} (g : BegR l) (hb : b.length ≤ 16384) (hf : 2 + (secsN b.length : Int) ≤ halfOf l.d) : beginM l b =
    if ((begA l).2 != 0) = true then failM l (begA l) else if ((begB l b).2 != 0) = true then failM l (begB l b) else if ((begC l b).2 != 0) = true then failM l (begC l b) else
    (⟨(begC l b).1, 1 - l.region, l.turn + 1, 2 + (secsN b.length : Int), [b], l.broken⟩, 0) := by
  have h1 := g.r01
  have h2 := g.turn
  unfold beginM
  rw [if_neg (by rw [g.br]; decide), if_neg (by omega), if_neg (by rw [beg_room hb]; omega), beg_room hb, wrap_i64_id (n := 1 - l.region) (by omega), wrap_i64_id (n := l.turn + 1) (by omega)]
theorem begA_eq {l : Lg} (g : BegR l) : begA l = clearM l.d (1 - l.region) 0 := by
  have h1 := g.r01
  unfold begA
  rw [wrap_i64_id (by omega)]
theorem begB_eq {l : Lg} (g : BegR l) (b : List Int) : begB l b = putM (begA l).1 (1 - l.region) 1 2 0 b := by
  have h1 := g.r01
  unfold begB
  rw [wrap_i64_id (by omega)]
theorem begC_eq {l : Lg} (g : BegR l) (b : List Int) : begC l b = putM (begB l b).1 (1 - l.region) 0 1 (l.turn + 1) [] := by
  have h1 := g.r01
  have h2 := g.turn
  unfold begC
  rw [wrap_i64_id (n := 1 - l.region) (by omega), wrap_i64_id (by omega)]
/-- What stands there when a region was cleared. -/
def clrC (c : Int → Sec) (p h : Int) (i : Int) : Sec := if p ≤ i ∧ i < p + h then zeroS else c i
/-- What stands in the other region behind all of it. -/
theorem begin_lay {c e : Int → Sec} {h o t : Int} {b : List Int} (ho : 0 ≤ o ∧ o ≤ 1) (ht : 0 ≤ t ∧ t < 4294967295) (hb : b.length ≤ 16384) (hf : 2 + (secsN b.length : Int) ≤ h) (hm : Low (t + 1) (c ((1 - o) * h)))
    (h0 : e (o * h) = headS 1 (t + 1) []) (h1 : ∀ i : Int, 0 ≤ i → i < 2 * h → i ≠ o * h → e i = rowC (clrC c (o * h) h) (o * h + 1) 2 0 b i) :
    Lay e h o (t + 1) [b] (2 + (secsN b.length : Int)) := by
  refine ⟨ho, ⟨by omega, by omega⟩, h0, ⟨⟨?_, fun j hj => ?_, hb, by omega⟩, (by omega : 2 + (secsN b.length : Int) = 1 + 1 + (secsN b.length : Int))⟩, by simp, fun hx => ?_, ?_⟩
  · rw [h1 _ (by rcases (show o = 0 ∨ o = 1 by omega) with rfl | rfl <;> omega) (by rcases (show o = 0 ∨ o = 1 by omega) with rfl | rfl <;> omega) (by omega)]
    unfold rowC
    rw [if_pos rfl]
    rfl
  · rw [h1 _ (by rcases (show o = 0 ∨ o = 1 by omega) with rfl | rfl <;> omega) (by rcases (show o = 0 ∨ o = 1 by omega) with rfl | rfl <;> omega) (by omega)]
    unfold rowC bodyC
    rw [if_neg (by omega), if_pos (by omega), show (o * h + 1 + 1 + (j : Int) - (o * h + 1) - 1).toNat = j by omega]
  · rw [h1 _ (by rcases (show o = 0 ∨ o = 1 by omega) with rfl | rfl <;> omega) (by rcases (show o = 0 ∨ o = 1 by omega) with rfl | rfl <;> omega) (by omega)]
    unfold rowC bodyC clrC
    rw [if_neg (by omega), if_neg (by omega), if_pos (by omega)]
    exact zero_dead
  · have : e ((1 - o) * h) = c ((1 - o) * h) := by
      rw [h1 _ (by rcases (show o = 0 ∨ o = 1 by omega) with rfl | rfl <;> omega) (by rcases (show o = 0 ∨ o = 1 by omega) with rfl | rfl <;> omega) (by rcases (show o = 0 ∨ o = 1 by omega) with rfl | rfl <;> omega)]
      unfold rowC bodyC clrC
      rw [if_neg (by rcases (show o = 0 ∨ o = 1 by omega) with rfl | rfl <;> omega), if_neg (by rcases (show o = 0 ∨ o = 1 by omega) with rfl | rfl <;> omega), if_neg (by rcases (show o = 0 ∨ o = 1 by omega) with rfl | rfl <;> omega)]
    rw [this]; exact hm
theorem begin_came {l : Lg} {b : List Int} (g : BegR l) (hb : b.length ≤ 16384) (hy : bytesOk b) (hf : 2 + (secsN b.length : Int) ≤ halfOf l.d) {P : (Int → Sec) → Prop}
    (hP : ∀ e : Int → Sec, (∀ i : Int, 0 ≤ i → i < 2 * halfOf l.d → BegQ (cont l.d) (halfOf l.d) (1 - l.region) l.turn i (e i)) → P e) :
    ((beginM l b).2 = 0 → Came l.d (beginM l b).1 (1 - l.region) (l.turn + 1) [b] (2 + (secsN b.length : Int))) ∧
    ((beginM l b).2 ≠ 0 → (beginM l b).1.broken = true ∧ After (beginM l b).1.d (fun c => P c ∨ Lay c (halfOf l.d) (1 - l.region) (l.turn + 1) [b] (2 + (secsN b.length : Int)))) := by
  have hh := half_in g.len
  have h4 := g.half
  have hr := g.r01
  have ht := g.turn
  have h2h := two_half g.len
  have hB := DkB.still g.len g.wait
  have ho : 0 ≤ 1 - l.region ∧ 1 - l.region ≤ 1 := by omega
  have eA := begA_eq g
  have eB := begB_eq g b
  have eC := begC_eq g b
  have lA : (begA l).1.kept.length = l.d.kept.length := by rw [eA]; exact clearM_len ..
  have lB : (begB l b).1.kept.length = l.d.kept.length := by rw [eB, putM_len, lA]
  have lC : (begC l b).1.kept.length = l.d.kept.length := by rw [eC, putM_len, lB]
  have hA : halfOf (begA l).1 = halfOf l.d := half_len lA
  have hBh : halfOf (begB l b).1 = halfOf l.d := half_len lB
  have hCh : halfOf (begC l b).1 = halfOf l.d := half_len lC
  have bA : DkB (begA l).1 (0 + (halfOf l.d - 0).toNat) := by rw [eA]; exact DkB.clearGo hB
  have bB : DkB (begB l b).1 (0 + (halfOf l.d - 0).toNat + secsN b.length + 1) := by rw [eB]; exact DkB.putGo bA
  have bC : DkB (begC l b).1 (0 + (halfOf l.d - 0).toNat + secsN b.length + 1 + secsN 0 + 1) := by rw [eC]; exact DkB.putGo bB
  have yA : DkY (begA l).1 := by rw [eA]; exact DkY.clearGo g.y
  have yB : DkY (begB l b).1 := by rw [eB]; exact DkY.putGo hy yA
  have yC : DkY (begC l b).1 := by rw [eC]; exact DkY.putGo (fun x hx => by cases hx) yB
  have r0 : 0 ≤ (1 - l.region) * halfOf l.d ∧ (1 - l.region) * halfOf l.d + halfOf l.d ≤ 2 * halfOf l.d := by rcases (show l.region = 0 ∨ l.region = 1 by omega) with hx | hx <;> rw [hx] <;> omega
  have old : ∀ (d : Dk) (m : Nat), DkB d m → d.kept.length = l.d.kept.length → Safe d (BegQ (cont l.d) (halfOf l.d) (1 - l.region) l.turn) → After d (fun c => P c ∨ Lay c (halfOf l.d) (1 - l.region) (l.turn + 1) [b] (2 + (secsN b.length : Int))) := fun d m hb hl hs =>
    hs.after hb fun c hc => .inl (hP c fun i h0 h1 => hc i h0 (by rw [hl]; omega))
  obtain ⟨sA, cA⟩ := clearM_spec (Q := BegQ (cont l.d) (halfOf l.d) (1 - l.region) l.turn) (r := 1 - l.region) (k := 0) ho hB (Int.le_refl 0)
    (Safe.of g.wait fun i _ _ => by
      show if _ then _ else _
      split
      · rename_i hi
        rw [hi]; exact g.other
      · split
        · trivial
        · rfl)
    (fun j h1 h2 => begQ_zero (by omega) (by omega))
  rw [← eA] at sA cA
  rw [begin_eq g hb hf]
  by_cases heA : (begA l).2 = 0
  case neg =>
    rw [if_pos (ne0.2 heA)]
    refine ⟨fun hx => absurd hx heA, fun _ => ⟨?_, old _ _ bA lA sA⟩⟩
    show (l.broken || (begA l).2 != 0) = true
    rw [ne0.2 heA, Bool.or_true]
  obtain ⟨wA, cA⟩ := cA heA
  rw [if_neg (by rw [heA]; decide)]
  obtain ⟨sB, cB⟩ := putM_spec (Q := BegQ (cont l.d) (halfOf l.d) (1 - l.region) l.turn) (R := BegQ (cont l.d) (halfOf l.d) (1 - l.region) l.turn) (r := 1 - l.region) (a := 1) (kind := 2) (id := 0) (b := b) ho (by omega) (by rw [hA]; omega) (by omega) bA sA
    (fun i hi => by rw [hA]; exact begQ_in _ (by omega) (by omega))
    (fun i h0 h1 => by
      rw [hA]
      by_cases hi : (1 - l.region) * halfOf l.d < i ∧ i < (1 - l.region) * halfOf l.d + halfOf l.d
      · exact (begQ_in _ hi.1 hi.2).1
      · unfold bodyC
        rw [if_neg (by omega), cA i h0]
        by_cases hi2 : i = (1 - l.region) * halfOf l.d
        · rw [if_pos (by omega), hi2]
          exact (begQ_zero (Int.le_refl _) (by omega)).1
        · rw [if_neg (by omega)]
          show if _ then _ else _
          rw [if_neg hi2, if_neg hi])
    (by rw [hA]; exact begQ_in _ (by omega) (by omega))
  rw [← eB] at sB cB
  rw [hA] at cB
  by_cases heB : (begB l b).2 = 0
  case neg =>
    rw [if_pos (ne0.2 heB)]
    refine ⟨fun hx => absurd hx heB, fun _ => ⟨?_, old _ _ bB lB ((sB heB).elim id id)⟩⟩
    show (l.broken || (begB l b).2 != 0) = true
    rw [ne0.2 heB, Bool.or_true]
  obtain ⟨wB, cB⟩ := cB heB
  rw [if_neg (by rw [heB]; decide)]
  have cB' : ∀ i : Int, 0 ≤ i → cont (begB l b).1 i = rowC (clrC (cont l.d) ((1 - l.region) * halfOf l.d) (halfOf l.d)) ((1 - l.region) * halfOf l.d + 1) 2 0 b i := by
    intro i h0
    rw [cB i h0]
    unfold rowC bodyC clrC
    rw [cA i h0]
    simp only [Int.add_zero]
  have cB0 : cont (begB l b).1 ((1 - l.region) * halfOf l.d) = zeroS := by
    rw [cB' _ r0.1]
    unfold rowC bodyC clrC
    rw [if_neg (by omega), if_neg (by omega), if_pos (by omega)]
  have cBo : ∀ i : Int, 0 ≤ i → ¬ ((1 - l.region) * halfOf l.d ≤ i ∧ i < (1 - l.region) * halfOf l.d + halfOf l.d) → cont (begB l b).1 i = cont l.d i := by
    intro i h0 hi
    rw [cB' _ h0]
    unfold rowC bodyC clrC
    rw [if_neg (by omega), if_neg (by omega), if_neg hi]
  have s0 : secsN ([] : List Int).length = 0 := rfl
  have sB2 : Safe (begB l b).1 (BegQ (cont l.d) (halfOf l.d) (1 - l.region) l.turn) := Safe.of wB fun i h0 h1 => by
    show if _ then _ else _
    split
    · rename_i hi
      rw [hi, cB0]; exact low_tq.1
    · split
      · trivial
      · exact cBo i h0 (by omega)
  obtain ⟨sC, cC⟩ := putM_spec (Q := BegQ (cont l.d) (halfOf l.d) (1 - l.region) l.turn) (R := fun i s => if i = (1 - l.region) * halfOf l.d then HT (headS 1 (l.turn + 1) []) s ∧ secOk s else s = cont (begB l b).1 i) (r := 1 - l.region) (a := 0) (kind := 1) (id := l.turn + 1) (b := []) ho (Int.le_refl 0) (by rw [hBh]; omega) (by decide) bB sB2
    (fun i hi => by omega)
    (fun i h0 h1 => by
      rw [hBh]
      show if _ then _ else _
      have e : bodyC (cont (begB l b).1) ((1 - l.region) * halfOf l.d + 0) [] i = cont (begB l b).1 i := by unfold bodyC; rw [s0, if_neg (by omega)]
      rw [e]
      split
      · rename_i hi
        rw [hi, cB0]
        exact ⟨HT.zero _, zero_ok⟩
      · rfl)
    (by
      rw [hBh, Int.add_zero]
      refine ⟨?_, fun s m hs => ?_⟩
      · show if _ then _ else _
        rw [if_pos rfl]
        exact ⟨(HT.tq ..).1, headS_ok _ _ _⟩
      · replace hs : if _ then _ else _ := hs
        show if _ then _ else _
        rw [if_pos rfl] at hs ⊢
        exact ⟨(HT.tq ..).2 s m hs.1, tear_ok hs.2 (headS_ok _ _ _) m⟩)
  rw [← eC] at sC cC
  rw [hBh, Int.add_zero] at cC
  by_cases heC : (begC l b).2 = 0
  case neg =>
    rw [if_pos (ne0.2 heC)]
    refine ⟨fun hx => absurd hx heC, fun _ => ⟨?_, ?_⟩⟩
    · show (l.broken || (begC l b).2 != 0) = true
      rw [ne0.2 heC, Bool.or_true]
    · show After (begC l b).1 _
      rcases sC heC with hS | hS
      · exact old _ _ bC lC hS
      · refine hS.after bC fun c hc => ?_
        rw [lC] at hc
        have hp := hc ((1 - l.region) * halfOf l.d) r0.1 (by omega)
        replace hp : if _ then _ else _ := hp
        rw [if_pos rfl] at hp
        have key : ∀ i, 0 ≤ i → i < 2 * halfOf l.d → i ≠ (1 - l.region) * halfOf l.d → c i = cont (begB l b).1 i := by
          intro i h0 h3 hi
          have := hc i h0 (by omega)
          replace this : if _ then _ else _ := this
          rwa [if_neg hi] at this
        rcases hp.1.2 with hx | hx
        · refine .inl (hP c fun i h0 h3 => ?_)
          show if _ then _ else _
          split
          · rename_i hi
            rw [hi]; exact ⟨hp.2, .inl hx⟩
          · split
            · trivial
            · rw [key i h0 h3 (by assumption)]
              exact cBo i h0 (by omega)
        · refine .inr (begin_lay (c := cont l.d) ho ht hb hf ?_ hx fun i h0 h3 hi => ?_)
          · rw [show 1 - (1 - l.region) = l.region by omega]; exact g.mine
          · rw [key i h0 h3 hi]; exact cB' i h0
  obtain ⟨wC, cC⟩ := cC heC
  rw [if_neg (by rw [heC]; decide)]
  refine ⟨fun _ => ?_, fun hx => absurd rfl hx⟩
  have cC2 : ∀ i : Int, 0 ≤ i → i ≠ (1 - l.region) * halfOf l.d → cont (begC l b).1 i = cont (begB l b).1 i := by
    intro i h0 hi
    rw [cC i h0]
    unfold rowC bodyC
    rw [if_neg hi, s0, if_neg (by omega)]
  have hlay : Lay (cont (begC l b).1) (halfOf l.d) (1 - l.region) (l.turn + 1) [b] (2 + (secsN b.length : Int)) := by
    refine begin_lay (c := cont l.d) ho ht hb hf (by rw [show 1 - (1 - l.region) = l.region by omega]; exact g.mine) ?_ fun i h0 h3 hi => ?_
    · rw [cC _ r0.1]
      unfold rowC
      rw [if_pos rfl]
    · rw [cC2 i h0 hi]; exact cB' i h0
  have dn : (begC l b).1.down = false := by
    rw [eC] at heC ⊢
    exact putM_down heC
  refine ⟨⟨wC, by show (begC l b).1.kept.length ≤ 512; rw [lC]; exact g.len, yC, dn, g.br, ?_, ?_, ?_⟩, rfl, rfl, rfl, rfl, lC, ?_⟩
  · show 4 ≤ halfOf (begC l b).1
    rw [hCh]; exact h4
  · show Lay (cont (begC l b).1) (halfOf (begC l b).1) (1 - l.region) (l.turn + 1) [b] (2 + (secsN b.length : Int))
    rw [hCh]; exact hlay
  · show ∀ i, 2 + (secsN b.length : Int) ≤ i → i < halfOf (begC l b).1 → cont (begC l b).1 ((1 - l.region) * halfOf (begC l b).1 + i) = zeroS
    rw [hCh]
    intro i h5 h6
    rw [cC2 _ (by omega) (by omega), cB' _ (by omega)]
    unfold rowC bodyC clrC
    rw [if_neg (by omega), if_neg (by omega), if_pos (by omega)]
  · intro i h0 hi
    show cont (begC l b).1 i = cont l.d i
    rw [cC2 i h0 (by omega), cBo i h0 hi]
theorem clearM_fail {d : Dk} {r a : Int} (h : d.fail = -1) : (clearM d r a).1.fail = -1 := by
  unfold clearM
  generalize (halfOf d - a).toNat = m
  induction m generalizing d a with
  | zero => exact flush_fail h
  | succ m ih =>
    rw [clearGo]
    split
    · exact write_fail h _ _
    · exact ih (write_fail h _ _)
theorem putEnd_fail {p kind id : Int} {b : List Int} {d : Dk} (h : d.fail = -1) : (putEnd d p kind id b).1.fail = -1 := by
  unfold putEnd
  split
  · exact flush_fail h
  split
  · exact write_fail (flush_fail h) _ _
  · exact flush_fail (write_fail (flush_fail h) _ _)
theorem putGo_fail {p kind id : Int} {b : List Int} : ∀ (m : Nat) (d : Dk) (j : Nat), d.fail = -1 → (putGo d p kind id b j m).1.fail = -1
  | 0, d, j, h => putEnd_fail h
  | m + 1, d, j, h => by
    rw [putGo]
    split
    · exact write_fail h _ _
    · exact putGo_fail m _ _ (write_fail h _ _)
theorem putM_fail {d : Dk} {r a kind id : Int} {b : List Int} (h : d.fail = -1) : (putM d r a kind id b).1.fail = -1 := putGo_fail _ _ _ h
theorem begin_two {l : Lg} {b : List Int} (g : BegR l) (hb : b.length ≤ 16384) (hf : 2 + (secsN b.length : Int) ≤ halfOf l.d) (hx : l.d.fail = -1) : (beginM l b).2 = 0 ∨ (beginM l b).2 = 9 := by
  have hr := g.r01
  have h4 := g.half
  have ho : 0 ≤ 1 - l.region ∧ 1 - l.region ≤ 1 := by omega
  have eA := begA_eq g
  have eB := begB_eq g b
  have eC := begC_eq g b
  have lA : (begA l).1.kept.length = l.d.kept.length := by rw [eA]; exact clearM_len ..
  have lB : (begB l b).1.kept.length = l.d.kept.length := by rw [eB, putM_len, lA]
  have fA : (begA l).1.fail = -1 := by rw [eA]; exact clearM_fail hx
  have fB : (begB l b).1.fail = -1 := by rw [eB]; exact putM_fail fA
  have hs := secs_eq b.length (by omega)
  rw [begin_eq g hb hf]
  split
  · rw [eA]; exact clearM_two ho g.len hx (Int.le_refl 0)
  split
  · rw [eB]; exact putM_two (by rw [lA]; exact g.len) ho (by omega) (by omega) (by rw [half_len lA]; omega) fA
  split
  · rw [eC]
    exact putM_two (by rw [lB]; exact g.len) ho (by omega) (by decide) (by rw [half_len lB, show secsOf (([] : List Int).length : Int) = 1 by decide]; omega) fB
  · exact .inl rfl
theorem begin_calm {l : Lg} {b : List Int} (g : BegR l) (hb : b.length ≤ 16384) (hf : 2 + (secsN b.length : Int) ≤ halfOf l.d) (hx : Calm l.d) : (beginM l b).2 = 0 ∧ Calm (beginM l b).1.d := by
  have hr := g.r01
  have h4 := g.half
  have ho : 0 ≤ 1 - l.region ∧ 1 - l.region ≤ 1 := by omega
  have eA := begA_eq g
  have eB := begB_eq g b
  have eC := begC_eq g b
  have lA : (begA l).1.kept.length = l.d.kept.length := by rw [eA]; exact clearM_len ..
  have lB : (begB l b).1.kept.length = l.d.kept.length := by rw [eB, putM_len, lA]
  have hs := secs_eq b.length (by omega)
  have cA := clearM_calm (k := 0) ho g.len hx (Int.le_refl 0)
  rw [← eA] at cA
  have cB := putM_calm (kind := 2) (id := 0) (a := 1) (b := b) (by rw [lA]; exact g.len) ho (by omega) (by omega) (by rw [half_len lA]; omega) cA.2
  rw [← eB] at cB
  have cC := putM_calm (kind := 1) (id := l.turn + 1) (a := 0) (b := []) (by rw [lB]; exact g.len) ho (by omega) (by decide) (by rw [half_len lB, show secsOf (([] : List Int).length : Int) = 1 by decide]; omega) cB.2
  rw [← eC] at cC
  rw [begin_eq g hb hf, if_neg (by rw [cA.1]; decide), if_neg (by rw [cB.1]; decide), if_neg (by rw [cC.1]; decide)]
  exact ⟨rfl, cC.2⟩
/-- A log that stands on its disk may begin. -/
theorem Good.beg {l : Lg} (g : Good l) (ht : l.turn < 4294967295) : BegR l := by
  have h := g.lay
  refine ⟨g.wait, g.len, g.y, g.br, g.half, h.r01, ⟨by have := h.t32; omega, ht⟩, h.low, ?_⟩
  rw [h.head]
  refine ⟨headS_ok _ _ _, .inr ?_⟩
  rw [oneI_head 1 [] ⟨by have := h.t32; omega, h.t32.2⟩]
  omega
theorem Good.kept {l : Lg} (g : Good l) (e : Int → Sec) (he : ∀ i : Int, 0 ≤ i → i < 2 * halfOf l.d → BegQ (cont l.d) (halfOf l.d) (1 - l.region) l.turn i (e i)) : Lay e (halfOf l.d) l.region l.turn l.recs l.next := by
  have h := g.lay
  have hr := h.r01
  have hle := h.le
  have h4 := g.half
  have key : ∀ i, 0 ≤ i → i < halfOf l.d → e (l.region * halfOf l.d + i) = cont l.d (l.region * halfOf l.d + i) := by
    intro i h0 h1
    have := he (l.region * halfOf l.d + i) (by rcases (show l.region = 0 ∨ l.region = 1 by omega) with hx | hx <;> rw [hx] <;> omega) (by rcases (show l.region = 0 ∨ l.region = 1 by omega) with hx | hx <;> rw [hx] <;> omega)
    replace this : if _ then _ else _ := this
    rwa [if_neg (by rcases (show l.region = 0 ∨ l.region = 1 by omega) with hx | hx <;> rw [hx] <;> omega), if_neg (by rcases (show l.region = 0 ∨ l.region = 1 by omega) with hx | hx <;> rw [hx] <;> omega)] at this
  refine ⟨h.r01, h.t32, ?_, ?_, h.some, fun hn => ?_, ?_⟩
  · have := key 0 (by omega) (by omega)
    rw [Int.add_zero] at this
    rw [this]; exact h.head
  · refine chain_congr h.chain fun i h1 h2 => ?_
    have := key (i - l.region * halfOf l.d) (by omega) (by omega)
    rwa [show l.region * halfOf l.d + (i - l.region * halfOf l.d) = i by omega] at this
  · rw [key _ (by omega) hn]; exact h.stop hn
  · have := he ((1 - l.region) * halfOf l.d) (by rcases (show l.region = 0 ∨ l.region = 1 by omega) with hx | hx <;> rw [hx] <;> omega) (by rcases (show l.region = 0 ∨ l.region = 1 by omega) with hx | hx <;> rw [hx] <;> omega)
    replace this : if _ then _ else _ := this
    rwa [if_pos rfl] at this
theorem begin_good {l : Lg} {b : List Int} (g : Good l) (ht : l.turn < 4294967295) (hb : b.length ≤ 16384) (hy : bytesOk b) (hf : 2 + (secsN b.length : Int) ≤ halfOf l.d) :
    ((beginM l b).2 = 0 → Came l.d (beginM l b).1 (1 - l.region) (l.turn + 1) [b] (2 + (secsN b.length : Int))) ∧
    ((beginM l b).2 ≠ 0 → (beginM l b).1.broken = true ∧ After (beginM l b).1.d (fun c => Lay c (halfOf l.d) l.region l.turn l.recs l.next ∨ Lay c (halfOf l.d) (1 - l.region) (l.turn + 1) [b] (2 + (secsN b.length : Int)))) :=
  begin_came (g.beg ht) hb hy hf g.kept

/-! ### a disk that is new -/
theorem of_len (n : Int) : ((spOf n).kept.length : Int) = mx 0 (mn n 512) := by
  show ((List.replicate (mx 0 (mn n 512)).toNat zeroS).length : Int) = _
  rw [List.length_replicate]
  unfold mx mn
  split <;> split <;> omega
theorem of_cont (n i : Int) : cont (spOf n) i = zeroS := by
  rw [cont_still rfl]
  show (List.replicate (mx 0 (mn n 512)).toNat zeroS).getD _ zeroS = _
  rw [List.getD_eq_getElem?_getD, List.getElem?_replicate]
  split <;> rfl
theorem of_half (n : Int) : halfOf (spOf n) = (mx 0 (mn n 512)) / 2 := by
  rw [(half_in (DkB.of n).1).1, of_len]
theorem of_find {n : Int} (h : 4 ≤ halfOf (spOf n)) : findR (spOf n) 2 = (0, 0) ∧ findP (spOf n) = ([], 1) := by
  have h0 : ∀ r : Int, 0 ≤ r ∧ r ≤ 1 → (oneM (spOf n) r 0 1).2.2 = false := fun r hr => one_none (DkB.of n).1 rfl hr (Int.le_refl 0) fun _ => by rw [of_cont]; exact zero_dead
  have hR : findR (spOf n) 2 = (0, 0) := by
    rw [findR_next, if_neg (by rw [h0 _ (by omega)]; simp), findR_next, if_neg (by rw [h0 _ (by omega)]; simp)]
    rfl
  refine ⟨hR, ?_⟩
  unfold findP
  rw [hR, if_neg (by decide)]
theorem of_beg {n : Int} (h : 4 ≤ halfOf (spOf n)) : BegR (findM (log0 (spOf n))) := by
  obtain ⟨hR, hP⟩ := of_find h
  have hm : findM (log0 (spOf n)) = ⟨spOf n, 0, 0, 1, [], false⟩ := by
    unfold findM
    rw [show (log0 (spOf n)).d = spOf n from rfl, hR, hP]
    rfl
  rw [hm]
  refine ⟨rfl, (DkB.of n).1, DkY.of n, rfl, h, ⟨Int.le_refl 0, (by decide : (0 : Int) ≤ 1)⟩, ⟨Int.le_refl 0, (by decide : (0 : Int) < 4294967295)⟩, ?_, ?_⟩
  · show Low 0 (cont (spOf n) _)
    rw [of_cont]; exact low_tq.1
  · show Low (0 + 1) (cont (spOf n) _)
    rw [of_cont]; exact low_tq.1
/-- Opening a new disk. -/
theorem open_new {n : Int} (h : 4 ≤ halfOf (spOf n)) : (openM (spOf n)).2 = 0 ∧ Came (spOf n) (openM (spOf n)).1 1 1 [[]] 2 ∧ Calm (openM (spOf n)).1.d := by
  obtain ⟨hR, hP⟩ := of_find h
  have g := of_beg h
  have hm : findM (log0 (spOf n)) = ⟨spOf n, 0, 0, 1, [], false⟩ := by
    unfold findM
    rw [show (log0 (spOf n)).d = spOf n from rfl, hR, hP]
    rfl
  rw [openM_new (by omega) rfl (by rw [hP]; decide)]
  rw [hm] at g ⊢
  have hc := begin_calm (b := []) g (by decide) (by show (2 : Int) + ((secsN 0 : Nat) : Int) ≤ halfOf (spOf n); rw [show secsN 0 = 0 from rfl]; omega) (Calm.of n)
  refine ⟨hc.1, ?_, hc.2⟩
  have := (begin_came (b := []) (P := fun _ => True) g (by decide) (fun x hx => by cases hx) (by show (2 : Int) + ((secsN 0 : Nat) : Int) ≤ halfOf (spOf n); rw [show secsN 0 = 0 from rfl]; omega) (fun _ _ => trivial)).1 hc.1
  exact this
end Go.Proofs.Ytgimkldaeobhnaa.Dsk
