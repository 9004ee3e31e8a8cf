/- The log, in plain terms: opening, appending and beginning, whatever the disk does. -/
import Derived.Test.YtgimkldaeobhnaaWalMathI
namespace Go.Proofs.Ytgimkldaeobhnaa.Dsk
open Go Go.Proofs.Ytgimkldaeobhnaa.Sx

/-! ### what was told leaves the disk up -/
theorem call_down {d : Dk} (h : callE d = 0) : d.call.down = false := by
  unfold callE at h
  split at h
  · cases h
  · rename_i hd
    show (d.down || d.left == 0) = false
    simpa using hd
theorem flush_down {d : Dk} (h : flushE d = 0) : d.flush.down = false := by
  rw [flush0 h]
  exact call_down (flushE0 h).2
theorem clearGo_down {r : Int} : ∀ (m : Nat) (d : Dk) (k : Int), (clearGo d r k m).2 = 0 → (clearGo d r k m).1.down = false
  | 0, d, k, h => flush_down h
  | m + 1, d, k, h => by
    rw [clearGo] at h ⊢
    split at h
    · rename_i he
      exact absurd h (ne0.1 he)
    · rename_i he
      rw [if_neg he]
      exact clearGo_down m _ _ h
theorem clearM_down {d : Dk} {r a : Int} (h : (clearM d r a).2 = 0) : (clearM d r a).1.down = false := clearGo_down _ _ _ h
theorem putEnd_down {p kind id : Int} {b : List Int} {d : Dk} (h : (putEnd d p kind id b).2 = 0) : (putEnd d p kind id b).1.down = false := by
  unfold putEnd at h ⊢
  split at h
  · rename_i he
    exact absurd h (ne0.1 he)
  split at h
  · rename_i he
    exact absurd h (ne0.1 he)
  · rename_i h1 h2
    rw [if_neg h1, if_neg h2]
    exact flush_down h
theorem putGo_down {p kind id : Int} {b : List Int} : ∀ (m : Nat) (d : Dk) (j : Nat), (putGo d p kind id b j m).2 = 0 → (putGo d p kind id b j m).1.down = false
  | 0, d, j, h => putEnd_down h
  | m + 1, d, j, h => by
    rw [putGo] at h ⊢
    split at h
    · rename_i he
      exact absurd h (ne0.1 he)
    · rename_i he
      rw [if_neg he]
      exact putGo_down m _ _ h
theorem putM_down {d : Dk} {r a kind id : Int} {b : List Int} (h : (putM d r a kind id b).2 = 0) : (putM d r a kind id b).1.down = false := putGo_down _ _ _ h
theorem DkB.still {d : Dk} (hd : d.kept.length ≤ 512) (hw : d.wait = []) : DkB d 0 := ⟨hd, by rw [hw]; exact Nat.le_refl _, fun k hk => by rw [hw] at hk; exact absurd hk (Nat.not_lt_zero _)⟩

/-! ### the states of a log -/
structure Good (l : Lg) : Prop where
  wait : l.d.wait = []
  len : l.d.kept.length ≤ 512
  y : DkY l.d
  down : l.d.down = false
  br : l.broken = false
  half : 4 ≤ halfOf l.d
  lay : Lay (cont l.d) (halfOf l.d) l.region l.turn l.recs l.next
  tail : ∀ i, l.next ≤ i → i < halfOf l.d → cont l.d (l.region * halfOf l.d + i) = zeroS
/-- A log that came of a disk. -/
structure Came (d : Dk) (l : Lg) (r t : Int) (rs : List (List Int)) (n : Int) : Prop where
  good : Good l
  region : l.region = r
  turn : l.turn = t
  recs : l.recs = rs
  next : l.next = n
  len : l.d.kept.length = d.kept.length
  same : ∀ i : Int, 0 ≤ i → ¬ (r * halfOf d ≤ i ∧ i < r * halfOf d + halfOf d) → cont l.d i = cont d i
/-- What stands there after a restart. -/
def After (d : Dk) (P : (Int → Sec) → Prop) : Prop := ∀ a t b, P (cont (d.restart a t b))
theorem Safe.after {d : Dk} {m : Nat} (hB : DkB d m) {Q : Int → Sec → Prop} {P : (Int → Sec) → Prop} (h : Safe d Q) (hP : ∀ c : Int → Sec, (∀ i : Int, 0 ≤ i → i < d.kept.length → Q i (c i)) → P c) : After d P := fun a t b =>
  hP _ fun i h0 h1 => by
    have e : cont (d.restart a t b) i = getS (d.restart a t b).kept i.toNat := cont_still rfl i
    rw [e]
    exact (h.restart hB a t b).kept i h0 (by rw [show (d.restart a t b).kept.length = d.kept.length from keptR_len ..]; exact h1)
theorem After.mono {d : Dk} {P R : (Int → Sec) → Prop} (h : After d P) (hPR : ∀ c, P c → R c) : After d R := fun a t b => hPR _ (h a t b)

/-! ### what a layout stands on -/
theorem two_half {d : Dk} (hd : d.kept.length ≤ 512) : 2 * halfOf d ≤ d.kept.length := by have := half_in hd; omega
theorem lay_keep {c e : Int → Sec} {h r t n : Int} {rs : List (List Int)} (l : Lay c h r t rs n) (he : ∀ i : Int, 0 ≤ i → i < 2 * h → i < r * h + n ∨ r * h + h ≤ i → e i = c i) (hs : n < h → Dead (e (r * h + n))) : Lay e h r t rs n := by
  have hr := l.r01
  have hle := l.le
  have key : ∀ i, 0 ≤ i → i < h → i < n → e (r * h + i) = c (r * h + i) := by
    intro i h0 h1 h2
    rcases (show r = 0 ∨ r = 1 by omega) with rfl | rfl
    · exact he _ (by omega) (by omega) (by omega)
    · exact he _ (by omega) (by omega) (by omega)
  refine ⟨l.r01, l.t32, ?_, ?_, l.some, hs, ?_⟩
  · have := key 0 (by omega) (by omega) (by omega)
    rw [Int.add_zero] at this
    rw [this]; exact l.head
  · refine chain_congr l.chain fun i h1 h2 => ?_
    have := key (i - r * h) (by omega) (by omega) (by omega)
    rwa [show r * h + (i - r * h) = i by omega] at this
  · have : e ((1 - r) * h) = c ((1 - r) * h) := by
      rcases (show r = 0 ∨ r = 1 by omega) with rfl | rfl
      · exact he _ (by omega) (by omega) (.inr (by omega))
      · exact he _ (by omega) (by omega) (.inl (by omega))
    rw [this]; exact l.low
theorem lay_snoc {c e : Int → Sec} {h r t n : Int} {rs : List (List Int)} {b : List Int} (l : Lay c h r t rs n) (ht : ∀ i, n ≤ i → i < h → c (r * h + i) = zeroS) (hb : b.length ≤ 16384) (hf : n + 1 + (secsN b.length : Int) ≤ h)
    (h1 : e (r * h + n) = headS 2 (rs.length : Int) b) (h2 : ∀ i : Int, 0 ≤ i → i < 2 * h → i ≠ r * h + n → e i = bodyC c (r * h + n) b i) : Lay e h r t (rs ++ [b]) (n + 1 + (secsN b.length : Int)) := by
  have hr := l.r01
  have hle := l.le
  have key : ∀ i, 0 ≤ i → i < h → i < n → e (r * h + i) = c (r * h + i) := by
    intro i h0 h1 h3
    rw [h2 _ (by rcases (show r = 0 ∨ r = 1 by omega) with rfl | rfl <;> omega) (by rcases (show r = 0 ∨ r = 1 by omega) with rfl | rfl <;> omega) (by omega)]
    unfold bodyC
    rw [if_neg (by omega)]
  refine ⟨l.r01, l.t32, ?_, ?_, by simp, fun hn => ?_, ?_⟩
  · have := key 0 (by omega) (by omega) (by omega)
    rw [Int.add_zero] at this
    rw [this]; exact l.head
  · refine chain_snoc (chain_congr l.chain fun i h1 h3 => ?_) ⟨by rw [Nat.zero_add]; exact h1, fun j hj => ?_, hb, hf⟩
    · have := key (i - r * h) (by omega) (by omega) (by omega)
      rwa [show r * h + (i - r * h) = i by omega] at this
    · rw [h2 _ (by rcases (show r = 0 ∨ r = 1 by omega) with rfl | rfl <;> omega) (by rcases (show r = 0 ∨ r = 1 by omega) with rfl | rfl <;> omega) (by omega)]
      unfold bodyC
      rw [if_pos (by omega), show (r * h + n + 1 + (j : Int) - (r * h + n) - 1).toNat = j by omega]
  · rw [h2 _ (by rcases (show r = 0 ∨ r = 1 by omega) with rfl | rfl <;> omega) (by rcases (show r = 0 ∨ r = 1 by omega) with rfl | rfl <;> omega) (by omega)]
    unfold bodyC
    rw [if_neg (by omega), ht _ (by omega) hn]
    exact zero_dead
  · have : e ((1 - r) * h) = c ((1 - r) * h) := by
      rw [h2 _ (by rcases (show r = 0 ∨ r = 1 by omega) with rfl | rfl <;> omega) (by rcases (show r = 0 ∨ r = 1 by omega) with rfl | rfl <;> omega) (by rcases (show r = 0 ∨ r = 1 by omega) with rfl | rfl <;> omega)]
      unfold bodyC
      rw [if_neg (by rcases (show r = 0 ∨ r = 1 by omega) with rfl | rfl <;> omega)]
    rw [this]; exact l.low

/-! ### opening -/
theorem open_lay {d : Dk} {r t n : Int} {rs : List (List Int)} (hw : d.wait = []) (hd : d.kept.length ≤ 512) (hY : DkY d) (hn : d.down = false) (h4 : 4 ≤ halfOf d) (h : Lay (cont d) (halfOf d) r t rs n) :
    openM d = (⟨(clearM d r n).1, r, t, n, rs, false⟩, (clearM d r n).2) := by
  obtain ⟨hR, hP⟩ := find_lay hd hn h4 h
  have hs : ((findP d).1.length : Int) > 0 := by
    rw [hP]
    have := h.some
    show (rs.length : Int) > 0
    have : rs.length ≠ 0 := fun h0 => this (List.eq_nil_of_length_eq_zero h0)
    omega
  rw [openM_old (by omega) hn hs]
  unfold findM
  rw [show (log0 d).d = d from rfl, hR, hP]
  rfl
theorem open_came {d : Dk} {r t n : Int} {rs : List (List Int)} (hw : d.wait = []) (hd : d.kept.length ≤ 512) (hY : DkY d) (hn : d.down = false) (h4 : 4 ≤ halfOf d) (h : Lay (cont d) (halfOf d) r t rs n) :
    ((openM d).2 = 0 → Came d (openM d).1 r t rs n) ∧ ((openM d).2 ≠ 0 → After (openM d).1.d (fun c => Lay c (halfOf d) r t rs n)) := by
  have hh := half_in hd
  have hle := h.le
  have hr := h.r01
  have hB := DkB.still hd hw
  have hl : (clearM d r n).1.kept.length = d.kept.length := clearM_len ..
  have hy : DkY (clearM d r n).1 := DkY.clearGo hY
  have hb2 : DkB (clearM d r n).1 (0 + (halfOf d - n).toNat) := DkB.clearGo hB
  rw [open_lay hw hd hY hn h4 h]
  obtain ⟨h1, h2⟩ := clearM_spec (Q := fun i s => if i = r * halfOf d + n ∧ n < halfOf d then Dead s else if r * halfOf d + n < i ∧ i < r * halfOf d + halfOf d then True else s = cont d i) (r := r) (k := n) hr hB (by omega)
    (Safe.of hw fun i h0 h1 => by
      show if _ then _ else _
      split
      · rename_i hi
        rw [hi.1]; exact h.stop hi.2
      · split
        · trivial
        · rfl)
    (fun j h1 h2 => by
      refine ⟨?_, fun s m hs => ?_⟩
      · show if _ then _ else _
        split
        · exact zero_dead
        · rw [if_pos (by omega)]; trivial
      · replace hs : if _ then _ else _ := hs
        show if _ then _ else _
        split
        · rename_i hi
          rw [if_pos hi] at hs
          exact dead_tear hs m
        · rw [if_pos (by omega)]; trivial)
  refine ⟨fun he => ?_, fun _ => ?_⟩
  · obtain ⟨h3, h4'⟩ := h2 he
    have hhl : halfOf (clearM d r n).1 = halfOf d := half_len hl
    refine ⟨⟨h3, by rw [hl]; exact hd, hy, clearM_down he, rfl, by rw [hhl]; exact h4, ?_, ?_⟩, rfl, rfl, rfl, rfl, hl, ?_⟩
    · show Lay (cont (clearM d r n).1) (halfOf (clearM d r n).1) r t rs n
      rw [hhl]
      refine lay_keep h (fun i h0 h1 hi => ?_) fun hx => ?_
      · rw [h4' i h0, if_neg (by omega)]
      · rw [h4' _ (by rcases (show r = 0 ∨ r = 1 by omega) with rfl | rfl <;> omega), if_pos (by omega)]
        exact zero_dead
    · show ∀ i, n ≤ i → i < halfOf (clearM d r n).1 → cont (clearM d r n).1 (r * halfOf (clearM d r n).1 + i) = zeroS
      rw [hhl]
      intro i h5 h6
      rw [h4' _ (by rcases (show r = 0 ∨ r = 1 by omega) with rfl | rfl <;> omega), if_pos (by omega)]
    · intro i h0 hi
      show cont (clearM d r n).1 i = cont d i
      rw [h4' i h0, if_neg (by omega)]
  · refine h1.after hb2 fun c hc => ?_
    rw [hl] at hc
    have h2h := two_half hd
    refine lay_keep h (fun i h0 h3 hi => ?_) fun hx => ?_
    · have := hc i h0 (by omega)
      replace this : if _ then _ else _ := this
      rwa [if_neg (by omega), if_neg (by omega)] at this
    · have := hc (r * halfOf d + n) (by rcases (show r = 0 ∨ r = 1 by omega) with rfl | rfl <;> omega) (by rcases (show r = 0 ∨ r = 1 by omega) with rfl | rfl <;> omega)
      replace this : if _ then _ else _ := this
      rwa [if_pos ⟨rfl, hx⟩] at this
theorem open_two {d : Dk} {r t n : Int} {rs : List (List Int)} (hw : d.wait = []) (hd : d.kept.length ≤ 512) (hY : DkY d) (hn : d.down = false) (h4 : 4 ≤ halfOf d) (h : Lay (cont d) (halfOf d) r t rs n) (hf : d.fail = -1) : (openM d).2 = 0 ∨ (openM d).2 = 9 := by
  rw [open_lay hw hd hY hn h4 h]
  exact clearM_two h.r01 hd hf (by have := h.le; omega)
theorem open_calm {d : Dk} {r t n : Int} {rs : List (List Int)} (hw : d.wait = []) (hd : d.kept.length ≤ 512) (hY : DkY d) (h4 : 4 ≤ halfOf d) (h : Lay (cont d) (halfOf d) r t rs n) (hf : Calm d) : (openM d).2 = 0 ∧ Calm (openM d).1.d := by
  rw [open_lay hw hd hY hf.down h4 h]
  exact clearM_calm h.r01 hd hf (by have := h.le; omega)

/-! ### appending -/
theorem append_broken {l : Lg} {b : List Int} (h : l.broken = true) : appendM l b = (l, 11) := by unfold appendM; rw [if_pos h]
theorem append_long {l : Lg} {b : List Int} (h : l.broken = false) (h2 : (b.length : Int) > 16384) : appendM l b = (l, 12) := by unfold appendM; rw [if_neg (by rw [h]; decide), if_pos h2]
theorem Good.room {l : Lg} (g : Good l) {b : List Int} (hb : b.length ≤ 16384) : secsOf (b.length : Int) > IntKind.i64.wrap (halfOf l.d - l.next) ↔ ¬ l.next + 1 + (secsN b.length : Int) ≤ halfOf l.d := by
  have hh := half_in g.len
  have hle := g.lay.le
  rw [secs_eq b.length (by omega), wrap_i64_id (by omega)]
  omega
theorem append_full {l : Lg} {b : List Int} (g : Good l) (hb : b.length ≤ 16384) (hf : ¬ l.next + 1 + (secsN b.length : Int) ≤ halfOf l.d) : appendM l b = (l, 4) := by
  unfold appendM
  rw [if_neg (by rw [g.br]; decide), if_neg (by omega), if_pos ((g.room hb).2 hf)]
theorem append_eq {l : Lg} {b : List Int} (g : Good l) (hb : b.length ≤ 16384) (hf : l.next + 1 + (secsN b.length : Int) ≤ halfOf l.d) : appendM l b = if ((putM l.d l.region l.next 2 (l.recs.length : Int) b).2 != 0) = true then failM l (putM l.d l.region l.next 2 (l.recs.length : Int) b) else
    ({ l with d := (putM l.d l.region l.next 2 (l.recs.length : Int) b).1, next := l.next + 1 + (secsN b.length : Int), recs := l.recs ++ [b] }, 0) := by
  have hh := half_in g.len
  have hle := g.lay.le
  unfold appendM
  rw [if_neg (by rw [g.br]; decide), if_neg (by omega), if_neg (by rw [g.room hb]; omega), secs_eq b.length (by omega), wrap_i64_id (by omega), Int.add_assoc]
theorem append_came {l : Lg} {b : List Int} (g : Good l) (hb : b.length ≤ 16384) (hy : bytesOk b) (hf : l.next + 1 + (secsN b.length : Int) ≤ halfOf l.d) :
    ((appendM l b).2 = 0 → Came l.d (appendM l b).1 l.region l.turn (l.recs ++ [b]) (l.next + 1 + (secsN b.length : Int))) ∧
    ((appendM l b).2 ≠ 0 → (appendM l b).1.broken = true ∧ After (appendM l b).1.d (fun c => Lay c (halfOf l.d) l.region l.turn l.recs l.next ∨ Lay c (halfOf l.d) l.region l.turn (l.recs ++ [b]) (l.next + 1 + (secsN b.length : Int)))) := by
  have hd := g.len
  have hh := half_in g.len
  have hle := g.lay.le
  have hr := g.lay.r01
  have hB := DkB.still g.len g.wait
  have h2h := two_half g.len
  have hl : (putM l.d l.region l.next 2 (l.recs.length : Int) b).1.kept.length = l.d.kept.length := putM_len ..
  have hyy : DkY (putM l.d l.region l.next 2 (l.recs.length : Int) b).1 := DkY.putGo hy g.y
  have hb2 : DkB (putM l.d l.region l.next 2 (l.recs.length : Int) b).1 (0 + secsN b.length + 1) := DkB.putGo hB
  obtain ⟨h1, h2⟩ := putM_spec (Q := fun i s => if l.region * halfOf l.d + l.next < i ∧ i < l.region * halfOf l.d + halfOf l.d then True else s = cont l.d i)
    (R := fun i s => if i = l.region * halfOf l.d + l.next then HT (headS 2 (l.recs.length : Int) b) s else s = bodyC (cont l.d) (l.region * halfOf l.d + l.next) b i)
    (r := l.region) (a := l.next) (kind := 2) (id := (l.recs.length : Int)) (b := b) hr (by omega) hle.2 (by omega) hB
    (Safe.of g.wait fun i _ _ => by
      show if _ then _ else _
      split
      · trivial
      · rfl)
    (fun i hi => by
      refine ⟨?_, fun s m _ => ?_⟩ <;>
      · show if _ then _ else _
        rw [if_pos (by omega)]
        trivial)
    (fun i h0 h3 => by
      show if _ then _ else _
      split
      · rename_i hi
        rw [hi]
        unfold bodyC
        rw [if_neg (by omega), g.tail _ (Int.le_refl _) (by omega)]
        exact HT.zero _
      · rfl)
    (by
      refine ⟨?_, fun s m hs => ?_⟩
      · show if _ then _ else _
        rw [if_pos rfl]
        exact (HT.tq ..).1
      · replace hs : if _ then _ else _ := hs
        show if _ then _ else _
        rw [if_pos rfl] at hs ⊢
        exact (HT.tq ..).2 s m hs)
  rw [append_eq g hb hf]
  by_cases he : (putM l.d l.region l.next 2 (l.recs.length : Int) b).2 = 0
  · rw [if_neg (by rw [he]; decide)]
    refine ⟨fun _ => ?_, fun hx => absurd rfl hx⟩
    obtain ⟨h3, h4⟩ := h2 he
    have hhl : halfOf (putM l.d l.region l.next 2 (l.recs.length : Int) b).1 = halfOf l.d := half_len hl
    have hlay : Lay (cont (putM l.d l.region l.next 2 (l.recs.length : Int) b).1) (halfOf l.d) l.region l.turn (l.recs ++ [b]) (l.next + 1 + (secsN b.length : Int)) := by
      refine lay_snoc g.lay g.tail hb hf ?_ fun i h0 h5 hi => ?_
      · rw [h4 _ (by rcases (show l.region = 0 ∨ l.region = 1 by omega) with hx | hx <;> rw [hx] <;> omega)]
        unfold rowC
        rw [if_pos rfl]
      · rw [h4 _ h0]
        unfold rowC
        rw [if_neg hi]
    refine ⟨⟨h3, by show (putM l.d l.region l.next 2 (l.recs.length : Int) b).1.kept.length ≤ 512; rw [hl]; exact g.len, hyy, putM_down he, g.br, ?_, ?_, ?_⟩, rfl, rfl, rfl, rfl, hl, ?_⟩
    · show 4 ≤ halfOf (putM l.d l.region l.next 2 (l.recs.length : Int) b).1
      rw [hhl]; exact g.half
    · show Lay (cont (putM l.d l.region l.next 2 (l.recs.length : Int) b).1) (halfOf (putM l.d l.region l.next 2 (l.recs.length : Int) b).1) l.region l.turn (l.recs ++ [b]) (l.next + 1 + (secsN b.length : Int))
      rw [hhl]; exact hlay
    · show ∀ i, l.next + 1 + (secsN b.length : Int) ≤ i → i < halfOf (putM l.d l.region l.next 2 (l.recs.length : Int) b).1 → cont (putM l.d l.region l.next 2 (l.recs.length : Int) b).1 (l.region * halfOf (putM l.d l.region l.next 2 (l.recs.length : Int) b).1 + i) = zeroS
      rw [hhl]
      intro i h5 h6
      rw [h4 _ (by rcases (show l.region = 0 ∨ l.region = 1 by omega) with hx | hx <;> rw [hx] <;> omega)]
      unfold rowC bodyC
      rw [if_neg (by omega), if_neg (by omega)]
      exact g.tail i (by omega) h6
    · intro i h0 hi
      show cont (putM l.d l.region l.next 2 (l.recs.length : Int) b).1 i = cont l.d i
      rw [h4 i h0]
      unfold rowC bodyC
      rw [if_neg (by omega), if_neg (by omega)]
  · rw [if_pos (ne0.2 he)]
    refine ⟨fun hx => absurd hx he, fun _ => ⟨?_, ?_⟩⟩
    · show (l.broken || (putM l.d l.region l.next 2 (l.recs.length : Int) b).2 != 0) = true
      rw [ne0.2 he, Bool.or_true]
    · show After (putM l.d l.region l.next 2 (l.recs.length : Int) b).1 _
      rcases h1 he with hS | hS
      · refine hS.after hb2 fun c hc => .inl ?_
        rw [hl] at hc
        have key : ∀ i, 0 ≤ i → i < 2 * halfOf l.d → ¬ (l.region * halfOf l.d + l.next < i ∧ i < l.region * halfOf l.d + halfOf l.d) → c i = cont l.d i := by
          intro i h0 h3 hi
          have := hc i h0 (by omega)
          replace this : if _ then _ else _ := this
          rwa [if_neg hi] at this
        refine lay_keep g.lay (fun i h0 h3 hi => key i h0 h3 (by omega)) fun hx => ?_
        rw [key _ (by rcases (show l.region = 0 ∨ l.region = 1 by omega) with hx | hx <;> rw [hx] <;> omega) (by rcases (show l.region = 0 ∨ l.region = 1 by omega) with hx | hx <;> rw [hx] <;> omega) (by omega)]
        exact g.lay.stop hx
      · refine hS.after hb2 fun c hc => ?_
        rw [hl] at hc
        have hp := hc (l.region * halfOf l.d + l.next) (by rcases (show l.region = 0 ∨ l.region = 1 by omega) with hx | hx <;> rw [hx] <;> omega) (by rcases (show l.region = 0 ∨ l.region = 1 by omega) with hx | hx <;> rw [hx] <;> omega)
        replace hp : if _ then _ else _ := hp
        rw [if_pos rfl] at hp
        have key : ∀ i, 0 ≤ i → i < 2 * halfOf l.d → i ≠ l.region * halfOf l.d + l.next → c i = bodyC (cont l.d) (l.region * halfOf l.d + l.next) b i := by
          intro i h0 h3 hi
          have := hc i h0 (by omega)
          replace this : if _ then _ else _ := this
          rwa [if_neg hi] at this
        rcases hp.2 with hx | hx
        · refine .inl (lay_keep g.lay (fun i h0 h3 hi => ?_) fun _ => hx)
          rw [key i h0 h3 (by omega)]
          unfold bodyC
          rw [if_neg (by omega)]
        · exact .inr (lay_snoc g.lay g.tail hb hf hx key)
theorem append_two {l : Lg} {b : List Int} (g : Good l) (hb : b.length ≤ 16384) (hf : l.next + 1 + (secsN b.length : Int) ≤ halfOf l.d) (hx : l.d.fail = -1) : (appendM l b).2 = 0 ∨ (appendM l b).2 = 9 := by
  have hle := g.lay.le
  rw [append_eq g hb hf]
  split
  · exact putM_two g.len g.lay.r01 (by omega) (by omega) (by rw [secs_eq b.length (by omega)]; omega) hx
  · exact .inl rfl
theorem append_calm {l : Lg} {b : List Int} (g : Good l) (hb : b.length ≤ 16384) (hf : l.next + 1 + (secsN b.length : Int) ≤ halfOf l.d) (hx : Calm l.d) : (appendM l b).2 = 0 ∧ Calm (appendM l b).1.d := by
  have hle := g.lay.le
  have h := putM_calm (kind := 2) (id := (l.recs.length : Int)) g.len g.lay.r01 (show 0 ≤ l.next by omega) (show b.length ≤ 20000 by omega) (by rw [secs_eq b.length (by omega)]; omega) hx
  rw [append_eq g hb hf, if_neg (by rw [h.1]; decide)]
  exact ⟨rfl, h.2⟩
end Go.Proofs.Ytgimkldaeobhnaa.Dsk
