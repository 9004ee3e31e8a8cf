/- The log, in plain terms: what may stand on a disk that stops or fails anywhere; clearing and writing. -/
import Derived.Test.YtgimkldaeobhnaaWalMathG
namespace Go.Proofs.Ytgimkldaeobhnaa.Dsk
open Go Go.Proofs.Ytgimkldaeobhnaa.Sx

/-! ### contents -/
/-- What stands at a sector, what waits taken in. -/
def cont (d : Dk) (i : Int) : Sec := readAt d i d.wait.length
theorem readS_cont {d : Dk} (h : d.down = false) {i : Int} (hi : 0 ≤ i ∧ i < d.kept.length) : readS d i = cont d i := by
  unfold readS
  rw [if_neg (by rw [h]; decide), if_pos (inD_iff.2 hi)]
  rfl
theorem readE_in {d : Dk} (h : d.down = false) {i : Int} (hi : 0 ≤ i ∧ i < d.kept.length) : readE d i = 0 := by
  unfold readE
  rw [if_neg (by rw [h]; decide), if_pos (inD_iff.2 hi)]
theorem cont_still {d : Dk} (h : d.wait = []) (i : Int) : cont d i = getS d.kept i.toNat := by
  unfold cont
  rw [h]
  rfl
theorem writeE0 {d : Dk} {n : Int} (h : writeE d n = 0) : d.down = false ∧ (0 ≤ n ∧ n < d.kept.length) ∧ callE d = 0 := by
  unfold writeE at h
  split at h
  · cases h
  · rename_i hd
    split at h
    · rename_i hi
      exact ⟨by simpa using hd, inD_iff.1 hi, h⟩
    · cases h
theorem write0 {d : Dk} {n : Int} {x : Sec} (h : writeE d n = 0) : d.write n x = { d.call with wait := d.wait ++ [⟨n, x⟩] } := by
  obtain ⟨h1, h2, h3⟩ := writeE0 h
  unfold Dk.write
  rw [if_neg (by rw [h1]; decide), if_pos (inD_iff.2 h2), if_pos (by rw [h3]; decide)]
theorem flushE0 {d : Dk} (h : flushE d = 0) : d.down = false ∧ callE d = 0 := by
  unfold flushE at h
  split at h
  · cases h
  · rename_i hd
    exact ⟨by simpa using hd, h⟩
theorem flush0 {d : Dk} (h : flushE d = 0) : d.flush = { d.call with kept := keptAt d d.wait.length, wait := [] } := by
  obtain ⟨h1, h2⟩ := flushE0 h
  unfold Dk.flush
  rw [if_neg (by rw [h1]; decide), if_neg (by rw [h2]; decide)]
theorem readAt_app {d e : Dk} {w : Wr} (hk : e.kept = d.kept) (hw : e.wait = d.wait ++ [w]) (i : Int) : ∀ k, k ≤ d.wait.length → readAt e i k = readAt d i k
  | 0, _ => by unfold readAt; rw [hk]
  | k + 1, h => by
    have g : getW e.wait k = getW d.wait k := by rw [hw, getW_app, if_pos (by omega)]
    rw [readAt_next, readAt_next, g, readAt_app hk hw i k (by omega)]
theorem cont_write {d : Dk} {n : Int} {x : Sec} (h : writeE d n = 0) (i : Int) : cont (d.write n x) i = if i = n then x else cont d i := by
  have e := write0 (x := x) h
  have hk : (d.write n x).kept = d.kept := write_kept ..
  have hw : (d.write n x).wait = d.wait ++ [⟨n, x⟩] := by rw [e]
  have g : getW (d.write n x).wait d.wait.length = ⟨n, x⟩ := by rw [hw, getW_app, if_neg (by omega), if_pos rfl]
  unfold cont
  rw [show (d.write n x).wait.length = d.wait.length + 1 by rw [hw, List.length_append, List.length_singleton], readAt_next, g, readAt_app hk hw i _ (Nat.le_refl _)]
  by_cases hi : i = n
  · subst hi; rw [if_pos (by simp), if_pos rfl]
  · rw [if_neg (by simpa using fun h => hi h.symm), if_neg hi]
theorem keptAt_read {d : Dk} {m : Nat} (hB : DkB d m) {i : Int} (hi : 0 ≤ i) : ∀ k, k ≤ d.wait.length → getS (keptAt d k) i.toNat = readAt d i k
  | 0, _ => rfl
  | k + 1, h => by
    have hw := hB.2.2 k (by omega)
    rw [readAt_next, ← keptAt_read hB hi k (by omega)]
    show getS ((keptAt d k).set (getW d.wait k).at_.toNat (getW d.wait k).data) i.toNat = _
    rw [getS_set (by rw [keptAt_len]; omega)]
    by_cases e : (getW d.wait k).at_ = i
    · rw [if_pos (by rw [e]), if_pos (by rw [e]; simp)]
    · rw [if_neg (by omega), if_neg (by simpa using e)]
theorem cont_flush {d : Dk} {m : Nat} (hB : DkB d m) (h : flushE d = 0) {i : Int} (hi : 0 ≤ i) : cont d.flush i = cont d i := by
  rw [cont_still (by rw [flush0 h]), flush0 h]
  exact keptAt_read hB hi _ (Nat.le_refl _)
theorem flush_wait {d : Dk} (h : flushE d = 0) : d.flush.wait = [] := by rw [flush0 h]

/-! ### what may stand there -/
def TQ (Q : Int → Sec → Prop) (i : Int) (x : Sec) : Prop := Q i x ∧ ∀ s n, Q i s → Q i (tearS s x n)
structure Safe (d : Dk) (Q : Int → Sec → Prop) : Prop where
  kept : ∀ i : Int, 0 ≤ i → i < d.kept.length → Q i (getS d.kept i.toNat)
  wait : ∀ w ∈ d.wait, TQ Q w.at_ w.data
theorem getW_mem {ws : List Wr} {k : Nat} (h : k < ws.length) : getW ws k ∈ ws := by
  unfold getW
  rw [List.getD_eq_getElem?_getD, List.getElem?_eq_getElem h]
  exact List.getElem_mem h
theorem Safe.of {d : Dk} {Q : Int → Sec → Prop} (hw : d.wait = []) (h : ∀ i : Int, 0 ≤ i → i < d.kept.length → Q i (cont d i)) : Safe d Q :=
  ⟨fun i h0 h1 => by rw [← cont_still hw]; exact h i h0 h1, fun w hw' => by rw [hw] at hw'; cases hw'⟩
theorem Safe.mono {d : Dk} {Q R : Int → Sec → Prop} (h : Safe d Q) (hw : d.wait = []) (hQ : ∀ i : Int, 0 ≤ i → i < d.kept.length → ∀ s, Q i s → R i s) : Safe d R :=
  ⟨fun i h0 h1 => hQ i h0 h1 _ (h.kept i h0 h1), fun w hw' => by rw [hw] at hw'; cases hw'⟩
theorem Safe.write {d : Dk} {Q : Int → Sec → Prop} (h : Safe d Q) {n : Int} {x : Sec} (hx : TQ Q n x) : Safe (d.write n x) Q := by
  refine ⟨by rw [write_kept]; exact h.kept, fun w hw => ?_⟩
  unfold Dk.write at hw
  split at hw
  · exact h.wait w hw
  · split at hw
    · split at hw
      · have hw : w ∈ d.wait ++ [⟨n, x⟩] := hw
        rcases List.mem_append.1 hw with hw | hw
        · exact h.wait w hw
        · rw [List.mem_singleton.1 hw]; exact hx
      · exact h.wait w hw
    · exact h.wait w hw
theorem keptAt_safe {d : Dk} {m : Nat} (hB : DkB d m) {Q : Int → Sec → Prop} (h : Safe d Q) : ∀ k, k ≤ d.wait.length → ∀ i : Int, 0 ≤ i → i < d.kept.length → Q i (getS (keptAt d k) i.toNat)
  | 0, _, i, h0, h1 => h.kept i h0 h1
  | k + 1, hk, i, h0, h1 => by
    have hw := hB.2.2 k (by omega)
    have ih := keptAt_safe hB h k (by omega) i h0 h1
    show Q i (getS ((keptAt d k).set (getW d.wait k).at_.toNat (getW d.wait k).data) i.toNat)
    rw [getS_set (by rw [keptAt_len]; omega)]
    split
    · have e : (getW d.wait k).at_ = i := by omega
      have := (h.wait _ (getW_mem (show k < d.wait.length by omega))).1
      rwa [e] at this
    · exact ih
theorem keptR_safe {d : Dk} {m : Nat} (hB : DkB d m) {Q : Int → Sec → Prop} (h : Safe d Q) (a t b : Int) : ∀ k, k ≤ d.wait.length → ∀ i : Int, 0 ≤ i → i < d.kept.length → Q i (getS (keptR d a t b k) i.toNat)
  | 0, _, i, h0, h1 => h.kept i h0 h1
  | k + 1, hk, i, h0, h1 => by
    have hw := hB.2.2 k (by omega)
    have ih := keptR_safe hB h a t b k (by omega)
    have hm := h.wait _ (getW_mem (show k < d.wait.length by omega))
    rw [keptR_next]
    split
    · rw [getS_set (by rw [keptR_len]; omega)]
      split
      · have e : (getW d.wait k).at_ = i := by omega
        rw [e] at hm ⊢
        exact hm.2 _ _ (ih i h0 h1)
      · exact ih i h0 h1
    · split
      · rw [getS_set (by rw [keptR_len]; omega)]
        split
        · have e : (getW d.wait k).at_ = i := by omega
          rw [e] at hm
          exact hm.1
        · exact ih i h0 h1
      · exact ih i h0 h1
theorem Safe.flush {d : Dk} {m : Nat} (hB : DkB d m) {Q : Int → Sec → Prop} (h : Safe d Q) : Safe d.flush Q := by
  unfold Dk.flush
  split
  · exact h
  split
  · exact ⟨h.kept, h.wait⟩
  · exact ⟨fun i h0 h1 => keptAt_safe hB h _ (Nat.le_refl _) i h0 (by rw [show ((({ d.call with kept := keptAt d d.wait.length, wait := [] } : Dk).kept.length : Nat)) = d.kept.length from keptAt_len ..] at h1; exact h1), fun w hw => by cases hw⟩
theorem Safe.restart {d : Dk} {m : Nat} (hB : DkB d m) {Q : Int → Sec → Prop} (h : Safe d Q) (a t b : Int) : Safe (d.restart a t b) Q :=
  ⟨fun i h0 h1 => keptR_safe hB h a t b _ (Nat.le_refl _) i h0 (by rw [show (d.restart a t b).kept.length = d.kept.length from keptR_len ..] at h1; exact h1), fun w hw => by cases hw⟩

/-! ### errors -/
/-- What a disk tells that does not fail: nothing, or that it stopped. -/
theorem call_two {d : Dk} (h : d.fail = -1) : callE d = 0 ∨ callE d = 9 := by
  unfold callE
  split
  · exact .inr rfl
  · rw [if_neg (by rw [h]; decide)]; exact .inl rfl
theorem fail_call {d : Dk} (h : d.fail = -1) : d.call.fail = -1 := by
  show mx (-1) (IntKind.i64.wrap (d.fail - 1)) = -1
  rw [h]; decide
theorem write_fail {d : Dk} (h : d.fail = -1) (n : Int) (x : Sec) : (d.write n x).fail = -1 := by
  unfold Dk.write
  split
  · exact h
  split
  · split
    · exact fail_call h
    · exact fail_call h
  · exact h
theorem flush_fail {d : Dk} (h : d.fail = -1) : d.flush.fail = -1 := by
  unfold Dk.flush
  split
  · exact h
  split
  · exact fail_call h
  · exact fail_call h
theorem write_two {d : Dk} (h : d.fail = -1) {n : Int} (hn : 0 ≤ n ∧ n < d.kept.length) : writeE d n = 0 ∨ writeE d n = 9 := by
  unfold writeE
  split
  · exact .inr rfl
  · rw [if_pos (inD_iff.2 hn)]; exact call_two h
theorem flush_two {d : Dk} (h : d.fail = -1) : flushE d = 0 ∨ flushE d = 9 := by
  unfold flushE
  split
  · exact .inr rfl
  · exact call_two h

/-! ### clearing -/
theorem ne0 {e : Int} : (e != 0) = true ↔ e ≠ 0 := by simp
theorem clearGo_spec {Q : Int → Sec → Prop} {r : Int} (hr : 0 ≤ r ∧ r ≤ 1) : ∀ (m : Nat) (d : Dk) (k : Int) (n : Nat), DkB d n → 0 ≤ k → k + m ≤ halfOf d → Safe d Q → (∀ j : Int, k ≤ j → j < k + m → TQ Q (r * halfOf d + j) zeroS) →
    Safe (clearGo d r k m).1 Q ∧ ((clearGo d r k m).2 = 0 → (clearGo d r k m).1.wait = [] ∧ ∀ i : Int, 0 ≤ i → cont (clearGo d r k m).1 i = if r * halfOf d + k ≤ i ∧ i < r * halfOf d + k + m then zeroS else cont d i)
  | 0, d, k, n, hB, hk, hm, hS, hQ => by
    refine ⟨hS.flush hB, fun h => ⟨flush_wait h, fun i hi => ?_⟩⟩
    rw [if_neg (by omega)]
    exact cont_flush hB h hi
  | m + 1, d, k, n, hB, hk, hm, hS, hQ => by
    have hh := half_in hB.1
    have hp : posOf d r k = r * halfOf d + k := posOf_eq hB.1 hr ⟨hk, by omega⟩
    have hq := hS.write (hQ k (Int.le_refl _) (by omega))
    rw [clearGo, hp]
    split
    · rename_i he
      exact ⟨hq, fun h => absurd h (ne0.1 he)⟩
    · rename_i he
      have he : writeE d (r * halfOf d + k) = 0 := by simpa using he
      have hl : halfOf (d.write (r * halfOf d + k) zeroS) = halfOf d := half_len (write_len ..)
      obtain ⟨h1, h2⟩ := clearGo_spec hr m (d.write (r * halfOf d + k) zeroS) (k + 1) (n + 1) (hB.write ..) (by omega) (by rw [hl]; omega) hq (fun j h1 h2 => by rw [hl]; exact hQ j (by omega) (by omega))
      refine ⟨h1, fun h => ⟨(h2 h).1, fun i hi => ?_⟩⟩
      rw [(h2 h).2 i hi, hl, cont_write he]
      by_cases hc : r * halfOf d + k ≤ i ∧ i < r * halfOf d + k + ((m + 1 : Nat) : Int)
      · rw [if_pos hc]
        by_cases e : i = r * halfOf d + k
        · rw [if_pos e]; split <;> rfl
        · rw [if_pos (by omega)]
      · rw [if_neg hc, if_neg (by omega), if_neg (by omega)]
theorem clearM_spec {Q : Int → Sec → Prop} {r k : Int} {d : Dk} {n : Nat} (hr : 0 ≤ r ∧ r ≤ 1) (hB : DkB d n) (hk : 0 ≤ k) (hS : Safe d Q) (hQ : ∀ j : Int, k ≤ j → j < halfOf d → TQ Q (r * halfOf d + j) zeroS) :
    Safe (clearM d r k).1 Q ∧ ((clearM d r k).2 = 0 → (clearM d r k).1.wait = [] ∧ ∀ i : Int, 0 ≤ i → cont (clearM d r k).1 i = if r * halfOf d + k ≤ i ∧ i < r * halfOf d + halfOf d then zeroS else cont d i) := by
  unfold clearM
  by_cases hm : k ≤ halfOf d
  · obtain ⟨h1, h2⟩ := clearGo_spec hr (halfOf d - k).toNat d k n hB hk (by omega) hS (fun j h1 h2 => hQ j h1 (by omega))
    refine ⟨h1, fun h => ⟨(h2 h).1, fun i hi => ?_⟩⟩
    rw [(h2 h).2 i hi]
    by_cases hc : r * halfOf d + k ≤ i ∧ i < r * halfOf d + halfOf d
    · rw [if_pos hc, if_pos (by omega)]
    · rw [if_neg hc, if_neg (by omega)]
  · rw [show (halfOf d - k).toNat = 0 by omega]
    refine ⟨hS.flush hB, fun h => ⟨flush_wait h, fun i hi => ?_⟩⟩
    rw [if_neg (by omega)]
    exact cont_flush hB h hi
theorem clearGo_two {r : Int} (hr : 0 ≤ r ∧ r ≤ 1) : ∀ (m : Nat) (d : Dk) (k : Int), d.kept.length ≤ 512 → d.fail = -1 → 0 ≤ k → k + m ≤ halfOf d → (clearGo d r k m).2 = 0 ∨ (clearGo d r k m).2 = 9
  | 0, d, k, _, hf, _, _ => flush_two hf
  | m + 1, d, k, hd, hf, hk, hm => by
    have hh := half_in hd
    have hp : posOf d r k = r * halfOf d + k := posOf_eq hd hr ⟨hk, by omega⟩
    have hl : halfOf (d.write (posOf d r k) zeroS) = halfOf d := half_len (write_len ..)
    rw [clearGo]
    split
    · rw [hp]
      exact write_two hf (by rcases (show r = 0 ∨ r = 1 by omega) with rfl | rfl <;> omega)
    · exact clearGo_two hr m _ _ (by rw [write_len]; exact hd) (write_fail hf _ _) (by omega) (by rw [hl]; omega)
theorem clearM_two {r k : Int} {d : Dk} (hr : 0 ≤ r ∧ r ≤ 1) (hd : d.kept.length ≤ 512) (hf : d.fail = -1) (hk : 0 ≤ k) : (clearM d r k).2 = 0 ∨ (clearM d r k).2 = 9 := by
  unfold clearM
  by_cases hm : k ≤ halfOf d
  · exact clearGo_two hr _ d k hd hf hk (by omega)
  · rw [show (halfOf d - k).toNat = 0 by omega]
    exact flush_two hf
theorem clearGo_calm {r : Int} (hr : 0 ≤ r ∧ r ≤ 1) : ∀ (m : Nat) (d : Dk) (k : Int), d.kept.length ≤ 512 → Calm d → 0 ≤ k → k + m ≤ halfOf d → (clearGo d r k m).2 = 0 ∧ Calm (clearGo d r k m).1
  | 0, d, k, _, hc, _, _ => ⟨hc.flushE, hc.flush_calm⟩
  | m + 1, d, k, hd, hc, hk, hm => by
    have hh := half_in hd
    have hp : posOf d r k = r * halfOf d + k := posOf_eq hd hr ⟨hk, by omega⟩
    have hl : halfOf (d.write (posOf d r k) zeroS) = halfOf d := half_len (write_len ..)
    have hi : 0 ≤ posOf d r k ∧ posOf d r k < d.kept.length := by rw [hp]; rcases (show r = 0 ∨ r = 1 by omega) with rfl | rfl <;> omega
    rw [clearGo, if_neg (by rw [hc.writeE hi]; decide)]
    exact clearGo_calm hr m _ _ (by rw [write_len]; exact hd) (hc.write_calm hi) (by omega) (by rw [hl]; omega)
theorem clearM_calm {r k : Int} {d : Dk} (hr : 0 ≤ r ∧ r ≤ 1) (hd : d.kept.length ≤ 512) (hc : Calm d) (hk : 0 ≤ k) : (clearM d r k).2 = 0 ∧ Calm (clearM d r k).1 := by
  unfold clearM
  by_cases hm : k ≤ halfOf d
  · exact clearGo_calm hr _ d k hd hc hk (by omega)
  · rw [show (halfOf d - k).toNat = 0 by omega]
    exact ⟨hc.flushE, hc.flush_calm⟩

/-! ### writing a row -/
/-- What stands there when a row's bytes were written, its head not yet. -/
def bodyC (c : Int → Sec) (p : Int) (b : List Int) (i : Int) : Sec := if p + 1 ≤ i ∧ i < p + 1 + (secsN b.length : Int) then chunkS b (i - p - 1).toNat else c i
/-- .. and its head. -/
def rowC (c : Int → Sec) (p kind id : Int) (b : List Int) (i : Int) : Sec := if i = p then headS kind id b else bodyC c p b i
def bodyF (c : Int → Sec) (p : Int) (b : List Int) (j : Nat) (i : Int) : Sec := if p + 1 + (j : Int) ≤ i ∧ i < p + 1 + (secsN b.length : Int) then chunkS b (i - p - 1).toNat else c i
theorem putEnd_spec {Q R : Int → Sec → Prop} {p kind id : Int} {b : List Int} {d : Dk} {n : Nat} (hB : DkB d n) (hS : Safe d Q)
    (h2 : ∀ i : Int, 0 ≤ i → i < d.kept.length → R i (cont d i)) (h3 : TQ R p (headS kind id b)) :
    ((putEnd d p kind id b).2 ≠ 0 → Safe (putEnd d p kind id b).1 Q ∨ Safe (putEnd d p kind id b).1 R) ∧
    ((putEnd d p kind id b).2 = 0 → (putEnd d p kind id b).1.wait = [] ∧ ∀ i : Int, 0 ≤ i → cont (putEnd d p kind id b).1 i = if i = p then headS kind id b else cont d i) := by
  unfold putEnd
  split
  · rename_i he
    exact ⟨fun _ => .inl (hS.flush hB), fun h => absurd h (ne0.1 he)⟩
  · rename_i he
    have he : flushE d = 0 := by simpa using he
    have hl : d.flush.kept.length = d.kept.length := flush_len d
    have hR : Safe d.flush R := Safe.of (flush_wait he) fun i h0 h1 => by rw [cont_flush hB he h0]; exact h2 i h0 (by rw [hl] at h1; exact h1)
    have hR2 := hR.write h3
    split
    · rename_i hf
      exact ⟨fun _ => .inr hR2, fun h => absurd h (ne0.1 hf)⟩
    · rename_i hf
      have hf : writeE d.flush p = 0 := by simpa using hf
      refine ⟨fun _ => .inr (hR2.flush (hB.flush.write ..)), fun h => ⟨flush_wait h, fun i hi => ?_⟩⟩
      rw [cont_flush (hB.flush.write ..) h hi, cont_write hf, cont_flush hB he hi]
theorem putGo_spec {Q R : Int → Sec → Prop} {p kind id : Int} {b : List Int} (hp : 0 ≤ p ∧ p ≤ 1000) (hb : b.length ≤ 20000) : ∀ (m : Nat) (d : Dk) (j n : Nat), j + m = secsN b.length → DkB d n → Safe d Q → (∀ i : Nat, j ≤ i → i < secsN b.length → TQ Q (p + 1 + (i : Int)) (chunkS b i)) →
    (∀ i : Int, 0 ≤ i → i < d.kept.length → R i (bodyF (cont d) p b j i)) → TQ R p (headS kind id b) →
    ((putGo d p kind id b j m).2 ≠ 0 → Safe (putGo d p kind id b j m).1 Q ∨ Safe (putGo d p kind id b j m).1 R) ∧
    ((putGo d p kind id b j m).2 = 0 → (putGo d p kind id b j m).1.wait = [] ∧ ∀ i : Int, 0 ≤ i → cont (putGo d p kind id b j m).1 i = if i = p then headS kind id b else bodyF (cont d) p b j i)
  | 0, d, j, n, hj, hB, hS, h1, h2, h3 => by
    have e : ∀ i, bodyF (cont d) p b j i = cont d i := fun i => by unfold bodyF; rw [if_neg (by omega)]
    simp only [e] at h2 ⊢
    exact putEnd_spec hB hS h2 h3
  | m + 1, d, j, n, hj, hB, hS, h1, h2, h3 => by
    have hsn : 64 * secsN b.length ≤ b.length + 63 := by unfold secsN; omega
    have hw : IntKind.i64.wrap (p + ((j : Int) + 1)) = p + 1 + (j : Int) := by rw [wrap_i64_id (by omega)]; omega
    have hq := hS.write (h1 j (Nat.le_refl _) (by omega))
    rw [putGo, hw]
    split
    · rename_i he
      exact ⟨fun _ => .inl hq, fun h => absurd h (ne0.1 he)⟩
    · rename_i he
      have he : writeE d (p + 1 + (j : Int)) = 0 := by simpa using he
      have e : ∀ i, bodyF (cont (d.write (p + 1 + (j : Int)) (chunkS b j))) p b (j + 1) i = bodyF (cont d) p b j i := by
        intro i
        unfold bodyF
        rw [cont_write he]
        by_cases hi : i = p + 1 + (j : Int)
        · rw [if_neg (by omega), if_pos hi, if_pos (by omega), show (i - p - 1).toNat = j by omega]
        · rw [if_neg hi]
          by_cases hc : p + 1 + (j : Int) ≤ i ∧ i < p + 1 + (secsN b.length : Int)
          · rw [if_pos hc, if_pos (by omega)]
          · rw [if_neg hc, if_neg (by omega)]
      have := putGo_spec hp hb m (d.write (p + 1 + (j : Int)) (chunkS b j)) (j + 1) (n + 1) (by omega) (hB.write ..) hq (fun i h4 h5 => h1 i (by omega) h5) (fun i h4 h5 => by rw [e]; exact h2 i h4 (by rw [write_len] at h5; exact h5)) h3
      simp only [e] at this
      exact this
theorem putM_spec {Q R : Int → Sec → Prop} {r a kind id : Int} {b : List Int} {d : Dk} {n : Nat} (hr : 0 ≤ r ∧ r ≤ 1) (ha : 0 ≤ a) (hh : a ≤ halfOf d) (hb : b.length ≤ 20000) (hB : DkB d n) (hS : Safe d Q) (h1 : ∀ i : Nat, i < secsN b.length → TQ Q (r * halfOf d + a + 1 + (i : Int)) (chunkS b i))
    (h2 : ∀ i : Int, 0 ≤ i → i < d.kept.length → R i (bodyC (cont d) (r * halfOf d + a) b i)) (h3 : TQ R (r * halfOf d + a) (headS kind id b)) :
    ((putM d r a kind id b).2 ≠ 0 → Safe (putM d r a kind id b).1 Q ∨ Safe (putM d r a kind id b).1 R) ∧
    ((putM d r a kind id b).2 = 0 → (putM d r a kind id b).1.wait = [] ∧ ∀ i : Int, 0 ≤ i → cont (putM d r a kind id b).1 i = rowC (cont d) (r * halfOf d + a) kind id b i) := by
  have hi := half_in hB.1
  have hp : posOf d r a = r * halfOf d + a := posOf_eq hB.1 hr ⟨ha, by omega⟩
  unfold putM
  rw [hp]
  have hq : 0 ≤ r * halfOf d + a ∧ r * halfOf d + a ≤ 1000 := by rcases (show r = 0 ∨ r = 1 by omega) with rfl | rfl <;> omega
  have e : ∀ i, bodyF (cont d) (r * halfOf d + a) b 0 i = bodyC (cont d) (r * halfOf d + a) b i := fun i => by unfold bodyF bodyC; simp
  have := putGo_spec (Q := Q) (R := R) (kind := kind) (id := id) hq hb (secsN b.length) d 0 n (by omega) hB hS (fun i _ h => h1 i h) (fun i h4 h5 => by rw [e]; exact h2 i h4 h5) h3
  simp only [e] at this
  exact this
theorem putEnd_two {p kind id : Int} {b : List Int} {d : Dk} (hp : 0 ≤ p ∧ p < d.kept.length) (hf : d.fail = -1) : (putEnd d p kind id b).2 = 0 ∨ (putEnd d p kind id b).2 = 9 := by
  unfold putEnd
  split
  · exact flush_two hf
  split
  · exact write_two (flush_fail hf) (by rw [flush_len]; exact hp)
  · exact flush_two (write_fail (flush_fail hf) _ _)
theorem putGo_two {p kind id : Int} {b : List Int} (hb : b.length ≤ 20000) : ∀ (m : Nat) (d : Dk) (j : Nat), j + m = secsN b.length → (0 ≤ p ∧ p + (secsN b.length : Int) < d.kept.length) → d.kept.length ≤ 512 → d.fail = -1 → (putGo d p kind id b j m).2 = 0 ∨ (putGo d p kind id b j m).2 = 9
  | 0, d, j, hj, hp, hd, hf => putEnd_two (by omega) hf
  | m + 1, d, j, hj, hp, hd, hf => by
    have hw : IntKind.i64.wrap (p + ((j : Int) + 1)) = p + 1 + (j : Int) := by rw [wrap_i64_id (by omega)]; omega
    rw [putGo, hw]
    split
    · exact write_two hf (by omega)
    · exact putGo_two hb m _ (j + 1) (by omega) (by rw [write_len]; exact hp) (by rw [write_len]; exact hd) (write_fail hf _ _)
theorem putEnd_calm {p kind id : Int} {b : List Int} {d : Dk} (hp : 0 ≤ p ∧ p < d.kept.length) (hc : Calm d) : (putEnd d p kind id b).2 = 0 ∧ Calm (putEnd d p kind id b).1 := by
  unfold putEnd
  rw [if_neg (by rw [hc.flushE]; decide), if_neg (by rw [hc.flush_calm.writeE (by rw [flush_len]; exact hp)]; decide)]
  have := hc.flush_calm.write_calm (n := p) (x := headS kind id b) (by rw [flush_len]; exact hp)
  exact ⟨this.flushE, this.flush_calm⟩
theorem putGo_calm {p kind id : Int} {b : List Int} (hb : b.length ≤ 20000) : ∀ (m : Nat) (d : Dk) (j : Nat), j + m = secsN b.length → (0 ≤ p ∧ p + (secsN b.length : Int) < d.kept.length) → d.kept.length ≤ 512 → Calm d → (putGo d p kind id b j m).2 = 0 ∧ Calm (putGo d p kind id b j m).1
  | 0, d, j, hj, hp, hd, hc => putEnd_calm (by omega) hc
  | m + 1, d, j, hj, hp, hd, hc => by
    have hw : IntKind.i64.wrap (p + ((j : Int) + 1)) = p + 1 + (j : Int) := by rw [wrap_i64_id (by omega)]; omega
    have hi : 0 ≤ p + 1 + (j : Int) ∧ p + 1 + (j : Int) < d.kept.length := by omega
    rw [putGo, hw, if_neg (by rw [hc.writeE hi]; decide)]
    exact putGo_calm hb m _ (j + 1) (by omega) (by rw [write_len]; exact hp) (by rw [write_len]; exact hd) (hc.write_calm hi)
theorem pos_in {d : Dk} {r a : Int} {b : List Int} (hd : d.kept.length ≤ 512) (hr : 0 ≤ r ∧ r ≤ 1) (ha : 0 ≤ a) (hb : b.length ≤ 20000) (hf : a + secsOf (b.length : Int) ≤ halfOf d) : posOf d r a = r * halfOf d + a ∧ 0 ≤ posOf d r a ∧ posOf d r a + (secsN b.length : Int) < d.kept.length := by
  have hi := half_in hd
  have hs := secs_eq b.length (by omega)
  have hp : posOf d r a = r * halfOf d + a := posOf_eq hd hr ⟨ha, by omega⟩
  refine ⟨hp, ?_⟩
  rw [hp]
  rcases (show r = 0 ∨ r = 1 by omega) with rfl | rfl <;> omega
theorem putM_two {d : Dk} {r a kind id : Int} {b : List Int} (hd : d.kept.length ≤ 512) (hr : 0 ≤ r ∧ r ≤ 1) (ha : 0 ≤ a) (hb : b.length ≤ 20000) (hf : a + secsOf (b.length : Int) ≤ halfOf d) (hx : d.fail = -1) : (putM d r a kind id b).2 = 0 ∨ (putM d r a kind id b).2 = 9 :=
  putGo_two hb _ d 0 (by omega) (pos_in hd hr ha hb hf).2 hd hx
theorem putM_calm {d : Dk} {r a kind id : Int} {b : List Int} (hd : d.kept.length ≤ 512) (hr : 0 ≤ r ∧ r ≤ 1) (ha : 0 ≤ a) (hb : b.length ≤ 20000) (hf : a + secsOf (b.length : Int) ≤ halfOf d) (hc : Calm d) : (putM d r a kind id b).2 = 0 ∧ Calm (putM d r a kind id b).1 :=
  putGo_calm hb _ d 0 (by omega) (pos_in hd hr ha hb hf).2 hd hc
end Go.Proofs.Ytgimkldaeobhnaa.Dsk
