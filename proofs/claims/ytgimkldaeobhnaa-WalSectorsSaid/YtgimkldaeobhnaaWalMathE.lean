/- The log, in plain terms: what is written are bytes. -/
import Derived.Test.YtgimkldaeobhnaaWalMathD
namespace Go.Proofs.Ytgimkldaeobhnaa.Dsk
open Go Go.Proofs.Ytgimkldaeobhnaa.Sx

def bytesOk (b : List Int) : Prop := ∀ x ∈ b, 0 ≤ x ∧ x < 256
theorem u8_in (n : Int) : 0 ≤ IntKind.u8.wrap n ∧ IntKind.u8.wrap n < 256 := by
  rw [IntKind.wrap_u8]
  omega
theorem set_ok {b : List Int} (h : bytesOk b) (i : Nat) {y : Int} (hy : 0 ≤ y ∧ y < 256) : bytesOk (b.set i y) := by
  intro x hx
  rcases List.mem_or_eq_of_mem_set hx with hx | rfl
  · exact h x hx
  · exact hy
theorem layK_ok {b : List Int} (h : bytesOk b) (lo len : Nat) (n : Int) : ∀ k, bytesOk (layK b lo len n k)
  | 0 => h
  | k + 1 => by
    unfold layK
    exact set_ok (layK_ok h lo len n k) _ (u8_in _)
theorem of_ok {b : List Int} (h : bytesOk b) : secOk (Sec.of b) := by
  intro x hx
  by_cases hl : b.length = 64
  · rw [Sec.of_l hl] at hx
    exact h x hx
  · unfold Sec.of at hx
    rw [dif_neg hl] at hx
    exact zero_ok x hx
theorem headS_ok (k n : Int) (b : List Int) : secOk (headS k n b) := by
  unfold headS headL
  refine of_ok (set_ok (set_ok ?_ _ (u8_in _)) _ (by decide))
  exact layK_ok (layK_ok (layK_ok zero_ok _ _ _ _) _ _ _ _) _ _ _ _
theorem chunk_ok {b : List Int} (h : bytesOk b) (k : Nat) : secOk (chunkS b k) := by
  unfold chunkS
  refine of_ok fun x hx => ?_
  rcases List.mem_append.1 hx with hx | hx
  · exact h x (List.mem_of_mem_drop (List.mem_of_mem_take hx))
  · rw [List.eq_of_mem_replicate hx]
    decide
theorem DkY.call {d : Dk} (h : DkY d) : DkY d.call := h
theorem DkY.write {d : Dk} (h : DkY d) (n : Int) {x : Sec} (hx : secOk x) : DkY (d.write n x) := by
  unfold Dk.write
  split
  · exact h
  · split
    · split
      · refine ⟨h.1, fun w hw => ?_⟩
        have hw : w ∈ d.wait ++ [⟨n, x⟩] := hw
        rcases List.mem_append.1 hw with hw | hw
        · exact h.2 w hw
        · rw [List.mem_singleton.1 hw]
          exact hx
      · exact h
    · exact h
theorem keptAt_ok {d : Dk} (h : DkY d) : ∀ k, ∀ s ∈ keptAt d k, secOk s
  | 0 => h.1
  | k + 1 => by
    intro s hs
    unfold keptAt at hs
    rcases List.mem_or_eq_of_mem_set hs with hs | rfl
    · exact keptAt_ok h k s hs
    · show secOk (d.wait.getD k zeroW).data
      rw [List.getD_eq_getElem?_getD]
      cases hk : d.wait[k]? with
      | none => exact zero_ok
      | some w => exact h.2 w (List.mem_of_getElem? hk)
theorem DkY.flush {d : Dk} (h : DkY d) : DkY d.flush := by
  unfold Dk.flush
  split
  · exact h
  · split
    · exact h
    · exact ⟨keptAt_ok h _, fun w hw => by cases hw⟩
theorem DkY.clearGo {r : Int} : ∀ {m : Nat} {d : Dk} {k : Int}, DkY d → DkY (clearGo d r k m).1
  | 0, d, k, h => h.flush
  | m + 1, d, k, h => by
    unfold Dsk.clearGo
    split
    · exact h.write _ zero_ok
    · exact DkY.clearGo (m := m) (h.write _ zero_ok)
theorem DkY.putEnd {d : Dk} (h : DkY d) (f k i : Int) (b : List Int) : DkY (putEnd d f k i b).1 := by
  unfold Dsk.putEnd
  split
  · exact h.flush
  · split
    · exact h.flush.write _ (headS_ok k i b)
    · exact (h.flush.write _ (headS_ok k i b)).flush
theorem DkY.putGo {f k i : Int} {b : List Int} (hb : bytesOk b) : ∀ {m : Nat} {d : Dk} {j : Nat}, DkY d → DkY (putGo d f k i b j m).1
  | 0, d, j, h => h.putEnd ..
  | m + 1, d, j, h => by
    unfold Dsk.putGo
    split
    · exact h.write _ (chunk_ok hb _)
    · exact DkY.putGo hb (m := m) (h.write _ (chunk_ok hb _))
theorem DkY.of (n : Int) : DkY (spOf n) := by
  refine ⟨fun s hs => ?_, fun w hw => by cases hw⟩
  have hs : s ∈ List.replicate (mx 0 (mn n 512)).toNat zeroS := hs
  rw [List.eq_of_mem_replicate hs]
  exact zero_ok
/-- Beginning keeps what is known of the disk. -/
theorem begin_b {l : Lg} {b : List Int} {n : Nat} (h : DkB l.d n) (hb : b.length ≤ 20000) : DkB (beginM l b).1.d (n + 1000) := by
  have hh := half_in h.1
  have hs : secsN b.length ≤ 313 := by unfold secsN; omega
  have hA : DkB (begA l).1 (n + (halfOf l.d - 0).toNat) := DkB.clearGo h
  have hB : DkB (begB l b).1 (n + (halfOf l.d - 0).toNat + secsN b.length + 1) := DkB.putGo hA
  have hC : DkB (begC l b).1 (n + (halfOf l.d - 0).toNat + secsN b.length + 1 + secsN 0 + 1) := DkB.putGo hB
  have h0 : secsN 0 = 0 := rfl
  unfold beginM
  split
  · exact h.mono (by omega)
  split
  · exact h.mono (by omega)
  split
  · exact h.mono (by omega)
  split
  · exact hA.mono (by omega)
  split
  · exact hB.mono (by omega)
  split
  · exact hC.mono (by omega)
  · exact hC.mono (by omega)
theorem begin_y {l : Lg} {b : List Int} (h : DkY l.d) (hb : bytesOk b) : DkY (beginM l b).1.d := by
  have hA : DkY (begA l).1 := DkY.clearGo h
  have hB : DkY (begB l b).1 := DkY.putGo hb hA
  have hC : DkY (begC l b).1 := DkY.putGo (fun x hx => by cases hx) hB
  unfold beginM
  split
  · exact h
  split
  · exact h
  split
  · exact h
  split
  · exact hA
  split
  · exact hB
  split
  · exact hC
  · exact hC
theorem append_b {l : Lg} {b : List Int} {n : Nat} (h : DkB l.d n) (hb : b.length ≤ 20000) : DkB (appendM l b).1.d (n + 1000) := by
  have hs : secsN b.length ≤ 313 := by unfold secsN; omega
  have hA : DkB (putM l.d l.region l.next 2 (l.recs.length : Int) b).1 (n + secsN b.length + 1) := DkB.putGo h
  unfold appendM
  split
  · exact h.mono (by omega)
  split
  · exact h.mono (by omega)
  split
  · exact h.mono (by omega)
  split
  · exact hA.mono (by omega)
  · exact hA.mono (by omega)
theorem append_y {l : Lg} {b : List Int} (h : DkY l.d) (hb : bytesOk b) : DkY (appendM l b).1.d := by
  have hA : DkY (putM l.d l.region l.next 2 (l.recs.length : Int) b).1 := DkY.putGo hb h
  unfold appendM
  split
  · exact h
  split
  · exact h
  split
  · exact h
  split
  · exact hA
  · exact hA
theorem open_b {d : Dk} {n : Nat} (h : DkB d n) (hY : DkY d) : DkB (openM d).1.d (n + 1000) := by
  have hh := half_in h.1
  unfold openM
  split
  · exact h.mono (by omega)
  split
  · exact h.mono (by omega)
  split
  · have hx : DkB (clearM d (findR d 2).1 (findP d).2).1 (n + (halfOf d - (findP d).2).toNat) := DkB.clearGo h
    rename_i hp
    have hl := findP_in h hY hp
    exact hx.mono (by omega)
  · exact begin_b (l := findM (log0 d)) h (by decide)
theorem open_y {d : Dk} (h : DkY d) : DkY (openM d).1.d := by
  unfold openM
  split
  · exact h
  split
  · exact h
  split
  · exact DkY.clearGo h
  · exact begin_y (l := findM (log0 d)) h (fun x hx => by cases hx)
end Go.Proofs.Ytgimkldaeobhnaa.Dsk
