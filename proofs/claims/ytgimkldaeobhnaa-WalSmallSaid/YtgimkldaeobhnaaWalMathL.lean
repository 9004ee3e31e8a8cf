/- The log, in plain terms: a disk that stops at once; states of a log whose disk is told anew. -/
import Derived.Test.YtgimkldaeobhnaaWalMathK
namespace Go.Proofs.Ytgimkldaeobhnaa.Dsk
open Go Go.Proofs.Ytgimkldaeobhnaa.Sx

/-- The same disk, armed. -/
theorem cont_arm {d : Dk} (hw : d.wait = []) (x y c : Int) (i : Int) : cont { d with left := x, fail := y, calls := c } i = cont d i := (cont_still (d := { d with left := x, fail := y, calls := c }) hw i).trans (cont_still hw i).symm
theorem Good.arm {l : Lg} (g : Good l) (x y c : Int) : Good { l with d := { l.d with left := x, fail := y, calls := c } } := by
  have hc : cont ({ l.d with left := x, fail := y, calls := c } : Dk) = cont l.d := funext fun i => cont_arm g.wait x y c i
  refine ⟨g.wait, g.len, g.y, g.down, g.br, g.half, ?_, ?_⟩
  · show Lay (cont ({ l.d with left := x, fail := y, calls := c } : Dk)) (halfOf l.d) l.region l.turn l.recs l.next
    rw [hc]; exact g.lay
  · show ∀ i, l.next ≤ i → i < halfOf l.d → cont ({ l.d with left := x, fail := y, calls := c } : Dk) (l.region * halfOf l.d + i) = zeroS
    rw [hc]; exact g.tail
theorem Good.b {l : Lg} (g : Good l) {m : Nat} : DkB l.d m := ⟨g.len, by rw [g.wait]; exact Nat.zero_le _, fun k hk => by rw [g.wait] at hk; exact absurd hk (Nat.not_lt_zero _)⟩
theorem Good.log {l : Lg} (g : Good l) : logOk l l.region l.next := ⟨g.b, g.lay.r01, by have := g.lay.le; omega, g.lay.le.2⟩
theorem Good.recs_le {l : Lg} (g : Good l) : l.recs.length ≤ 256 := by
  have h := half_in g.len
  have := g.lay.le
  omega
theorem Good.recs_ok {l : Lg} (g : Good l) : l.recs.length ≤ 1000000 ∧ ∀ b ∈ l.recs, b.length ≤ 1000000 := ⟨by have := g.recs_le; omega, fun b hb => by have := chain_len g.lay.chain b hb; omega⟩
theorem Good.app {l : Lg} (g : Good l) {b : List Int} (hb : b.length * 1 ≤ 140737488355328) : appOk l b := ⟨g.log, by have := g.recs_le; omega, hb⟩
theorem Good.begOk {l : Lg} (g : Good l) {b : List Int} (hb : b.length * 1 ≤ 140737488355328) : begOk l b := ⟨g.b, g.lay.r01, hb⟩
theorem Good.open_ok {l : Lg} (g : Good l) : openOk l.d := ⟨g.b, g.y⟩
theorem call_stop {d : Dk} (h : d.left = 0) : callE d = 9 ∧ d.call.down = true := by
  refine ⟨?_, ?_⟩
  · unfold callE
    rw [h]; simp
  · show (d.down || d.left == 0) = true
    rw [h]; simp
theorem flush_stop {d : Dk} (h : d.left = 0) : flushE d = 9 ∧ d.flush.down = true := by
  have hc := call_stop h
  unfold flushE Dk.flush
  by_cases hd : d.down = true
  · rw [if_pos hd, if_pos hd]; exact ⟨rfl, hd⟩
  · rw [if_neg hd, if_neg hd, if_pos (by rw [hc.1]; decide)]; exact hc
theorem write_stop {d : Dk} (h : d.left = 0) {n : Int} (x : Sec) (hn : 0 ≤ n ∧ n < d.kept.length) : writeE d n = 9 ∧ (d.write n x).down = true := by
  have hc := call_stop h
  unfold writeE Dk.write
  by_cases hd : d.down = true
  · rw [if_pos hd, if_pos hd]; exact ⟨rfl, hd⟩
  · rw [if_neg hd, if_neg hd, if_pos (inD_iff.2 hn), if_pos (inD_iff.2 hn), if_pos (by rw [hc.1]; decide)]
    exact hc
theorem put_stop {d : Dk} {r a kind id : Int} {b : List Int} (hd : d.kept.length ≤ 512) (hr : 0 ≤ r ∧ r ≤ 1) (ha : 0 ≤ a) (hb : b.length ≤ 20000) (hf : a + secsOf (b.length : Int) ≤ halfOf d) (h : d.left = 0) : (putM d r a kind id b).2 = 9 ∧ (putM d r a kind id b).1.down = true := by
  have hp := pos_in hd hr ha hb hf
  unfold putM
  generalize posOf d r a = p at hp ⊢
  have hsn : 64 * secsN b.length ≤ b.length + 63 := by unfold secsN; omega
  cases hs : secsN b.length with
  | zero =>
    show (putEnd d p kind id b).2 = 9 ∧ (putEnd d p kind id b).1.down = true
    have hc := flush_stop h
    unfold putEnd
    rw [if_pos (by rw [hc.1]; decide)]
    exact hc
  | succ m =>
    have hw : IntKind.i64.wrap (p + (((0 : Nat) : Int) + 1)) = p + 1 := by rw [wrap_i64_id (by omega)]; omega
    have hc := write_stop h (n := p + 1) (chunkS b 0) (by omega)
    rw [putGo, hw, if_pos (by rw [hc.1]; decide)]
    exact hc
theorem append_stop {l : Lg} {b : List Int} (g : Good l) (hb : b.length ≤ 16384) (hf : l.next + 1 + (secsN b.length : Int) ≤ halfOf l.d) (h : l.d.left = 0) : (appendM l b).2 = 9 ∧ (appendM l b).1.d.down = true := by
  have hle := g.lay.le
  have hp := put_stop (kind := 2) (id := (l.recs.length : Int)) g.len g.lay.r01 (show 0 ≤ l.next by omega) (show b.length ≤ 20000 by omega) (by rw [secs_eq b.length (by omega)]; omega) h
  rw [append_eq g hb hf, if_pos (by rw [hp.1]; decide)]
  exact hp
theorem append_len (l : Lg) (b : List Int) : (appendM l b).1.d.kept.length = l.d.kept.length := by
  unfold appendM
  split
  · rfl
  split
  · rfl
  split
  · rfl
  split
  · exact putM_len ..
  · exact putM_len ..
theorem of_wrap (n : Int) : IntKind.i64.wrap ((mx 0 (mn n 512)).tdiv 2) = halfOf (spOf n) := by
  unfold halfOf
  rw [of_len]
theorem take_bytes {b : List Int} (h : ∀ x ∈ b, 0 ≤ x ∧ x < 256) (k : Nat) : bytesOk (List.drop 0 (List.take k b)) := fun x hx => h x (List.mem_of_mem_take (List.mem_of_mem_drop hx))
theorem take_len (b : List Int) (m : Int) (hm : 0 ≤ m) : (List.drop 0 (List.take (mn (b.length : Int) m).toNat b)).length = min b.length m.toNat := by
  rw [List.drop_zero, List.length_take]
  unfold mn
  split <;> omega
end Go.Proofs.Ytgimkldaeobhnaa.Dsk
