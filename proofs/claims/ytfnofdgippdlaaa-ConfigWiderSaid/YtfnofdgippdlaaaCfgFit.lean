/- The nearest choice may be; of two choices the greatest of each may be: the laws ConfigFit and ConfigWider, by the bodies' contracts. -/
import Derived.Test.YtfnofdgippdlaaaCfgVcB
namespace Go.Proofs.Ytfnofdgippdlaaa.Cfg
open Go Go.Proofs.Ytfnofdgippdlaaa.Sx
def fine (c0 c1 c2 c3 c4 c5 c6 c7 c8 : Int) : Prop := (1 ≤ c0 ∧ c0 ≤ 1000) ∧ (c0 ≤ c1 ∧ c1 ≤ 10000) ∧ (1 ≤ c2 ∧ c2 ≤ 6) ∧ (1 ≤ c3 ∧ c3 ≤ 1000) ∧ (1 ≤ c4 ∧ c4 ≤ 64) ∧ (1 ≤ c5 ∧ c5 ≤ 100) ∧ (0 ≤ c6 ∧ c6 ≤ 8) ∧ (1 ≤ c7 ∧ c7 ≤ 1000) ∧ (0 ≤ c8 ∧ c8 ≤ 1000)
theorem right_ok {c0 c1 c2 c3 c4 c5 c6 c7 c8 : Int} (h : fine c0 c1 c2 c3 c4 c5 c6 c7 c8) : right c0 c1 c2 c3 c4 c5 c6 c7 c8 = -1 := by
  obtain ⟨h0, h1, h2, h3, h4, h5, h6, h7, h8⟩ := h
  unfold right
  (repeat rw [if_neg (by omega)])
theorem right_inv {c0 c1 c2 c3 c4 c5 c6 c7 c8 : Int} (h : right c0 c1 c2 c3 c4 c5 c6 c7 c8 = -1) : fine c0 c1 c2 c3 c4 c5 c6 c7 c8 := by
  unfold right at h
  iterate 9 (split at h; omega)
  refine ⟨⟨?_, ?_⟩, ⟨?_, ?_⟩, ⟨?_, ?_⟩, ⟨?_, ?_⟩, ⟨?_, ?_⟩, ⟨?_, ?_⟩, ⟨?_, ?_⟩, ⟨?_, ?_⟩, ⟨?_, ?_⟩⟩ <;> omega
theorem clamp_in {n lo hi : Int} (h : lo ≤ n ∧ n ≤ hi) : clamp n lo hi = n := by
  unfold clamp mx mn
  split <;> split at * <;> omega
theorem clamp_rng {n lo hi : Int} (h : lo ≤ hi) : lo ≤ clamp n lo hi ∧ clamp n lo hi ≤ hi := by
  unfold clamp mx mn
  split <;> split at * <;> omega
theorem clamp_out {n lo hi : Int} (h : lo ≤ hi) (e : clamp n lo hi = n) : lo ≤ n ∧ n ≤ hi := by
  have := clamp_rng (n := n) h
  rw [e] at this
  exact this
theorem mx_rng {a b lo hi : Int} (h : lo ≤ a ∧ a ≤ hi) (k : lo ≤ b ∧ b ≤ hi) : lo ≤ mx a b ∧ mx a b ≤ hi := by
  unfold mx
  split <;> omega
theorem mx_le {a b c d : Int} (h : a ≤ c) (k : b ≤ d) : mx a b ≤ mx c d := by
  unfold mx
  split <;> split <;> omega
theorem fc_rng {b n : Int} (h : 0 ≤ n ∧ n < 256) (hb : 0 < b) (hb2 : b < 1000) : 1 ≤ fc b n ∧ fc b n ≤ b := by
  rw [fc_eq h hb hb2]
  have := Int.emod_nonneg n (show b ≠ 0 by omega)
  have := Int.emod_lt_of_pos n hb
  omega
theorem fz_rng {b n : Int} (h : 0 ≤ n ∧ n < 256) (hb : 0 < b) (hb2 : b < 1000) : 0 ≤ fz b n ∧ fz b n ≤ b - 1 := by
  rw [fz_eq h hb hb2]
  have := Int.emod_nonneg n (show b ≠ 0 by omega)
  have := Int.emod_lt_of_pos n hb
  omega
theorem old_rng {x0 x1 : Int} (h0 : 0 ≤ x0 ∧ x0 < 256) (h1 : 0 ≤ x1 ∧ x1 < 256) : fc 30 x0 ≤ IntKind.i64.wrap (fc 30 x0 + fz 60 x1) ∧ IntKind.i64.wrap (fc 30 x0 + fz 60 x1) ≤ 90 := by
  rw [old_eq h0 h1, fc_eq h0 (by omega) (by omega)]
  omega
theorem conf_fine {x0 x1 x2 x3 x4 x5 x6 x7 x8 : Int} (h : u8s x0 x1 x2 x3 x4 x5 x6 x7 x8) : fine (fc 30 x0) (IntKind.i64.wrap (fc 30 x0 + fz 60 x1)) (fc 6 x2) (fc 20 x3) (fc 9 x4) (fc 6 x5) (fz 4 x6) (fc 40 x7) (fz 50 x8) := right_inv (right_conf h)
theorem both_fine {c0 c1 c2 c3 c4 c5 c6 c7 c8 d0 d1 d2 d3 d4 d5 d6 d7 d8 : Int} (h : fine c0 c1 c2 c3 c4 c5 c6 c7 c8) (k : fine d0 d1 d2 d3 d4 d5 d6 d7 d8) : fine (mx c0 d0) (mx c1 d1) (mx c2 d2) (mx c3 d3) (mx c4 d4) (mx c5 d5) (mx c6 d6) (mx c7 d7) (mx c8 d8) := by
  obtain ⟨h0, h1, h2, h3, h4, h5, h6, h7, h8⟩ := h
  obtain ⟨k0, k1, k2, k3, k4, k5, k6, k7, k8⟩ := k
  exact ⟨mx_rng h0 k0, ⟨mx_le h1.1 k1.1, (mx_rng (lo := -100000000000) (a := c1) (b := d1) ⟨by omega, h1.2⟩ ⟨by omega, k1.2⟩).2⟩, mx_rng h2 k2, mx_rng h3 k3, mx_rng h4 k4, mx_rng h5 k5, mx_rng h6 k6, mx_rng h7 k7, mx_rng h8 k8⟩
theorem fit_fine {c0 c1 c2 c3 c4 c5 c6 c7 c8 : Int} (h : fine c0 c1 c2 c3 c4 c5 c6 c7 c8) : clamp c0 1 1000 = c0 ∧ clamp c1 (clamp c0 1 1000) 10000 = c1 ∧ clamp c2 1 6 = c2 ∧ clamp c3 1 1000 = c3 ∧ clamp c4 1 64 = c4 ∧ clamp c5 1 100 = c5 ∧ clamp c6 0 8 = c6 ∧ clamp c7 1 1000 = c7 ∧ clamp c8 0 1000 = c8 := by
  obtain ⟨h0, h1, h2, h3, h4, h5, h6, h7, h8⟩ := h
  have e := clamp_in h0
  exact ⟨e, by rw [e]; exact clamp_in h1, clamp_in h2, clamp_in h3, clamp_in h4, clamp_in h5, clamp_in h6, clamp_in h7, clamp_in h8⟩
theorem fine_fit {c0 c1 c2 c3 c4 c5 c6 c7 c8 : Int} (h : clamp c0 1 1000 = c0 ∧ clamp c1 (clamp c0 1 1000) 10000 = c1 ∧ clamp c2 1 6 = c2 ∧ clamp c3 1 1000 = c3 ∧ clamp c4 1 64 = c4 ∧ clamp c5 1 100 = c5 ∧ clamp c6 0 8 = c6 ∧ clamp c7 1 1000 = c7 ∧ clamp c8 0 1000 = c8) : fine c0 c1 c2 c3 c4 c5 c6 c7 c8 := by
  obtain ⟨h0, h1, h2, h3, h4, h5, h6, h7, h8⟩ := h
  have g0 := clamp_out (by omega) h0
  rw [h0] at h1
  exact ⟨g0, clamp_out (by omega) h1, clamp_out (by omega) h2, clamp_out (by omega) h3, clamp_out (by omega) h4, clamp_out (by omega) h5, clamp_out (by omega) h6, clamp_out (by omega) h7, clamp_out (by omega) h8⟩
theorem fitted_fine (c0 c1 c2 c3 c4 c5 c6 c7 c8 : Int) : fine (clamp c0 1 1000) (clamp c1 (clamp c0 1 1000) 10000) (clamp c2 1 6) (clamp c3 1 1000) (clamp c4 1 64) (clamp c5 1 100) (clamp c6 0 8) (clamp c7 1 1000) (clamp c8 0 1000) := by
  have g := clamp_rng (n := c0) (lo := 1) (hi := 1000) (by omega)
  exact ⟨g, clamp_rng (by omega), clamp_rng (by omega), clamp_rng (by omega), clamp_rng (by omega), clamp_rng (by omega), clamp_rng (by omega), clamp_rng (by omega), clamp_rng (by omega)⟩
theorem body12 (x0 x1 x2 x3 x4 x5 x6 x7 x8 y0 y1 y2 y3 y4 y5 y6 y7 y8 : Int) (hx : u8s x0 x1 x2 x3 x4 x5 x6 x7 x8) (hy : u8s y0 y1 y2 y3 y4 y5 y6 y7 y8) : BodyOk Try.prog u tab2 [] Try.f12 [.agg (cho x0 x1 x2 x3 x4 x5 x6 x7 x8), .agg (cho y0 y1 y2 y3 y4 y5 y6 y7 y8)] (.bool true) := by
  constructor
  have e : bodyW Try.prog u tab2 (drawW Try.prog u tab2) (loopsBy []) Try.f12 [.agg (cho x0 x1 x2 x3 x4 x5 x6 x7 x8), .agg (cho y0 y1 y2 y3 y4 y5 y6 y7 y8)] (.bool true) = vc12 x0 x1 x2 x3 x4 x5 x6 x7 x8 y0 y1 y2 y3 y4 y5 y6 y7 y8 := by kernel_rfl
  rw [e]
  unfold vc12
  have hf := both_fine (conf_fine hx) (conf_fine hy)
  rw [right_ok hf]
  obtain ⟨e0, e1, e2, e3, e4, e5, e6, e7, e8⟩ := fit_fine hf
  rw [e1, e0, e2, e3, e4, e5, e6, e7, e8]
  refine ⟨fun h => absurd h (by decide), fun _ => ?_⟩
  simp
theorem body10 (c0 c1 c2 c3 c4 c5 c6 c7 c8 x0 x1 x2 x3 x4 x5 x6 x7 x8 : Int) (hx : u8s x0 x1 x2 x3 x4 x5 x6 x7 x8) : BodyOk Try.prog u tab2 [(0, .rounds 10)] Try.f10 [.agg (cfg c0 c1 c2 c3 c4 c5 c6 c7 c8), .agg (cho x0 x1 x2 x3 x4 x5 x6 x7 x8)] (.bool true) := by
  constructor
  have e : bodyW Try.prog u tab2 (drawW Try.prog u tab2) (loopsBy [(0, .rounds 10)]) Try.f10 [.agg (cfg c0 c1 c2 c3 c4 c5 c6 c7 c8), .agg (cho x0 x1 x2 x3 x4 x5 x6 x7 x8)] (.bool true) = vc10 c0 c1 c2 c3 c4 c5 c6 c7 c8 x0 x1 x2 x3 x4 x5 x6 x7 x8 := by kernel_rfl
  rw [e]
  unfold vc10
  have hf := fitted_fine c0 c1 c2 c3 c4 c5 c6 c7 c8
  rw [right_ok hf]
  have hff := fit_fine hf
  have hxx := fit_fine (conf_fine hx)
  have hiff : (clamp c0 1 1000 == c0 && (clamp c1 (clamp c0 1 1000) 10000 == c1 && (clamp c2 1 6 == c2 && (clamp c3 1 1000 == c3 && (clamp c4 1 64 == c4 && (clamp c5 1 100 == c5 && (clamp c6 0 8 == c6 && (clamp c7 1 1000 == c7 && (clamp c8 0 1000 == c8 && true))))))))) = (right c0 c1 c2 c3 c4 c5 c6 c7 c8 == -1) := by
    rw [Bool.eq_iff_iff]
    simp only [Bool.and_eq_true, beq_iff_eq, and_true]
    constructor
    · intro h; exact right_ok (fine_fit h)
    · intro h; exact fit_fine (right_inv h)
  obtain ⟨e0, e1, e2, e3, e4, e5, e6, e7, e8⟩ := hff
  obtain ⟨g0, g1, g2, g3, g4, g5, g6, g7, g8⟩ := hxx
  rw [e1, e0, e2, e3, e4, e5, e6, e7, e8, g1, g0, g2, g3, g4, g5, g6, g7, g8, hiff]
  refine ⟨fun h => absurd h (by decide), fun _ => ⟨fun h => ?_, fun _ => ?_⟩⟩
  · simp at h
  · simp [clamp]
def sp12 : Sx.Spec A
  | [.agg [.int .u8 x0, .int .u8 x1, .int .u8 x2, .int .u8 x3, .int .u8 x4, .int .u8 x5, .int .u8 x6, .int .u8 x7, .int .u8 x8], .agg [.int .u8 y0, .int .u8 y1, .int .u8 y2, .int .u8 y3, .int .u8 y4, .int .u8 y5, .int .u8 y6, .int .u8 y7, .int .u8 y8]] => some (some (u8s x0 x1 x2 x3 x4 x5 x6 x7 x8 ∧ u8s y0 y1 y2 y3 y4 y5 y6 y7 y8), .bool true)
  | _ => none
theorem ok12 : FnOk Try.prog u 12 sp12 := by
  refine fn_ok Try.prog u tab2 mo laws2 Try.func12 ?_
  intro xs c y h hc
  unfold sp12 at h
  split at h
  · cases h
    rename_i x0 x1 x2 x3 x4 x5 x6 x7 x8 y0 y1 y2 y3 y4 y5 y6 y7 y8
    exact ⟨by kernel_rfl, [], body12 x0 x1 x2 x3 x4 x5 x6 x7 x8 y0 y1 y2 y3 y4 y5 y6 y7 y8 hc.1 hc.2⟩
  · cases h
def sp10 : Sx.Spec A
  | [.agg [.int .i64 c0, .int .i64 c1, .int .i64 c2, .int .i64 c3, .int .i64 c4, .int .i64 c5, .int .i64 c6, .int .i64 c7, .int .i64 c8], .agg [.int .u8 x0, .int .u8 x1, .int .u8 x2, .int .u8 x3, .int .u8 x4, .int .u8 x5, .int .u8 x6, .int .u8 x7, .int .u8 x8]] => some (some (u8s x0 x1 x2 x3 x4 x5 x6 x7 x8), .bool true)
  | _ => none
theorem ok10 : FnOk Try.prog u 10 sp10 := by
  refine fn_ok Try.prog u tab2 mo laws2 Try.func10 ?_
  intro xs c y h hc
  unfold sp10 at h
  split at h
  · cases h
    rename_i c0 c1 c2 c3 c4 c5 c6 c7 c8 x0 x1 x2 x3 x4 x5 x6 x7 x8
    exact ⟨by kernel_rfl, [(0, .rounds 10)], body10 c0 c1 c2 c3 c4 c5 c6 c7 c8 x0 x1 x2 x3 x4 x5 x6 x7 x8 hc⟩
  · cases h
end Go.Proofs.Ytfnofdgippdlaaa.Cfg
