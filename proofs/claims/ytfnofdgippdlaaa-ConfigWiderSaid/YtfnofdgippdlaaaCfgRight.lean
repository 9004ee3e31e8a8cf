/- What may not be first is told: the law ConfigRight, by the bodies' contracts. -/
import Derived.Test.YtfnofdgippdlaaaCfgWalk
namespace Go.Proofs.Ytfnofdgippdlaaa.Cfg
open Go Go.Proofs.Ytfnofdgippdlaaa.Sx

def u8s (x0 x1 x2 x3 x4 x5 x6 x7 x8 : Int) : Prop := (0 ≤ x0 ∧ x0 < 256) ∧ (0 ≤ x1 ∧ x1 < 256) ∧ (0 ≤ x2 ∧ x2 < 256) ∧ (0 ≤ x3 ∧ x3 < 256) ∧ (0 ≤ x4 ∧ x4 < 256) ∧ (0 ≤ x5 ∧ x5 < 256) ∧ (0 ≤ x6 ∧ x6 < 256) ∧ (0 ≤ x7 ∧ x7 < 256) ∧ (0 ≤ x8 ∧ x8 < 256)
theorem fz_eq {b n : Int} (h : 0 ≤ n ∧ n < 256) (hb : 0 < b) (hb2 : b < 1000) : fz b n = n % b := by
  unfold fz
  rw [Int.tmod_eq_emod_of_nonneg h.1, wrap_small _ (Int.emod_nonneg _ (by omega)) (by have := Int.emod_lt_of_pos n hb; omega)]
theorem fc_eq {b n : Int} (h : 0 ≤ n ∧ n < 256) (hb : 0 < b) (hb2 : b < 1000) : fc b n = 1 + n % b := by
  unfold fc
  rw [fz_eq h hb hb2, wrap_small _ (by have := Int.emod_nonneg n (show b ≠ 0 by omega); omega) (by have := Int.emod_lt_of_pos n hb; omega)]
theorem old_eq {x0 x1 : Int} (h0 : 0 ≤ x0 ∧ x0 < 256) (h1 : 0 ≤ x1 ∧ x1 < 256) : IntKind.i64.wrap (fc 30 x0 + fz 60 x1) = 1 + x0 % 30 + x1 % 60 := by
  rw [fc_eq h0 (by omega) (by omega), fz_eq h1 (by omega) (by omega), wrap_small _ (by omega) (by omega)]
theorem right_conf {x0 x1 x2 x3 x4 x5 x6 x7 x8 : Int} (h : u8s x0 x1 x2 x3 x4 x5 x6 x7 x8) : right (fc 30 x0) (IntKind.i64.wrap (fc 30 x0 + fz 60 x1)) (fc 6 x2) (fc 20 x3) (fc 9 x4) (fc 6 x5) (fz 4 x6) (fc 40 x7) (fz 50 x8) = -1 := by
  obtain ⟨h0, h1, h2, h3, h4, h5, h6, h7, h8⟩ := h
  rw [old_eq h0 h1, fc_eq h0 (by omega) (by omega), fc_eq h2 (by omega) (by omega), fc_eq h3 (by omega) (by omega), fc_eq h4 (by omega) (by omega), fc_eq h5 (by omega) (by omega), fz_eq h6 (by omega) (by omega), fc_eq h7 (by omega) (by omega), fz_eq h8 (by omega) (by omega)]
  unfold right
  (repeat rw [if_neg (by omega)])
theorem chain {c0 c1 c2 c3 c4 c5 c6 c7 c8 v0 v1 v2 v3 v4 v5 v6 v7 v8 : Int} (h0 : v0 = if (decide ((-1 : Int) < 0) && (decide (c0 < 1) || decide (c0 > 1000))) = true then 0 else (-1 : Int)) (h1 : v1 = if (decide (v0 < 0) && (decide (c1 < c0) || decide (c1 > 10000))) = true then 1 else v0) (h2 : v2 = if (decide (v1 < 0) && (decide (c2 < 1) || decide (c2 > 6))) = true then 2 else v1) (h3 : v3 = if (decide (v2 < 0) && (decide (c3 < 1) || decide (c3 > 1000))) = true then 3 else v2) (h4 : v4 = if (decide (v3 < 0) && (decide (c4 < 1) || decide (c4 > 64))) = true then 4 else v3) (h5 : v5 = if (decide (v4 < 0) && (decide (c5 < 1) || decide (c5 > 100))) = true then 5 else v4) (h6 : v6 = if (decide (v5 < 0) && (decide (c6 < 0) || decide (c6 > 8))) = true then 6 else v5) (h7 : v7 = if (decide (v6 < 0) && (decide (c7 < 1) || decide (c7 > 1000))) = true then 7 else v6) (h8 : v8 = if (decide (v7 < 0) && (decide (c8 < 0) || decide (c8 > 1000))) = true then 8 else v7) : right c0 c1 c2 c3 c4 c5 c6 c7 c8 = v8 := by
  simp only [Bool.and_eq_true, Bool.or_eq_true, decide_eq_true_eq] at h0 h1 h2 h3 h4 h5 h6 h7 h8
  unfold right
  by_cases a0 : c0 < 1 ∨ c0 > 1000
  · rw [if_pos a0]
    rw [if_pos ⟨by omega, a0⟩] at h0
    rw [if_neg (fun h => by omega)] at h1
    rw [if_neg (fun h => by omega)] at h2
    rw [if_neg (fun h => by omega)] at h3
    rw [if_neg (fun h => by omega)] at h4
    rw [if_neg (fun h => by omega)] at h5
    rw [if_neg (fun h => by omega)] at h6
    rw [if_neg (fun h => by omega)] at h7
    rw [if_neg (fun h => by omega)] at h8
    omega
  rw [if_neg a0]
  by_cases a1 : c1 < c0 ∨ c1 > 10000
  · rw [if_pos a1]
    rw [if_neg (fun h => a0 h.2)] at h0
    rw [if_pos ⟨by omega, a1⟩] at h1
    rw [if_neg (fun h => by omega)] at h2
    rw [if_neg (fun h => by omega)] at h3
    rw [if_neg (fun h => by omega)] at h4
    rw [if_neg (fun h => by omega)] at h5
    rw [if_neg (fun h => by omega)] at h6
    rw [if_neg (fun h => by omega)] at h7
    rw [if_neg (fun h => by omega)] at h8
    omega
  rw [if_neg a1]
  by_cases a2 : c2 < 1 ∨ c2 > 6
  · rw [if_pos a2]
    rw [if_neg (fun h => a0 h.2)] at h0
    rw [if_neg (fun h => a1 h.2)] at h1
    rw [if_pos ⟨by omega, a2⟩] at h2
    rw [if_neg (fun h => by omega)] at h3
    rw [if_neg (fun h => by omega)] at h4
    rw [if_neg (fun h => by omega)] at h5
    rw [if_neg (fun h => by omega)] at h6
    rw [if_neg (fun h => by omega)] at h7
    rw [if_neg (fun h => by omega)] at h8
    omega
  rw [if_neg a2]
  by_cases a3 : c3 < 1 ∨ c3 > 1000
  · rw [if_pos a3]
    rw [if_neg (fun h => a0 h.2)] at h0
    rw [if_neg (fun h => a1 h.2)] at h1
    rw [if_neg (fun h => a2 h.2)] at h2
    rw [if_pos ⟨by omega, a3⟩] at h3
    rw [if_neg (fun h => by omega)] at h4
    rw [if_neg (fun h => by omega)] at h5
    rw [if_neg (fun h => by omega)] at h6
    rw [if_neg (fun h => by omega)] at h7
    rw [if_neg (fun h => by omega)] at h8
    omega
  rw [if_neg a3]
  by_cases a4 : c4 < 1 ∨ c4 > 64
  · rw [if_pos a4]
    rw [if_neg (fun h => a0 h.2)] at h0
    rw [if_neg (fun h => a1 h.2)] at h1
    rw [if_neg (fun h => a2 h.2)] at h2
    rw [if_neg (fun h => a3 h.2)] at h3
    rw [if_pos ⟨by omega, a4⟩] at h4
    rw [if_neg (fun h => by omega)] at h5
    rw [if_neg (fun h => by omega)] at h6
    rw [if_neg (fun h => by omega)] at h7
    rw [if_neg (fun h => by omega)] at h8
    omega
  rw [if_neg a4]
  by_cases a5 : c5 < 1 ∨ c5 > 100
  · rw [if_pos a5]
    rw [if_neg (fun h => a0 h.2)] at h0
    rw [if_neg (fun h => a1 h.2)] at h1
    rw [if_neg (fun h => a2 h.2)] at h2
    rw [if_neg (fun h => a3 h.2)] at h3
    rw [if_neg (fun h => a4 h.2)] at h4
    rw [if_pos ⟨by omega, a5⟩] at h5
    rw [if_neg (fun h => by omega)] at h6
    rw [if_neg (fun h => by omega)] at h7
    rw [if_neg (fun h => by omega)] at h8
    omega
  rw [if_neg a5]
  by_cases a6 : c6 < 0 ∨ c6 > 8
  · rw [if_pos a6]
    rw [if_neg (fun h => a0 h.2)] at h0
    rw [if_neg (fun h => a1 h.2)] at h1
    rw [if_neg (fun h => a2 h.2)] at h2
    rw [if_neg (fun h => a3 h.2)] at h3
    rw [if_neg (fun h => a4 h.2)] at h4
    rw [if_neg (fun h => a5 h.2)] at h5
    rw [if_pos ⟨by omega, a6⟩] at h6
    rw [if_neg (fun h => by omega)] at h7
    rw [if_neg (fun h => by omega)] at h8
    omega
  rw [if_neg a6]
  by_cases a7 : c7 < 1 ∨ c7 > 1000
  · rw [if_pos a7]
    rw [if_neg (fun h => a0 h.2)] at h0
    rw [if_neg (fun h => a1 h.2)] at h1
    rw [if_neg (fun h => a2 h.2)] at h2
    rw [if_neg (fun h => a3 h.2)] at h3
    rw [if_neg (fun h => a4 h.2)] at h4
    rw [if_neg (fun h => a5 h.2)] at h5
    rw [if_neg (fun h => a6 h.2)] at h6
    rw [if_pos ⟨by omega, a7⟩] at h7
    rw [if_neg (fun h => by omega)] at h8
    omega
  rw [if_neg a7]
  by_cases a8 : c8 < 0 ∨ c8 > 1000
  · rw [if_pos a8]
    rw [if_neg (fun h => a0 h.2)] at h0
    rw [if_neg (fun h => a1 h.2)] at h1
    rw [if_neg (fun h => a2 h.2)] at h2
    rw [if_neg (fun h => a3 h.2)] at h3
    rw [if_neg (fun h => a4 h.2)] at h4
    rw [if_neg (fun h => a5 h.2)] at h5
    rw [if_neg (fun h => a6 h.2)] at h6
    rw [if_neg (fun h => a7 h.2)] at h7
    rw [if_pos ⟨by omega, a8⟩] at h8
    omega
  rw [if_neg a8]
  rw [if_neg (fun h => a0 h.2)] at h0
  rw [if_neg (fun h => a1 h.2)] at h1
  rw [if_neg (fun h => a2 h.2)] at h2
  rw [if_neg (fun h => a3 h.2)] at h3
  rw [if_neg (fun h => a4 h.2)] at h4
  rw [if_neg (fun h => a5 h.2)] at h5
  rw [if_neg (fun h => a6 h.2)] at h6
  rw [if_neg (fun h => a7 h.2)] at h7
  rw [if_neg (fun h => a8 h.2)] at h8
  omega
theorem body9 (c0 c1 c2 c3 c4 c5 c6 c7 c8 x0 x1 x2 x3 x4 x5 x6 x7 x8 : Int) (hx : u8s x0 x1 x2 x3 x4 x5 x6 x7 x8) : BodyOk Try.prog u tab2 [(0, .rounds 10)] Try.f9 [.agg (cfg c0 c1 c2 c3 c4 c5 c6 c7 c8), .agg (cho x0 x1 x2 x3 x4 x5 x6 x7 x8)] (.bool true) := by
  constructor
  have e : bodyW Try.prog u tab2 (drawW Try.prog u tab2) (loopsBy [(0, .rounds 10)]) Try.f9 [.agg (cfg c0 c1 c2 c3 c4 c5 c6 c7 c8), .agg (cho x0 x1 x2 x3 x4 x5 x6 x7 x8)] (.bool true) = vc9 c0 c1 c2 c3 c4 c5 c6 c7 c8 x0 x1 x2 x3 x4 x5 x6 x7 x8 := by kernel_rfl
  rw [e]
  unfold vc9
  rw [right_conf hx]
  refine ⟨fun h => absurd h (by decide), fun _ => ?_⟩
  refine ⟨fun _ => ⟨fun _ => trivial, fun _ => trivial, fun v0 h0 => ?_⟩, fun h => absurd h (by decide)⟩
  refine ⟨fun _ => ⟨fun _ => trivial, fun _ => trivial, fun v1 h1 => ?_⟩, fun h => absurd h (by decide)⟩
  refine ⟨fun _ => ⟨fun _ => trivial, fun _ => trivial, fun v2 h2 => ?_⟩, fun h => absurd h (by decide)⟩
  refine ⟨fun _ => ⟨fun _ => trivial, fun _ => trivial, fun v3 h3 => ?_⟩, fun h => absurd h (by decide)⟩
  refine ⟨fun _ => ⟨fun _ => trivial, fun _ => trivial, fun v4 h4 => ?_⟩, fun h => absurd h (by decide)⟩
  refine ⟨fun _ => ⟨fun _ => trivial, fun _ => trivial, fun v5 h5 => ?_⟩, fun h => absurd h (by decide)⟩
  refine ⟨fun _ => ⟨fun _ => trivial, fun _ => trivial, fun v6 h6 => ?_⟩, fun h => absurd h (by decide)⟩
  refine ⟨fun _ => ⟨fun _ => trivial, fun _ => trivial, fun v7 h7 => ?_⟩, fun h => absurd h (by decide)⟩
  refine ⟨fun _ => ⟨fun _ => trivial, fun _ => trivial, fun v8 h8 => ?_⟩, fun h => absurd h (by decide)⟩
  refine ⟨fun h => absurd h (by decide), fun _ => ?_⟩
  rw [chain h0 h1 h2 h3 h4 h5 h6 h7 h8]
  simp
def sp9 : Sx.Spec A
  | [.agg [.int .i64 c0, .int .i64 c1, .int .i64 c2, .int .i64 c3, .int .i64 c4, .int .i64 c5, .int .i64 c6, .int .i64 c7, .int .i64 c8], .agg [.int .u8 x0, .int .u8 x1, .int .u8 x2, .int .u8 x3, .int .u8 x4, .int .u8 x5, .int .u8 x6, .int .u8 x7, .int .u8 x8]] =>
    some (some (u8s x0 x1 x2 x3 x4 x5 x6 x7 x8), .bool true)
  | _ => none
theorem ok9 : FnOk Try.prog u 9 sp9 := by
  refine fn_ok Try.prog u tab2 mo laws2 Try.func9 ?_
  intro xs c y h hc
  unfold sp9 at h
  split at h
  · cases h
    rename_i c0 c1 c2 c3 c4 c5 c6 c7 c8 x0 x1 x2 x3 x4 x5 x6 x7 x8
    exact ⟨by kernel_rfl, [(0, .rounds 10)], body9 c0 c1 c2 c3 c4 c5 c6 c7 c8 x0 x1 x2 x3 x4 x5 x6 x7 x8 hc⟩
  · cases h
end Go.Proofs.Ytfnofdgippdlaaa.Cfg
