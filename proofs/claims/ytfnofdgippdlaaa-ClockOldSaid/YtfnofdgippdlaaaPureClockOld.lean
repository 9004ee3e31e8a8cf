/- What is within some ticks is within more, and what is not ahead is within enough: for all inputs the law returns true. -/
import Derived.Test.YtfnofdgippdlaaaPClockOldx1
namespace Go.Proofs.Ytfnofdgippdlaaa.Pure
open Go.RowKit Go.Proofs.Ytfnofdgippdlaaa.PClockOld Go.Proofs.YtfnofdgippdlaaaW.PrintWords Go.Proofs.YtfnofdgippdlaaaW.PrintLast

theorem wrapIn {x : Int} (h0 : -9223372036854775808 ≤ x) (h1 : x ≤ 9223372036854775807) : wrap64 x = x := by
  unfold wrap64; omega

def cl (a : Int) : Int := if a < 0 then 0 else if 1099511627776 < a then 1099511627776 else a

theorem cl_lo (a : Int) : 0 ≤ cl a := by unfold cl; split <;> (try split) <;> omega
theorem cl_hi (a : Int) : cl a ≤ 1099511627776 := by unfold cl; split <;> (try split) <;> omega
theorem clampE (a : Int) : clock_Clamp.f a = some (cl a) := by
  have h : mx 0 (mn a 1099511627776) = cl a := by unfold mx mn cl; split <;> split <;> split <;> (try split) <;> omega
  unfold clock_Clamp.f; rw [h]

theorem sinceE (a b : Int) : clock_Since.f a b = some (cl a - cl b) := by
  unfold clock_Since.f
  rw [clampE, clampE]; simp only [Option.bind_some]
  have := cl_lo a; have := cl_lo b; have := cl_hi a; have := cl_hi b
  rw [wrapIn (by omega) (by omega)]

theorem withinE (a b n : Int) : clock_Within.f a b n = some (decide (0 ≤ cl a - cl b ∧ cl a - cl b < n)) := by
  unfold clock_Within.f
  rw [sinceE]; simp only [Option.bind_some]
  by_cases h : cl a - cl b ≥ 0
  · rw [if_pos h]; congr 1; simp; omega
  · rw [if_neg h]; congr 1; simp; omega

theorem lawClampE (a : Int) : terrierlaw03_clamp.f a = some (cl a) := by
  unfold terrierlaw03_clamp.f cl
  split
  · rfl
  · split <;> rfl

def ad (t n : Int) : Int := cl (cl t + (if n < -1099511627776 then -1099511627776 else if 1099511627776 < n then 1099511627776 else n))

theorem addE (t n : Int) : clock_Add.f t n = some (ad t n) := by
  have h : mx (-1099511627776) (mn n 1099511627776) = (if n < -1099511627776 then -1099511627776 else if 1099511627776 < n then 1099511627776 else n) := by
    unfold mx mn; split <;> split <;> split <;> (try split) <;> omega
  have hb : -1099511627776 ≤ mx (-1099511627776) (mn n 1099511627776) ∧ mx (-1099511627776) (mn n 1099511627776) ≤ 1099511627776 := by
    rw [h]; split <;> (try split) <;> omega
  unfold clock_Add.f
  rw [clampE]; simp only [Option.bind_some]
  have := cl_lo t; have := cl_hi t
  rw [wrapIn (by omega) (by omega), clampE]; simp only [Option.bind_some]
  rw [h]; rfl

theorem awakeE : terrierlaw03_awake.f = some true := by
  unfold terrierlaw03_awake.f
  rw [withinE, withinE, addE]; simp only [Option.bind_some]
  have e1 : cl 10 = 10 := by unfold cl; simp
  have e2 : cl 8 = 8 := by unfold cl; simp
  have e3 : cl 7 = 7 := by unfold cl; simp
  have e4 : ad 1099511627776 5 = 1099511627776 := by unfold ad cl; simp
  rw [e1, e2, e3, e4]; simp

theorem ClockOld : terrierlaw03_ClockOld.Pure := by
  intro a0 a1 a2 a3 h0 h1 h2 h3
  refine ⟨1, ?_⟩
  have := cl_lo a0; have := cl_lo a1; have := cl_hi a0; have := cl_hi a1
  have b3 : 0 ≤ a3 ∧ a3 ≤ 65535 := by
    have h := h3
    simp only [Lit.wf, IntKind.min, IntKind.max, IntKind.signed, IntKind.bits, Bool.and_eq_true] at h
    exact ⟨by simpa using h.1, by simpa using h.2⟩
  have hj : terrierlaw03_ClockOld.j0 1 a0 a1 false = some true := by
    simp only [terrierlaw03_ClockOld.j0]
    rw [if_neg (by simp), withinE, withinE, lawClampE, lawClampE]; simp only [Option.bind_some]
    rw [if_pos (by simp; omega)]; congr 1; simp; omega
  unfold terrierlaw03_ClockOld.f
  rw [awakeE, withinE]; simp only [Option.bind_some, if_true]
  by_cases h : 0 ≤ cl a0 - cl a1 ∧ cl a0 - cl a1 < a2
  · rw [if_pos (by simpa using h)]
    by_cases hn : a2 < 1125899906842624
    · rw [if_pos hn, withinE]; simp only [Option.bind_some]
      rw [wrapIn (x := a3) (by omega) (by omega), wrapIn (by omega) (by omega)]
      have e : (!decide (0 ≤ cl a0 - cl a1 ∧ cl a0 - cl a1 < a2 + a3)) = false := by simp; omega
      rw [e]; exact hj
    · rw [if_neg hn]; exact hj
  · rw [if_neg (by simpa using h)]; exact hj

end Go.Proofs.Ytfnofdgippdlaaa.Pure
