/- What is within the last ticks is told: for every three whole numbers the law returns true. -/
import Derived.Test.YtfnofdgippdlaaaPClockSincex1
namespace Go.Proofs.Ytfnofdgippdlaaa.Pure
open Go.RowKit Go.Proofs.Ytfnofdgippdlaaa.PClockSince Go.Proofs.YtfnofdgippdlaaaW.PrintWords Go.Proofs.YtfnofdgippdlaaaW.PrintLast

theorem wrapIn {x : Int} (h0 : -9223372036854775808 ≤ x) (h1 : x ≤ 9223372036854775807) : wrap64 x = x := by
  unfold wrap64; omega

def cl (a : Int) : Int := if a < 0 then 0 else if 1099511627776 < a then 1099511627776 else a

theorem cl_lo (a : Int) : 0 ≤ cl a := by unfold cl; split <;> (try split) <;> omega
theorem cl_hi (a : Int) : cl a ≤ 1099511627776 := by unfold cl; split <;> (try split) <;> omega
theorem clampE (a : Int) : clock_Clamp.f a = some (cl a) := by
  have h : mx 0 (mn a 1099511627776) = cl a := by unfold mx mn cl; split <;> split <;> split <;> (try split) <;> omega
  unfold clock_Clamp.f; rw [h]

theorem sinceE (a b : Int) : clock_Since.f a b = some (cl a - cl b) := by
  unfold clock_Since.f
  rw [clampE, clampE]; simp only [Option.bind_some]
  have := cl_lo a; have := cl_lo b; have := cl_hi a; have := cl_hi b
  rw [wrapIn (by omega) (by omega)]

theorem withinE (a b n : Int) : clock_Within.f a b n = some (decide (0 ≤ cl a - cl b ∧ cl a - cl b < n)) := by
  unfold clock_Within.f
  rw [sinceE]; simp only [Option.bind_some]
  by_cases h : cl a - cl b ≥ 0
  · rw [if_pos h]; congr 1; simp; omega
  · rw [if_neg h]; congr 1; simp; omega

theorem lawClampE (a : Int) : terrierlaw03_clamp.f a = some (cl a) := by
  unfold terrierlaw03_clamp.f cl
  split
  · rfl
  · split <;> rfl

def ad (t n : Int) : Int := cl (cl t + (if n < -1099511627776 then -1099511627776 else if 1099511627776 < n then 1099511627776 else n))

theorem addE (t n : Int) : clock_Add.f t n = some (ad t n) := by
  have h : mx (-1099511627776) (mn n 1099511627776) = (if n < -1099511627776 then -1099511627776 else if 1099511627776 < n then 1099511627776 else n) := by
    unfold mx mn; split <;> split <;> split <;> (try split) <;> omega
  have hb : -1099511627776 ≤ mx (-1099511627776) (mn n 1099511627776) ∧ mx (-1099511627776) (mn n 1099511627776) ≤ 1099511627776 := by
    rw [h]; split <;> (try split) <;> omega
  unfold clock_Add.f
  rw [clampE]; simp only [Option.bind_some]
  have := cl_lo t; have := cl_hi t
  rw [wrapIn (by omega) (by omega), clampE]; simp only [Option.bind_some]
  rw [h]; rfl

theorem awakeE : terrierlaw03_awake.f = some true := by
  unfold terrierlaw03_awake.f
  rw [withinE, withinE, addE]; simp only [Option.bind_some]
  have e1 : cl 10 = 10 := by unfold cl; simp
  have e2 : cl 8 = 8 := by unfold cl; simp
  have e3 : cl 7 = 7 := by unfold cl; simp
  have e4 : ad 1099511627776 5 = 1099511627776 := by unfold ad cl; simp
  rw [e1, e2, e3, e4]; simp

theorem ClockSince : terrierlaw03_ClockSince.Pure := by
  intro a0 a1 a2 _ _ _
  unfold terrierlaw03_ClockSince.f
  rw [awakeE, lawClampE, lawClampE, sinceE, withinE]; simp only [Option.bind_some, if_true]
  have := cl_lo a0; have := cl_lo a1; have := cl_hi a0; have := cl_hi a1
  rw [wrapIn (by omega) (by omega), if_pos rfl]
  by_cases h : cl a0 - cl a1 ≥ 0
  · rw [if_pos h]; congr 1; simp; omega
  · rw [if_neg h]; congr 1; simp; omega

end Go.Proofs.Ytfnofdgippdlaaa.Pure
