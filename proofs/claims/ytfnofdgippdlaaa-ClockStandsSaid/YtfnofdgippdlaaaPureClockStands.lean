/- At the last tick nothing gets older: for every three whole numbers the law returns true. -/
import Derived.Test.YtfnofdgippdlaaaPClockStandsx1
namespace Go.Proofs.Ytfnofdgippdlaaa.Pure
open Go.RowKit Go.Proofs.Ytfnofdgippdlaaa.PClockStands Go.Proofs.YtfnofdgippdlaaaW.PrintWords Go.Proofs.YtfnofdgippdlaaaW.PrintLast

theorem wrapIn {x : Int} (h0 : -9223372036854775808 ≤ x) (h1 : x ≤ 9223372036854775807) : wrap64 x = x := by
  unfold wrap64; omega

def cl (a : Int) : Int := if a < 0 then 0 else if 1099511627776 < a then 1099511627776 else a

theorem cl_lo (a : Int) : 0 ≤ cl a := by unfold cl; split <;> (try split) <;> omega
theorem cl_hi (a : Int) : cl a ≤ 1099511627776 := by unfold cl; split <;> (try split) <;> omega
theorem clampE (a : Int) : clock_Clamp.f a = some (cl a) := by
  have h : mx 0 (mn a 1099511627776) = cl a := by unfold mx mn cl; split <;> split <;> split <;> (try split) <;> omega
  unfold clock_Clamp.f; rw [h]

theorem sinceE (a b : Int) : clock_Since.f a b = some (cl a - cl b) := by
  unfold clock_Since.f
  rw [clampE, clampE]; simp only [Option.bind_some]
  have := cl_lo a; have := cl_lo b; have := cl_hi a; have := cl_hi b
  rw [wrapIn (by omega) (by omega)]

theorem withinE (a b n : Int) : clock_Within.f a b n = some (decide (0 ≤ cl a - cl b ∧ cl a - cl b < n)) := by
  unfold clock_Within.f
  rw [sinceE]; simp only [Option.bind_some]
  by_cases h : cl a - cl b ≥ 0
  · rw [if_pos h]; congr 1; simp; omega
  · rw [if_neg h]; congr 1; simp; omega

def ad (t n : Int) : Int := cl (cl t + (if n < -1099511627776 then -1099511627776 else if 1099511627776 < n then 1099511627776 else n))

theorem addE (t n : Int) : clock_Add.f t n = some (ad t n) := by
  have h : mx (-1099511627776) (mn n 1099511627776) = (if n < -1099511627776 then -1099511627776 else if 1099511627776 < n then 1099511627776 else n) := by
    unfold mx mn; split <;> split <;> split <;> (try split) <;> omega
  have hb : -1099511627776 ≤ mx (-1099511627776) (mn n 1099511627776) ∧ mx (-1099511627776) (mn n 1099511627776) ≤ 1099511627776 := by
    rw [h]; split <;> (try split) <;> omega
  unfold clock_Add.f
  rw [clampE]; simp only [Option.bind_some]
  have := cl_lo t; have := cl_hi t
  rw [wrapIn (by omega) (by omega), clampE]; simp only [Option.bind_some]
  rw [h]; rfl

theorem awakeE : terrierlaw03_awake.f = some true := by
  unfold terrierlaw03_awake.f
  rw [withinE, withinE, addE]; simp only [Option.bind_some]
  have e1 : cl 10 = 10 := by unfold cl; simp
  have e2 : cl 8 = 8 := by unfold cl; simp
  have e3 : cl 7 = 7 := by unfold cl; simp
  have e4 : ad 1099511627776 5 = 1099511627776 := by unfold ad cl; simp
  rw [e1, e2, e3, e4]; simp

theorem ClockStands : terrierlaw03_ClockStands.Pure := by
  intro a0 a1 a2 _ _ _
  unfold terrierlaw03_ClockStands.f
  have e1 : ad 1099511627776 1 = 1099511627776 := by unfold ad cl; simp
  have e2 : cl (ad a0 1099511627776) = cl 1099511627776 := by
    unfold ad; have := cl_lo a0; have := cl_hi a0
    rw [if_neg (by omega), if_neg (by omega)]
    have e : cl (cl a0 + 1099511627776) = 1099511627776 := by
      generalize cl a0 = c at *
      unfold cl; rw [if_neg (by omega)]; split <;> omega
    rw [e]
  rw [awakeE, addE]; simp only [Option.bind_some, if_true]
  rw [e1, withinE]; simp only [Option.bind_some, beq_self_eq_true, if_true]
  rw [addE]; simp only [Option.bind_some]
  rw [sinceE, sinceE]; simp only [Option.bind_some]
  rw [e2]; simp

end Go.Proofs.Ytfnofdgippdlaaa.Pure
