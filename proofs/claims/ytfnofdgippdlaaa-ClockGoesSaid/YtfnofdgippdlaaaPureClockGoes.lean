/- Ticks go by one by one, as they do at once, and never back: for every tick and every two numbers of a byte the law returns true. -/
import Derived.Test.YtfnofdgippdlaaaPClockGoesx1
namespace Go.Proofs.Ytfnofdgippdlaaa.Pure
open Go.RowKit Go.Proofs.Ytfnofdgippdlaaa.PClockGoes Go.Proofs.YtfnofdgippdlaaaW.PrintWords Go.Proofs.YtfnofdgippdlaaaW.PrintLast

theorem wrapIn {x : Int} (h0 : -9223372036854775808 ≤ x) (h1 : x ≤ 9223372036854775807) : wrap64 x = x := by
  unfold wrap64; omega

def cl (a : Int) : Int := if a < 0 then 0 else if 1099511627776 < a then 1099511627776 else a

theorem cl_lo (a : Int) : 0 ≤ cl a := by unfold cl; split <;> (try split) <;> omega
theorem cl_hi (a : Int) : cl a ≤ 1099511627776 := by unfold cl; split <;> (try split) <;> omega
theorem clampE (a : Int) : clock_Clamp.f a = some (cl a) := by
  have h : mx 0 (mn a 1099511627776) = cl a := by unfold mx mn cl; split <;> split <;> split <;> (try split) <;> omega
  unfold clock_Clamp.f; rw [h]

theorem sinceE (a b : Int) : clock_Since.f a b = some (cl a - cl b) := by
  unfold clock_Since.f
  rw [clampE, clampE]; simp only [Option.bind_some]
  have := cl_lo a; have := cl_lo b; have := cl_hi a; have := cl_hi b
  rw [wrapIn (by omega) (by omega)]

theorem withinE (a b n : Int) : clock_Within.f a b n = some (decide (0 ≤ cl a - cl b ∧ cl a - cl b < n)) := by
  unfold clock_Within.f
  rw [sinceE]; simp only [Option.bind_some]
  by_cases h : cl a - cl b ≥ 0
  · rw [if_pos h]; congr 1; simp; omega
  · rw [if_neg h]; congr 1; simp; omega

theorem lawClampE (a : Int) : terrierlaw03_clamp.f a = some (cl a) := by
  unfold terrierlaw03_clamp.f cl
  split
  · rfl
  · split <;> rfl

def ad (t n : Int) : Int := cl (cl t + (if n < -1099511627776 then -1099511627776 else if 1099511627776 < n then 1099511627776 else n))

theorem addE (t n : Int) : clock_Add.f t n = some (ad t n) := by
  have h : mx (-1099511627776) (mn n 1099511627776) = (if n < -1099511627776 then -1099511627776 else if 1099511627776 < n then 1099511627776 else n) := by
    unfold mx mn; split <;> split <;> split <;> (try split) <;> omega
  have hb : -1099511627776 ≤ mx (-1099511627776) (mn n 1099511627776) ∧ mx (-1099511627776) (mn n 1099511627776) ≤ 1099511627776 := by
    rw [h]; split <;> (try split) <;> omega
  unfold clock_Add.f
  rw [clampE]; simp only [Option.bind_some]
  have := cl_lo t; have := cl_hi t
  rw [wrapIn (by omega) (by omega), clampE]; simp only [Option.bind_some]
  rw [h]; rfl

theorem awakeE : terrierlaw03_awake.f = some true := by
  unfold terrierlaw03_awake.f
  rw [withinE, withinE, addE]; simp only [Option.bind_some]
  have e1 : cl 10 = 10 := by unfold cl; simp
  have e2 : cl 8 = 8 := by unfold cl; simp
  have e3 : cl 7 = 7 := by unfold cl; simp
  have e4 : ad 1099511627776 5 = 1099511627776 := by unfold ad cl; simp
  rw [e1, e2, e3, e4]; simp

theorem ClockGoes : terrierlaw03_ClockGoes.Pure := by
  intro a0 a1 a2 h0 h1 h2
  have b1 : 0 ≤ a1 ∧ a1 ≤ 255 := by
    have h := h1
    simp only [Lit.wf, IntKind.min, IntKind.max, IntKind.signed, IntKind.bits, Bool.and_eq_true] at h
    exact ⟨by simpa using h.1, by simpa using h.2⟩
  have b2 : 0 ≤ a2 ∧ a2 ≤ 255 := by
    have h := h2
    simp only [Lit.wf, IntKind.min, IntKind.max, IntKind.signed, IntKind.bits, Bool.and_eq_true] at h
    exact ⟨by simpa using h.1, by simpa using h.2⟩
  have hadd : ∀ t n : Int, 0 ≤ n → n ≤ 510 → ad t n = cl (cl t + n) := by
    intro t n hn hn'; unfold ad; rw [if_neg (by omega), if_neg (by omega)]
  have hcc : ∀ x : Int, cl (cl x) = cl x := by
    intro x; have := cl_lo x; have := cl_hi x; generalize cl x = c at *
    unfold cl; rw [if_neg (by omega), if_neg (by omega)]
  have hca : ∀ x n m : Int, 0 ≤ x → 0 ≤ n → 0 ≤ m → cl (cl (x + n) + m) = cl (x + (n + m)) := by
    intro x n m hx hn hm; unfold cl; (repeat' split) <;> omega
  have hloop : ∀ (d : Nat) (i x : Int), 0 ≤ i → i + d = a1 → cl x = cl (cl a0 + i) → terrierlaw03_ClockGoes.l0 (d + 1) a0 a1 a2 x i = some true := by
    intro d
    induction d with
    | zero =>
      intro i x hi hd hx
      simp only [terrierlaw03_ClockGoes.l0]
      rw [wrapIn (x := a1) (by omega) (by omega), if_neg (by omega), clampE, addE]; simp only [Option.bind_some]
      rw [hadd _ _ (by omega) (by omega)]
      have e : i = a1 := by omega
      rw [if_pos (by rw [hx, e]), addE]; simp only [Option.bind_some]
      rw [wrapIn (x := a2) (by omega) (by omega), wrapIn (by omega) (by omega), addE]; simp only [Option.bind_some]
      rw [hadd _ _ (by omega) (by omega), hadd _ _ (by omega) (by omega), hcc, hca _ _ _ (cl_lo a0) (by omega) (by omega)]; simp
    | succ d ih =>
      intro i x hi hd hx
      rw [terrierlaw03_ClockGoes.l0]
      rw [wrapIn (x := a1) (by omega) (by omega), if_pos (by omega), addE, lawClampE]; simp only [Option.bind_some]
      have hge : ¬ (ad x 1 < cl x) := by
        rw [hadd _ _ (by omega) (by omega)]
        have := cl_lo x; have := cl_hi x; generalize cl x = c at *
        unfold cl; rw [if_neg (by omega)]; split <;> omega
      rw [if_neg hge, wrapIn (by omega) (by omega)]
      refine ih (i + 1) _ (by omega) (by omega) ?_
      rw [hadd _ _ (by omega) (by omega), hx, hcc, hca _ _ _ (cl_lo a0) (by omega) (by omega)]
  refine ⟨a1.toNat + 1, ?_⟩
  unfold terrierlaw03_ClockGoes.f
  rw [awakeE]; simp only [Option.bind_some, if_true]
  refine hloop a1.toNat 0 a0 (by omega) (by omega) ?_
  rw [Int.add_zero, hcc]

end Go.Proofs.Ytfnofdgippdlaaa.Pure
