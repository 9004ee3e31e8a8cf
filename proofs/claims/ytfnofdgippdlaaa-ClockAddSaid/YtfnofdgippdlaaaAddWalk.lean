/- Ticks come together, and do not go over: the walk of the law ClockAdd, for every two whole numbers. -/
import Derived.Test.YtfnofdgippdlaaaPureClockSince
namespace Go.Proofs.Ytfnofdgippdlaaa.AddWalk
open Go.RowKit Go.Proofs.Ytfnofdgippdlaaa.PClockSince Go.Proofs.Ytfnofdgippdlaaa.Pure Go.Proofs.YtfnofdgippdlaaaW.PrintWords Go.Proofs.YtfnofdgippdlaaaW.PrintLast Go.Proofs.YtfnofdgippdlaaaW.PrintMore

theorem hide {p : Prop} (h : p) : Hid p := h

theorem chain {w a b : World} (h : Below w.heap.size w a) (k : Below a.heap.size a b) : Below w.heap.size w b := h.trans (k.mono h.size)

theorem last_calls (a0 : Int) (w : World) :
    Calls Try.prog 19 #[.int .i64 a0] w fun e w' => e = .returned (.bool (decide (1099511627776 ≤ a0))) ∧ Below w.heap.size w w' := by
  go_enter Try.func19, Try.ntmps19
  go_wp2
  go_ret
  exact ⟨rfl, Below.refl _ _⟩

def low (a1 : Int) : Int := if a1 < -1099511627776 then -1099511627776 else if 1099511627776 < a1 then 1099511627776 else a1

theorem clamp_law (a : Int) (w : World) : Calls Try.prog 14 #[.int .i64 a] w fun e w' => e = .returned (.int .i64 (cl a)) ∧ Below w.heap.size w w' :=
  (terrierlaw03_clamp.calls a _ w (lawClampE a)).mono fun _ _ ⟨he, hd⟩ => ⟨he, hd.below⟩
theorem clamp_own (a : Int) (w : World) : Calls Try.prog 18 #[.int .i64 a] w fun e w' => e = .returned (.int .i64 (cl a)) ∧ Below w.heap.size w w' :=
  clock_Clamp.calls a _ w (clampE a)
theorem add_own (a n : Int) (w : World) : Calls Try.prog 17 #[.int .i64 a, .int .i64 n] w fun e w' => e = .returned (.int .i64 (ad a n)) ∧ Below w.heap.size w w' :=
  clock_Add.calls a n _ w (addE a n)

set_option maxHeartbeats 1000000 in
theorem law_calls (a0 a1 : Int) (w : World) :
    Calls Try.prog 8 #[.int .i64 a0, .int .i64 a1] w fun e w' => e = .returned (.bool true) ∧ Below w.heap.size w w' := by
  have l0 := cl_lo a0
  have l1 := cl_hi a0
  have h1 : a1 < -1099511627776 ∨ 1099511627776 < a1 ∨ (-1099511627776 ≤ a1 ∧ a1 ≤ 1099511627776) := by omega
  have key : ad a0 a1 = cl (cl a0 + low a1) := rfl
  have last : (decide (1099511627776 ≤ a0) == (cl a0 == 1099511627776)) = true := by
    rw [beq_iff_eq, Bool.eq_iff_iff]
    simp only [decide_eq_true_eq, beq_iff_eq]
    unfold cl; (repeat' split) <;> omega
  have HL := hide last
  clear last
  rcases h1 with h1 | h1 | h1
  · have hl : low a1 = -1099511627776 := by unfold low; rw [if_pos h1]
    rw [hl] at key
    have HK := hide key
    clear key hl
    go_enter Try.func8, Try.ntmps8
    go_wp2_with fail
    refine (terrierlaw03_awake.calls _ w awakeE).mono ?_
    rintro e w1 ⟨rfl, hb1⟩
    go_wp2_with fail
    refine (clamp_own a0 _).mono ?_
    rintro e w2 ⟨rfl, hb2⟩
    go_wp2_with fail
    refine (clamp_law a0 _).mono ?_
    rintro e w3 ⟨rfl, hb3⟩
    go_wp2_with fail
    refine (add_own a0 a1 _).mono ?_
    rintro e w4 ⟨rfl, hb4⟩
    rw [HK.out]
    go_wp2_with fail
    refine (clamp_law a0 _).mono ?_
    rintro e w5 ⟨rfl, hb5⟩
    go_wp2_with fail
    refine (clamp_law _ _).mono ?_
    rintro e w6 ⟨rfl, hb6⟩
    go_wp2_with fail
    refine (last_calls _ _).mono ?_
    rintro e w7 ⟨rfl, hb7⟩
    go_wp2_with fail
    refine (clamp_law _ _).mono ?_
    rintro e w8 ⟨rfl, hb8⟩
    go_wp2_with fail
    go_ret
    exact ⟨by rw [HL.out]; rfl, chain (chain (chain (chain (chain (chain (chain hb1 hb2) hb3) hb4) hb5) hb6) hb7) hb8⟩
  · have hl : low a1 = 1099511627776 := by unfold low; rw [if_neg (by omega), if_pos h1]
    rw [hl] at key
    have HK := hide key
    clear key hl
    go_enter Try.func8, Try.ntmps8
    go_wp2_with fail
    refine (terrierlaw03_awake.calls _ w awakeE).mono ?_
    rintro e w1 ⟨rfl, hb1⟩
    go_wp2_with fail
    refine (clamp_own a0 _).mono ?_
    rintro e w2 ⟨rfl, hb2⟩
    go_wp2_with fail
    refine (clamp_law a0 _).mono ?_
    rintro e w3 ⟨rfl, hb3⟩
    go_wp2_with fail
    refine (add_own a0 a1 _).mono ?_
    rintro e w4 ⟨rfl, hb4⟩
    rw [HK.out]
    go_wp2_with fail
    refine (clamp_law a0 _).mono ?_
    rintro e w5 ⟨rfl, hb5⟩
    go_wp2_with fail
    refine (clamp_law _ _).mono ?_
    rintro e w6 ⟨rfl, hb6⟩
    go_wp2_with fail
    refine (last_calls _ _).mono ?_
    rintro e w7 ⟨rfl, hb7⟩
    go_wp2_with fail
    refine (clamp_law _ _).mono ?_
    rintro e w8 ⟨rfl, hb8⟩
    go_wp2_with fail
    go_ret
    exact ⟨by rw [HL.out]; rfl, chain (chain (chain (chain (chain (chain (chain hb1 hb2) hb3) hb4) hb5) hb6) hb7) hb8⟩
  · have hl : low a1 = a1 := by unfold low; rw [if_neg (by omega), if_neg (by omega)]
    rw [hl] at key
    have HK := hide key
    obtain ⟨h2, h3⟩ := h1
    clear key hl
    go_enter Try.func8, Try.ntmps8
    go_wp2_with fail
    refine (terrierlaw03_awake.calls _ w awakeE).mono ?_
    rintro e w1 ⟨rfl, hb1⟩
    go_wp2_with fail
    refine (clamp_own a0 _).mono ?_
    rintro e w2 ⟨rfl, hb2⟩
    go_wp2_with fail
    refine (clamp_law a0 _).mono ?_
    rintro e w3 ⟨rfl, hb3⟩
    go_wp2_with fail
    refine (add_own a0 a1 _).mono ?_
    rintro e w4 ⟨rfl, hb4⟩
    rw [HK.out]
    go_wp2_with fail
    refine (clamp_law a0 _).mono ?_
    rintro e w5 ⟨rfl, hb5⟩
    go_wp2_with fail
    refine (clamp_law _ _).mono ?_
    rintro e w6 ⟨rfl, hb6⟩
    go_wp2_with fail
    refine (last_calls _ _).mono ?_
    rintro e w7 ⟨rfl, hb7⟩
    go_wp2_with fail
    refine (clamp_law _ _).mono ?_
    rintro e w8 ⟨rfl, hb8⟩
    go_wp2_with fail
    go_ret
    exact ⟨by rw [HL.out]; rfl, chain (chain (chain (chain (chain (chain (chain hb1 hb2) hb3) hb4) hb5) hb6) hb7) hb8⟩

end Go.Proofs.Ytfnofdgippdlaaa.AddWalk
