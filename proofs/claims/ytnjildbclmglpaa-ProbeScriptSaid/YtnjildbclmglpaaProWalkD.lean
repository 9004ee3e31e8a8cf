/- Questions that wait: the contracts of the laws' own pieces. -/
import Derived.Test.YtnjildbclmglpaaProVcD
namespace Go.Proofs.Ytnjildbclmglpaa.Pro
open Go Go.Proofs.Ytnjildbclmglpaa.Sx

theorem headS_le (xs : List Act) (n : Int) (hn : 0 ≤ n) : ((headS xs n).length : Int) ≤ n := by
  unfold headS
  rw [List.length_drop, List.length_take]
  have : mn (xs.length : Int) n ≤ n ∧ 0 ≤ mn (xs.length : Int) n := by unfold mn; split <;> omega
  omega
theorem put_len {xs : List Prb} {p : Prb} (h : xs.length ≤ 16) : (putL xs p).length ≤ 16 := by
  unfold putL
  split
  · exact Nat.zero_le _
  · split
    · exact Nat.zero_le _
    · rename_i h2
      have : ¬ (xs.length : Int) ≥ 16 := fun h => h2 (decide_eq_true h)
      simp only [List.length_append, List.length_singleton]
      omega
theorem lateL_len (c5 c6 now room : Int) (xs : List Prb) : (lateL c5 c6 now room xs).1.length ≤ xs.length := (late_len c5 c6 now room xs xs.length).1
theorem some_len (c5 c6 : Int) (xs : List Act) : ∀ k, (someAt c5 c6 xs k).1.length ≤ 16 := by
  intro k
  induction k with
  | zero => exact Nat.zero_le _
  | succ k ih =>
    rw [someAt]
    unfold someStep
    split
    · exact Nat.le_trans (lateL_len _ _ _ _ _) ih
    · split
      · exact put_len ih
      · exact ih
theorem some_1 {c5 c6 : Int} {r : List Prb × Int} {a : Act} (h : isTick a = true) : someStep c5 c6 r a = ((lateL c5 c6 (nowStep r.2 a) (IntKind.i64.wrap (1 + IntKind.i64.wrap (a.n.tmod 4))) r.1).1, nowStep r.2 a) := if_pos h
theorem some_2 {c5 c6 : Int} {r : List Prb × Int} {a : Act} (h : isTick a = false) : someStep c5 c6 r a = ((if (putErr r.1 (askP r.2 a) == 0) = true then putL r.1 (askP r.2 a) else r.1), r.2) := by
  unfold someStep
  rw [if_neg (by rw [h]; simp)]
  split <;> rfl
theorem bodyAwake : BodyOk Try.prog u tab5 [101008, 102012, 102013] [] Try.f9 [] (.bool true) := by
  constructor
  have eqn : bodyW Try.prog u tab5 [101008, 102012, 102013] (drawW Try.prog u tab5) (loopsBy u []) Try.f9 [] (.bool true) = vcAwake  := by kernel_rfl
  rw [eqn]
  unfold vcAwake
  intro v1 h1 v2 h2 v3 h3 v4 h4 v5 h5
  refine ⟨Nat.le_of_ble_eq_true rfl, fun v6 h6 v7 h7 => ⟨Nat.le_of_ble_eq_true rfl, Nat.le_of_ble_eq_true rfl, fun _ => Nat.le_of_ble_eq_true rfl, ?_⟩⟩
  decide +kernel
theorem okAwake : FnOk Try.prog u 9 spAwake := by
  refine fn_ok Try.prog u tab5 mo laws5 Try.func9 ?_
  intro xs c y h hc
  unfold spAwake at h
  split at h
  · cases h
    exact ⟨by kernel_rfl, _, _, bodyAwake⟩
  · cases h
theorem bodySome (c0 c1 c2 c3 c4 c5 c6 c7 c8 : Int) (xs : List Act) (h : actsOk xs) : BodyOk Try.prog u tab5 [107007] [(0, .inv (annSome c5 c6 (headS xs 60)))] Try.f10 [.agg (cfg c0 c1 c2 c3 c4 c5 c6 c7 c8), .csl 51 xs] (.tup [.csl 29 (someL c5 c6 xs).1, .int .i64 (someL c5 c6 xs).2]) := by
  constructor
  have eqn : bodyW Try.prog u tab5 [107007] (drawW Try.prog u tab5) (loopsBy u [(0, .inv (annSome c5 c6 (headS xs 60)))]) Try.f10 [.agg (cfg c0 c1 c2 c3 c4 c5 c6 c7 c8), .csl 51 xs] (.tup [.csl 29 (someL c5 c6 xs).1, .int .i64 (someL c5 c6 xs).2]) = vcSome c0 c1 c2 c3 c4 c5 c6 c7 c8 xs := by kernel_rfl
  rw [eqn]
  unfold vcSome
  have h : xs.length < 9223372036854775808 := h
  have hm : 0 ≤ mn (xs.length : Int) 60 ∧ mn (xs.length : Int) 60 ≤ xs.length := by unfold mn; split <;> omega
  have hh := headS_le xs 60 (by decide)
  refine ⟨⟨by decide, hm.1, hm.2⟩, ⟨0, Nat.zero_le _, ⟨trivial, rfl, rfl, rfl, rfl, rfl⟩, ⟨rfl, rfl, rfl, rfl, rfl, rfl, rfl, rfl, rfl⟩⟩, fun g hg => ⟨fun hlt => ?_, fun hge => ?_⟩⟩
  · have hlt : (g : Int) < ((headS xs 60).length : Int) := of_decide_eq_true hlt
    have hlt' : g < (headS xs 60).length := by omega
    have hw : IntKind.i64.wrap ((g : Int) + 1) = ((g + 1 : Nat) : Int) := wrap_next hlt (by omega)
    have hmu : (annSome c5 c6 (headS xs 60)).μ (g + 1) < (annSome c5 c6 (headS xs 60)).μ g := show (headS xs 60).length - (g + 1) < (headS xs 60).length - g by omega
    have hl := some_len c5 c6 (headS xs 60) g
    have hstep : someAt c5 c6 (headS xs 60) (g + 1) = someStep c5 c6 (someAt c5 c6 (headS xs 60) g) (getA (headS xs 60) g) := rfl
    refine ⟨⟨by omega, hlt⟩, by decide, fun ht => ⟨by decide, fun v hv => ⟨by decide, show (someAt c5 c6 (headS xs 60) g).1.length * 40 ≤ 140737488355328 by omega, g + 1, hlt', hmu, ⟨trivial, rfl, rfl, hw, ?_, ?_⟩, ⟨rfl, rfl, rfl, rfl, rfl, rfl, rfl, rfl, rfl⟩⟩⟩, fun ht => ⟨show (someAt c5 c6 (headS xs 60) g).1.length < 9223372036854775808 by omega, fun _ => trivial, fun _ => trivial, fun v hv => ⟨g + 1, hlt', hmu, ⟨trivial, rfl, rfl, hw, ?_, ?_⟩, ⟨rfl, rfl, rfl, rfl, rfl, rfl, rfl, rfl, rfl⟩⟩⟩⟩
    · subst hv
      exact (congrArg Prod.fst (hstep.trans (some_1 ht))).symm
    · subst hv
      exact (congrArg Prod.snd (hstep.trans (some_1 ht))).symm
    · subst hv
      exact (congrArg Prod.fst (hstep.trans (some_2 ht))).symm
    · exact (congrArg Prod.snd (hstep.trans (some_2 ht))).symm
  · have hge : ¬ (g : Int) < ((headS xs 60).length : Int) := of_decide_eq_false hge
    have hg : g ≤ (headS xs 60).length := hg
    have : g = (headS xs 60).length := by omega
    subst this
    exact ⟨rfl, rfl⟩
theorem okSome : FnOk Try.prog u 10 spSome := by
  refine fn_ok Try.prog u tab5 mo laws5 Try.func10 ?_
  intro xs c y h hc
  unfold spSome at h
  split at h
  · cases h
    exact ⟨by kernel_rfl, _, _, bodySome _ _ _ _ _ _ _ _ _ _ hc⟩
  · cases h
end Go.Proofs.Ytnjildbclmglpaa.Pro
