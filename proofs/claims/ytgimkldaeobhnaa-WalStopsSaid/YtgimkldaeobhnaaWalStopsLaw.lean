/- Wherever the disk stops, whichever sectors it keeps, and however one is torn, all that was told is there, and of what was in flight all, or nothing: the law WalStops returns true and leaves its arguments as they were. -/
import Derived.Test.YtgimkldaeobhnaaRows
import Derived.Test.YtgimkldaeobhnaaWalWalkK
import Derived.Test.YtgimkldaeobhnaaWalOpen
import Derived.Test.YtgimkldaeobhnaaSxR
import Derived.WalkKit
import Derived.ProofKit
import Derived.OpenShut
import Derived.ShutString
import Derived.ChangeOld
import Derived.Below
import Derived.SizedLaws
namespace Go.Proofs.Ytgimkldaeobhnaa.walStops
open Go.ChangeShapes Go.WideShapes Go.ChangeAt Go.RowKit Go.Proofs.Ytgimkldaeobhnaa.Sx Go.Proofs.Ytgimkldaeobhnaa.Dsk
open Go.ChangeMaps (open_string shut_string)
set_option linter.unusedVariables false
theorem own : ownKnob Try.prog.godebug = none := by kernel_rfl
theorem laid : laidOutB Try.prog = true := by kernel_rfl
set_option maxRecDepth 100000 in
theorem lifted (os : Os) (started : os.Started) (H : Type) (enc : TypeId × Value → H) :
    ReturnsInHanded {} Try.checked os 5 .any (Rows.walStopsSpec.pre6 enc Try.prog Try.f5 Rows.walStopsRow.domain false) (Rows.walStopsSpec.post enc Try.prog Try.f5 false true false false) := by
  refine returnsInHanded_of_change_sized (C := Try.checked) own started (by kernel_rfl) Try.func5
    (ChangeSpec.witness6 (enc := enc) (C := Try.checked) false ⟨#[], #[.slice none 0 0, .int .u8 0, .int .u64 0, .int .i8 0, .int .u8 0], []⟩ 5 (by kernel_rfl) (by kernel_rfl) (by kernel_rfl) (by kernel_rfl)) ?_
  intro W base args ds gs before hval0 hW hcnd hsz0 _
  have hval : ∀ (j : Nat) t v, Try.f5.params[j]? = some t → args[j]? = some v → Value.okWide Try.prog W .any base t v := hval0
  have hW' := hW
  obtain ⟨p, q, hA0, hV, rfl, hfz, hnd⟩ := hW
  have hA : DataW.TrodAll enc Try.prog W 0 (fun _ => true) true Try.f5.params.toList args.toList ds p := hA0
  have hsz : (DataW.weightsEach Try.prog (Try.f5.params.toList ++ Rows.walStopsSpec.plain.varTypes Try.prog) (ds ++ gs)).all (· ≤ reachBytes) = true := hsz0
  rw [Try.params5] at hA hval hsz
  obtain ⟨v0, vs0, d0, ds0, p0, q0, hargs, rfl, rfl, h0, r0⟩ := trodAll_cons hA
  obtain ⟨v1, vs1, d1, ds1, p1, q1, rfl, rfl, rfl, h1, r1⟩ := trodAll_cons r0
  obtain ⟨v2, vs2, d2, ds2, p2, q2, rfl, rfl, rfl, h2, r2⟩ := trodAll_cons r1
  obtain ⟨v3, vs3, d3, ds3, p3, q3, rfl, rfl, rfl, h3, r3⟩ := trodAll_cons r2
  obtain ⟨v4, vs4, d4, ds4, p4, q4, rfl, rfl, rfl, h4, r4⟩ := trodAll_cons r3
  obtain ⟨rfl, rfl, rfl⟩ := trodAll_nil r4
  obtain rfl : args = #[v0, v1, v2, v3, v4] := by cases args; simp_all
  obtain ⟨rfl, rfl⟩ := trodVars_none hV
  obtain ⟨ns, uns, lns, x0⟩ := open_rows Try.prog u (T := 39) Try.underlying35 (of_decide_eq_true (by kernel_rfl)) (by kernel_rfl) openAct (hval 0 35 v0 rfl rfl) h0
  have zns := lns.2 (reach_of Try.prog hsz (j := 0) rfl rfl)
  obtain ⟨s, rfl, _, _, ws⟩ := open_int Try.underlying5 (hval 1 5 v1 rfl rfl) h1
  have x1 : RepL Try.prog u (outer W fun _ => False) [.int .u8 s] [.int .u8 s] := .int _ s .nil
  obtain ⟨m, rfl, _, _, wm⟩ := open_int Try.underlying43 (hval 2 43 v2 rfl rfl) h2
  have x2 : RepL Try.prog u (outer W fun _ => False) [.int .u64 m] [.int .u64 m] := .int _ m .nil
  obtain ⟨t, rfl, _, _, wt⟩ := open_int Try.underlying44 (hval 3 44 v3 rfl rfl) h3
  have x3 : RepL Try.prog u (outer W fun _ => False) [.int .i8 t] [.int .i8 t] := .int _ t .nil
  obtain ⟨b, rfl, _, _, wb⟩ := open_int Try.underlying5 (hval 4 5 v4 rfl rfl) h4
  have x4 : RepL Try.prog u (outer W fun _ => False) [.int .u8 b] [.int .u8 b] := .int _ b .nil
  have hx : RepL Try.prog u (outer W fun _ => False) [.csl 39 ns, .int .u8 s, .int .u64 m, .int .i8 t, .int .u8 b] [v0, .int .u8 s, .int .u64 m, .int .i8 t, .int .u8 b] := (RepL.cons Try.prog u x0 (RepL.cons Try.prog u x1 (RepL.cons Try.prog u x2 (RepL.cons Try.prog u x3 x4))))
  have hu : actsOk ns ∧ (0 ≤ s ∧ s < 256) ∧ (-128 ≤ t ∧ t < 128) ∧ 0 ≤ b ∧ b < 256 := ⟨⟨(show ns.length < 9223372036854775808 by have hml : maxLen = 9223372036854775807 := rfl; have := lns.1; omega), uns⟩, u8_wf ws, i8_wf wt, u8_wf wb⟩
  refine (said Try.prog u okLSto (c := some (actsOk ns ∧ (0 ≤ s ∧ s < 256) ∧ (-128 ≤ t ∧ t < 128) ∧ 0 ≤ b ∧ b < 256)) rfl hu hx).mono fun e W' ⟨he, bel⟩ => ?_
  subst he
  exact ⟨_, rfl, _, _, _, [], _, [], hW', trodAll_mk1 (shut_bool Try.underlying4 _), (trodAll_cons_mk (stays laid (by kernel_rfl) (of_decide_eq_true (by kernel_rfl)) h0 bel) (trodAll_cons_mk (stays laid (by kernel_rfl) (of_decide_eq_true (by kernel_rfl)) h1 bel) (trodAll_cons_mk (stays laid (by kernel_rfl) (of_decide_eq_true (by kernel_rfl)) h2 bel) (trodAll_cons_mk (stays laid (by kernel_rfl) (of_decide_eq_true (by kernel_rfl)) h3 bel) (trodAll_cons_mk (stays laid (by kernel_rfl) (of_decide_eq_true (by kernel_rfl)) h4 bel) trodAll_mk0))))), rfl, bel.frame _, fun h => by cases h⟩
theorem over : Rows.walStopsRow.holds Try.pinned (OpenSpec.ofChange Rows.walStopsSpec) :=
  OpenClaim.holds_of_wide 5 Try.f5 rfl rfl rfl rfl rfl rfl rfl ⟨rfl, rfl, rfl, rfl, rfl⟩ rfl rfl rfl rfl rfl (by kernel_rfl) Try.func5 (by kernel_rfl)
    (of_decide_eq_true (by kernel_rfl)) (by unfold Func.isWrapper; first | (rw [if_pos (by decide +kernel)]; kernel_rfl) | (rw [if_neg (by decide +kernel)]; exact ⟨rfl, rfl⟩))
    (fun os started H enc _ => lifted os started H enc)
theorem proved : Rows.WalStopsSaid := over
#print axioms proved
end Go.Proofs.Ytgimkldaeobhnaa.walStops
namespace Go.Proofs.Ytgimkldaeobhnaa
/-- The row, under a short name, for the claim. -/
theorem walStops_holds : Rows.WalStopsSaid := walStops.proved
end Go.Proofs.Ytgimkldaeobhnaa
