/- What was flushed is there, whatever is lost of what was not: the law DiskKept returns true and leaves its arguments as they were. -/
import Derived.Test.YtmfpgddnapmgfaaRows
import Derived.Test.YtmfpgddnapmgfaaDiskWalkB
import Derived.Test.YtmfpgddnapmgfaaSxR
import Derived.WalkKit
import Derived.ProofKit
import Derived.OpenShut
import Derived.ShutString
import Derived.ChangeOld
import Derived.Below
import Derived.SizedLaws
namespace Go.Proofs.Ytmfpgddnapmgfaa.diskKept
open Go.ChangeShapes Go.WideShapes Go.ChangeAt Go.RowKit Go.Proofs.Ytmfpgddnapmgfaa.Sx Go.Proofs.Ytmfpgddnapmgfaa.Dsk
open Go.ChangeMaps (open_string shut_string)
set_option linter.unusedVariables false
theorem own : ownKnob Try.prog.godebug = none := by kernel_rfl
theorem laid : laidOutB Try.prog = true := by kernel_rfl
set_option maxRecDepth 100000 in
theorem lifted (os : Os) (started : os.Started) (H : Type) (enc : TypeId × Value → H) :
    ReturnsInHanded {} Try.checked os 6 .any (Rows.diskKeptSpec.pre6 enc Try.prog Try.f6 Rows.diskKeptRow.domain false) (Rows.diskKeptSpec.post enc Try.prog Try.f6 false true false false) := by
  refine returnsInHanded_of_change_sized (C := Try.checked) own started (by kernel_rfl) Try.func6
    (ChangeSpec.witness6 (enc := enc) (C := Try.checked) false ⟨#[], #[.int .u8 0, .int .u8 0, .int .u8 0, .int .u64 0, .int .i8 0], []⟩ 6 (by kernel_rfl) (by kernel_rfl) (by kernel_rfl) (by kernel_rfl)) ?_
  intro W base args ds gs before hval0 hW hcnd hsz0 _
  have hval : ∀ (j : Nat) t v, Try.f6.params[j]? = some t → args[j]? = some v → Value.okWide Try.prog W .any base t v := hval0
  have hW' := hW
  obtain ⟨p, q, hA0, hV, rfl, hfz, hnd⟩ := hW
  have hA : DataW.TrodAll enc Try.prog W 0 (fun _ => true) true Try.f6.params.toList args.toList ds p := hA0
  have hsz : (DataW.weightsEach Try.prog (Try.f6.params.toList ++ Rows.diskKeptSpec.plain.varTypes Try.prog) (ds ++ gs)).all (· ≤ reachBytes) = true := hsz0
  rw [Try.params6] at hA hval hsz
  obtain ⟨v0, vs0, d0, ds0, p0, q0, hargs, rfl, rfl, h0, r0⟩ := trodAll_cons hA
  obtain ⟨v1, vs1, d1, ds1, p1, q1, rfl, rfl, rfl, h1, r1⟩ := trodAll_cons r0
  obtain ⟨v2, vs2, d2, ds2, p2, q2, rfl, rfl, rfl, h2, r2⟩ := trodAll_cons r1
  obtain ⟨v3, vs3, d3, ds3, p3, q3, rfl, rfl, rfl, h3, r3⟩ := trodAll_cons r2
  obtain ⟨v4, vs4, d4, ds4, p4, q4, rfl, rfl, rfl, h4, r4⟩ := trodAll_cons r3
  obtain ⟨rfl, rfl, rfl⟩ := trodAll_nil r4
  obtain rfl : args = #[v0, v1, v2, v3, v4] := by cases args; simp_all
  obtain ⟨rfl, rfl⟩ := trodVars_none hV
  obtain ⟨a, rfl, _, _, wa⟩ := open_int Try.underlying5 (hval 0 5 v0 rfl rfl) h0
  have x0 : RepL Try.prog u (outer W fun _ => False) [.int .u8 a] [.int .u8 a] := .int _ a .nil
  obtain ⟨c, rfl, _, _, wc⟩ := open_int Try.underlying5 (hval 1 5 v1 rfl rfl) h1
  have x1 : RepL Try.prog u (outer W fun _ => False) [.int .u8 c] [.int .u8 c] := .int _ c .nil
  obtain ⟨g, rfl, _, _, wg⟩ := open_int Try.underlying5 (hval 2 5 v2 rfl rfl) h2
  have x2 : RepL Try.prog u (outer W fun _ => False) [.int .u8 g] [.int .u8 g] := .int _ g .nil
  obtain ⟨m, rfl, _, _, wm⟩ := open_int Try.underlying23 (hval 3 23 v3 rfl rfl) h3
  have x3 : RepL Try.prog u (outer W fun _ => False) [.int .u64 m] [.int .u64 m] := .int _ m .nil
  obtain ⟨t, rfl, _, _, wt⟩ := open_int Try.underlying40 (hval 4 40 v4 rfl rfl) h4
  have x4 : RepL Try.prog u (outer W fun _ => False) [.int .i8 t] [.int .i8 t] := .int _ t .nil
  have hx : RepL Try.prog u (outer W fun _ => False) [.int .u8 a, .int .u8 c, .int .u8 g, .int .u64 m, .int .i8 t] [.int .u8 a, .int .u8 c, .int .u8 g, .int .u64 m, .int .i8 t] := (RepL.cons Try.prog u x0 (RepL.cons Try.prog u x1 (RepL.cons Try.prog u x2 (RepL.cons Try.prog u x3 x4))))
  have hu : (0 ≤ a ∧ a < 256) ∧ 0 ≤ g ∧ g < 256 := ⟨u8_wf wa, u8_wf wg⟩
  refine (said Try.prog u okLKept (c := some ((0 ≤ a ∧ a < 256) ∧ 0 ≤ g ∧ g < 256)) rfl hu hx).mono fun e W' ⟨he, bel⟩ => ?_
  subst he
  exact ⟨_, rfl, _, _, _, [], _, [], hW', trodAll_mk1 (shut_bool Try.underlying4 _), (trodAll_cons_mk (stays laid (by kernel_rfl) (of_decide_eq_true (by kernel_rfl)) h0 bel) (trodAll_cons_mk (stays laid (by kernel_rfl) (of_decide_eq_true (by kernel_rfl)) h1 bel) (trodAll_cons_mk (stays laid (by kernel_rfl) (of_decide_eq_true (by kernel_rfl)) h2 bel) (trodAll_cons_mk (stays laid (by kernel_rfl) (of_decide_eq_true (by kernel_rfl)) h3 bel) (trodAll_cons_mk (stays laid (by kernel_rfl) (of_decide_eq_true (by kernel_rfl)) h4 bel) trodAll_mk0))))), rfl, bel.frame _, fun h => by cases h⟩
theorem over : Rows.diskKeptRow.holds Try.pinned (OpenSpec.ofChange Rows.diskKeptSpec) :=
  OpenClaim.holds_of_wide 6 Try.f6 rfl rfl rfl rfl rfl rfl rfl ⟨rfl, rfl, rfl, rfl, rfl⟩ rfl rfl rfl rfl rfl (by kernel_rfl) Try.func6 (by kernel_rfl)
    (of_decide_eq_true (by kernel_rfl)) (by unfold Func.isWrapper; first | (rw [if_pos (by decide +kernel)]; kernel_rfl) | (rw [if_neg (by decide +kernel)]; exact ⟨rfl, rfl⟩))
    (fun os started H enc _ => lifted os started H enc)
theorem proved : Rows.DiskKeptSaid := over
#print axioms proved
end Go.Proofs.Ytmfpgddnapmgfaa.diskKept
namespace Go.Proofs.Ytmfpgddnapmgfaa
/-- The row, under a short name, for the claim. -/
theorem diskKept_holds : Rows.DiskKeptSaid := diskKept.proved
end Go.Proofs.Ytmfpgddnapmgfaa
