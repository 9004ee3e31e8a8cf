/- A disk that stops stops at the call that was said, and tells so until it goes on: the law DiskStops returns true and leaves its arguments as they were. -/
import Derived.Test.YtmfpgddnapmgfaaRows
import Derived.Test.YtmfpgddnapmgfaaDiskWalkC
import Derived.Test.YtmfpgddnapmgfaaSxR
import Derived.WalkKit
import Derived.ProofKit
import Derived.OpenShut
import Derived.ShutString
import Derived.ChangeOld
import Derived.Below
import Derived.SizedLaws
namespace Go.Proofs.Ytmfpgddnapmgfaa.diskStops
open Go.ChangeShapes Go.WideShapes Go.ChangeAt Go.RowKit Go.Proofs.Ytmfpgddnapmgfaa.Sx Go.Proofs.Ytmfpgddnapmgfaa.Dsk
open Go.ChangeMaps (open_string shut_string)
set_option linter.unusedVariables false
theorem own : ownKnob Try.prog.godebug = none := by kernel_rfl
theorem laid : laidOutB Try.prog = true := by kernel_rfl
set_option maxRecDepth 100000 in
theorem lifted (os : Os) (started : os.Started) (H : Type) (enc : TypeId × Value → H) :
    ReturnsInHanded {} Try.checked os 7 .any (Rows.diskStopsSpec.pre6 enc Try.prog Try.f7 Rows.diskStopsRow.domain false) (Rows.diskStopsSpec.post enc Try.prog Try.f7 false true false false) := by
  refine returnsInHanded_of_change_sized (C := Try.checked) own started (by kernel_rfl) Try.func7
    (ChangeSpec.witness6 (enc := enc) (C := Try.checked) false ⟨#[], #[.int .i8 0, .int .u8 0], []⟩ 7 (by kernel_rfl) (by kernel_rfl) (by kernel_rfl) (by kernel_rfl)) ?_
  intro W base args ds gs before hval0 hW hcnd hsz0 _
  have hval : ∀ (j : Nat) t v, Try.f7.params[j]? = some t → args[j]? = some v → Value.okWide Try.prog W .any base t v := hval0
  have hW' := hW
  obtain ⟨p, q, hA0, hV, rfl, hfz, hnd⟩ := hW
  have hA : DataW.TrodAll enc Try.prog W 0 (fun _ => true) true Try.f7.params.toList args.toList ds p := hA0
  have hsz : (DataW.weightsEach Try.prog (Try.f7.params.toList ++ Rows.diskStopsSpec.plain.varTypes Try.prog) (ds ++ gs)).all (· ≤ reachBytes) = true := hsz0
  rw [Try.params7] at hA hval hsz
  obtain ⟨v0, vs0, d0, ds0, p0, q0, hargs, rfl, rfl, h0, r0⟩ := trodAll_cons hA
  obtain ⟨v1, vs1, d1, ds1, p1, q1, rfl, rfl, rfl, h1, r1⟩ := trodAll_cons r0
  obtain ⟨rfl, rfl, rfl⟩ := trodAll_nil r1
  obtain rfl : args = #[v0, v1] := by cases args; simp_all
  obtain ⟨rfl, rfl⟩ := trodVars_none hV
  obtain ⟨n, rfl, _, _, wn⟩ := open_int Try.underlying40 (hval 0 40 v0 rfl rfl) h0
  have x0 : RepL Try.prog u (outer W fun _ => False) [.int .i8 n] [.int .i8 n] := .int _ n .nil
  obtain ⟨w, rfl, _, _, ww⟩ := open_int Try.underlying5 (hval 1 5 v1 rfl rfl) h1
  have x1 : RepL Try.prog u (outer W fun _ => False) [.int .u8 w] [.int .u8 w] := .int _ w .nil
  have hx : RepL Try.prog u (outer W fun _ => False) [.int .i8 n, .int .u8 w] [.int .i8 n, .int .u8 w] := (RepL.cons Try.prog u x0 x1)
  have hu : (-128 ≤ n ∧ n < 128) ∧ 0 ≤ w ∧ w < 256 := ⟨i8_wf wn, u8_wf ww⟩
  refine (said Try.prog u okLStops (c := some ((-128 ≤ n ∧ n < 128) ∧ 0 ≤ w ∧ w < 256)) rfl hu hx).mono fun e W' ⟨he, bel⟩ => ?_
  subst he
  exact ⟨_, rfl, _, _, _, [], _, [], hW', trodAll_mk1 (shut_bool Try.underlying4 _), (trodAll_cons_mk (stays laid (by kernel_rfl) (of_decide_eq_true (by kernel_rfl)) h0 bel) (trodAll_cons_mk (stays laid (by kernel_rfl) (of_decide_eq_true (by kernel_rfl)) h1 bel) trodAll_mk0)), rfl, bel.frame _, fun h => by cases h⟩
theorem over : Rows.diskStopsRow.holds Try.pinned (OpenSpec.ofChange Rows.diskStopsSpec) :=
  OpenClaim.holds_of_wide 7 Try.f7 rfl rfl rfl rfl rfl rfl rfl ⟨rfl, rfl, rfl, rfl, rfl⟩ rfl rfl rfl rfl rfl (by kernel_rfl) Try.func7 (by kernel_rfl)
    (of_decide_eq_true (by kernel_rfl)) (by unfold Func.isWrapper; first | (rw [if_pos (by decide +kernel)]; kernel_rfl) | (rw [if_neg (by decide +kernel)]; exact ⟨rfl, rfl⟩))
    (fun os started H enc _ => lifted os started H enc)
theorem proved : Rows.DiskStopsSaid := over
#print axioms proved
end Go.Proofs.Ytmfpgddnapmgfaa.diskStops
namespace Go.Proofs.Ytmfpgddnapmgfaa
/-- The row, under a short name, for the claim. -/
theorem diskStops_holds : Rows.DiskStopsSaid := diskStops.proved
end Go.Proofs.Ytmfpgddnapmgfaa
