/- A disk that fails does so once, and what was written there is not: the law DiskFails returns true and leaves its arguments as they were. -/
import Derived.Test.YtmfpgddnapmgfaaRows
import Derived.Test.YtmfpgddnapmgfaaDiskWalkC
import Derived.Test.YtmfpgddnapmgfaaSxR
import Derived.WalkKit
import Derived.ProofKit
import Derived.OpenShut
import Derived.ShutString
import Derived.ChangeOld
import Derived.Below
import Derived.SizedLaws
namespace Go.Proofs.Ytmfpgddnapmgfaa.diskFails
open Go.ChangeShapes Go.WideShapes Go.ChangeAt Go.RowKit Go.Proofs.Ytmfpgddnapmgfaa.Sx Go.Proofs.Ytmfpgddnapmgfaa.Dsk
open Go.ChangeMaps (open_string shut_string)
set_option linter.unusedVariables false
theorem own : ownKnob Try.prog.godebug = none := by kernel_rfl
theorem laid : laidOutB Try.prog = true := by kernel_rfl
set_option maxRecDepth 100000 in
theorem lifted (os : Os) (started : os.Started) (H : Type) (enc : TypeId × Value → H) :
    ReturnsInHanded {} Try.checked os 8 .any (Rows.diskFailsSpec.pre6 enc Try.prog Try.f8 Rows.diskFailsRow.domain false) (Rows.diskFailsSpec.post enc Try.prog Try.f8 false true false false) := by
  refine returnsInHanded_of_change_sized (C := Try.checked) own started (by kernel_rfl) Try.func8
    (ChangeSpec.witness6 (enc := enc) (C := Try.checked) false ⟨#[], #[.int .u8 0, .int .u8 0], []⟩ 8 (by kernel_rfl) (by kernel_rfl) (by kernel_rfl) (by kernel_rfl)) ?_
  intro W base args ds gs before hval0 hW hcnd hsz0 _
  have hval : ∀ (j : Nat) t v, Try.f8.params[j]? = some t → args[j]? = some v → Value.okWide Try.prog W .any base t v := hval0
  have hW' := hW
  obtain ⟨p, q, hA0, hV, rfl, hfz, hnd⟩ := hW
  have hA : DataW.TrodAll enc Try.prog W 0 (fun _ => true) true Try.f8.params.toList args.toList ds p := hA0
  have hsz : (DataW.weightsEach Try.prog (Try.f8.params.toList ++ Rows.diskFailsSpec.plain.varTypes Try.prog) (ds ++ gs)).all (· ≤ reachBytes) = true := hsz0
  rw [Try.params8] at hA hval hsz
  obtain ⟨v0, vs0, d0, ds0, p0, q0, hargs, rfl, rfl, h0, r0⟩ := trodAll_cons hA
  obtain ⟨v1, vs1, d1, ds1, p1, q1, rfl, rfl, rfl, h1, r1⟩ := trodAll_cons r0
  obtain ⟨rfl, rfl, rfl⟩ := trodAll_nil r1
  obtain rfl : args = #[v0, v1] := by cases args; simp_all
  obtain ⟨rfl, rfl⟩ := trodVars_none hV
  obtain ⟨n, rfl, _, _, wn⟩ := open_int Try.underlying5 (hval 0 5 v0 rfl rfl) h0
  have x0 : RepL Try.prog u (outer W fun _ => False) [.int .u8 n] [.int .u8 n] := .int _ n .nil
  obtain ⟨c, rfl, _, _, wc⟩ := open_int Try.underlying5 (hval 1 5 v1 rfl rfl) h1
  have x1 : RepL Try.prog u (outer W fun _ => False) [.int .u8 c] [.int .u8 c] := .int _ c .nil
  have hx : RepL Try.prog u (outer W fun _ => False) [.int .u8 n, .int .u8 c] [.int .u8 n, .int .u8 c] := (RepL.cons Try.prog u x0 x1)
  have hu : 0 ≤ n ∧ n < 256 := u8_wf wn
  refine (said Try.prog u okLFails (c := some (0 ≤ n ∧ n < 256)) rfl hu hx).mono fun e W' ⟨he, bel⟩ => ?_
  subst he
  exact ⟨_, rfl, _, _, _, [], _, [], hW', trodAll_mk1 (shut_bool Try.underlying4 _), (trodAll_cons_mk (stays laid (by kernel_rfl) (of_decide_eq_true (by kernel_rfl)) h0 bel) (trodAll_cons_mk (stays laid (by kernel_rfl) (of_decide_eq_true (by kernel_rfl)) h1 bel) trodAll_mk0)), rfl, bel.frame _, fun h => by cases h⟩
theorem over : Rows.diskFailsRow.holds Try.pinned (OpenSpec.ofChange Rows.diskFailsSpec) :=
  OpenClaim.holds_of_wide 8 Try.f8 rfl rfl rfl rfl rfl rfl rfl ⟨rfl, rfl, rfl, rfl, rfl⟩ rfl rfl rfl rfl rfl (by kernel_rfl) Try.func8 (by kernel_rfl)
    (of_decide_eq_true (by kernel_rfl)) (by unfold Func.isWrapper; first | (rw [if_pos (by decide +kernel)]; kernel_rfl) | (rw [if_neg (by decide +kernel)]; exact ⟨rfl, rfl⟩))
    (fun os started H enc _ => lifted os started H enc)
theorem proved : Rows.DiskFailsSaid := over
#print axioms proved
end Go.Proofs.Ytmfpgddnapmgfaa.diskFails
namespace Go.Proofs.Ytmfpgddnapmgfaa
/-- The row, under a short name, for the claim. -/
theorem diskFails_holds : Rows.DiskFailsSaid := diskFails.proved
end Go.Proofs.Ytmfpgddnapmgfaa
