/- Who holds which address is what the document says, deed by deed: the law HeldScript returns true and leaves its arguments as they were. -/
import Derived.Test.YtfpapepjobfahaaRows
import Derived.Test.YtfpapepjobfahaaHeldWalkC
import Derived.Test.YtfpapepjobfahaaHeldOpenB
import Derived.Test.YtfpapepjobfahaaSxR
import Derived.WalkKit
import Derived.ProofKit
import Derived.OpenShut
import Derived.ShutString
import Derived.ChangeOld
import Derived.Below
import Derived.SizedLaws
namespace Go.Proofs.Ytfpapepjobfahaa.heldScript
open Go.ChangeShapes Go.WideShapes Go.ChangeAt Go.RowKit Go.Proofs.Ytfpapepjobfahaa.Sx Go.Proofs.Ytfpapepjobfahaa.Held
open Go.ChangeMaps (open_string shut_string)
set_option linter.unusedVariables false
theorem own : ownKnob Try.prog.godebug = none := by kernel_rfl
theorem laid : laidOutB Try.prog = true := by kernel_rfl
set_option maxRecDepth 100000 in
theorem lifted (os : Os) (started : os.Started) (H : Type) (enc : TypeId × Value → H) :
    ReturnsInHanded {} Try.checked os 8 .any (Rows.heldScriptSpec.pre6 enc Try.prog Try.f8 Rows.heldScriptRow.domain false) (Rows.heldScriptSpec.post enc Try.prog Try.f8 false true false false) := by
  refine returnsInHanded_of_change_sized (C := Try.checked) own started (by kernel_rfl) Try.func8
    (ChangeSpec.witness6 (enc := enc) (C := Try.checked) false ⟨#[], #[.slice none 0 0], []⟩ 8 (by kernel_rfl) (by kernel_rfl) (by kernel_rfl) (by kernel_rfl)) ?_
  intro W base args ds gs before hval0 hW hcnd hsz0 _
  have hval : ∀ (j : Nat) t v, Try.f8.params[j]? = some t → args[j]? = some v → Value.okWide Try.prog W .any base t v := hval0
  have hW' := hW
  obtain ⟨p, q, hA0, hV, rfl, hfz, hnd⟩ := hW
  have hA : DataW.TrodAll enc Try.prog W 0 (fun _ => true) true Try.f8.params.toList args.toList ds p := hA0
  have hsz : (DataW.weightsEach Try.prog (Try.f8.params.toList ++ Rows.heldScriptSpec.plain.varTypes Try.prog) (ds ++ gs)).all (· ≤ reachBytes) = true := hsz0
  rw [Try.params8] at hA hval hsz
  obtain ⟨v0, vs0, d0, ds0, p0, q0, hargs, rfl, rfl, h0, r0⟩ := trodAll_cons hA
  obtain ⟨rfl, rfl, rfl⟩ := trodAll_nil r0
  obtain rfl : args = #[v0] := by cases args; simp_all
  obtain ⟨rfl, rfl⟩ := trodVars_none hV
  obtain ⟨ns, uns, lns, x0⟩ := open_rows Try.prog u (T := 58) Try.underlying25 (of_decide_eq_true (by kernel_rfl)) (by kernel_rfl) openAct2 (hval 0 25 v0 rfl rfl) h0
  have zns := lns.2 (reach_of Try.prog hsz (j := 0) rfl rfl)
  have hx : RepL Try.prog u (outer W fun _ => False) [.csl 58 ns] [v0] := x0
  have hu : actsOk2 ns := ⟨⟨ml lns.1, fun x hx => (uns x hx).1⟩, fun x hx => (uns x hx).2⟩
  refine (said Try.prog u okLScript (c := some (actsOk2 ns)) rfl hu hx).mono fun e W' ⟨he, bel⟩ => ?_
  subst he
  exact ⟨_, rfl, _, _, _, [], _, [], hW', trodAll_mk1 (shut_bool Try.underlying4 _), (trodAll_cons_mk (stays laid (by kernel_rfl) (of_decide_eq_true (by kernel_rfl)) h0 bel) trodAll_mk0), rfl, bel.frame _, fun h => by cases h⟩
theorem over : Rows.heldScriptRow.holds Try.pinned (OpenSpec.ofChange Rows.heldScriptSpec) :=
  OpenClaim.holds_of_wide 8 Try.f8 rfl rfl rfl rfl rfl rfl rfl ⟨rfl, rfl, rfl, rfl, rfl⟩ rfl rfl rfl rfl rfl (by kernel_rfl) Try.func8 (by kernel_rfl)
    (of_decide_eq_true (by kernel_rfl)) (by unfold Func.isWrapper; first | (rw [if_pos (by decide +kernel)]; kernel_rfl) | (rw [if_neg (by decide +kernel)]; exact ⟨rfl, rfl⟩))
    (fun os started H enc _ => lifted os started H enc)
theorem proved : Rows.HeldScriptSaid := over
#print axioms proved
end Go.Proofs.Ytfpapepjobfahaa.heldScript
namespace Go.Proofs.Ytfpapepjobfahaa
/-- The row, under a short name, for the claim. -/
theorem heldScript_holds : Rows.HeldScriptSaid := heldScript.proved
end Go.Proofs.Ytfpapepjobfahaa
