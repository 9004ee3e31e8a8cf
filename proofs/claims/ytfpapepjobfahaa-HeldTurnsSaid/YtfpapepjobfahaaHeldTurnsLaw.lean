/- Who puts an address and takes it has the row that was: the law HeldTurns returns true and leaves its arguments as they were. -/
import Derived.Test.YtfpapepjobfahaaRows
import Derived.Test.YtfpapepjobfahaaHeldWalkB
import Derived.Test.YtfpapepjobfahaaHeldOpen
import Derived.Test.YtfpapepjobfahaaSxR
import Derived.WalkKit
import Derived.ProofKit
import Derived.OpenShut
import Derived.ShutString
import Derived.ChangeOld
import Derived.Below
import Derived.SizedLaws
namespace Go.Proofs.Ytfpapepjobfahaa.heldTurns
open Go.ChangeShapes Go.WideShapes Go.ChangeAt Go.RowKit Go.Proofs.Ytfpapepjobfahaa.Sx Go.Proofs.Ytfpapepjobfahaa.Held
open Go.ChangeMaps (open_string shut_string)
set_option linter.unusedVariables false
theorem own : ownKnob Try.prog.godebug = none := by kernel_rfl
theorem laid : laidOutB Try.prog = true := by kernel_rfl
set_option maxRecDepth 100000 in
theorem lifted (os : Os) (started : os.Started) (H : Type) (enc : TypeId × Value → H) :
    ReturnsInHanded {} Try.checked os 7 .any (Rows.heldTurnsSpec.pre6 enc Try.prog Try.f7 Rows.heldTurnsRow.domain false) (Rows.heldTurnsSpec.post enc Try.prog Try.f7 false true false false) := by
  refine returnsInHanded_of_change_sized (C := Try.checked) own started (by kernel_rfl) Try.func7
    (ChangeSpec.witness6 (enc := enc) (C := Try.checked) false ⟨#[], #[.slice none 0 0, .int .u8 0], []⟩ 7 (by kernel_rfl) (by kernel_rfl) (by kernel_rfl) (by kernel_rfl)) ?_
  intro W base args ds gs before hval0 hW hcnd hsz0 _
  have hval : ∀ (j : Nat) t v, Try.f7.params[j]? = some t → args[j]? = some v → Value.okWide Try.prog W .any base t v := hval0
  have hW' := hW
  obtain ⟨p, q, hA0, hV, rfl, hfz, hnd⟩ := hW
  have hA : DataW.TrodAll enc Try.prog W 0 (fun _ => true) true Try.f7.params.toList args.toList ds p := hA0
  have hsz : (DataW.weightsEach Try.prog (Try.f7.params.toList ++ Rows.heldTurnsSpec.plain.varTypes Try.prog) (ds ++ gs)).all (· ≤ reachBytes) = true := hsz0
  rw [Try.params7] at hA hval hsz
  obtain ⟨v0, vs0, d0, ds0, p0, q0, hargs, rfl, rfl, h0, r0⟩ := trodAll_cons hA
  obtain ⟨v1, vs1, d1, ds1, p1, q1, rfl, rfl, rfl, h1, r1⟩ := trodAll_cons r0
  obtain ⟨rfl, rfl, rfl⟩ := trodAll_nil r1
  obtain rfl : args = #[v0, v1] := by cases args; simp_all
  obtain ⟨rfl, rfl⟩ := trodVars_none hV
  obtain ⟨ns, uns, lns, x0⟩ := open_rows Try.prog u (T := 58) Try.underlying25 (of_decide_eq_true (by kernel_rfl)) (by kernel_rfl) openAct (hval 0 25 v0 rfl rfl) h0
  have zns := lns.2 (reach_of Try.prog hsz (j := 0) rfl rfl)
  obtain ⟨a, rfl, _, _, wa⟩ := open_int Try.underlying5 (hval 1 5 v1 rfl rfl) h1
  have x1 : RepL Try.prog u (outer W fun _ => False) [.int .u8 a] [.int .u8 a] := .int _ a .nil
  have hx : RepL Try.prog u (outer W fun _ => False) [.csl 58 ns, .int .u8 a] [v0, .int .u8 a] := (RepL.cons Try.prog u x0 x1)
  have hu : actsOk ns := ⟨ml lns.1, uns⟩
  refine (said Try.prog u okLTurns (c := some (actsOk ns)) rfl hu hx).mono fun e W' ⟨he, bel⟩ => ?_
  subst he
  exact ⟨_, rfl, _, _, _, [], _, [], hW', trodAll_mk1 (shut_bool Try.underlying4 _), (trodAll_cons_mk (stays laid (by kernel_rfl) (of_decide_eq_true (by kernel_rfl)) h0 bel) (trodAll_cons_mk (stays laid (by kernel_rfl) (of_decide_eq_true (by kernel_rfl)) h1 bel) trodAll_mk0)), rfl, bel.frame _, fun h => by cases h⟩
theorem over : Rows.heldTurnsRow.holds Try.pinned (OpenSpec.ofChange Rows.heldTurnsSpec) :=
  OpenClaim.holds_of_wide 7 Try.f7 rfl rfl rfl rfl rfl rfl rfl ⟨rfl, rfl, rfl, rfl, rfl⟩ rfl rfl rfl rfl rfl (by kernel_rfl) Try.func7 (by kernel_rfl)
    (of_decide_eq_true (by kernel_rfl)) (by unfold Func.isWrapper; first | (rw [if_pos (by decide +kernel)]; kernel_rfl) | (rw [if_neg (by decide +kernel)]; exact ⟨rfl, rfl⟩))
    (fun os started H enc _ => lifted os started H enc)
theorem proved : Rows.HeldTurnsSaid := over
#print axioms proved
end Go.Proofs.Ytfpapepjobfahaa.heldTurns
namespace Go.Proofs.Ytfpapepjobfahaa
/-- The row, under a short name, for the claim. -/
theorem heldTurns_holds : Rows.HeldTurnsSaid := heldTurns.proved
end Go.Proofs.Ytfpapepjobfahaa
