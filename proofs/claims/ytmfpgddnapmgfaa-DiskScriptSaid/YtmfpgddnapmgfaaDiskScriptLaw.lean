/- What a disk has, and tells, is what the document says, deed by deed: the law DiskScript returns true and leaves its arguments as they were. -/
import Derived.Test.YtmfpgddnapmgfaaRows
import Derived.Test.YtmfpgddnapmgfaaDiskWalkD
import Derived.Test.YtmfpgddnapmgfaaDiskOpen
import Derived.Test.YtmfpgddnapmgfaaSxR
import Derived.WalkKit
import Derived.ProofKit
import Derived.OpenShut
import Derived.ShutString
import Derived.ChangeOld
import Derived.Below
import Derived.SizedLaws
namespace Go.Proofs.Ytmfpgddnapmgfaa.diskScript
open Go.ChangeShapes Go.WideShapes Go.ChangeAt Go.RowKit Go.Proofs.Ytmfpgddnapmgfaa.Sx Go.Proofs.Ytmfpgddnapmgfaa.Dsk
open Go.ChangeMaps (open_string shut_string)
set_option linter.unusedVariables false
theorem own : ownKnob Try.prog.godebug = none := by kernel_rfl
theorem laid : laidOutB Try.prog = true := by kernel_rfl
set_option maxRecDepth 100000 in
theorem lifted (os : Os) (started : os.Started) (H : Type) (enc : TypeId × Value → H) :
    ReturnsInHanded {} Try.checked os 9 .any (Rows.diskScriptSpec.pre6 enc Try.prog Try.f9 Rows.diskScriptRow.domain false) (Rows.diskScriptSpec.post enc Try.prog Try.f9 false true false false) := by
  refine returnsInHanded_of_change_sized (C := Try.checked) own started (by kernel_rfl) Try.func9
    (ChangeSpec.witness6 (enc := enc) (C := Try.checked) false ⟨#[], #[.int .u8 0, .slice none 0 0], []⟩ 9 (by kernel_rfl) (by kernel_rfl) (by kernel_rfl) (by kernel_rfl)) ?_
  intro W base args ds gs before hval0 hW hcnd hsz0 _
  have hval : ∀ (j : Nat) t v, Try.f9.params[j]? = some t → args[j]? = some v → Value.okWide Try.prog W .any base t v := hval0
  have hW' := hW
  obtain ⟨p, q, hA0, hV, rfl, hfz, hnd⟩ := hW
  have hA : DataW.TrodAll enc Try.prog W 0 (fun _ => true) true Try.f9.params.toList args.toList ds p := hA0
  have hsz : (DataW.weightsEach Try.prog (Try.f9.params.toList ++ Rows.diskScriptSpec.plain.varTypes Try.prog) (ds ++ gs)).all (· ≤ reachBytes) = true := hsz0
  rw [Try.params9] at hA hval hsz
  obtain ⟨v0, vs0, d0, ds0, p0, q0, hargs, rfl, rfl, h0, r0⟩ := trodAll_cons hA
  obtain ⟨v1, vs1, d1, ds1, p1, q1, rfl, rfl, rfl, h1, r1⟩ := trodAll_cons r0
  obtain ⟨rfl, rfl, rfl⟩ := trodAll_nil r1
  obtain rfl : args = #[v0, v1] := by cases args; simp_all
  obtain ⟨rfl, rfl⟩ := trodVars_none hV
  obtain ⟨s, rfl, _, _, ws⟩ := open_int Try.underlying5 (hval 0 5 v0 rfl rfl) h0
  have x0 : RepL Try.prog u (outer W fun _ => False) [.int .u8 s] [.int .u8 s] := .int _ s .nil
  obtain ⟨ns, uns, lns, x1⟩ := open_rows Try.prog u (T := 50) Try.underlying45 (of_decide_eq_true (by kernel_rfl)) (by kernel_rfl) openAct (hval 1 45 v1 rfl rfl) h1
  have zns := lns.2 (reach_of Try.prog hsz (j := 1) rfl rfl)
  have hx : RepL Try.prog u (outer W fun _ => False) [.int .u8 s, .csl 50 ns] [.int .u8 s, v1] := (RepL.cons Try.prog u x0 x1)
  have hu : actsOk ns ∧ 0 ≤ s ∧ s < 256 := ⟨⟨(show ns.length < 9223372036854775808 by have hml : maxLen = 9223372036854775807 := rfl; have := lns.1; omega), uns⟩, u8_wf ws⟩
  refine (said Try.prog u okLScr (c := some (actsOk ns ∧ 0 ≤ s ∧ s < 256)) rfl hu hx).mono fun e W' ⟨he, bel⟩ => ?_
  subst he
  exact ⟨_, rfl, _, _, _, [], _, [], hW', trodAll_mk1 (shut_bool Try.underlying4 _), (trodAll_cons_mk (stays laid (by kernel_rfl) (of_decide_eq_true (by kernel_rfl)) h0 bel) (trodAll_cons_mk (stays laid (by kernel_rfl) (of_decide_eq_true (by kernel_rfl)) h1 bel) trodAll_mk0)), rfl, bel.frame _, fun h => by cases h⟩
theorem over : Rows.diskScriptRow.holds Try.pinned (OpenSpec.ofChange Rows.diskScriptSpec) :=
  OpenClaim.holds_of_wide 9 Try.f9 rfl rfl rfl rfl rfl rfl rfl ⟨rfl, rfl, rfl, rfl, rfl⟩ rfl rfl rfl rfl rfl (by kernel_rfl) Try.func9 (by kernel_rfl)
    (of_decide_eq_true (by kernel_rfl)) (by unfold Func.isWrapper; first | (rw [if_pos (by decide +kernel)]; kernel_rfl) | (rw [if_neg (by decide +kernel)]; exact ⟨rfl, rfl⟩))
    (fun os started H enc _ => lifted os started H enc)
theorem proved : Rows.DiskScriptSaid := over
#print axioms proved
end Go.Proofs.Ytmfpgddnapmgfaa.diskScript
namespace Go.Proofs.Ytmfpgddnapmgfaa
/-- The row, under a short name, for the claim. -/
theorem diskScript_holds : Rows.DiskScriptSaid := diskScript.proved
end Go.Proofs.Ytmfpgddnapmgfaa
