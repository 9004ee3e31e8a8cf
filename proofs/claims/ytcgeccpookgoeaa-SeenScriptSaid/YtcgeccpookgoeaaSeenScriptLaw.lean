/- Which sightings are kept is what the document says, deed by deed: the law SeenScript returns true and leaves its arguments as they were. -/
import Derived.Test.YtcgeccpookgoeaaRows
import Derived.Test.YtcgeccpookgoeaaSeenWalkD
import Derived.Test.YtcgeccpookgoeaaSeenOpenB
import Derived.Test.YtcgeccpookgoeaaSxR
import Derived.WalkKit
import Derived.ProofKit
import Derived.OpenShut
import Derived.ShutString
import Derived.ChangeOld
import Derived.Below
import Derived.SizedLaws
namespace Go.Proofs.Ytcgeccpookgoeaa.seenScript
open Go.ChangeShapes Go.WideShapes Go.ChangeAt Go.RowKit Go.Proofs.Ytcgeccpookgoeaa.Sx Go.Proofs.Ytcgeccpookgoeaa.Seen
open Go.ChangeMaps (open_string shut_string)
set_option linter.unusedVariables false
theorem own : ownKnob Try.prog.godebug = none := by kernel_rfl
theorem laid : laidOutB Try.prog = true := by kernel_rfl
set_option maxRecDepth 100000 in
theorem lifted (os : Os) (started : os.Started) (H : Type) (enc : TypeId × Value → H) :
    ReturnsInHanded {} Try.checked os 3 .any (Rows.seenScriptSpec.pre6 enc Try.prog Try.f3 Rows.seenScriptRow.domain false) (Rows.seenScriptSpec.post enc Try.prog Try.f3 false true false false) := by
  refine returnsInHanded_of_change_sized (C := Try.checked) own started (by kernel_rfl) Try.func3
    (ChangeSpec.witness6 (enc := enc) (C := Try.checked) false ⟨#[], #[.slice none 0 0, .slice none 0 0], []⟩ 3 (by kernel_rfl) (by kernel_rfl) (by kernel_rfl) (by kernel_rfl)) ?_
  intro W base args ds gs before hval0 hW hcnd hsz0 _
  have hval : ∀ (j : Nat) t v, Try.f3.params[j]? = some t → args[j]? = some v → Value.okWide Try.prog W .any base t v := hval0
  have hW' := hW
  obtain ⟨p, q, hA0, hV, rfl, hfz, hnd⟩ := hW
  have hA : DataW.TrodAll enc Try.prog W 0 (fun _ => true) true Try.f3.params.toList args.toList ds p := hA0
  have hsz : (DataW.weightsEach Try.prog (Try.f3.params.toList ++ Rows.seenScriptSpec.plain.varTypes Try.prog) (ds ++ gs)).all (· ≤ reachBytes) = true := hsz0
  rw [Try.params3] at hA hval hsz
  obtain ⟨v0, vs0, d0, ds0, p0, q0, hargs, rfl, rfl, h0, r0⟩ := trodAll_cons hA
  obtain ⟨v1, vs1, d1, ds1, p1, q1, rfl, rfl, rfl, h1, r1⟩ := trodAll_cons r0
  obtain ⟨rfl, rfl, rfl⟩ := trodAll_nil r1
  obtain rfl : args = #[v0, v1] := by cases args; simp_all
  obtain ⟨rfl, rfl⟩ := trodVars_none hV
  obtain ⟨ns, uns, lns, x0⟩ := open_rows Try.prog u (T := 28) Try.underlying22 (of_decide_eq_true (by kernel_rfl)) (by kernel_rfl) openAct3 (hval 0 22 v0 rfl rfl) h0
  have zns := lns.2 (reach_of Try.prog hsz (j := 0) rfl rfl)
  obtain ⟨os, uos, los, x1⟩ := open_rows Try.prog u (T := 37) Try.underlying23 (of_decide_eq_true (by kernel_rfl)) (by kernel_rfl) openI8 (hval 1 23 v1 rfl rfl) h1
  have zos := los.2 (reach_of Try.prog hsz (j := 1) rfl rfl)
  have hx : RepL Try.prog u (outer W fun _ => False) [.csl 28 ns, .csl 37 os] [v0, v1] := (RepL.cons Try.prog u x0 x1)
  have hu : acts3Ok ns os := ⟨⟨⟨(show ns.length < 9223372036854775808 by have hml : maxLen = 9223372036854775807 := rfl; have := lns.1; omega), fun x hx => (uns x hx).1⟩, fun x hx => (uns x hx).2⟩, (show os.length < 9223372036854775808 by have hml : maxLen = 9223372036854775807 := rfl; have := los.1; omega), uos⟩
  refine (said Try.prog u okLScript (c := some (acts3Ok ns os)) rfl hu hx).mono fun e W' ⟨he, bel⟩ => ?_
  subst he
  exact ⟨_, rfl, _, _, _, [], _, [], hW', trodAll_mk1 (shut_bool Try.underlying4 _), (trodAll_cons_mk (stays laid (by kernel_rfl) (of_decide_eq_true (by kernel_rfl)) h0 bel) (trodAll_cons_mk (stays laid (by kernel_rfl) (of_decide_eq_true (by kernel_rfl)) h1 bel) trodAll_mk0)), rfl, bel.frame _, fun h => by cases h⟩
theorem over : Rows.seenScriptRow.holds Try.pinned (OpenSpec.ofChange Rows.seenScriptSpec) :=
  OpenClaim.holds_of_wide 3 Try.f3 rfl rfl rfl rfl rfl rfl rfl ⟨rfl, rfl, rfl, rfl, rfl⟩ rfl rfl rfl rfl rfl (by kernel_rfl) Try.func3 (by kernel_rfl)
    (of_decide_eq_true (by kernel_rfl)) (by unfold Func.isWrapper; first | (rw [if_pos (by decide +kernel)]; kernel_rfl) | (rw [if_neg (by decide +kernel)]; exact ⟨rfl, rfl⟩))
    (fun os started H enc _ => lifted os started H enc)
theorem proved : Rows.SeenScriptSaid := over
#print axioms proved
end Go.Proofs.Ytcgeccpookgoeaa.seenScript
namespace Go.Proofs.Ytcgeccpookgoeaa
/-- The row, under a short name, for the claim. -/
theorem seenScript_holds : Rows.SeenScriptSaid := seenScript.proved
end Go.Proofs.Ytcgeccpookgoeaa
