/- Rows of sightings are right, if the document says so, of any, and of turned ones: the law SeenRight returns true and leaves its arguments as they were. -/
import Derived.Test.YtcgeccpookgoeaaRows
import Derived.Test.YtcgeccpookgoeaaSeenWalkR
import Derived.Test.YtcgeccpookgoeaaSeenOpenR
import Derived.Test.YtcgeccpookgoeaaSxR
import Derived.WalkKit
import Derived.ProofKit
import Derived.OpenShut
import Derived.ShutString
import Derived.ChangeOld
import Derived.Below
import Derived.SizedLaws
namespace Go.Proofs.Ytcgeccpookgoeaa.seenRight
open Go.ChangeShapes Go.WideShapes Go.ChangeAt Go.RowKit Go.Proofs.Ytcgeccpookgoeaa.Sx Go.Proofs.Ytcgeccpookgoeaa.Seen
open Go.ChangeMaps (open_string shut_string)
set_option linter.unusedVariables false
theorem own : ownKnob Try.prog.godebug = none := by kernel_rfl
theorem laid : laidOutB Try.prog = true := by kernel_rfl
set_option maxRecDepth 100000 in
theorem lifted (os : Os) (started : os.Started) (H : Type) (enc : TypeId × Value → H) :
    ReturnsInHanded {} Try.checked os 5 .any (Rows.seenRightSpec.pre6 enc Try.prog Try.f5 Rows.seenRightRow.domain false) (Rows.seenRightSpec.post enc Try.prog Try.f5 false true false false) := by
  refine returnsInHanded_of_change_sized (C := Try.checked) own started (by kernel_rfl) Try.func5
    (ChangeSpec.witness6 (enc := enc) (C := Try.checked) false ⟨#[], #[.slice none 0 0, .slice none 0 0, .int .u8 0, .agg #[.int .i64 0, .int .u8 0, .int .u8 0, .int .u8 0, .int .u8 0, .int .u8 0, .int .u8 0, .int .i64 0]], []⟩ 5 (by kernel_rfl) (by kernel_rfl) (by kernel_rfl) (by kernel_rfl)) ?_
  intro W base args ds gs before hval0 hW hcnd hsz0 _
  have hval : ∀ (j : Nat) t v, Try.f5.params[j]? = some t → args[j]? = some v → Value.okWide Try.prog W .any base t v := hval0
  have hW' := hW
  obtain ⟨p, q, hA0, hV, rfl, hfz, hnd⟩ := hW
  have hA : DataW.TrodAll enc Try.prog W 0 (fun _ => true) true Try.f5.params.toList args.toList ds p := hA0
  have hsz : (DataW.weightsEach Try.prog (Try.f5.params.toList ++ Rows.seenRightSpec.plain.varTypes Try.prog) (ds ++ gs)).all (· ≤ reachBytes) = true := hsz0
  rw [Try.params5] at hA hval hsz
  obtain ⟨v0, vs0, d0, ds0, p0, q0, hargs, rfl, rfl, h0, r0⟩ := trodAll_cons hA
  obtain ⟨v1, vs1, d1, ds1, p1, q1, rfl, rfl, rfl, h1, r1⟩ := trodAll_cons r0
  obtain ⟨v2, vs2, d2, ds2, p2, q2, rfl, rfl, rfl, h2, r2⟩ := trodAll_cons r1
  obtain ⟨v3, vs3, d3, ds3, p3, q3, rfl, rfl, rfl, h3, r3⟩ := trodAll_cons r2
  obtain ⟨rfl, rfl, rfl⟩ := trodAll_nil r3
  obtain rfl : args = #[v0, v1, v2, v3] := by cases args; simp_all
  obtain ⟨rfl, rfl⟩ := trodVars_none hV
  obtain ⟨ks, uks, lks, x0⟩ := open_rows Try.prog u (T := 53) Try.underlying25 (of_decide_eq_true (by kernel_rfl)) (by kernel_rfl) openKnown (hval 0 25 v0 rfl rfl) h0
  have zks := lks.2 (reach_of Try.prog hsz (j := 0) rfl rfl)
  obtain ⟨ns, uns, lns, x1⟩ := open_rows Try.prog u (T := 28) Try.underlying22 (of_decide_eq_true (by kernel_rfl)) (by kernel_rfl) openAct (hval 1 22 v1 rfl rfl) h1
  have zns := lns.2 (reach_of Try.prog hsz (j := 1) rfl rfl)
  obtain ⟨z, rfl, _, _, wz⟩ := open_int Try.underlying5 (hval 2 5 v2 rfl rfl) h2
  have x2 : RepL Try.prog u (outer W fun _ => False) [.int .u8 z] [.int .u8 z] := .int _ z .nil
  obtain ⟨cs3, rfl, l3⟩ := open_cells (L := [.int .i64, .int .u8, .int .u8, .int .u8, .int .u8, .int .u8, .int .u8, .int .i64]) Try.underlying35 (by kernel_rfl) (hval 3 35 v3 rfl rfl) h3
  obtain ⟨o0, _, rfl, wo0, l3s1⟩ := l3.int
  obtain ⟨o1, _, rfl, wo1, l3s2⟩ := l3s1.int
  obtain ⟨o2, _, rfl, wo2, l3s3⟩ := l3s2.int
  obtain ⟨o3, _, rfl, wo3, l3s4⟩ := l3s3.int
  obtain ⟨o4, _, rfl, wo4, l3s5⟩ := l3s4.int
  obtain ⟨o5, _, rfl, wo5, l3s6⟩ := l3s5.int
  obtain ⟨o6, _, rfl, wo6, l3s7⟩ := l3s6.int
  obtain ⟨o7, _, rfl, wo7, l3s8⟩ := l3s7.int
  obtain rfl := l3s8.done
  have x3 : RepL Try.prog u (outer W fun _ => False) [.agg [.int .i64 o0, .int .u8 o1, .int .u8 o2, .int .u8 o3, .int .u8 o4, .int .u8 o5, .int .u8 o6, .int .i64 o7]] [.agg ⟨[.int .i64 o0, .int .u8 o1, .int .u8 o2, .int .u8 o3, .int .u8 o4, .int .u8 o5, .int .u8 o6, .int .i64 o7]⟩] := .agg _ _ (.int _ o0 (.int _ o1 (.int _ o2 (.int _ o3 (.int _ o4 (.int _ o5 (.int _ o6 (.int _ o7 .nil)))))))) .nil
  have hx : RepL Try.prog u (outer W fun _ => False) [.csl 53 ks, .csl 28 ns, .int .u8 z, .agg [.int .i64 o0, .int .u8 o1, .int .u8 o2, .int .u8 o3, .int .u8 o4, .int .u8 o5, .int .u8 o6, .int .i64 o7]] [v0, v1, .int .u8 z, .agg ⟨[.int .i64 o0, .int .u8 o1, .int .u8 o2, .int .u8 o3, .int .u8 o4, .int .u8 o5, .int .u8 o6, .int .i64 o7]⟩] := (RepL.cons Try.prog u x0 (RepL.cons Try.prog u x1 (RepL.cons Try.prog u x2 x3)))
  have hu : rightOk ks ns z := ⟨⟨(show ks.length < 9223372036854775808 by have hml : maxLen = 9223372036854775807 := rfl; have := lks.1; omega), uks⟩, ⟨(show ns.length < 9223372036854775808 by have hml : maxLen = 9223372036854775807 := rfl; have := lns.1; omega), uns⟩, u8_wf wz⟩
  refine (said Try.prog u okLRight (c := some (rightOk ks ns z)) rfl hu hx).mono fun e W' ⟨he, bel⟩ => ?_
  subst he
  exact ⟨_, rfl, _, _, _, [], _, [], hW', trodAll_mk1 (shut_bool Try.underlying4 _), (trodAll_cons_mk (stays laid (by kernel_rfl) (of_decide_eq_true (by kernel_rfl)) h0 bel) (trodAll_cons_mk (stays laid (by kernel_rfl) (of_decide_eq_true (by kernel_rfl)) h1 bel) (trodAll_cons_mk (stays laid (by kernel_rfl) (of_decide_eq_true (by kernel_rfl)) h2 bel) (trodAll_cons_mk (stays laid (by kernel_rfl) (of_decide_eq_true (by kernel_rfl)) h3 bel) trodAll_mk0)))), rfl, bel.frame _, fun h => by cases h⟩
theorem over : Rows.seenRightRow.holds Try.pinned (OpenSpec.ofChange Rows.seenRightSpec) :=
  OpenClaim.holds_of_wide 5 Try.f5 rfl rfl rfl rfl rfl rfl rfl ⟨rfl, rfl, rfl, rfl, rfl⟩ rfl rfl rfl rfl rfl (by kernel_rfl) Try.func5 (by kernel_rfl)
    (of_decide_eq_true (by kernel_rfl)) (by unfold Func.isWrapper; first | (rw [if_pos (by decide +kernel)]; kernel_rfl) | (rw [if_neg (by decide +kernel)]; exact ⟨rfl, rfl⟩))
    (fun os started H enc _ => lifted os started H enc)
theorem proved : Rows.SeenRightSaid := over
#print axioms proved
end Go.Proofs.Ytcgeccpookgoeaa.seenRight
namespace Go.Proofs.Ytcgeccpookgoeaa
/-- The row, under a short name, for the claim. -/
theorem seenRight_holds : Rows.SeenRightSaid := seenRight.proved
end Go.Proofs.Ytcgeccpookgoeaa
