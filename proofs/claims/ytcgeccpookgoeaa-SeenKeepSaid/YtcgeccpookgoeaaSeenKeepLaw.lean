/- The last eight sightings are kept: the law SeenKeep returns true and leaves its arguments as they were. -/
import Derived.Test.YtcgeccpookgoeaaRows
import Derived.Test.YtcgeccpookgoeaaSeenWalkC
import Derived.Test.YtcgeccpookgoeaaSeenOpen
import Derived.Test.YtcgeccpookgoeaaSxR
import Derived.WalkKit
import Derived.ProofKit
import Derived.OpenShut
import Derived.ShutString
import Derived.ChangeOld
import Derived.Below
import Derived.SizedLaws
namespace Go.Proofs.Ytcgeccpookgoeaa.seenKeep
open Go.ChangeShapes Go.WideShapes Go.ChangeAt Go.RowKit Go.Proofs.Ytcgeccpookgoeaa.Sx Go.Proofs.Ytcgeccpookgoeaa.Seen
open Go.ChangeMaps (open_string shut_string)
set_option linter.unusedVariables false
theorem own : ownKnob Try.prog.godebug = none := by kernel_rfl
theorem laid : laidOutB Try.prog = true := by kernel_rfl
set_option maxRecDepth 100000 in
theorem lifted (os : Os) (started : os.Started) (H : Type) (enc : TypeId × Value → H) :
    ReturnsInHanded {} Try.checked os 4 .any (Rows.seenKeepSpec.pre6 enc Try.prog Try.f4 Rows.seenKeepRow.domain false) (Rows.seenKeepSpec.post enc Try.prog Try.f4 false true false false) := by
  refine returnsInHanded_of_change_sized (C := Try.checked) own started (by kernel_rfl) Try.func4
    (ChangeSpec.witness6 (enc := enc) (C := Try.checked) false ⟨#[], #[.slice none 0 0, .agg #[.int .i64 0, .int .u8 0, .int .u8 0, .int .u8 0, .int .u8 0, .int .u8 0, .int .u8 0, .int .i64 0]], []⟩ 4 (by kernel_rfl) (by kernel_rfl) (by kernel_rfl) (by kernel_rfl)) ?_
  intro W base args ds gs before hval0 hW hcnd hsz0 _
  have hval : ∀ (j : Nat) t v, Try.f4.params[j]? = some t → args[j]? = some v → Value.okWide Try.prog W .any base t v := hval0
  have hW' := hW
  obtain ⟨p, q, hA0, hV, rfl, hfz, hnd⟩ := hW
  have hA : DataW.TrodAll enc Try.prog W 0 (fun _ => true) true Try.f4.params.toList args.toList ds p := hA0
  have hsz : (DataW.weightsEach Try.prog (Try.f4.params.toList ++ Rows.seenKeepSpec.plain.varTypes Try.prog) (ds ++ gs)).all (· ≤ reachBytes) = true := hsz0
  rw [Try.params4] at hA hval hsz
  obtain ⟨v0, vs0, d0, ds0, p0, q0, hargs, rfl, rfl, h0, r0⟩ := trodAll_cons hA
  obtain ⟨v1, vs1, d1, ds1, p1, q1, rfl, rfl, rfl, h1, r1⟩ := trodAll_cons r0
  obtain ⟨rfl, rfl, rfl⟩ := trodAll_nil r1
  obtain rfl : args = #[v0, v1] := by cases args; simp_all
  obtain ⟨rfl, rfl⟩ := trodVars_none hV
  obtain ⟨ns, uns, lns, x0⟩ := open_rows Try.prog u (T := 35) Try.underlying39 (of_decide_eq_true (by kernel_rfl)) (by kernel_rfl) openSight (hval 0 39 v0 rfl rfl) h0
  have zns := lns.2 (reach_of Try.prog hsz (j := 0) rfl rfl)
  obtain ⟨cs1, rfl, l1⟩ := open_cells (L := [.int .i64, .int .u8, .int .u8, .int .u8, .int .u8, .int .u8, .int .u8, .int .i64]) Try.underlying35 (by kernel_rfl) (hval 1 35 v1 rfl rfl) h1
  obtain ⟨o0, _, rfl, wo0, l1s1⟩ := l1.int
  obtain ⟨o1, _, rfl, wo1, l1s2⟩ := l1s1.int
  obtain ⟨o2, _, rfl, wo2, l1s3⟩ := l1s2.int
  obtain ⟨o3, _, rfl, wo3, l1s4⟩ := l1s3.int
  obtain ⟨o4, _, rfl, wo4, l1s5⟩ := l1s4.int
  obtain ⟨o5, _, rfl, wo5, l1s6⟩ := l1s5.int
  obtain ⟨o6, _, rfl, wo6, l1s7⟩ := l1s6.int
  obtain ⟨o7, _, rfl, wo7, l1s8⟩ := l1s7.int
  obtain rfl := l1s8.done
  have x1 : RepL Try.prog u (outer W fun _ => False) [.agg [.int .i64 o0, .int .u8 o1, .int .u8 o2, .int .u8 o3, .int .u8 o4, .int .u8 o5, .int .u8 o6, .int .i64 o7]] [.agg ⟨[.int .i64 o0, .int .u8 o1, .int .u8 o2, .int .u8 o3, .int .u8 o4, .int .u8 o5, .int .u8 o6, .int .i64 o7]⟩] := .agg _ _ (.int _ o0 (.int _ o1 (.int _ o2 (.int _ o3 (.int _ o4 (.int _ o5 (.int _ o6 (.int _ o7 .nil)))))))) .nil
  have hx : RepL Try.prog u (outer W fun _ => False) [.csl 35 ns, .agg [.int .i64 o0, .int .u8 o1, .int .u8 o2, .int .u8 o3, .int .u8 o4, .int .u8 o5, .int .u8 o6, .int .i64 o7]] [v0, .agg ⟨[.int .i64 o0, .int .u8 o1, .int .u8 o2, .int .u8 o3, .int .u8 o4, .int .u8 o5, .int .u8 o6, .int .i64 o7]⟩] := (RepL.cons Try.prog u x0 x1)
  have hu : lenOk (α := Sight) ns := (show ns.length < 9223372036854775808 by have hml : maxLen = 9223372036854775807 := rfl; have := lns.1; omega)
  refine (said Try.prog u okLKeep (c := some (lenOk (α := Sight) ns)) rfl hu hx).mono fun e W' ⟨he, bel⟩ => ?_
  subst he
  exact ⟨_, rfl, _, _, _, [], _, [], hW', trodAll_mk1 (shut_bool Try.underlying4 _), (trodAll_cons_mk (stays laid (by kernel_rfl) (of_decide_eq_true (by kernel_rfl)) h0 bel) (trodAll_cons_mk (stays laid (by kernel_rfl) (of_decide_eq_true (by kernel_rfl)) h1 bel) trodAll_mk0)), rfl, bel.frame _, fun h => by cases h⟩
theorem over : Rows.seenKeepRow.holds Try.pinned (OpenSpec.ofChange Rows.seenKeepSpec) :=
  OpenClaim.holds_of_wide 4 Try.f4 rfl rfl rfl rfl rfl rfl rfl ⟨rfl, rfl, rfl, rfl, rfl⟩ rfl rfl rfl rfl rfl (by kernel_rfl) Try.func4 (by kernel_rfl)
    (of_decide_eq_true (by kernel_rfl)) (by unfold Func.isWrapper; first | (rw [if_pos (by decide +kernel)]; kernel_rfl) | (rw [if_neg (by decide +kernel)]; exact ⟨rfl, rfl⟩))
    (fun os started H enc _ => lifted os started H enc)
theorem proved : Rows.SeenKeepSaid := over
#print axioms proved
end Go.Proofs.Ytcgeccpookgoeaa.seenKeep
namespace Go.Proofs.Ytcgeccpookgoeaa
/-- The row, under a short name, for the claim. -/
theorem seenKeep_holds : Rows.SeenKeepSaid := seenKeep.proved
end Go.Proofs.Ytcgeccpookgoeaa
