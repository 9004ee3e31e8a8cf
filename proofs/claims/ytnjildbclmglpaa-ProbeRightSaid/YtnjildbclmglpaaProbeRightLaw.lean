/- Rows of questions are right, if the document says so: the law ProbeRight returns true and leaves its arguments as they were. -/
import Derived.Test.YtnjildbclmglpaaRows
import Derived.Test.YtnjildbclmglpaaProWalkE
import Derived.Test.YtnjildbclmglpaaProOpen
import Derived.Test.YtnjildbclmglpaaSxR
import Derived.WalkKit
import Derived.ProofKit
import Derived.OpenShut
import Derived.ShutString
import Derived.ChangeOld
import Derived.Below
import Derived.SizedLaws
namespace Go.Proofs.Ytnjildbclmglpaa.probeRight
open Go.ChangeShapes Go.WideShapes Go.ChangeAt Go.RowKit Go.Proofs.Ytnjildbclmglpaa.Sx Go.Proofs.Ytnjildbclmglpaa.Pro
open Go.ChangeMaps (open_string shut_string)
set_option linter.unusedVariables false
theorem own : ownKnob Try.prog.godebug = none := by kernel_rfl
theorem laid : laidOutB Try.prog = true := by kernel_rfl
set_option maxRecDepth 100000 in
theorem lifted (os : Os) (started : os.Started) (H : Type) (enc : TypeId × Value → H) :
    ReturnsInHanded {} Try.checked os 3 .any (Rows.probeRightSpec.pre6 enc Try.prog Try.f3 Rows.probeRightRow.domain false) (Rows.probeRightSpec.post enc Try.prog Try.f3 false true false false) := by
  refine returnsInHanded_of_change_sized (C := Try.checked) own started (by kernel_rfl) Try.func3
    (ChangeSpec.witness6 (enc := enc) (C := Try.checked) false ⟨#[], #[.slice none 0 0, .agg #[.int .u8 0, .int .u8 0, .int .u8 0, .int .u8 0, .int .u8 0, .int .u8 0, .int .u8 0, .int .u8 0, .int .u8 0], .slice none 0 0, .int .u8 0, .agg #[.int .u32 0, .int .i64 0, .int .i64 0, .int .i64 0, .int .i64 0]], []⟩ 3 (by kernel_rfl) (by kernel_rfl) (by kernel_rfl) (by kernel_rfl)) ?_
  intro W base args ds gs before hval0 hW hcnd hsz0 _
  have hval : ∀ (j : Nat) t v, Try.f3.params[j]? = some t → args[j]? = some v → Value.okWide Try.prog W .any base t v := hval0
  have hW' := hW
  obtain ⟨p, q, hA0, hV, rfl, hfz, hnd⟩ := hW
  have hA : DataW.TrodAll enc Try.prog W 0 (fun _ => true) true Try.f3.params.toList args.toList ds p := hA0
  have hsz : (DataW.weightsEach Try.prog (Try.f3.params.toList ++ Rows.probeRightSpec.plain.varTypes Try.prog) (ds ++ gs)).all (· ≤ reachBytes) = true := hsz0
  rw [Try.params3] at hA hval hsz
  obtain ⟨v0, vs0, d0, ds0, p0, q0, hargs, rfl, rfl, h0, r0⟩ := trodAll_cons hA
  obtain ⟨v1, vs1, d1, ds1, p1, q1, rfl, rfl, rfl, h1, r1⟩ := trodAll_cons r0
  obtain ⟨v2, vs2, d2, ds2, p2, q2, rfl, rfl, rfl, h2, r2⟩ := trodAll_cons r1
  obtain ⟨v3, vs3, d3, ds3, p3, q3, rfl, rfl, rfl, h3, r3⟩ := trodAll_cons r2
  obtain ⟨v4, vs4, d4, ds4, p4, q4, rfl, rfl, rfl, h4, r4⟩ := trodAll_cons r3
  obtain ⟨rfl, rfl, rfl⟩ := trodAll_nil r4
  obtain rfl : args = #[v0, v1, v2, v3, v4] := by cases args; simp_all
  obtain ⟨rfl, rfl⟩ := trodVars_none hV
  obtain ⟨rs, urs, lrs, x0⟩ := open_rows Try.prog u (T := 29) Try.underlying22 (of_decide_eq_true (by kernel_rfl)) (by kernel_rfl) openProbe (hval 0 22 v0 rfl rfl) h0
  have zrs := lrs.2 (reach_of Try.prog hsz (j := 0) rfl rfl)
  obtain ⟨cs1, rfl, l1⟩ := open_cells (L := [.int .u8, .int .u8, .int .u8, .int .u8, .int .u8, .int .u8, .int .u8, .int .u8, .int .u8]) Try.underlying24 (by kernel_rfl) (hval 1 24 v1 rfl rfl) h1
  obtain ⟨p0, _, rfl, wp0, l1s1⟩ := l1.int
  obtain ⟨p1, _, rfl, wp1, l1s2⟩ := l1s1.int
  obtain ⟨p2, _, rfl, wp2, l1s3⟩ := l1s2.int
  obtain ⟨p3, _, rfl, wp3, l1s4⟩ := l1s3.int
  obtain ⟨p4, _, rfl, wp4, l1s5⟩ := l1s4.int
  obtain ⟨p5, _, rfl, wp5, l1s6⟩ := l1s5.int
  obtain ⟨p6, _, rfl, wp6, l1s7⟩ := l1s6.int
  obtain ⟨p7, _, rfl, wp7, l1s8⟩ := l1s7.int
  obtain ⟨p8, _, rfl, wp8, l1s9⟩ := l1s8.int
  obtain rfl := l1s9.done
  have x1 : RepL Try.prog u (outer W fun _ => False) [.agg [.int .u8 p0, .int .u8 p1, .int .u8 p2, .int .u8 p3, .int .u8 p4, .int .u8 p5, .int .u8 p6, .int .u8 p7, .int .u8 p8]] [.agg ⟨[.int .u8 p0, .int .u8 p1, .int .u8 p2, .int .u8 p3, .int .u8 p4, .int .u8 p5, .int .u8 p6, .int .u8 p7, .int .u8 p8]⟩] := .agg _ _ (.int _ p0 (.int _ p1 (.int _ p2 (.int _ p3 (.int _ p4 (.int _ p5 (.int _ p6 (.int _ p7 (.int _ p8 .nil))))))))) .nil
  obtain ⟨ns, uns, lns, x2⟩ := open_rows Try.prog u (T := 51) Try.underlying25 (of_decide_eq_true (by kernel_rfl)) (by kernel_rfl) openAct (hval 2 25 v2 rfl rfl) h2
  have zns := lns.2 (reach_of Try.prog hsz (j := 2) rfl rfl)
  obtain ⟨z, rfl, _, _, wz⟩ := open_int Try.underlying5 (hval 3 5 v3 rfl rfl) h3
  have x3 : RepL Try.prog u (outer W fun _ => False) [.int .u8 z] [.int .u8 z] := .int _ z .nil
  obtain ⟨cs4, rfl, l4⟩ := open_cells (L := [.int .u32, .int .i64, .int .i64, .int .i64, .int .i64]) Try.underlying29 (by kernel_rfl) (hval 4 29 v4 rfl rfl) h4
  obtain ⟨o0, _, rfl, wo0, l4s1⟩ := l4.int
  obtain ⟨o1, _, rfl, wo1, l4s2⟩ := l4s1.int
  obtain ⟨o2, _, rfl, wo2, l4s3⟩ := l4s2.int
  obtain ⟨o3, _, rfl, wo3, l4s4⟩ := l4s3.int
  obtain ⟨o4, _, rfl, wo4, l4s5⟩ := l4s4.int
  obtain rfl := l4s5.done
  have x4 : RepL Try.prog u (outer W fun _ => False) [.agg [.int .u32 o0, .int .i64 o1, .int .i64 o2, .int .i64 o3, .int .i64 o4]] [.agg ⟨[.int .u32 o0, .int .i64 o1, .int .i64 o2, .int .i64 o3, .int .i64 o4]⟩] := .agg _ _ (.int _ o0 (.int _ o1 (.int _ o2 (.int _ o3 (.int _ o4 .nil))))) .nil
  have hx : RepL Try.prog u (outer W fun _ => False) [.csl 29 rs, .agg [.int .u8 p0, .int .u8 p1, .int .u8 p2, .int .u8 p3, .int .u8 p4, .int .u8 p5, .int .u8 p6, .int .u8 p7, .int .u8 p8], .csl 51 ns, .int .u8 z, .agg [.int .u32 o0, .int .i64 o1, .int .i64 o2, .int .i64 o3, .int .i64 o4]] [v0, .agg ⟨[.int .u8 p0, .int .u8 p1, .int .u8 p2, .int .u8 p3, .int .u8 p4, .int .u8 p5, .int .u8 p6, .int .u8 p7, .int .u8 p8]⟩, v2, .int .u8 z, .agg ⟨[.int .u32 o0, .int .i64 o1, .int .i64 o2, .int .i64 o3, .int .i64 o4]⟩] := (RepL.cons Try.prog u x0 (RepL.cons Try.prog u x1 (RepL.cons Try.prog u x2 (RepL.cons Try.prog u x3 x4))))
  have hu : rightOk rs ns p6 z ⟨o0, o1, o2, o3, o4⟩ := ⟨⟨(show rs.length < 9223372036854775808 by have hml : maxLen = 9223372036854775807 := rfl; have := lrs.1; omega), urs⟩, ⟨(show ns.length < 9223372036854775808 by have hml : maxLen = 9223372036854775807 := rfl; have := lns.1; omega), uns, (u8_wf wp6).1⟩, u8_wf wz, u32_wf wo0⟩
  refine (said Try.prog u okLRight (c := some (rightOk rs ns p6 z ⟨o0, o1, o2, o3, o4⟩)) rfl hu hx).mono fun e W' ⟨he, bel⟩ => ?_
  subst he
  exact ⟨_, rfl, _, _, _, [], _, [], hW', trodAll_mk1 (shut_bool Try.underlying4 _), (trodAll_cons_mk (stays laid (by kernel_rfl) (of_decide_eq_true (by kernel_rfl)) h0 bel) (trodAll_cons_mk (stays laid (by kernel_rfl) (of_decide_eq_true (by kernel_rfl)) h1 bel) (trodAll_cons_mk (stays laid (by kernel_rfl) (of_decide_eq_true (by kernel_rfl)) h2 bel) (trodAll_cons_mk (stays laid (by kernel_rfl) (of_decide_eq_true (by kernel_rfl)) h3 bel) (trodAll_cons_mk (stays laid (by kernel_rfl) (of_decide_eq_true (by kernel_rfl)) h4 bel) trodAll_mk0))))), rfl, bel.frame _, fun h => by cases h⟩
theorem over : Rows.probeRightRow.holds Try.pinned (OpenSpec.ofChange Rows.probeRightSpec) :=
  OpenClaim.holds_of_wide 3 Try.f3 rfl rfl rfl rfl rfl rfl rfl ⟨rfl, rfl, rfl, rfl, rfl⟩ rfl rfl rfl rfl rfl (by kernel_rfl) Try.func3 (by kernel_rfl)
    (of_decide_eq_true (by kernel_rfl)) (by unfold Func.isWrapper; first | (rw [if_pos (by decide +kernel)]; kernel_rfl) | (rw [if_neg (by decide +kernel)]; exact ⟨rfl, rfl⟩))
    (fun os started H enc _ => lifted os started H enc)
theorem proved : Rows.ProbeRightSaid := over
#print axioms proved
end Go.Proofs.Ytnjildbclmglpaa.probeRight
namespace Go.Proofs.Ytnjildbclmglpaa
/-- The row, under a short name, for the claim. -/
theorem probeRight_holds : Rows.ProbeRightSaid := probeRight.proved
end Go.Proofs.Ytnjildbclmglpaa
