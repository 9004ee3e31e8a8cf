/- Rows are right, if the document says so: the law CasesRight returns true and leaves its arguments as they were. -/
import Derived.Test.YtlamlmihojodfaaRows
import Derived.Test.YtlamlmihojodfaaCasWalkD
import Derived.Test.YtlamlmihojodfaaCasOpen
import Derived.Test.YtlamlmihojodfaaSxR
import Derived.WalkKit
import Derived.ProofKit
import Derived.OpenShut
import Derived.ShutString
import Derived.ChangeOld
import Derived.Below
import Derived.SizedLaws
namespace Go.Proofs.Ytlamlmihojodfaa.casesRight
open Go.ChangeShapes Go.WideShapes Go.ChangeAt Go.RowKit Go.Proofs.Ytlamlmihojodfaa.Sx Go.Proofs.Ytlamlmihojodfaa.Cas
open Go.ChangeMaps (open_string shut_string)
set_option linter.unusedVariables false
theorem own : ownKnob Try.prog.godebug = none := by kernel_rfl
theorem laid : laidOutB Try.prog = true := by kernel_rfl
set_option maxRecDepth 100000 in
theorem lifted (os : Os) (started : os.Started) (H : Type) (enc : TypeId × Value → H) :
    ReturnsInHanded {} Try.checked os 6 .any (Rows.casesRightSpec.pre6 enc Try.prog Try.f6 Rows.casesRightRow.domain false) (Rows.casesRightSpec.post enc Try.prog Try.f6 false true false false) := by
  refine returnsInHanded_of_change_sized (C := Try.checked) own started (by kernel_rfl) Try.func6
    (ChangeSpec.witness6 (enc := enc) (C := Try.checked) false ⟨#[], #[.slice none 0 0, .agg #[.int .u8 0, .int .u8 0, .int .u8 0, .int .u8 0, .int .u8 0, .int .u8 0, .int .u8 0, .int .u8 0, .int .u8 0], .slice none 0 0, .int .u8 0, .agg #[.int .u32 0, .int .i64 0, .int .i64 0, .int .i64 0]], []⟩ 6 (by kernel_rfl) (by kernel_rfl) (by kernel_rfl) (by kernel_rfl)) ?_
  intro W base args ds gs before hval0 hW hcnd hsz0 _
  have hval : ∀ (j : Nat) t v, Try.f6.params[j]? = some t → args[j]? = some v → Value.okWide Try.prog W .any base t v := hval0
  have hW' := hW
  obtain ⟨p, q, hA0, hV, rfl, hfz, hnd⟩ := hW
  have hA : DataW.TrodAll enc Try.prog W 0 (fun _ => true) true Try.f6.params.toList args.toList ds p := hA0
  have hsz : (DataW.weightsEach Try.prog (Try.f6.params.toList ++ Rows.casesRightSpec.plain.varTypes Try.prog) (ds ++ gs)).all (· ≤ reachBytes) = true := hsz0
  rw [Try.params6] at hA hval hsz
  obtain ⟨v0, vs0, d0, ds0, p0, q0, hargs, rfl, rfl, h0, r0⟩ := trodAll_cons hA
  obtain ⟨v1, vs1, d1, ds1, p1, q1, rfl, rfl, rfl, h1, r1⟩ := trodAll_cons r0
  obtain ⟨v2, vs2, d2, ds2, p2, q2, rfl, rfl, rfl, h2, r2⟩ := trodAll_cons r1
  obtain ⟨v3, vs3, d3, ds3, p3, q3, rfl, rfl, rfl, h3, r3⟩ := trodAll_cons r2
  obtain ⟨v4, vs4, d4, ds4, p4, q4, rfl, rfl, rfl, h4, r4⟩ := trodAll_cons r3
  obtain ⟨rfl, rfl, rfl⟩ := trodAll_nil r4
  obtain rfl : args = #[v0, v1, v2, v3, v4] := by cases args; simp_all
  obtain ⟨rfl, rfl⟩ := trodVars_none hV
  obtain ⟨rs, urs, lrs, x0⟩ := open_rows Try.prog u (T := 30) Try.underlying22 (of_decide_eq_true (by kernel_rfl)) (by kernel_rfl) openCase (hval 0 22 v0 rfl rfl) h0
  have zrs := lrs.2 (reach_of Try.prog hsz (j := 0) rfl rfl)
  obtain ⟨cs1, rfl, l1⟩ := open_cells (L := [.int .u8, .int .u8, .int .u8, .int .u8, .int .u8, .int .u8, .int .u8, .int .u8, .int .u8]) Try.underlying35 (by kernel_rfl) (hval 1 35 v1 rfl rfl) h1
  obtain ⟨p0, _, rfl, wp0, l1s1⟩ := l1.int
  obtain ⟨p1, _, rfl, wp1, l1s2⟩ := l1s1.int
  obtain ⟨p2, _, rfl, wp2, l1s3⟩ := l1s2.int
  obtain ⟨p3, _, rfl, wp3, l1s4⟩ := l1s3.int
  obtain ⟨p4, _, rfl, wp4, l1s5⟩ := l1s4.int
  obtain ⟨p5, _, rfl, wp5, l1s6⟩ := l1s5.int
  obtain ⟨p6, _, rfl, wp6, l1s7⟩ := l1s6.int
  obtain ⟨p7, _, rfl, wp7, l1s8⟩ := l1s7.int
  obtain ⟨p8, _, rfl, wp8, l1s9⟩ := l1s8.int
  obtain rfl := l1s9.done
  have x1 : RepL Try.prog u (outer W fun _ => False) [.agg [.int .u8 p0, .int .u8 p1, .int .u8 p2, .int .u8 p3, .int .u8 p4, .int .u8 p5, .int .u8 p6, .int .u8 p7, .int .u8 p8]] [.agg ⟨[.int .u8 p0, .int .u8 p1, .int .u8 p2, .int .u8 p3, .int .u8 p4, .int .u8 p5, .int .u8 p6, .int .u8 p7, .int .u8 p8]⟩] := .agg _ _ (.int _ p0 (.int _ p1 (.int _ p2 (.int _ p3 (.int _ p4 (.int _ p5 (.int _ p6 (.int _ p7 (.int _ p8 .nil))))))))) .nil
  obtain ⟨ns, uns, lns, x2⟩ := open_rows Try.prog u (T := 46) Try.underlying44 (of_decide_eq_true (by kernel_rfl)) (by kernel_rfl) openAct (hval 2 44 v2 rfl rfl) h2
  have zns := lns.2 (reach_of Try.prog hsz (j := 2) rfl rfl)
  obtain ⟨a, rfl, _, _, wa⟩ := open_int Try.underlying5 (hval 3 5 v3 rfl rfl) h3
  have x3 : RepL Try.prog u (outer W fun _ => False) [.int .u8 a] [.int .u8 a] := .int _ a .nil
  obtain ⟨cs4, rfl, l4⟩ := open_cells (L := [.int .u32, .int .i64, .int .i64, .int .i64]) Try.underlying30 (by kernel_rfl) (hval 4 30 v4 rfl rfl) h4
  obtain ⟨t0, _, rfl, wt0, l4s1⟩ := l4.int
  obtain ⟨t1, _, rfl, wt1, l4s2⟩ := l4s1.int
  obtain ⟨t2, _, rfl, wt2, l4s3⟩ := l4s2.int
  obtain ⟨t3, _, rfl, wt3, l4s4⟩ := l4s3.int
  obtain rfl := l4s4.done
  have x4 : RepL Try.prog u (outer W fun _ => False) [.agg [.int .u32 t0, .int .i64 t1, .int .i64 t2, .int .i64 t3]] [.agg ⟨[.int .u32 t0, .int .i64 t1, .int .i64 t2, .int .i64 t3]⟩] := .agg _ _ (.int _ t0 (.int _ t1 (.int _ t2 (.int _ t3 .nil)))) .nil
  have hx : RepL Try.prog u (outer W fun _ => False) [.csl 30 rs, .agg [.int .u8 p0, .int .u8 p1, .int .u8 p2, .int .u8 p3, .int .u8 p4, .int .u8 p5, .int .u8 p6, .int .u8 p7, .int .u8 p8], .csl 46 ns, .int .u8 a, .agg [.int .u32 t0, .int .i64 t1, .int .i64 t2, .int .i64 t3]] [v0, .agg ⟨[.int .u8 p0, .int .u8 p1, .int .u8 p2, .int .u8 p3, .int .u8 p4, .int .u8 p5, .int .u8 p6, .int .u8 p7, .int .u8 p8]⟩, v2, .int .u8 a, .agg ⟨[.int .u32 t0, .int .i64 t1, .int .i64 t2, .int .i64 t3]⟩] := (RepL.cons Try.prog u x0 (RepL.cons Try.prog u x1 (RepL.cons Try.prog u x2 (RepL.cons Try.prog u x3 x4))))
  have hu : lenOk (α := Cse) rs ∧ actsOk ns ∧ 0 ≤ a ∧ a < 256 := ⟨ml lrs.1, ⟨ml lns.1, uns⟩, u8_wf wa⟩
  refine (said Try.prog u okLRight (c := some (lenOk (α := Cse) rs ∧ actsOk ns ∧ 0 ≤ a ∧ a < 256)) rfl hu hx).mono fun e W' ⟨he, bel⟩ => ?_
  subst he
  exact ⟨_, rfl, _, _, _, [], _, [], hW', trodAll_mk1 (shut_bool Try.underlying4 _), (trodAll_cons_mk (stays laid (by kernel_rfl) (of_decide_eq_true (by kernel_rfl)) h0 bel) (trodAll_cons_mk (stays laid (by kernel_rfl) (of_decide_eq_true (by kernel_rfl)) h1 bel) (trodAll_cons_mk (stays laid (by kernel_rfl) (of_decide_eq_true (by kernel_rfl)) h2 bel) (trodAll_cons_mk (stays laid (by kernel_rfl) (of_decide_eq_true (by kernel_rfl)) h3 bel) (trodAll_cons_mk (stays laid (by kernel_rfl) (of_decide_eq_true (by kernel_rfl)) h4 bel) trodAll_mk0))))), rfl, bel.frame _, fun h => by cases h⟩
theorem over : Rows.casesRightRow.holds Try.pinned (OpenSpec.ofChange Rows.casesRightSpec) :=
  OpenClaim.holds_of_wide 6 Try.f6 rfl rfl rfl rfl rfl rfl rfl ⟨rfl, rfl, rfl, rfl, rfl⟩ rfl rfl rfl rfl rfl (by kernel_rfl) Try.func6 (by kernel_rfl)
    (of_decide_eq_true (by kernel_rfl)) (by unfold Func.isWrapper; first | (rw [if_pos (by decide +kernel)]; kernel_rfl) | (rw [if_neg (by decide +kernel)]; exact ⟨rfl, rfl⟩))
    (fun os started H enc _ => lifted os started H enc)
theorem proved : Rows.CasesRightSaid := over
#print axioms proved
end Go.Proofs.Ytlamlmihojodfaa.casesRight
namespace Go.Proofs.Ytlamlmihojodfaa
/-- The row, under a short name, for the claim. -/
theorem casesRight_holds : Rows.CasesRightSaid := casesRight.proved
end Go.Proofs.Ytlamlmihojodfaa
