/- A choice that may be, but one of it, is told of that one: the law ConfigOne returns true and leaves its arguments as they were. -/
import Derived.Test.YtfnofdgippdlaaaRows
import Derived.Test.YtfnofdgippdlaaaCoWalk
import Derived.Test.YtfnofdgippdlaaaSxR
import Derived.WalkKit
import Derived.ProofKit
import Derived.OpenShut
import Derived.ShutString
import Derived.ChangeOld
import Derived.Below
import Derived.SizedLaws
namespace Go.Proofs.Ytfnofdgippdlaaa.configOne
open Go.ChangeShapes Go.WideShapes Go.ChangeAt Go.RowKit Go.Proofs.Ytfnofdgippdlaaa.Sx Go.Proofs.Ytfnofdgippdlaaa.Co
open Go.ChangeMaps (open_string shut_string)
set_option linter.unusedVariables false
theorem own : ownKnob Try.prog.godebug = none := by kernel_rfl
theorem laid : laidOutB Try.prog = true := by kernel_rfl
set_option maxRecDepth 100000 in
theorem lifted (os : Os) (started : os.Started) (H : Type) (enc : TypeId × Value → H) :
    ReturnsInHanded {} Try.checked os 11 .any (Rows.configOneSpec.pre6 enc Try.prog Try.f11 Rows.configOneRow.domain false) (Rows.configOneSpec.post enc Try.prog Try.f11 false true false false) := by
  refine returnsInHanded_of_change_sized (C := Try.checked) own started (by kernel_rfl) Try.func11
    (ChangeSpec.witness6 (enc := enc) (C := Try.checked) false ⟨#[], #[.agg #[.int .u8 0, .int .u8 0, .int .u8 0, .int .u8 0, .int .u8 0, .int .u8 0, .int .u8 0, .int .u8 0, .int .u8 0], .int .u8 0, .int .i64 0], []⟩ 11 (by kernel_rfl) (by kernel_rfl) (by kernel_rfl) (by kernel_rfl)) ?_
  intro W base args ds gs before hval0 hW hcnd hsz0 _
  have hval : ∀ (j : Nat) t v, Try.f11.params[j]? = some t → args[j]? = some v → Value.okWide Try.prog W .any base t v := hval0
  have hW' := hW
  obtain ⟨p, q, hA0, hV, rfl, hfz, hnd⟩ := hW
  have hA : DataW.TrodAll enc Try.prog W 0 (fun _ => true) true Try.f11.params.toList args.toList ds p := hA0
  have hsz : (DataW.weightsEach Try.prog (Try.f11.params.toList ++ Rows.configOneSpec.plain.varTypes Try.prog) (ds ++ gs)).all (· ≤ reachBytes) = true := hsz0
  rw [Try.params11] at hA hval hsz
  obtain ⟨v0, vs0, d0, ds0, p0, q0, hargs, rfl, rfl, h0, r0⟩ := trodAll_cons hA
  obtain ⟨v1, vs1, d1, ds1, p1, q1, rfl, rfl, rfl, h1, r1⟩ := trodAll_cons r0
  obtain ⟨v2, vs2, d2, ds2, p2, q2, rfl, rfl, rfl, h2, r2⟩ := trodAll_cons r1
  obtain ⟨rfl, rfl, rfl⟩ := trodAll_nil r2
  obtain rfl : args = #[v0, v1, v2] := by cases args; simp_all
  obtain ⟨rfl, rfl⟩ := trodVars_none hV
  obtain ⟨cs0, rfl, l0⟩ := open_cells (L := [.int .u8, .int .u8, .int .u8, .int .u8, .int .u8, .int .u8, .int .u8, .int .u8, .int .u8]) Try.underlying34 (by kernel_rfl) (hval 0 34 v0 rfl rfl) h0
  obtain ⟨p0, _, rfl, wp0, l0s1⟩ := l0.int
  obtain ⟨p1, _, rfl, wp1, l0s2⟩ := l0s1.int
  obtain ⟨p2, _, rfl, wp2, l0s3⟩ := l0s2.int
  obtain ⟨p3, _, rfl, wp3, l0s4⟩ := l0s3.int
  obtain ⟨p4, _, rfl, wp4, l0s5⟩ := l0s4.int
  obtain ⟨p5, _, rfl, wp5, l0s6⟩ := l0s5.int
  obtain ⟨p6, _, rfl, wp6, l0s7⟩ := l0s6.int
  obtain ⟨p7, _, rfl, wp7, l0s8⟩ := l0s7.int
  obtain ⟨p8, _, rfl, wp8, l0s9⟩ := l0s8.int
  obtain rfl := l0s9.done
  have x0 : RepL Try.prog u (outer W fun _ => False) [.agg [.int .u8 p0, .int .u8 p1, .int .u8 p2, .int .u8 p3, .int .u8 p4, .int .u8 p5, .int .u8 p6, .int .u8 p7, .int .u8 p8]] [.agg ⟨[.int .u8 p0, .int .u8 p1, .int .u8 p2, .int .u8 p3, .int .u8 p4, .int .u8 p5, .int .u8 p6, .int .u8 p7, .int .u8 p8]⟩] := .agg _ _ (.int _ p0 (.int _ p1 (.int _ p2 (.int _ p3 (.int _ p4 (.int _ p5 (.int _ p6 (.int _ p7 (.int _ p8 .nil))))))))) .nil
  obtain ⟨a, rfl, _, _, wa⟩ := open_int Try.underlying5 (hval 1 5 v1 rfl rfl) h1
  have x1 : RepL Try.prog u (outer W fun _ => False) [.int .u8 a] [.int .u8 a] := .int _ a .nil
  obtain ⟨n, rfl, _, _, wn⟩ := open_int Try.underlying3 (hval 2 3 v2 rfl rfl) h2
  have x2 : RepL Try.prog u (outer W fun _ => False) [.int .i64 n] [.int .i64 n] := .int _ n .nil
  have hx : RepL Try.prog u (outer W fun _ => False) [.agg [.int .u8 p0, .int .u8 p1, .int .u8 p2, .int .u8 p3, .int .u8 p4, .int .u8 p5, .int .u8 p6, .int .u8 p7, .int .u8 p8], .int .u8 a, .int .i64 n] [.agg ⟨[.int .u8 p0, .int .u8 p1, .int .u8 p2, .int .u8 p3, .int .u8 p4, .int .u8 p5, .int .u8 p6, .int .u8 p7, .int .u8 p8]⟩, .int .u8 a, .int .i64 n] := (RepL.cons Try.prog u x0 (RepL.cons Try.prog u x1 x2))
  have hu : u8c ⟨p0, p1, p2, p3, p4, p5, p6, p7, p8⟩ ∧ 0 ≤ a ∧ a < 256 := ⟨⟨u8_wf wp0, u8_wf wp1, u8_wf wp2, u8_wf wp3, u8_wf wp4, u8_wf wp5, u8_wf wp6, u8_wf wp7, u8_wf wp8⟩, u8_wf wa⟩
  refine (said Try.prog u okLOne (c := some (u8c ⟨p0, p1, p2, p3, p4, p5, p6, p7, p8⟩ ∧ 0 ≤ a ∧ a < 256)) rfl hu hx).mono fun e W' ⟨he, bel⟩ => ?_
  subst he
  exact ⟨_, rfl, _, _, _, [], _, [], hW', trodAll_mk1 (shut_bool Try.underlying4 _), (trodAll_cons_mk (stays laid (by kernel_rfl) (of_decide_eq_true (by kernel_rfl)) h0 bel) (trodAll_cons_mk (stays laid (by kernel_rfl) (of_decide_eq_true (by kernel_rfl)) h1 bel) (trodAll_cons_mk (stays laid (by kernel_rfl) (of_decide_eq_true (by kernel_rfl)) h2 bel) trodAll_mk0))), rfl, bel.frame _, fun h => by cases h⟩
theorem over : Rows.configOneRow.holds Try.pinned (OpenSpec.ofChange Rows.configOneSpec) :=
  OpenClaim.holds_of_wide 11 Try.f11 rfl rfl rfl rfl rfl rfl rfl ⟨rfl, rfl, rfl, rfl, rfl⟩ rfl rfl rfl rfl rfl (by kernel_rfl) Try.func11 (by kernel_rfl)
    (of_decide_eq_true (by kernel_rfl)) (by unfold Func.isWrapper; first | (rw [if_pos (by decide +kernel)]; kernel_rfl) | (rw [if_neg (by decide +kernel)]; exact ⟨rfl, rfl⟩))
    (fun os started H enc _ => lifted os started H enc)
theorem proved : Rows.ConfigOneSaid := over
#print axioms proved
end Go.Proofs.Ytfnofdgippdlaaa.configOne
namespace Go.Proofs.Ytfnofdgippdlaaa
/-- The row, under a short name, for the claim. -/
theorem configOne_holds : Rows.ConfigOneSaid := configOne.proved
end Go.Proofs.Ytfnofdgippdlaaa
