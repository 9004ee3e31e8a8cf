/- What may not be first is told: for every choice the law ConfigRight returns true and leaves its arguments as they were. -/
import Derived.Test.YtfnofdgippdlaaaRows
import Derived.Test.YtfnofdgippdlaaaCfgRight
import Derived.Test.YtfnofdgippdlaaaSxR
import Derived.WalkKit
import Derived.ProofKit
import Derived.OpenShut
import Derived.ShutString
import Derived.ChangeOld
import Derived.Below
import Derived.SizedLaws
namespace Go.Proofs.Ytfnofdgippdlaaa.configRight
open Go.ChangeShapes Go.WideShapes Go.ChangeAt Go.RowKit Go.Proofs.Ytfnofdgippdlaaa.Sx Go.Proofs.Ytfnofdgippdlaaa.Cfg
open Go.ChangeMaps (open_string shut_string)
set_option linter.unusedVariables false
theorem own : ownKnob Try.prog.godebug = none := by kernel_rfl
theorem laid : laidOutB Try.prog = true := by kernel_rfl
set_option maxRecDepth 100000 in
theorem lifted (os : Os) (started : os.Started) (H : Type) (enc : TypeId × Value → H) :
    ReturnsInHanded {} Try.checked os 9 .any (Rows.configRightSpec.pre6 enc Try.prog Try.f9 Rows.configRightRow.domain false) (Rows.configRightSpec.post enc Try.prog Try.f9 false true false false) := by
  refine returnsInHanded_of_change_sized (C := Try.checked) own started (by kernel_rfl) Try.func9
    (ChangeSpec.witness6 (enc := enc) (C := Try.checked) false ⟨#[], #[.agg #[.int .i64 0, .int .i64 0, .int .i64 0, .int .i64 0, .int .i64 0, .int .i64 0, .int .i64 0, .int .i64 0, .int .i64 0], .agg #[.int .u8 0, .int .u8 0, .int .u8 0, .int .u8 0, .int .u8 0, .int .u8 0, .int .u8 0, .int .u8 0, .int .u8 0]], []⟩ 9 (by kernel_rfl) (by kernel_rfl) (by kernel_rfl) (by kernel_rfl)) ?_
  intro W base args ds gs before hval0 hW hcnd hsz0 _
  have hval : ∀ (j : Nat) t v, Try.f9.params[j]? = some t → args[j]? = some v → Value.okWide Try.prog W .any base t v := hval0
  have hW' := hW
  obtain ⟨p, q, hA0, hV, rfl, hfz, hnd⟩ := hW
  have hA : DataW.TrodAll enc Try.prog W 0 (fun _ => true) true Try.f9.params.toList args.toList ds p := hA0
  rw [Try.params9] at hA hval
  obtain ⟨v0, vs0, d0, ds0, p0, q0, hargs, rfl, rfl, h0, r0⟩ := trodAll_cons hA
  obtain ⟨v1, vs1, d1, ds1, p1, q1, rfl, rfl, rfl, h1, r1⟩ := trodAll_cons r0
  obtain ⟨rfl, rfl, rfl⟩ := trodAll_nil r1
  obtain rfl : args = #[v0, v1] := by cases args; simp_all
  obtain ⟨rfl, rfl⟩ := trodVars_none hV
  obtain ⟨cs0, rfl, l0⟩ := open_cells (L := [.int .i64, .int .i64, .int .i64, .int .i64, .int .i64, .int .i64, .int .i64, .int .i64, .int .i64]) Try.underlying32 (by kernel_rfl) (hval 0 32 v0 rfl rfl) h0
  obtain ⟨cs1, rfl, l1⟩ := open_cells (L := [.int .u8, .int .u8, .int .u8, .int .u8, .int .u8, .int .u8, .int .u8, .int .u8, .int .u8]) Try.underlying34 (by kernel_rfl) (hval 1 34 v1 rfl rfl) h1
  obtain ⟨a0, _, rfl, _, l0⟩ := l0.int
  obtain ⟨a1, _, rfl, _, l0⟩ := l0.int
  obtain ⟨a2, _, rfl, _, l0⟩ := l0.int
  obtain ⟨a3, _, rfl, _, l0⟩ := l0.int
  obtain ⟨a4, _, rfl, _, l0⟩ := l0.int
  obtain ⟨a5, _, rfl, _, l0⟩ := l0.int
  obtain ⟨a6, _, rfl, _, l0⟩ := l0.int
  obtain ⟨a7, _, rfl, _, l0⟩ := l0.int
  obtain ⟨a8, _, rfl, _, l0⟩ := l0.int
  obtain rfl := l0.done
  obtain ⟨b0, _, rfl, w0, l1⟩ := l1.int
  obtain ⟨b1, _, rfl, w1, l1⟩ := l1.int
  obtain ⟨b2, _, rfl, w2, l1⟩ := l1.int
  obtain ⟨b3, _, rfl, w3, l1⟩ := l1.int
  obtain ⟨b4, _, rfl, w4, l1⟩ := l1.int
  obtain ⟨b5, _, rfl, w5, l1⟩ := l1.int
  obtain ⟨b6, _, rfl, w6, l1⟩ := l1.int
  obtain ⟨b7, _, rfl, w7, l1⟩ := l1.int
  obtain ⟨b8, _, rfl, w8, l1⟩ := l1.int
  obtain rfl := l1.done
  have hx : RepL Try.prog u (outer W fun _ => False) [.agg (cfg a0 a1 a2 a3 a4 a5 a6 a7 a8), .agg (cho b0 b1 b2 b3 b4 b5 b6 b7 b8)] [.agg ⟨[.int .i64 a0, .int .i64 a1, .int .i64 a2, .int .i64 a3, .int .i64 a4, .int .i64 a5, .int .i64 a6, .int .i64 a7, .int .i64 a8]⟩, .agg ⟨[.int .u8 b0, .int .u8 b1, .int .u8 b2, .int .u8 b3, .int .u8 b4, .int .u8 b5, .int .u8 b6, .int .u8 b7, .int .u8 b8]⟩] := .agg _ _ (.int _ a0 (.int _ a1 (.int _ a2 (.int _ a3 (.int _ a4 (.int _ a5 (.int _ a6 (.int _ a7 (.int _ a8 .nil))))))))) (.agg _ _ (.int _ b0 (.int _ b1 (.int _ b2 (.int _ b3 (.int _ b4 (.int _ b5 (.int _ b6 (.int _ b7 (.int _ b8 .nil))))))))) .nil)
  have hu : u8s b0 b1 b2 b3 b4 b5 b6 b7 b8 := ⟨u8_wf w0, u8_wf w1, u8_wf w2, u8_wf w3, u8_wf w4, u8_wf w5, u8_wf w6, u8_wf w7, u8_wf w8⟩
  refine (said Try.prog u ok9 (c := some (u8s b0 b1 b2 b3 b4 b5 b6 b7 b8)) rfl hu hx).mono fun e W' ⟨he, bel⟩ => ?_
  subst he
  exact ⟨_, rfl, _, _, _, [], _, [], hW', trodAll_mk1 (shut_bool Try.underlying4 _), (trodAll_cons_mk (stays laid (by kernel_rfl) (of_decide_eq_true (by kernel_rfl)) h0 bel) (trodAll_cons_mk (stays laid (by kernel_rfl) (of_decide_eq_true (by kernel_rfl)) h1 bel) trodAll_mk0)), rfl, bel.frame _, fun h => by cases h⟩
theorem over : Rows.configRightRow.holds Try.pinned (OpenSpec.ofChange Rows.configRightSpec) :=
  OpenClaim.holds_of_wide 9 Try.f9 rfl rfl rfl rfl rfl rfl rfl ⟨rfl, rfl, rfl, rfl, rfl⟩ rfl rfl rfl rfl rfl (by kernel_rfl) Try.func9 (by kernel_rfl)
    (of_decide_eq_true (by kernel_rfl)) (by unfold Func.isWrapper; first | (rw [if_pos (by decide +kernel)]; kernel_rfl) | (rw [if_neg (by decide +kernel)]; exact ⟨rfl, rfl⟩))
    (fun os started H enc _ => lifted os started H enc)
theorem proved : Rows.ConfigRightSaid := over
#print axioms proved
end Go.Proofs.Ytfnofdgippdlaaa.configRight
namespace Go.Proofs.Ytfnofdgippdlaaa
/-- The row, under a short name, for the claim. -/
theorem configRight_holds : Rows.ConfigRightSaid := configRight.proved
end Go.Proofs.Ytfnofdgippdlaaa
