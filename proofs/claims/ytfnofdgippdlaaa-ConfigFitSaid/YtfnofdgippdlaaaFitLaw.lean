/- The nearest choice may be, and is the choice, if that may be: for every choice the law ConfigFit returns true and leaves its arguments as they were. -/
import Derived.Test.YtfnofdgippdlaaaRows
import Derived.Test.YtfnofdgippdlaaaCfgFit
import Derived.Test.YtfnofdgippdlaaaSxR
import Derived.WalkKit
import Derived.ProofKit
import Derived.OpenShut
import Derived.ShutString
import Derived.ChangeOld
import Derived.Below
import Derived.SizedLaws
namespace Go.Proofs.Ytfnofdgippdlaaa.configFit
open Go.ChangeShapes Go.WideShapes Go.ChangeAt Go.RowKit Go.Proofs.Ytfnofdgippdlaaa.Sx Go.Proofs.Ytfnofdgippdlaaa.Cfg
open Go.ChangeMaps (open_string shut_string)
set_option linter.unusedVariables false
theorem own : ownKnob Try.prog.godebug = none := by kernel_rfl
theorem laid : laidOutB Try.prog = true := by kernel_rfl
set_option maxRecDepth 100000 in
theorem lifted (os : Os) (started : os.Started) (H : Type) (enc : TypeId × Value → H) :
    ReturnsInHanded {} Try.checked os 10 .any (Rows.configFitSpec.pre6 enc Try.prog Try.f10 Rows.configFitRow.domain false) (Rows.configFitSpec.post enc Try.prog Try.f10 false true false false) := by
  refine returnsInHanded_of_change_sized (C := Try.checked) own started (by kernel_rfl) Try.func10
    (ChangeSpec.witness6 (enc := enc) (C := Try.checked) false ⟨#[], #[.agg #[.int .i64 0, .int .i64 0, .int .i64 0, .int .i64 0, .int .i64 0, .int .i64 0, .int .i64 0, .int .i64 0, .int .i64 0], .agg #[.int .u8 0, .int .u8 0, .int .u8 0, .int .u8 0, .int .u8 0, .int .u8 0, .int .u8 0, .int .u8 0, .int .u8 0]], []⟩ 10 (by kernel_rfl) (by kernel_rfl) (by kernel_rfl) (by kernel_rfl)) ?_
  intro W base args ds gs before hval0 hW hcnd hsz0 _
  have hval : ∀ (j : Nat) t v, Try.f10.params[j]? = some t → args[j]? = some v → Value.okWide Try.prog W .any base t v := hval0
  have hW' := hW
  obtain ⟨p, q, hA0, hV, rfl, hfz, hnd⟩ := hW
  have hA : DataW.TrodAll enc Try.prog W 0 (fun _ => true) true Try.f10.params.toList args.toList ds p := hA0
  rw [Try.params10] at hA hval
  obtain ⟨v0, vs0, d0, ds0, p0, q0, hargs, rfl, rfl, h0, r0⟩ := trodAll_cons hA
  obtain ⟨v1, vs1, d1, ds1, p1, q1, rfl, rfl, rfl, h1, r1⟩ := trodAll_cons r0
  obtain ⟨rfl, rfl, rfl⟩ := trodAll_nil r1
  obtain rfl : args = #[v0, v1] := by cases args; simp_all
  obtain ⟨rfl, rfl⟩ := trodVars_none hV
  obtain ⟨cs0, rfl, l0⟩ := open_cells (L := [.int .i64, .int .i64, .int .i64, .int .i64, .int .i64, .int .i64, .int .i64, .int .i64, .int .i64]) Try.underlying32 (by kernel_rfl) (hval 0 32 v0 rfl rfl) h0
  obtain ⟨c0, _, rfl, wc0, l0⟩ := l0.int
  obtain ⟨c1, _, rfl, wc1, l0⟩ := l0.int
  obtain ⟨c2, _, rfl, wc2, l0⟩ := l0.int
  obtain ⟨c3, _, rfl, wc3, l0⟩ := l0.int
  obtain ⟨c4, _, rfl, wc4, l0⟩ := l0.int
  obtain ⟨c5, _, rfl, wc5, l0⟩ := l0.int
  obtain ⟨c6, _, rfl, wc6, l0⟩ := l0.int
  obtain ⟨c7, _, rfl, wc7, l0⟩ := l0.int
  obtain ⟨c8, _, rfl, wc8, l0⟩ := l0.int
  obtain rfl := l0.done
  obtain ⟨cs1, rfl, l1⟩ := open_cells (L := [.int .u8, .int .u8, .int .u8, .int .u8, .int .u8, .int .u8, .int .u8, .int .u8, .int .u8]) Try.underlying34 (by kernel_rfl) (hval 1 34 v1 rfl rfl) h1
  obtain ⟨x0, _, rfl, wx0, l1⟩ := l1.int
  obtain ⟨x1, _, rfl, wx1, l1⟩ := l1.int
  obtain ⟨x2, _, rfl, wx2, l1⟩ := l1.int
  obtain ⟨x3, _, rfl, wx3, l1⟩ := l1.int
  obtain ⟨x4, _, rfl, wx4, l1⟩ := l1.int
  obtain ⟨x5, _, rfl, wx5, l1⟩ := l1.int
  obtain ⟨x6, _, rfl, wx6, l1⟩ := l1.int
  obtain ⟨x7, _, rfl, wx7, l1⟩ := l1.int
  obtain ⟨x8, _, rfl, wx8, l1⟩ := l1.int
  obtain rfl := l1.done
  have hx : RepL Try.prog u (outer W fun _ => False) [.agg (cfg c0 c1 c2 c3 c4 c5 c6 c7 c8), .agg (cho x0 x1 x2 x3 x4 x5 x6 x7 x8)] [.agg ⟨[.int .i64 c0, .int .i64 c1, .int .i64 c2, .int .i64 c3, .int .i64 c4, .int .i64 c5, .int .i64 c6, .int .i64 c7, .int .i64 c8]⟩, .agg ⟨[.int .u8 x0, .int .u8 x1, .int .u8 x2, .int .u8 x3, .int .u8 x4, .int .u8 x5, .int .u8 x6, .int .u8 x7, .int .u8 x8]⟩] := (.agg _ _ (.int _ c0 (.int _ c1 (.int _ c2 (.int _ c3 (.int _ c4 (.int _ c5 (.int _ c6 (.int _ c7 (.int _ c8 .nil))))))))) (.agg _ _ (.int _ x0 (.int _ x1 (.int _ x2 (.int _ x3 (.int _ x4 (.int _ x5 (.int _ x6 (.int _ x7 (.int _ x8 .nil))))))))) .nil))
  have hu : u8s x0 x1 x2 x3 x4 x5 x6 x7 x8 := ⟨u8_wf wx0, u8_wf wx1, u8_wf wx2, u8_wf wx3, u8_wf wx4, u8_wf wx5, u8_wf wx6, u8_wf wx7, u8_wf wx8⟩
  refine (said Try.prog u ok10 (c := some (u8s x0 x1 x2 x3 x4 x5 x6 x7 x8)) rfl hu hx).mono fun e W' ⟨he, bel⟩ => ?_
  subst he
  exact ⟨_, rfl, _, _, _, [], _, [], hW', trodAll_mk1 (shut_bool Try.underlying4 _), (trodAll_cons_mk (stays laid (by kernel_rfl) (of_decide_eq_true (by kernel_rfl)) h0 bel) (trodAll_cons_mk (stays laid (by kernel_rfl) (of_decide_eq_true (by kernel_rfl)) h1 bel) trodAll_mk0)), rfl, bel.frame _, fun h => by cases h⟩
theorem over : Rows.configFitRow.holds Try.pinned (OpenSpec.ofChange Rows.configFitSpec) :=
  OpenClaim.holds_of_wide 10 Try.f10 rfl rfl rfl rfl rfl rfl rfl ⟨rfl, rfl, rfl, rfl, rfl⟩ rfl rfl rfl rfl rfl (by kernel_rfl) Try.func10 (by kernel_rfl)
    (of_decide_eq_true (by kernel_rfl)) (by unfold Func.isWrapper; first | (rw [if_pos (by decide +kernel)]; kernel_rfl) | (rw [if_neg (by decide +kernel)]; exact ⟨rfl, rfl⟩))
    (fun os started H enc _ => lifted os started H enc)
theorem proved : Rows.ConfigFitSaid := over
#print axioms proved
end Go.Proofs.Ytfnofdgippdlaaa.configFit
namespace Go.Proofs.Ytfnofdgippdlaaa
/-- The row, under a short name, for the claim. -/
theorem configFit_holds : Rows.ConfigFitSaid := configFit.proved
end Go.Proofs.Ytfnofdgippdlaaa
