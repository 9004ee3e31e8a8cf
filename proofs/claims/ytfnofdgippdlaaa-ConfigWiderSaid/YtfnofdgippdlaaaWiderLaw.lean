/- Of two choices that may be the greatest of each may be, too: for every two choices the law ConfigWider returns true and leaves its arguments as they were. -/
import Derived.Test.YtfnofdgippdlaaaRows
import Derived.Test.YtfnofdgippdlaaaCfgFit
import Derived.Test.YtfnofdgippdlaaaSxR
import Derived.WalkKit
import Derived.ProofKit
import Derived.OpenShut
import Derived.ShutString
import Derived.ChangeOld
import Derived.Below
import Derived.SizedLaws
namespace Go.Proofs.Ytfnofdgippdlaaa.configWider
open Go.ChangeShapes Go.WideShapes Go.ChangeAt Go.RowKit Go.Proofs.Ytfnofdgippdlaaa.Sx Go.Proofs.Ytfnofdgippdlaaa.Cfg
open Go.ChangeMaps (open_string shut_string)
set_option linter.unusedVariables false
theorem own : ownKnob Try.prog.godebug = none := by kernel_rfl
theorem laid : laidOutB Try.prog = true := by kernel_rfl
set_option maxRecDepth 100000 in
theorem lifted (os : Os) (started : os.Started) (H : Type) (enc : TypeId × Value → H) :
    ReturnsInHanded {} Try.checked os 12 .any (Rows.configWiderSpec.pre6 enc Try.prog Try.f12 Rows.configWiderRow.domain false) (Rows.configWiderSpec.post enc Try.prog Try.f12 false true false false) := by
  refine returnsInHanded_of_change_sized (C := Try.checked) own started (by kernel_rfl) Try.func12
    (ChangeSpec.witness6 (enc := enc) (C := Try.checked) false ⟨#[], #[.agg #[.int .u8 0, .int .u8 0, .int .u8 0, .int .u8 0, .int .u8 0, .int .u8 0, .int .u8 0, .int .u8 0, .int .u8 0], .agg #[.int .u8 0, .int .u8 0, .int .u8 0, .int .u8 0, .int .u8 0, .int .u8 0, .int .u8 0, .int .u8 0, .int .u8 0]], []⟩ 12 (by kernel_rfl) (by kernel_rfl) (by kernel_rfl) (by kernel_rfl)) ?_
  intro W base args ds gs before hval0 hW hcnd hsz0 _
  have hval : ∀ (j : Nat) t v, Try.f12.params[j]? = some t → args[j]? = some v → Value.okWide Try.prog W .any base t v := hval0
  have hW' := hW
  obtain ⟨p, q, hA0, hV, rfl, hfz, hnd⟩ := hW
  have hA : DataW.TrodAll enc Try.prog W 0 (fun _ => true) true Try.f12.params.toList args.toList ds p := hA0
  rw [Try.params12] at hA hval
  obtain ⟨v0, vs0, d0, ds0, p0, q0, hargs, rfl, rfl, h0, r0⟩ := trodAll_cons hA
  obtain ⟨v1, vs1, d1, ds1, p1, q1, rfl, rfl, rfl, h1, r1⟩ := trodAll_cons r0
  obtain ⟨rfl, rfl, rfl⟩ := trodAll_nil r1
  obtain rfl : args = #[v0, v1] := by cases args; simp_all
  obtain ⟨rfl, rfl⟩ := trodVars_none hV
  obtain ⟨cs0, rfl, l0⟩ := open_cells (L := [.int .u8, .int .u8, .int .u8, .int .u8, .int .u8, .int .u8, .int .u8, .int .u8, .int .u8]) Try.underlying34 (by kernel_rfl) (hval 0 34 v0 rfl rfl) h0
  obtain ⟨x0, _, rfl, wx0, l0⟩ := l0.int
  obtain ⟨x1, _, rfl, wx1, l0⟩ := l0.int
  obtain ⟨x2, _, rfl, wx2, l0⟩ := l0.int
  obtain ⟨x3, _, rfl, wx3, l0⟩ := l0.int
  obtain ⟨x4, _, rfl, wx4, l0⟩ := l0.int
  obtain ⟨x5, _, rfl, wx5, l0⟩ := l0.int
  obtain ⟨x6, _, rfl, wx6, l0⟩ := l0.int
  obtain ⟨x7, _, rfl, wx7, l0⟩ := l0.int
  obtain ⟨x8, _, rfl, wx8, l0⟩ := l0.int
  obtain rfl := l0.done
  obtain ⟨cs1, rfl, l1⟩ := open_cells (L := [.int .u8, .int .u8, .int .u8, .int .u8, .int .u8, .int .u8, .int .u8, .int .u8, .int .u8]) Try.underlying34 (by kernel_rfl) (hval 1 34 v1 rfl rfl) h1
  obtain ⟨y0, _, rfl, wy0, l1⟩ := l1.int
  obtain ⟨y1, _, rfl, wy1, l1⟩ := l1.int
  obtain ⟨y2, _, rfl, wy2, l1⟩ := l1.int
  obtain ⟨y3, _, rfl, wy3, l1⟩ := l1.int
  obtain ⟨y4, _, rfl, wy4, l1⟩ := l1.int
  obtain ⟨y5, _, rfl, wy5, l1⟩ := l1.int
  obtain ⟨y6, _, rfl, wy6, l1⟩ := l1.int
  obtain ⟨y7, _, rfl, wy7, l1⟩ := l1.int
  obtain ⟨y8, _, rfl, wy8, l1⟩ := l1.int
  obtain rfl := l1.done
  have hx : RepL Try.prog u (outer W fun _ => False) [.agg (cho x0 x1 x2 x3 x4 x5 x6 x7 x8), .agg (cho y0 y1 y2 y3 y4 y5 y6 y7 y8)] [.agg ⟨[.int .u8 x0, .int .u8 x1, .int .u8 x2, .int .u8 x3, .int .u8 x4, .int .u8 x5, .int .u8 x6, .int .u8 x7, .int .u8 x8]⟩, .agg ⟨[.int .u8 y0, .int .u8 y1, .int .u8 y2, .int .u8 y3, .int .u8 y4, .int .u8 y5, .int .u8 y6, .int .u8 y7, .int .u8 y8]⟩] := (.agg _ _ (.int _ x0 (.int _ x1 (.int _ x2 (.int _ x3 (.int _ x4 (.int _ x5 (.int _ x6 (.int _ x7 (.int _ x8 .nil))))))))) (.agg _ _ (.int _ y0 (.int _ y1 (.int _ y2 (.int _ y3 (.int _ y4 (.int _ y5 (.int _ y6 (.int _ y7 (.int _ y8 .nil))))))))) .nil))
  have hu : u8s x0 x1 x2 x3 x4 x5 x6 x7 x8 ∧ u8s y0 y1 y2 y3 y4 y5 y6 y7 y8 := ⟨⟨u8_wf wx0, u8_wf wx1, u8_wf wx2, u8_wf wx3, u8_wf wx4, u8_wf wx5, u8_wf wx6, u8_wf wx7, u8_wf wx8⟩, ⟨u8_wf wy0, u8_wf wy1, u8_wf wy2, u8_wf wy3, u8_wf wy4, u8_wf wy5, u8_wf wy6, u8_wf wy7, u8_wf wy8⟩⟩
  refine (said Try.prog u ok12 (c := some (u8s x0 x1 x2 x3 x4 x5 x6 x7 x8 ∧ u8s y0 y1 y2 y3 y4 y5 y6 y7 y8)) rfl hu hx).mono fun e W' ⟨he, bel⟩ => ?_
  subst he
  exact ⟨_, rfl, _, _, _, [], _, [], hW', trodAll_mk1 (shut_bool Try.underlying4 _), (trodAll_cons_mk (stays laid (by kernel_rfl) (of_decide_eq_true (by kernel_rfl)) h0 bel) (trodAll_cons_mk (stays laid (by kernel_rfl) (of_decide_eq_true (by kernel_rfl)) h1 bel) trodAll_mk0)), rfl, bel.frame _, fun h => by cases h⟩
theorem over : Rows.configWiderRow.holds Try.pinned (OpenSpec.ofChange Rows.configWiderSpec) :=
  OpenClaim.holds_of_wide 12 Try.f12 rfl rfl rfl rfl rfl rfl rfl ⟨rfl, rfl, rfl, rfl, rfl⟩ rfl rfl rfl rfl rfl (by kernel_rfl) Try.func12 (by kernel_rfl)
    (of_decide_eq_true (by kernel_rfl)) (by unfold Func.isWrapper; first | (rw [if_pos (by decide +kernel)]; kernel_rfl) | (rw [if_neg (by decide +kernel)]; exact ⟨rfl, rfl⟩))
    (fun os started H enc _ => lifted os started H enc)
theorem proved : Rows.ConfigWiderSaid := over
#print axioms proved
end Go.Proofs.Ytfnofdgippdlaaa.configWider
namespace Go.Proofs.Ytfnofdgippdlaaa
/-- The row, under a short name, for the claim. -/
theorem configWider_holds : Rows.ConfigWiderSaid := configWider.proved
end Go.Proofs.Ytfnofdgippdlaaa
