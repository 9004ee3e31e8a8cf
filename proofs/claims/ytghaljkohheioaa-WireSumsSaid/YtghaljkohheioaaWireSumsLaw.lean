/- An echo that is laid bears sums that come to nothing, in both its parts: the law WireSums returns true and leaves its argument as it was. -/
import Derived.Test.YtghaljkohheioaaRows
import Derived.Test.YtghaljkohheioaaWireWalkE
import Derived.Test.YtghaljkohheioaaSxR
import Derived.WalkKit
import Derived.ProofKit
import Derived.OpenShut
import Derived.ShutString
import Derived.ChangeOld
import Derived.Below
import Derived.SizedLaws
namespace Go.Proofs.Ytghaljkohheioaa.wireSums
open Go.ChangeShapes Go.WideShapes Go.ChangeAt Go.RowKit Go.Proofs.Ytghaljkohheioaa.Sx Go.Proofs.Ytghaljkohheioaa.Wire
open Go.ChangeMaps (open_string shut_string)
set_option linter.unusedVariables false
theorem own : ownKnob Try.prog.godebug = none := by kernel_rfl
theorem laid : laidOutB Try.prog = true := by kernel_rfl
set_option maxRecDepth 100000 in
theorem lifted (os : Os) (started : os.Started) (H : Type) (enc : TypeId × Value → H) :
    ReturnsInHanded {} Try.checked os 6 .any (Rows.wireSumsSpec.pre6 enc Try.prog Try.f6 Rows.wireSumsRow.domain false) (Rows.wireSumsSpec.post enc Try.prog Try.f6 false true false false) := by
  refine returnsInHanded_of_change_sized (C := Try.checked) own started (by kernel_rfl) Try.func6
    (ChangeSpec.witness6 (enc := enc) (C := Try.checked) false ⟨#[], #[.agg #[.bool false, .int .u32 0, .int .u32 0, .int .u8 0, .int .u8 0, .int .u8 0, .int .u8 0, .int .u8 0, .int .u8 0, .int .i64 0, .int .i64 0]], []⟩ 6 (by kernel_rfl) (by kernel_rfl) (by kernel_rfl) (by kernel_rfl)) ?_
  intro W base args ds gs before hval0 hW hcnd hsz0 _
  have hval : ∀ (j : Nat) t v, Try.f6.params[j]? = some t → args[j]? = some v → Value.okWide Try.prog W .any base t v := hval0
  have hW' := hW
  obtain ⟨p, q, hA0, hV, rfl, hfz, hnd⟩ := hW
  have hA : DataW.TrodAll enc Try.prog W 0 (fun _ => true) true Try.f6.params.toList args.toList ds p := hA0
  have hsz : (DataW.weightsEach Try.prog (Try.f6.params.toList ++ Rows.wireSumsSpec.plain.varTypes Try.prog) (ds ++ gs)).all (· ≤ reachBytes) = true := hsz0
  rw [Try.params6] at hA hval hsz
  obtain ⟨v0, vs0, d0, ds0, p0, q0, hargs, rfl, rfl, h0, r0⟩ := trodAll_cons hA
  obtain ⟨rfl, rfl, rfl⟩ := trodAll_nil r0
  obtain rfl : args = #[v0] := by cases args; simp_all
  obtain ⟨rfl, rfl⟩ := trodVars_none hV
  obtain ⟨cs0, rfl, l0⟩ := open_cells (L := [.bool, .int .u32, .int .u32, .int .u8, .int .u8, .int .u8, .int .u8, .int .u8, .int .u8, .int .i64, .int .i64]) Try.underlying27 (by kernel_rfl) (hval 0 27 v0 rfl rfl) h0
  obtain ⟨p0, _, rfl, l0s1⟩ := l0.bool
  obtain ⟨p1, _, rfl, wp1, l0s2⟩ := l0s1.int
  obtain ⟨p2, _, rfl, wp2, l0s3⟩ := l0s2.int
  obtain ⟨p3, _, rfl, wp3, l0s4⟩ := l0s3.int
  obtain ⟨p4, _, rfl, wp4, l0s5⟩ := l0s4.int
  obtain ⟨p5, _, rfl, wp5, l0s6⟩ := l0s5.int
  obtain ⟨p6, _, rfl, wp6, l0s7⟩ := l0s6.int
  obtain ⟨p7, _, rfl, wp7, l0s8⟩ := l0s7.int
  obtain ⟨p8, _, rfl, wp8, l0s9⟩ := l0s8.int
  obtain ⟨p9, _, rfl, wp9, l0s10⟩ := l0s9.int
  obtain ⟨p10, _, rfl, wp10, l0s11⟩ := l0s10.int
  obtain rfl := l0s11.done
  have x0 : RepL Try.prog u (outer W fun _ => False) [.agg [.bool p0, .int .u32 p1, .int .u32 p2, .int .u8 p3, .int .u8 p4, .int .u8 p5, .int .u8 p6, .int .u8 p7, .int .u8 p8, .int .i64 p9, .int .i64 p10]] [.agg ⟨[.bool p0, .int .u32 p1, .int .u32 p2, .int .u8 p3, .int .u8 p4, .int .u8 p5, .int .u8 p6, .int .u8 p7, .int .u8 p8, .int .i64 p9, .int .i64 p10]⟩] := .agg _ _ (.bool p0 (.int _ p1 (.int _ p2 (.int _ p3 (.int _ p4 (.int _ p5 (.int _ p6 (.int _ p7 (.int _ p8 (.int _ p9 (.int _ p10 .nil))))))))))) .nil
  have hx : RepL Try.prog u (outer W fun _ => False) [.agg [.bool p0, .int .u32 p1, .int .u32 p2, .int .u8 p3, .int .u8 p4, .int .u8 p5, .int .u8 p6, .int .u8 p7, .int .u8 p8, .int .i64 p9, .int .i64 p10]] [.agg ⟨[.bool p0, .int .u32 p1, .int .u32 p2, .int .u8 p3, .int .u8 p4, .int .u8 p5, .int .u8 p6, .int .u8 p7, .int .u8 p8, .int .i64 p9, .int .i64 p10]⟩] := x0
  have hu : pktOk p1 p2 p9 p10 := ⟨u32_wf wp1, u32_wf wp2⟩
  refine (said Try.prog u okSums (c := some (pktOk p1 p2 p9 p10)) rfl hu hx).mono fun e W' ⟨he, bel⟩ => ?_
  subst he
  exact ⟨_, rfl, _, _, _, [], _, [], hW', trodAll_mk1 (shut_bool Try.underlying4 _), (trodAll_cons_mk (stays laid (by kernel_rfl) (of_decide_eq_true (by kernel_rfl)) h0 bel) trodAll_mk0), rfl, bel.frame _, fun h => by cases h⟩
theorem over : Rows.wireSumsRow.holds Try.pinned (OpenSpec.ofChange Rows.wireSumsSpec) :=
  OpenClaim.holds_of_wide 6 Try.f6 rfl rfl rfl rfl rfl rfl rfl ⟨rfl, rfl, rfl, rfl, rfl⟩ rfl rfl rfl rfl rfl (by kernel_rfl) Try.func6 (by kernel_rfl)
    (of_decide_eq_true (by kernel_rfl)) (by unfold Func.isWrapper; first | (rw [if_pos (by decide +kernel)]; kernel_rfl) | (rw [if_neg (by decide +kernel)]; exact ⟨rfl, rfl⟩))
    (fun os started H enc _ => lifted os started H enc)
theorem proved : Rows.WireSumsSaid := over
#print axioms proved
end Go.Proofs.Ytghaljkohheioaa.wireSums
namespace Go.Proofs.Ytghaljkohheioaa
/-- The row, under a short name, for the claim. -/
theorem wireSums_holds : Rows.WireSumsSaid := wireSums.proved
end Go.Proofs.Ytghaljkohheioaa
