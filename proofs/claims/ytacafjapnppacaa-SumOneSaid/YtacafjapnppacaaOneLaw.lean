/- A byte that is turned is seen by the sum of 32 bits: the law SumOne returns true and leaves its arguments as they were. -/
import Derived.Test.YtacafjapnppacaaRows
import Derived.Test.YtacafjapnppacaaSumLawsC
import Derived.Test.YtacafjapnppacaaSxR
import Derived.WalkKit
import Derived.ProofKit
import Derived.OpenShut
import Derived.ShutString
import Derived.ChangeOld
import Derived.Below
import Derived.SizedLaws
namespace Go.Proofs.Ytacafjapnppacaa.sumOne
open Go.ChangeShapes Go.WideShapes Go.ChangeAt Go.RowKit Go.Proofs.Ytacafjapnppacaa.Sx Go.Proofs.Ytacafjapnppacaa.Sum
open Go.ChangeMaps (open_string shut_string)
set_option linter.unusedVariables false
theorem own : ownKnob Try.prog.godebug = none := by kernel_rfl
theorem laid : laidOutB Try.prog = true := by kernel_rfl
set_option maxRecDepth 100000 in
theorem lifted (os : Os) (started : os.Started) (H : Type) (enc : TypeId × Value → H) :
    ReturnsInHanded {} Try.checked os 4 .any (Rows.sumOneSpec.pre6 enc Try.prog Try.f4 Rows.sumOneRow.domain false) (Rows.sumOneSpec.post enc Try.prog Try.f4 false true false false) := by
  refine returnsInHanded_of_change_sized (C := Try.checked) own started (by kernel_rfl) Try.func4
    (ChangeSpec.witness6 (enc := enc) (C := Try.checked) false ⟨#[], #[.slice none 0 0, .int .u16 0, .int .u8 0], []⟩ 4 (by kernel_rfl) (by kernel_rfl) (by kernel_rfl) (by kernel_rfl)) ?_
  intro W base args ds gs before hval0 hW hcnd hsz0 _
  have hval : ∀ (j : Nat) t v, Try.f4.params[j]? = some t → args[j]? = some v → Value.okWide Try.prog W .any base t v := hval0
  have hW' := hW
  obtain ⟨p, q, hA0, hV, rfl, hfz, hnd⟩ := hW
  have hA : DataW.TrodAll enc Try.prog W 0 (fun _ => true) true Try.f4.params.toList args.toList ds p := hA0
  have hsz : (DataW.weightsEach Try.prog (Try.f4.params.toList ++ Rows.sumOneSpec.plain.varTypes Try.prog) (ds ++ gs)).all (· ≤ reachBytes) = true := hsz0
  rw [Try.params4] at hA hval hsz
  obtain ⟨v0, vs0, d0, ds0, p0, q0, hargs, rfl, rfl, h0, r0⟩ := trodAll_cons hA
  obtain ⟨v1, vs1, d1, ds1, p1, q1, rfl, rfl, rfl, h1, r1⟩ := trodAll_cons r0
  obtain ⟨v2, vs2, d2, ds2, p2, q2, rfl, rfl, rfl, h2, r2⟩ := trodAll_cons r1
  obtain ⟨rfl, rfl, rfl⟩ := trodAll_nil r2
  obtain rfl : args = #[v0, v1, v2] := by cases args; simp_all
  obtain ⟨rfl, rfl⟩ := trodVars_none hV
  obtain ⟨ns, uns, lns, x0⟩ := open_bytes Try.prog u (T := 5) Try.underlying22 Try.underlying5 (by kernel_rfl) (fun n => n) (fun n => rfl) (hval 0 22 v0 rfl rfl) h0
  have zns := lns.2 (reach_of Try.prog hsz (j := 0) rfl rfl) (by kernel_rfl)
  have x0 : RepL Try.prog u (outer W fun _ => False) [SV.csl (A := Sum.A) 5 ns] [v0] := (congrArg (fun z : List Int => RepL Try.prog u (outer W fun _ => False) [SV.csl (A := Sum.A) 5 z] [v0]) (List.map_id' ns)).mp x0
  obtain ⟨t, rfl, _, _, wt⟩ := open_int Try.underlying27 (hval 1 27 v1 rfl rfl) h1
  have x1 : RepL Try.prog u (outer W fun _ => False) [.int .u16 t] [.int .u16 t] := .int _ t .nil
  obtain ⟨b, rfl, _, _, wb⟩ := open_int Try.underlying5 (hval 2 5 v2 rfl rfl) h2
  have x2 : RepL Try.prog u (outer W fun _ => False) [.int .u8 b] [.int .u8 b] := .int _ b .nil
  have hx : RepL Try.prog u (outer W fun _ => False) [.csl 5 ns, .int .u16 t, .int .u8 b] [v0, .int .u16 t, .int .u8 b] := (RepL.cons Try.prog u x0 (RepL.cons Try.prog u x1 x2))
  have hu : oneOk ns t b := ⟨by have hrb : reachBytes = 140737488351232 := rfl; omega, uns, u16_wf wt, u8_wf wb⟩
  refine (said Try.prog u ok4 (c := some (oneOk ns t b)) rfl hu hx).mono fun e W' ⟨he, bel⟩ => ?_
  subst he
  exact ⟨_, rfl, _, _, _, [], _, [], hW', trodAll_mk1 (shut_bool Try.underlying4 _), (trodAll_cons_mk (stays laid (by kernel_rfl) (of_decide_eq_true (by kernel_rfl)) h0 bel) (trodAll_cons_mk (stays laid (by kernel_rfl) (of_decide_eq_true (by kernel_rfl)) h1 bel) (trodAll_cons_mk (stays laid (by kernel_rfl) (of_decide_eq_true (by kernel_rfl)) h2 bel) trodAll_mk0))), rfl, bel.frame _, fun h => by cases h⟩
theorem over : Rows.sumOneRow.holds Try.pinned (OpenSpec.ofChange Rows.sumOneSpec) :=
  OpenClaim.holds_of_wide 4 Try.f4 rfl rfl rfl rfl rfl rfl rfl ⟨rfl, rfl, rfl, rfl, rfl⟩ rfl rfl rfl rfl rfl (by kernel_rfl) Try.func4 (by kernel_rfl)
    (of_decide_eq_true (by kernel_rfl)) (by unfold Func.isWrapper; first | (rw [if_pos (by decide +kernel)]; kernel_rfl) | (rw [if_neg (by decide +kernel)]; exact ⟨rfl, rfl⟩))
    (fun os started H enc _ => lifted os started H enc)
theorem proved : Rows.SumOneSaid := over
#print axioms proved
end Go.Proofs.Ytacafjapnppacaa.sumOne
namespace Go.Proofs.Ytacafjapnppacaa
/-- The row, under a short name, for the claim. -/
theorem sumOne_holds : Rows.SumOneSaid := sumOne.proved
end Go.Proofs.Ytacafjapnppacaa
