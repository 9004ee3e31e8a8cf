/- The sum of words is what the document says: for every row of bytes the law SumWords returns true and leaves its argument as it was. -/
import Derived.Test.YtacafjapnppacaaRows
import Derived.Test.YtacafjapnppacaaSumLawsB
import Derived.Test.YtacafjapnppacaaSxR
import Derived.WalkKit
import Derived.ProofKit
import Derived.OpenShut
import Derived.ShutString
import Derived.ChangeOld
import Derived.Below
import Derived.SizedLaws
namespace Go.Proofs.Ytacafjapnppacaa.sumWords
open Go.ChangeShapes Go.WideShapes Go.ChangeAt Go.RowKit Go.Proofs.Ytacafjapnppacaa.Sx Go.Proofs.Ytacafjapnppacaa.Sum
open Go.ChangeMaps (open_string shut_string)
set_option linter.unusedVariables false
theorem own : ownKnob Try.prog.godebug = none := by kernel_rfl
theorem laid : laidOutB Try.prog = true := by kernel_rfl
set_option maxRecDepth 100000 in
theorem lifted (os : Os) (started : os.Started) (H : Type) (enc : TypeId × Value → H) :
    ReturnsInHanded {} Try.checked os 6 .any (Rows.sumWordsSpec.pre6 enc Try.prog Try.f6 Rows.sumWordsRow.domain false) (Rows.sumWordsSpec.post enc Try.prog Try.f6 false true false false) := by
  refine returnsInHanded_of_change_sized (C := Try.checked) own started (by kernel_rfl) Try.func6
    (ChangeSpec.witness6 (enc := enc) (C := Try.checked) false ⟨#[], #[.slice none 0 0], []⟩ 6 (by kernel_rfl) (by kernel_rfl) (by kernel_rfl) (by kernel_rfl)) ?_
  intro W base args ds gs before hval0 hW hcnd hsz0 _
  have hval : ∀ (j : Nat) t v, Try.f6.params[j]? = some t → args[j]? = some v → Value.okWide Try.prog W .any base t v := hval0
  have hW' := hW
  obtain ⟨p, q, hA0, hV, rfl, hfz, hnd⟩ := hW
  have hA : DataW.TrodAll enc Try.prog W 0 (fun _ => true) true Try.f6.params.toList args.toList ds p := hA0
  rw [Try.params6] at hA hval
  obtain ⟨v0, vs0, d0, ds0, p0, q0, hargs, rfl, rfl, h0, r0⟩ := trodAll_cons hA
  obtain ⟨rfl, rfl, rfl⟩ := trodAll_nil r0
  obtain rfl : args = #[v0] := by cases args; simp_all
  obtain ⟨rfl, rfl⟩ := trodVars_none hV
  obtain ⟨ns, uns, lns, x0⟩ := open_bytes Try.prog u (T := 5) Try.underlying22 Try.underlying5 (by kernel_rfl) (fun n => n) (fun n => rfl) (hval 0 22 v0 rfl rfl) h0
  have x0 := (congrArg (fun z : List Int => RepL Try.prog u (outer W fun _ => False) [SV.csl (A := Sum.A) 5 z] [v0]) (List.map_id' ns)).mp x0
  have hx : RepL Try.prog u (outer W fun _ => False) [.csl 5 ns] [v0] := x0
  have hu : bytesOk ns := ⟨show ns.length < 9223372036854775808 by have : maxLen = 9223372036854775807 := rfl; omega, uns⟩
  refine (said Try.prog u ok6 (c := some (bytesOk ns)) rfl hu hx).mono fun e W' ⟨he, bel⟩ => ?_
  subst he
  exact ⟨_, rfl, _, _, _, [], _, [], hW', trodAll_mk1 (shut_bool Try.underlying4 _), (trodAll_cons_mk (stays laid (by kernel_rfl) (of_decide_eq_true (by kernel_rfl)) h0 bel) trodAll_mk0), rfl, bel.frame _, fun h => by cases h⟩
theorem over : Rows.sumWordsRow.holds Try.pinned (OpenSpec.ofChange Rows.sumWordsSpec) :=
  OpenClaim.holds_of_wide 6 Try.f6 rfl rfl rfl rfl rfl rfl rfl ⟨rfl, rfl, rfl, rfl, rfl⟩ rfl rfl rfl rfl rfl (by kernel_rfl) Try.func6 (by kernel_rfl)
    (of_decide_eq_true (by kernel_rfl)) (by unfold Func.isWrapper; first | (rw [if_pos (by decide +kernel)]; kernel_rfl) | (rw [if_neg (by decide +kernel)]; exact ⟨rfl, rfl⟩))
    (fun os started H enc _ => lifted os started H enc)
theorem proved : Rows.SumWordsSaid := over
#print axioms proved
end Go.Proofs.Ytacafjapnppacaa.sumWords
namespace Go.Proofs.Ytacafjapnppacaa
/-- The row, under a short name, for the claim. -/
theorem sumWords_holds : Rows.SumWordsSaid := sumWords.proved
end Go.Proofs.Ytacafjapnppacaa
