/- All are the same, in whichever order they were put: the law TrieOrder returns true and leaves its arguments as they were. -/
import Derived.Test.YtndacggailoogaaRows
import Derived.Test.YtndacggailoogaaTrieWalkD
import Derived.Test.YtndacggailoogaaTrieOpen
import Derived.Test.YtndacggailoogaaSxR
import Derived.WalkKit
import Derived.ProofKit
import Derived.OpenShut
import Derived.ShutString
import Derived.ChangeOld
import Derived.Below
import Derived.SizedLaws
namespace Go.Proofs.Ytndacggailoogaa.trieOrder
open Go.ChangeShapes Go.WideShapes Go.ChangeAt Go.RowKit Go.Proofs.Ytndacggailoogaa.Sx Go.Proofs.Ytndacggailoogaa.Tri
open Go.ChangeMaps (open_string shut_string)
set_option linter.unusedVariables false
theorem own : ownKnob Try.prog.godebug = none := by kernel_rfl
theorem laid : laidOutB Try.prog = true := by kernel_rfl
set_option maxRecDepth 100000 in
theorem lifted (os : Os) (started : os.Started) (H : Type) (enc : TypeId × Value → H) :
    ReturnsInHanded {} Try.checked os 4 .any (Rows.trieOrderSpec.pre6 enc Try.prog Try.f4 Rows.trieOrderRow.domain false) (Rows.trieOrderSpec.post enc Try.prog Try.f4 false true false false) := by
  refine returnsInHanded_of_change_sized (C := Try.checked) own started (by kernel_rfl) Try.func4
    (ChangeSpec.witness6 (enc := enc) (C := Try.checked) false ⟨#[], #[.slice none 0 0], []⟩ 4 (by kernel_rfl) (by kernel_rfl) (by kernel_rfl) (by kernel_rfl)) ?_
  intro W base args ds gs before hval0 hW hcnd hsz0 _
  have hval : ∀ (j : Nat) t v, Try.f4.params[j]? = some t → args[j]? = some v → Value.okWide Try.prog W .any base t v := hval0
  have hW' := hW
  obtain ⟨p, q, hA0, hV, rfl, hfz, hnd⟩ := hW
  have hA : DataW.TrodAll enc Try.prog W 0 (fun _ => true) true Try.f4.params.toList args.toList ds p := hA0
  have hsz : (DataW.weightsEach Try.prog (Try.f4.params.toList ++ Rows.trieOrderSpec.plain.varTypes Try.prog) (ds ++ gs)).all (· ≤ reachBytes) = true := hsz0
  rw [Try.params4] at hA hval hsz
  obtain ⟨v0, vs0, d0, ds0, p0, q0, hargs, rfl, rfl, h0, r0⟩ := trodAll_cons hA
  obtain ⟨rfl, rfl, rfl⟩ := trodAll_nil r0
  obtain rfl : args = #[v0] := by cases args; simp_all
  obtain ⟨rfl, rfl⟩ := trodVars_none hV
  obtain ⟨ns, uns, lns, x0⟩ := open_rows Try.prog u (T := 42) Try.underlying40 (of_decide_eq_true (by kernel_rfl)) (by kernel_rfl) openAct (hval 0 40 v0 rfl rfl) h0
  have zns := lns.2 (reach_of Try.prog hsz (j := 0) rfl rfl)
  have hx : RepL Try.prog u (outer W fun _ => False) [.csl 42 ns] [v0] := x0
  have hu : actsOk ns := ⟨(show ns.length < 9223372036854775808 by have hml : maxLen = 9223372036854775807 := rfl; have := lns.1; omega), uns⟩
  refine (said Try.prog u okLOrder (c := some (actsOk ns)) rfl hu hx).mono fun e W' ⟨he, bel⟩ => ?_
  subst he
  exact ⟨_, rfl, _, _, _, [], _, [], hW', trodAll_mk1 (shut_bool Try.underlying4 _), (trodAll_cons_mk (stays laid (by kernel_rfl) (of_decide_eq_true (by kernel_rfl)) h0 bel) trodAll_mk0), rfl, bel.frame _, fun h => by cases h⟩
theorem over : Rows.trieOrderRow.holds Try.pinned (OpenSpec.ofChange Rows.trieOrderSpec) :=
  OpenClaim.holds_of_wide 4 Try.f4 rfl rfl rfl rfl rfl rfl rfl ⟨rfl, rfl, rfl, rfl, rfl⟩ rfl rfl rfl rfl rfl (by kernel_rfl) Try.func4 (by kernel_rfl)
    (of_decide_eq_true (by kernel_rfl)) (by unfold Func.isWrapper; first | (rw [if_pos (by decide +kernel)]; kernel_rfl) | (rw [if_neg (by decide +kernel)]; exact ⟨rfl, rfl⟩))
    (fun os started H enc _ => lifted os started H enc)
theorem proved : Rows.TrieOrderSaid := over
#print axioms proved
end Go.Proofs.Ytndacggailoogaa.trieOrder
namespace Go.Proofs.Ytndacggailoogaa
/-- The row, under a short name, for the claim. -/
theorem trieOrder_holds : Rows.TrieOrderSaid := trieOrder.proved
end Go.Proofs.Ytndacggailoogaa
