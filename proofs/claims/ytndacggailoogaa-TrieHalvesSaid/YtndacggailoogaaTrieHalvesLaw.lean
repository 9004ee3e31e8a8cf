/- Of two halves one has each address of the whole, and neither is in the way of what is beside: the law TrieHalves returns true and leaves its arguments as they were. -/
import Derived.Test.YtndacggailoogaaRows
import Derived.Test.YtndacggailoogaaTrieWalkC
import Derived.Test.YtndacggailoogaaSxR
import Derived.WalkKit
import Derived.ProofKit
import Derived.OpenShut
import Derived.ShutString
import Derived.ChangeOld
import Derived.Below
import Derived.SizedLaws
namespace Go.Proofs.Ytndacggailoogaa.trieHalves
open Go.ChangeShapes Go.WideShapes Go.ChangeAt Go.RowKit Go.Proofs.Ytndacggailoogaa.Sx Go.Proofs.Ytndacggailoogaa.Tri
open Go.ChangeMaps (open_string shut_string)
set_option linter.unusedVariables false
theorem own : ownKnob Try.prog.godebug = none := by kernel_rfl
theorem laid : laidOutB Try.prog = true := by kernel_rfl
set_option maxRecDepth 100000 in
theorem lifted (os : Os) (started : os.Started) (H : Type) (enc : TypeId × Value → H) :
    ReturnsInHanded {} Try.checked os 5 .any (Rows.trieHalvesSpec.pre6 enc Try.prog Try.f5 Rows.trieHalvesRow.domain false) (Rows.trieHalvesSpec.post enc Try.prog Try.f5 false true false false) := by
  refine returnsInHanded_of_change_sized (C := Try.checked) own started (by kernel_rfl) Try.func5
    (ChangeSpec.witness6 (enc := enc) (C := Try.checked) false ⟨#[], #[.int .u32 0, .int .u8 0, .int .u16 0], []⟩ 5 (by kernel_rfl) (by kernel_rfl) (by kernel_rfl) (by kernel_rfl)) ?_
  intro W base args ds gs before hval0 hW hcnd hsz0 _
  have hval : ∀ (j : Nat) t v, Try.f5.params[j]? = some t → args[j]? = some v → Value.okWide Try.prog W .any base t v := hval0
  have hW' := hW
  obtain ⟨p, q, hA0, hV, rfl, hfz, hnd⟩ := hW
  have hA : DataW.TrodAll enc Try.prog W 0 (fun _ => true) true Try.f5.params.toList args.toList ds p := hA0
  have hsz : (DataW.weightsEach Try.prog (Try.f5.params.toList ++ Rows.trieHalvesSpec.plain.varTypes Try.prog) (ds ++ gs)).all (· ≤ reachBytes) = true := hsz0
  rw [Try.params5] at hA hval hsz
  obtain ⟨v0, vs0, d0, ds0, p0, q0, hargs, rfl, rfl, h0, r0⟩ := trodAll_cons hA
  obtain ⟨v1, vs1, d1, ds1, p1, q1, rfl, rfl, rfl, h1, r1⟩ := trodAll_cons r0
  obtain ⟨v2, vs2, d2, ds2, p2, q2, rfl, rfl, rfl, h2, r2⟩ := trodAll_cons r1
  obtain ⟨rfl, rfl, rfl⟩ := trodAll_nil r2
  obtain rfl : args = #[v0, v1, v2] := by cases args; simp_all
  obtain ⟨rfl, rfl⟩ := trodVars_none hV
  obtain ⟨a, rfl, _, _, wa⟩ := open_int Try.underlying22 (hval 0 22 v0 rfl rfl) h0
  have x0 : RepL Try.prog u (outer W fun _ => False) [.int .u32 a] [.int .u32 a] := .int _ a .nil
  obtain ⟨b, rfl, _, _, wb⟩ := open_int Try.underlying5 (hval 1 5 v1 rfl rfl) h1
  have x1 : RepL Try.prog u (outer W fun _ => False) [.int .u8 b] [.int .u8 b] := .int _ b .nil
  obtain ⟨k, rfl, _, _, wk⟩ := open_int Try.underlying48 (hval 2 48 v2 rfl rfl) h2
  have x2 : RepL Try.prog u (outer W fun _ => False) [.int .u16 k] [.int .u16 k] := .int _ k .nil
  have hx : RepL Try.prog u (outer W fun _ => False) [.int .u32 a, .int .u8 b, .int .u16 k] [.int .u32 a, .int .u8 b, .int .u16 k] := (RepL.cons Try.prog u x0 (RepL.cons Try.prog u x1 x2))
  have hu : (0 ≤ a ∧ a < 4294967296) ∧ 0 ≤ b ∧ 0 ≤ k ∧ k < 65536 := ⟨u32_wf wa, (u8_wf wb).1, u16_wf wk⟩
  refine (said Try.prog u okLHalves (c := some ((0 ≤ a ∧ a < 4294967296) ∧ 0 ≤ b ∧ 0 ≤ k ∧ k < 65536)) rfl hu hx).mono fun e W' ⟨he, bel⟩ => ?_
  subst he
  exact ⟨_, rfl, _, _, _, [], _, [], hW', trodAll_mk1 (shut_bool Try.underlying4 _), (trodAll_cons_mk (stays laid (by kernel_rfl) (of_decide_eq_true (by kernel_rfl)) h0 bel) (trodAll_cons_mk (stays laid (by kernel_rfl) (of_decide_eq_true (by kernel_rfl)) h1 bel) (trodAll_cons_mk (stays laid (by kernel_rfl) (of_decide_eq_true (by kernel_rfl)) h2 bel) trodAll_mk0))), rfl, bel.frame _, fun h => by cases h⟩
theorem over : Rows.trieHalvesRow.holds Try.pinned (OpenSpec.ofChange Rows.trieHalvesSpec) :=
  OpenClaim.holds_of_wide 5 Try.f5 rfl rfl rfl rfl rfl rfl rfl ⟨rfl, rfl, rfl, rfl, rfl⟩ rfl rfl rfl rfl rfl (by kernel_rfl) Try.func5 (by kernel_rfl)
    (of_decide_eq_true (by kernel_rfl)) (by unfold Func.isWrapper; first | (rw [if_pos (by decide +kernel)]; kernel_rfl) | (rw [if_neg (by decide +kernel)]; exact ⟨rfl, rfl⟩))
    (fun os started H enc _ => lifted os started H enc)
theorem proved : Rows.TrieHalvesSaid := over
#print axioms proved
end Go.Proofs.Ytndacggailoogaa.trieHalves
namespace Go.Proofs.Ytndacggailoogaa
/-- The row, under a short name, for the claim. -/
theorem trieHalves_holds : Rows.TrieHalvesSaid := trieHalves.proved
end Go.Proofs.Ytndacggailoogaa
