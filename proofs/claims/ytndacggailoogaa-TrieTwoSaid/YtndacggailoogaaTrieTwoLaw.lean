/- Of two prefixes one is in the way of the other just if it has addresses of it: the law TrieTwo returns true and leaves its arguments as they were. -/
import Derived.Test.YtndacggailoogaaRows
import Derived.Test.YtndacggailoogaaTrieWalkC
import Derived.Test.YtndacggailoogaaSxR
import Derived.WalkKit
import Derived.ProofKit
import Derived.OpenShut
import Derived.ShutString
import Derived.ChangeOld
import Derived.Below
import Derived.SizedLaws
namespace Go.Proofs.Ytndacggailoogaa.trieTwo
open Go.ChangeShapes Go.WideShapes Go.ChangeAt Go.RowKit Go.Proofs.Ytndacggailoogaa.Sx Go.Proofs.Ytndacggailoogaa.Tri
open Go.ChangeMaps (open_string shut_string)
set_option linter.unusedVariables false
theorem own : ownKnob Try.prog.godebug = none := by kernel_rfl
theorem laid : laidOutB Try.prog = true := by kernel_rfl
set_option maxRecDepth 100000 in
theorem lifted (os : Os) (started : os.Started) (H : Type) (enc : TypeId × Value → H) :
    ReturnsInHanded {} Try.checked os 3 .any (Rows.trieTwoSpec.pre6 enc Try.prog Try.f3 Rows.trieTwoRow.domain false) (Rows.trieTwoSpec.post enc Try.prog Try.f3 false true false false) := by
  refine returnsInHanded_of_change_sized (C := Try.checked) own started (by kernel_rfl) Try.func3
    (ChangeSpec.witness6 (enc := enc) (C := Try.checked) false ⟨#[], #[.int .u32 0, .int .u8 0, .int .u32 0, .int .u8 0], []⟩ 3 (by kernel_rfl) (by kernel_rfl) (by kernel_rfl) (by kernel_rfl)) ?_
  intro W base args ds gs before hval0 hW hcnd hsz0 _
  have hval : ∀ (j : Nat) t v, Try.f3.params[j]? = some t → args[j]? = some v → Value.okWide Try.prog W .any base t v := hval0
  have hW' := hW
  obtain ⟨p, q, hA0, hV, rfl, hfz, hnd⟩ := hW
  have hA : DataW.TrodAll enc Try.prog W 0 (fun _ => true) true Try.f3.params.toList args.toList ds p := hA0
  have hsz : (DataW.weightsEach Try.prog (Try.f3.params.toList ++ Rows.trieTwoSpec.plain.varTypes Try.prog) (ds ++ gs)).all (· ≤ reachBytes) = true := hsz0
  rw [Try.params3] at hA hval hsz
  obtain ⟨v0, vs0, d0, ds0, p0, q0, hargs, rfl, rfl, h0, r0⟩ := trodAll_cons hA
  obtain ⟨v1, vs1, d1, ds1, p1, q1, rfl, rfl, rfl, h1, r1⟩ := trodAll_cons r0
  obtain ⟨v2, vs2, d2, ds2, p2, q2, rfl, rfl, rfl, h2, r2⟩ := trodAll_cons r1
  obtain ⟨v3, vs3, d3, ds3, p3, q3, rfl, rfl, rfl, h3, r3⟩ := trodAll_cons r2
  obtain ⟨rfl, rfl, rfl⟩ := trodAll_nil r3
  obtain rfl : args = #[v0, v1, v2, v3] := by cases args; simp_all
  obtain ⟨rfl, rfl⟩ := trodVars_none hV
  obtain ⟨a, rfl, _, _, wa⟩ := open_int Try.underlying22 (hval 0 22 v0 rfl rfl) h0
  have x0 : RepL Try.prog u (outer W fun _ => False) [.int .u32 a] [.int .u32 a] := .int _ a .nil
  obtain ⟨b, rfl, _, _, wb⟩ := open_int Try.underlying5 (hval 1 5 v1 rfl rfl) h1
  have x1 : RepL Try.prog u (outer W fun _ => False) [.int .u8 b] [.int .u8 b] := .int _ b .nil
  obtain ⟨c, rfl, _, _, wc⟩ := open_int Try.underlying22 (hval 2 22 v2 rfl rfl) h2
  have x2 : RepL Try.prog u (outer W fun _ => False) [.int .u32 c] [.int .u32 c] := .int _ c .nil
  obtain ⟨m, rfl, _, _, wm⟩ := open_int Try.underlying5 (hval 3 5 v3 rfl rfl) h3
  have x3 : RepL Try.prog u (outer W fun _ => False) [.int .u8 m] [.int .u8 m] := .int _ m .nil
  have hx : RepL Try.prog u (outer W fun _ => False) [.int .u32 a, .int .u8 b, .int .u32 c, .int .u8 m] [.int .u32 a, .int .u8 b, .int .u32 c, .int .u8 m] := (RepL.cons Try.prog u x0 (RepL.cons Try.prog u x1 (RepL.cons Try.prog u x2 x3)))
  have hu : (0 ≤ a ∧ a < 4294967296) ∧ 0 ≤ b ∧ (0 ≤ c ∧ c < 4294967296) ∧ 0 ≤ m := ⟨u32_wf wa, (u8_wf wb).1, u32_wf wc, (u8_wf wm).1⟩
  refine (said Try.prog u okLTwo (c := some ((0 ≤ a ∧ a < 4294967296) ∧ 0 ≤ b ∧ (0 ≤ c ∧ c < 4294967296) ∧ 0 ≤ m)) rfl hu hx).mono fun e W' ⟨he, bel⟩ => ?_
  subst he
  exact ⟨_, rfl, _, _, _, [], _, [], hW', trodAll_mk1 (shut_bool Try.underlying4 _), (trodAll_cons_mk (stays laid (by kernel_rfl) (of_decide_eq_true (by kernel_rfl)) h0 bel) (trodAll_cons_mk (stays laid (by kernel_rfl) (of_decide_eq_true (by kernel_rfl)) h1 bel) (trodAll_cons_mk (stays laid (by kernel_rfl) (of_decide_eq_true (by kernel_rfl)) h2 bel) (trodAll_cons_mk (stays laid (by kernel_rfl) (of_decide_eq_true (by kernel_rfl)) h3 bel) trodAll_mk0)))), rfl, bel.frame _, fun h => by cases h⟩
theorem over : Rows.trieTwoRow.holds Try.pinned (OpenSpec.ofChange Rows.trieTwoSpec) :=
  OpenClaim.holds_of_wide 3 Try.f3 rfl rfl rfl rfl rfl rfl rfl ⟨rfl, rfl, rfl, rfl, rfl⟩ rfl rfl rfl rfl rfl (by kernel_rfl) Try.func3 (by kernel_rfl)
    (of_decide_eq_true (by kernel_rfl)) (by unfold Func.isWrapper; first | (rw [if_pos (by decide +kernel)]; kernel_rfl) | (rw [if_neg (by decide +kernel)]; exact ⟨rfl, rfl⟩))
    (fun os started H enc _ => lifted os started H enc)
theorem proved : Rows.TrieTwoSaid := over
#print axioms proved
end Go.Proofs.Ytndacggailoogaa.trieTwo
namespace Go.Proofs.Ytndacggailoogaa
/-- The row, under a short name, for the claim. -/
theorem trieTwo_holds : Rows.TrieTwoSaid := trieTwo.proved
end Go.Proofs.Ytndacggailoogaa
