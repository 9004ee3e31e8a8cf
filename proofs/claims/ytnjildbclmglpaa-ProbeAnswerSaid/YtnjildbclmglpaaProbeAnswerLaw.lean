/- Only the one who was asked can answer, and only to what was asked: the law ProbeAnswer returns true and leaves its arguments as they were. -/
import Derived.Test.YtnjildbclmglpaaRows
import Derived.Test.YtnjildbclmglpaaProWalkF
import Derived.Test.YtnjildbclmglpaaProOpen
import Derived.Test.YtnjildbclmglpaaSxR
import Derived.WalkKit
import Derived.ProofKit
import Derived.OpenShut
import Derived.ShutString
import Derived.ChangeOld
import Derived.Below
import Derived.SizedLaws
namespace Go.Proofs.Ytnjildbclmglpaa.probeAnswer
open Go.ChangeShapes Go.WideShapes Go.ChangeAt Go.RowKit Go.Proofs.Ytnjildbclmglpaa.Sx Go.Proofs.Ytnjildbclmglpaa.Pro
open Go.ChangeMaps (open_string shut_string)
set_option linter.unusedVariables false
theorem own : ownKnob Try.prog.godebug = none := by kernel_rfl
theorem laid : laidOutB Try.prog = true := by kernel_rfl
set_option maxRecDepth 100000 in
theorem lifted (os : Os) (started : os.Started) (H : Type) (enc : TypeId × Value → H) :
    ReturnsInHanded {} Try.checked os 8 .any (Rows.probeAnswerSpec.pre6 enc Try.prog Try.f8 Rows.probeAnswerRow.domain false) (Rows.probeAnswerSpec.post enc Try.prog Try.f8 false true false false) := by
  refine returnsInHanded_of_change_sized (C := Try.checked) own started (by kernel_rfl) Try.func8
    (ChangeSpec.witness6 (enc := enc) (C := Try.checked) false ⟨#[], #[.int .u32 0, .int .u16 0, .int .u8 0, .int .u16 0, .bool false], []⟩ 8 (by kernel_rfl) (by kernel_rfl) (by kernel_rfl) (by kernel_rfl)) ?_
  intro W base args ds gs before hval0 hW hcnd hsz0 _
  have hval : ∀ (j : Nat) t v, Try.f8.params[j]? = some t → args[j]? = some v → Value.okWide Try.prog W .any base t v := hval0
  have hW' := hW
  obtain ⟨p, q, hA0, hV, rfl, hfz, hnd⟩ := hW
  have hA : DataW.TrodAll enc Try.prog W 0 (fun _ => true) true Try.f8.params.toList args.toList ds p := hA0
  have hsz : (DataW.weightsEach Try.prog (Try.f8.params.toList ++ Rows.probeAnswerSpec.plain.varTypes Try.prog) (ds ++ gs)).all (· ≤ reachBytes) = true := hsz0
  rw [Try.params8] at hA hval hsz
  obtain ⟨v0, vs0, d0, ds0, p0, q0, hargs, rfl, rfl, h0, r0⟩ := trodAll_cons hA
  obtain ⟨v1, vs1, d1, ds1, p1, q1, rfl, rfl, rfl, h1, r1⟩ := trodAll_cons r0
  obtain ⟨v2, vs2, d2, ds2, p2, q2, rfl, rfl, rfl, h2, r2⟩ := trodAll_cons r1
  obtain ⟨v3, vs3, d3, ds3, p3, q3, rfl, rfl, rfl, h3, r3⟩ := trodAll_cons r2
  obtain ⟨v4, vs4, d4, ds4, p4, q4, rfl, rfl, rfl, h4, r4⟩ := trodAll_cons r3
  obtain ⟨rfl, rfl, rfl⟩ := trodAll_nil r4
  obtain rfl : args = #[v0, v1, v2, v3, v4] := by cases args; simp_all
  obtain ⟨rfl, rfl⟩ := trodVars_none hV
  obtain ⟨a, rfl, _, _, wa⟩ := open_int Try.underlying26 (hval 0 26 v0 rfl rfl) h0
  have x0 : RepL Try.prog u (outer W fun _ => False) [.int .u32 a] [.int .u32 a] := .int _ a .nil
  obtain ⟨s, rfl, _, _, ws⟩ := open_int Try.underlying49 (hval 1 49 v1 rfl rfl) h1
  have x1 : RepL Try.prog u (outer W fun _ => False) [.int .u16 s] [.int .u16 s] := .int _ s .nil
  obtain ⟨z, rfl, _, _, wz⟩ := open_int Try.underlying5 (hval 2 5 v2 rfl rfl) h2
  have x2 : RepL Try.prog u (outer W fun _ => False) [.int .u8 z] [.int .u8 z] := .int _ z .nil
  obtain ⟨o, rfl, _, _, wo⟩ := open_int Try.underlying49 (hval 3 49 v3 rfl rfl) h3
  have x3 : RepL Try.prog u (outer W fun _ => False) [.int .u16 o] [.int .u16 o] := .int _ o .nil
  obtain ⟨an, rfl, _, _⟩ := open_bool Try.underlying4 (hval 4 4 v4 rfl rfl) h4
  have x4 : RepL Try.prog u (outer W fun _ => False) [.bool an] [.bool an] := .bool an .nil
  have hx : RepL Try.prog u (outer W fun _ => False) [.int .u32 a, .int .u16 s, .int .u8 z, .int .u16 o, .bool an] [.int .u32 a, .int .u16 s, .int .u8 z, .int .u16 o, .bool an] := (RepL.cons Try.prog u x0 (RepL.cons Try.prog u x1 (RepL.cons Try.prog u x2 (RepL.cons Try.prog u x3 x4))))
  have hu : answerOk a s z o := ⟨u32_wf wa, (u8_wf wz).1, u16_wf ws, u16_wf wo⟩
  refine (said Try.prog u okLAnswer (c := some (answerOk a s z o)) rfl hu hx).mono fun e W' ⟨he, bel⟩ => ?_
  subst he
  exact ⟨_, rfl, _, _, _, [], _, [], hW', trodAll_mk1 (shut_bool Try.underlying4 _), (trodAll_cons_mk (stays laid (by kernel_rfl) (of_decide_eq_true (by kernel_rfl)) h0 bel) (trodAll_cons_mk (stays laid (by kernel_rfl) (of_decide_eq_true (by kernel_rfl)) h1 bel) (trodAll_cons_mk (stays laid (by kernel_rfl) (of_decide_eq_true (by kernel_rfl)) h2 bel) (trodAll_cons_mk (stays laid (by kernel_rfl) (of_decide_eq_true (by kernel_rfl)) h3 bel) (trodAll_cons_mk (stays laid (by kernel_rfl) (of_decide_eq_true (by kernel_rfl)) h4 bel) trodAll_mk0))))), rfl, bel.frame _, fun h => by cases h⟩
theorem over : Rows.probeAnswerRow.holds Try.pinned (OpenSpec.ofChange Rows.probeAnswerSpec) :=
  OpenClaim.holds_of_wide 8 Try.f8 rfl rfl rfl rfl rfl rfl rfl ⟨rfl, rfl, rfl, rfl, rfl⟩ rfl rfl rfl rfl rfl (by kernel_rfl) Try.func8 (by kernel_rfl)
    (of_decide_eq_true (by kernel_rfl)) (by unfold Func.isWrapper; first | (rw [if_pos (by decide +kernel)]; kernel_rfl) | (rw [if_neg (by decide +kernel)]; exact ⟨rfl, rfl⟩))
    (fun os started H enc _ => lifted os started H enc)
theorem proved : Rows.ProbeAnswerSaid := over
#print axioms proved
end Go.Proofs.Ytnjildbclmglpaa.probeAnswer
namespace Go.Proofs.Ytnjildbclmglpaa
/-- The row, under a short name, for the claim. -/
theorem probeAnswer_holds : Rows.ProbeAnswerSaid := probeAnswer.proved
end Go.Proofs.Ytnjildbclmglpaa
