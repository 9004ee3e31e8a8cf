/- What stands on the disk is what the document says: the law WalSectors returns true and leaves its arguments as they were. -/
import Derived.Test.YtgimkldaeobhnaaRows
import Derived.Test.YtgimkldaeobhnaaWalWalkL
import Derived.Test.YtgimkldaeobhnaaWalOpen
import Derived.Test.YtgimkldaeobhnaaSxR
import Derived.WalkKit
import Derived.ProofKit
import Derived.OpenShut
import Derived.ShutString
import Derived.ChangeOld
import Derived.Below
import Derived.SizedLaws
namespace Go.Proofs.Ytgimkldaeobhnaa.walSectors
open Go.ChangeShapes Go.WideShapes Go.ChangeAt Go.RowKit Go.Proofs.Ytgimkldaeobhnaa.Sx Go.Proofs.Ytgimkldaeobhnaa.Dsk
open Go.ChangeMaps (open_string shut_string)
set_option linter.unusedVariables false
theorem own : ownKnob Try.prog.godebug = none := by kernel_rfl
theorem laid : laidOutB Try.prog = true := by kernel_rfl
set_option maxRecDepth 100000 in
theorem lifted (os : Os) (started : os.Started) (H : Type) (enc : TypeId × Value → H) :
    ReturnsInHanded {} Try.checked os 6 .any (Rows.walSectorsSpec.pre6 enc Try.prog Try.f6 Rows.walSectorsRow.domain false) (Rows.walSectorsSpec.post enc Try.prog Try.f6 false true false false) := by
  refine returnsInHanded_of_change_sized (C := Try.checked) own started (by kernel_rfl) Try.func6
    (ChangeSpec.witness6 (enc := enc) (C := Try.checked) false ⟨#[], #[.slice none 0 0, .slice none 0 0, .int .u8 0], []⟩ 6 (by kernel_rfl) (by kernel_rfl) (by kernel_rfl) (by kernel_rfl)) ?_
  intro W base args ds gs before hval0 hW hcnd hsz0 _
  have hval : ∀ (j : Nat) t v, Try.f6.params[j]? = some t → args[j]? = some v → Value.okWide Try.prog W .any base t v := hval0
  have hW' := hW
  obtain ⟨p, q, hA0, hV, rfl, hfz, hnd⟩ := hW
  have hA : DataW.TrodAll enc Try.prog W 0 (fun _ => true) true Try.f6.params.toList args.toList ds p := hA0
  have hsz : (DataW.weightsEach Try.prog (Try.f6.params.toList ++ Rows.walSectorsSpec.plain.varTypes Try.prog) (ds ++ gs)).all (· ≤ reachBytes) = true := hsz0
  rw [Try.params6] at hA hval hsz
  obtain ⟨v0, vs0, d0, ds0, p0, q0, hargs, rfl, rfl, h0, r0⟩ := trodAll_cons hA
  obtain ⟨v1, vs1, d1, ds1, p1, q1, rfl, rfl, rfl, h1, r1⟩ := trodAll_cons r0
  obtain ⟨v2, vs2, d2, ds2, p2, q2, rfl, rfl, rfl, h2, r2⟩ := trodAll_cons r1
  obtain ⟨rfl, rfl, rfl⟩ := trodAll_nil r2
  obtain rfl : args = #[v0, v1, v2] := by cases args; simp_all
  obtain ⟨rfl, rfl⟩ := trodVars_none hV
  obtain ⟨bs, ubs, lbs, x0⟩ := open_bytes Try.prog u (T := 5) Try.underlying22 Try.underlying5 (by kernel_rfl) (fun n => n) (fun n => rfl) (hval 0 22 v0 rfl rfl) h0
  have zbs := lbs.2 (reach_of Try.prog hsz (j := 0) rfl rfl) (by kernel_rfl)
  have x0 : RepL Try.prog u (outer W fun _ => False) [SV.csl (A := Dsk.A) 5 bs] [v0] := (congrArg (fun z : List Int => RepL Try.prog u (outer W fun _ => False) [SV.csl (A := Dsk.A) 5 z] [v0]) (List.map_id' bs)).mp x0
  obtain ⟨ms, ums, lms, x1⟩ := open_bytes Try.prog u (T := 5) Try.underlying22 Try.underlying5 (by kernel_rfl) (fun n => n) (fun n => rfl) (hval 1 22 v1 rfl rfl) h1
  have zms := lms.2 (reach_of Try.prog hsz (j := 1) rfl rfl) (by kernel_rfl)
  have x1 : RepL Try.prog u (outer W fun _ => False) [SV.csl (A := Dsk.A) 5 ms] [v1] := (congrArg (fun z : List Int => RepL Try.prog u (outer W fun _ => False) [SV.csl (A := Dsk.A) 5 z] [v1]) (List.map_id' ms)).mp x1
  obtain ⟨s, rfl, _, _, ws⟩ := open_int Try.underlying5 (hval 2 5 v2 rfl rfl) h2
  have x2 : RepL Try.prog u (outer W fun _ => False) [.int .u8 s] [.int .u8 s] := .int _ s .nil
  have hx : RepL Try.prog u (outer W fun _ => False) [.csl 5 bs, .csl 5 ms, .int .u8 s] [v0, v1, .int .u8 s] := (RepL.cons Try.prog u x0 (RepL.cons Try.prog u x1 x2))
  have hu : (lenOk (α := Int) bs ∧ bytesOk bs) ∧ (lenOk (α := Int) ms ∧ bytesOk ms) ∧ 0 ≤ s ∧ s < 256 := ⟨⟨(show bs.length < 9223372036854775808 by have hml : maxLen = 9223372036854775807 := rfl; have := lbs.1; omega), ubs⟩, ⟨(show ms.length < 9223372036854775808 by have hml : maxLen = 9223372036854775807 := rfl; have := lms.1; omega), ums⟩, u8_wf ws⟩
  refine (said Try.prog u okLSect (c := some ((lenOk (α := Int) bs ∧ bytesOk bs) ∧ (lenOk (α := Int) ms ∧ bytesOk ms) ∧ 0 ≤ s ∧ s < 256)) rfl hu hx).mono fun e W' ⟨he, bel⟩ => ?_
  subst he
  exact ⟨_, rfl, _, _, _, [], _, [], hW', trodAll_mk1 (shut_bool Try.underlying4 _), (trodAll_cons_mk (stays laid (by kernel_rfl) (of_decide_eq_true (by kernel_rfl)) h0 bel) (trodAll_cons_mk (stays laid (by kernel_rfl) (of_decide_eq_true (by kernel_rfl)) h1 bel) (trodAll_cons_mk (stays laid (by kernel_rfl) (of_decide_eq_true (by kernel_rfl)) h2 bel) trodAll_mk0))), rfl, bel.frame _, fun h => by cases h⟩
theorem over : Rows.walSectorsRow.holds Try.pinned (OpenSpec.ofChange Rows.walSectorsSpec) :=
  OpenClaim.holds_of_wide 6 Try.f6 rfl rfl rfl rfl rfl rfl rfl ⟨rfl, rfl, rfl, rfl, rfl⟩ rfl rfl rfl rfl rfl (by kernel_rfl) Try.func6 (by kernel_rfl)
    (of_decide_eq_true (by kernel_rfl)) (by unfold Func.isWrapper; first | (rw [if_pos (by decide +kernel)]; kernel_rfl) | (rw [if_neg (by decide +kernel)]; exact ⟨rfl, rfl⟩))
    (fun os started H enc _ => lifted os started H enc)
theorem proved : Rows.WalSectorsSaid := over
#print axioms proved
end Go.Proofs.Ytgimkldaeobhnaa.walSectors
namespace Go.Proofs.Ytgimkldaeobhnaa
/-- The row, under a short name, for the claim. -/
theorem walSectors_holds : Rows.WalSectorsSaid := walSectors.proved
end Go.Proofs.Ytgimkldaeobhnaa
