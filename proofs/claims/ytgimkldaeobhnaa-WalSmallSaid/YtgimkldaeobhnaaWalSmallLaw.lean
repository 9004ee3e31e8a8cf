/- A disk that is too small, or down, has no log: the law WalSmall returns true and leaves its arguments as they were. -/
import Derived.Test.YtgimkldaeobhnaaRows
import Derived.Test.YtgimkldaeobhnaaWalWalkG
import Derived.Test.YtgimkldaeobhnaaSxR
import Derived.WalkKit
import Derived.ProofKit
import Derived.OpenShut
import Derived.ShutString
import Derived.ChangeOld
import Derived.Below
import Derived.SizedLaws
namespace Go.Proofs.Ytgimkldaeobhnaa.walSmall
open Go.ChangeShapes Go.WideShapes Go.ChangeAt Go.RowKit Go.Proofs.Ytgimkldaeobhnaa.Sx Go.Proofs.Ytgimkldaeobhnaa.Dsk
open Go.ChangeMaps (open_string shut_string)
set_option linter.unusedVariables false
theorem own : ownKnob Try.prog.godebug = none := by kernel_rfl
theorem laid : laidOutB Try.prog = true := by kernel_rfl
set_option maxRecDepth 100000 in
theorem lifted (os : Os) (started : os.Started) (H : Type) (enc : TypeId × Value → H) :
    ReturnsInHanded {} Try.checked os 3 .any (Rows.walSmallSpec.pre6 enc Try.prog Try.f3 Rows.walSmallRow.domain false) (Rows.walSmallSpec.post enc Try.prog Try.f3 false true false false) := by
  refine returnsInHanded_of_change_sized (C := Try.checked) own started (by kernel_rfl) Try.func3
    (ChangeSpec.witness6 (enc := enc) (C := Try.checked) false ⟨#[], #[.int .i64 0, .slice none 0 0], []⟩ 3 (by kernel_rfl) (by kernel_rfl) (by kernel_rfl) (by kernel_rfl)) ?_
  intro W base args ds gs before hval0 hW hcnd hsz0 _
  have hval : ∀ (j : Nat) t v, Try.f3.params[j]? = some t → args[j]? = some v → Value.okWide Try.prog W .any base t v := hval0
  have hW' := hW
  obtain ⟨p, q, hA0, hV, rfl, hfz, hnd⟩ := hW
  have hA : DataW.TrodAll enc Try.prog W 0 (fun _ => true) true Try.f3.params.toList args.toList ds p := hA0
  have hsz : (DataW.weightsEach Try.prog (Try.f3.params.toList ++ Rows.walSmallSpec.plain.varTypes Try.prog) (ds ++ gs)).all (· ≤ reachBytes) = true := hsz0
  rw [Try.params3] at hA hval hsz
  obtain ⟨v0, vs0, d0, ds0, p0, q0, hargs, rfl, rfl, h0, r0⟩ := trodAll_cons hA
  obtain ⟨v1, vs1, d1, ds1, p1, q1, rfl, rfl, rfl, h1, r1⟩ := trodAll_cons r0
  obtain ⟨rfl, rfl, rfl⟩ := trodAll_nil r1
  obtain rfl : args = #[v0, v1] := by cases args; simp_all
  obtain ⟨rfl, rfl⟩ := trodVars_none hV
  obtain ⟨s, rfl, _, _, ws⟩ := open_int Try.underlying3 (hval 0 3 v0 rfl rfl) h0
  have x0 : RepL Try.prog u (outer W fun _ => False) [.int .i64 s] [.int .i64 s] := .int _ s .nil
  obtain ⟨bs, ubs, lbs, x1⟩ := open_bytes Try.prog u (T := 5) Try.underlying22 Try.underlying5 (by kernel_rfl) (fun n => n) (fun n => rfl) (hval 1 22 v1 rfl rfl) h1
  have zbs := lbs.2 (reach_of Try.prog hsz (j := 1) rfl rfl) (by kernel_rfl)
  have x1 : RepL Try.prog u (outer W fun _ => False) [SV.csl (A := Dsk.A) 5 bs] [v1] := (congrArg (fun z : List Int => RepL Try.prog u (outer W fun _ => False) [SV.csl (A := Dsk.A) 5 z] [v1]) (List.map_id' bs)).mp x1
  have hx : RepL Try.prog u (outer W fun _ => False) [.int .i64 s, .csl 5 bs] [.int .i64 s, v1] := (RepL.cons Try.prog u x0 x1)
  have hu : lenOk (α := Int) bs ∧ bytesOk bs := ⟨(show bs.length < 9223372036854775808 by have hml : maxLen = 9223372036854775807 := rfl; have := lbs.1; omega), ubs⟩
  refine (said Try.prog u okLSmall (c := some (lenOk (α := Int) bs ∧ bytesOk bs)) rfl hu hx).mono fun e W' ⟨he, bel⟩ => ?_
  subst he
  exact ⟨_, rfl, _, _, _, [], _, [], hW', trodAll_mk1 (shut_bool Try.underlying4 _), (trodAll_cons_mk (stays laid (by kernel_rfl) (of_decide_eq_true (by kernel_rfl)) h0 bel) (trodAll_cons_mk (stays laid (by kernel_rfl) (of_decide_eq_true (by kernel_rfl)) h1 bel) trodAll_mk0)), rfl, bel.frame _, fun h => by cases h⟩
theorem over : Rows.walSmallRow.holds Try.pinned (OpenSpec.ofChange Rows.walSmallSpec) :=
  OpenClaim.holds_of_wide 3 Try.f3 rfl rfl rfl rfl rfl rfl rfl ⟨rfl, rfl, rfl, rfl, rfl⟩ rfl rfl rfl rfl rfl (by kernel_rfl) Try.func3 (by kernel_rfl)
    (of_decide_eq_true (by kernel_rfl)) (by unfold Func.isWrapper; first | (rw [if_pos (by decide +kernel)]; kernel_rfl) | (rw [if_neg (by decide +kernel)]; exact ⟨rfl, rfl⟩))
    (fun os started H enc _ => lifted os started H enc)
theorem proved : Rows.WalSmallSaid := over
#print axioms proved
end Go.Proofs.Ytgimkldaeobhnaa.walSmall
namespace Go.Proofs.Ytgimkldaeobhnaa
/-- The row, under a short name, for the claim. -/
theorem walSmall_holds : Rows.WalSmallSaid := walSmall.proved
end Go.Proofs.Ytgimkldaeobhnaa
