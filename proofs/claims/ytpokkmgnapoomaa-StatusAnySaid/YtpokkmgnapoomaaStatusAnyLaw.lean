/- What an address stands as is what the document says, for any numbers: the law StatusAny returns true and leaves its arguments as they were. -/
import Derived.Test.YtpokkmgnapoomaaRows
import Derived.Test.YtpokkmgnapoomaaStatWalkD
import Derived.Test.YtpokkmgnapoomaaStatOpen
import Derived.Test.YtpokkmgnapoomaaSxR
import Derived.WalkKit
import Derived.ProofKit
import Derived.OpenShut
import Derived.ShutString
import Derived.ChangeOld
import Derived.Below
import Derived.SizedLaws
namespace Go.Proofs.Ytpokkmgnapoomaa.statusAny
open Go.ChangeShapes Go.WideShapes Go.ChangeAt Go.RowKit Go.Proofs.Ytpokkmgnapoomaa.Sx Go.Proofs.Ytpokkmgnapoomaa.Stat
open Go.ChangeMaps (open_string shut_string)
set_option linter.unusedVariables false
theorem own : ownKnob Try.prog.godebug = none := by kernel_rfl
theorem laid : laidOutB Try.prog = true := by kernel_rfl
set_option maxRecDepth 100000 in
theorem lifted (os : Os) (started : os.Started) (H : Type) (enc : TypeId × Value → H) :
    ReturnsInHanded {} Try.checked os 4 .any (Rows.statusAnySpec.pre6 enc Try.prog Try.f4 Rows.statusAnyRow.domain false) (Rows.statusAnySpec.post enc Try.prog Try.f4 false true false false) := by
  refine returnsInHanded_of_change_sized (C := Try.checked) own started (by kernel_rfl) Try.func4
    (ChangeSpec.witness6 (enc := enc) (C := Try.checked) false ⟨#[], #[.agg #[.int .i64 0, .int .i64 0, .int .i64 0, .int .i64 0, .int .i64 0, .int .i64 0, .int .i64 0, .int .i64 0, .int .i64 0], .agg #[.int .u32 0, .string ⟨#[]⟩, .int .u8 0, .int .u8 0, .int .u8 0, .int .u8 0, .int .u8 0, .int .u8 0], .slice none 0 0, .int .i64 0, .bool false], []⟩ 4 (by kernel_rfl) (by kernel_rfl) (by kernel_rfl) (by kernel_rfl)) ?_
  intro W base args ds gs before hval0 hW hcnd hsz0 _
  have hval : ∀ (j : Nat) t v, Try.f4.params[j]? = some t → args[j]? = some v → Value.okWide Try.prog W .any base t v := hval0
  have hW' := hW
  obtain ⟨p, q, hA0, hV, rfl, hfz, hnd⟩ := hW
  have hA : DataW.TrodAll enc Try.prog W 0 (fun _ => true) true Try.f4.params.toList args.toList ds p := hA0
  have hsz : (DataW.weightsEach Try.prog (Try.f4.params.toList ++ Rows.statusAnySpec.plain.varTypes Try.prog) (ds ++ gs)).all (· ≤ reachBytes) = true := hsz0
  rw [Try.params4] at hA hval hsz
  obtain ⟨v0, vs0, d0, ds0, p0, q0, hargs, rfl, rfl, h0, r0⟩ := trodAll_cons hA
  obtain ⟨v1, vs1, d1, ds1, p1, q1, rfl, rfl, rfl, h1, r1⟩ := trodAll_cons r0
  obtain ⟨v2, vs2, d2, ds2, p2, q2, rfl, rfl, rfl, h2, r2⟩ := trodAll_cons r1
  obtain ⟨v3, vs3, d3, ds3, p3, q3, rfl, rfl, rfl, h3, r3⟩ := trodAll_cons r2
  obtain ⟨v4, vs4, d4, ds4, p4, q4, rfl, rfl, rfl, h4, r4⟩ := trodAll_cons r3
  obtain ⟨rfl, rfl, rfl⟩ := trodAll_nil r4
  obtain rfl : args = #[v0, v1, v2, v3, v4] := by cases args; simp_all
  obtain ⟨rfl, rfl⟩ := trodVars_none hV
  obtain ⟨cs0, rfl, l0⟩ := open_cells (L := [.int .i64, .int .i64, .int .i64, .int .i64, .int .i64, .int .i64, .int .i64, .int .i64, .int .i64]) Try.underlying27 (by kernel_rfl) (hval 0 27 v0 rfl rfl) h0
  obtain ⟨p0, _, rfl, wp0, l0s1⟩ := l0.int
  obtain ⟨p1, _, rfl, wp1, l0s2⟩ := l0s1.int
  obtain ⟨p2, _, rfl, wp2, l0s3⟩ := l0s2.int
  obtain ⟨p3, _, rfl, wp3, l0s4⟩ := l0s3.int
  obtain ⟨p4, _, rfl, wp4, l0s5⟩ := l0s4.int
  obtain ⟨p5, _, rfl, wp5, l0s6⟩ := l0s5.int
  obtain ⟨p6, _, rfl, wp6, l0s7⟩ := l0s6.int
  obtain ⟨p7, _, rfl, wp7, l0s8⟩ := l0s7.int
  obtain ⟨p8, _, rfl, wp8, l0s9⟩ := l0s8.int
  obtain rfl := l0s9.done
  have x0 : RepL Try.prog u (outer W fun _ => False) [.agg [.int .i64 p0, .int .i64 p1, .int .i64 p2, .int .i64 p3, .int .i64 p4, .int .i64 p5, .int .i64 p6, .int .i64 p7, .int .i64 p8]] [.agg ⟨[.int .i64 p0, .int .i64 p1, .int .i64 p2, .int .i64 p3, .int .i64 p4, .int .i64 p5, .int .i64 p6, .int .i64 p7, .int .i64 p8]⟩] := .agg _ _ (.int _ p0 (.int _ p1 (.int _ p2 (.int _ p3 (.int _ p4 (.int _ p5 (.int _ p6 (.int _ p7 (.int _ p8 .nil))))))))) .nil
  obtain ⟨cs1, rfl, l1⟩ := open_cells (L := [.int .u32, .str, .int .u8, .int .u8, .int .u8, .int .u8, .int .u8, .int .u8]) Try.underlying38 (by kernel_rfl) (hval 1 38 v1 rfl rfl) h1
  obtain ⟨o0, _, rfl, wo0, l1s1⟩ := l1.int
  obtain ⟨o1, _, rfl, wo1, l1s2⟩ := l1s1.str
  obtain ⟨o2, _, rfl, wo2, l1s3⟩ := l1s2.int
  obtain ⟨o3, _, rfl, wo3, l1s4⟩ := l1s3.int
  obtain ⟨o4, _, rfl, wo4, l1s5⟩ := l1s4.int
  obtain ⟨o5, _, rfl, wo5, l1s6⟩ := l1s5.int
  obtain ⟨o6, _, rfl, wo6, l1s7⟩ := l1s6.int
  obtain ⟨o7, _, rfl, wo7, l1s8⟩ := l1s7.int
  obtain rfl := l1s8.done
  have x1 : RepL Try.prog u (outer W fun _ => False) [.agg [.int .u32 o0, .str o1, .int .u8 o2, .int .u8 o3, .int .u8 o4, .int .u8 o5, .int .u8 o6, .int .u8 o7]] [.agg ⟨[.int .u32 o0, .string o1, .int .u8 o2, .int .u8 o3, .int .u8 o4, .int .u8 o5, .int .u8 o6, .int .u8 o7]⟩] := .agg _ _ (.int _ o0 (.str o1 (.int _ o2 (.int _ o3 (.int _ o4 (.int _ o5 (.int _ o6 (.int _ o7 .nil)))))))) .nil
  obtain ⟨ns, uns, lns, x2⟩ := open_rows Try.prog u (T := 48) Try.underlying29 (of_decide_eq_true (by kernel_rfl)) (by kernel_rfl) openSight (hval 2 29 v2 rfl rfl) h2
  have zns := lns.2 (reach_of Try.prog hsz (j := 2) rfl rfl)
  obtain ⟨nw, rfl, _, _, wnw⟩ := open_int Try.underlying3 (hval 3 3 v3 rfl rfl) h3
  have x3 : RepL Try.prog u (outer W fun _ => False) [.int .i64 nw] [.int .i64 nw] := .int _ nw .nil
  obtain ⟨hd, rfl, _, _⟩ := open_bool Try.underlying4 (hval 4 4 v4 rfl rfl) h4
  have x4 : RepL Try.prog u (outer W fun _ => False) [.bool hd] [.bool hd] := .bool hd .nil
  have hx : RepL Try.prog u (outer W fun _ => False) [.agg [.int .i64 p0, .int .i64 p1, .int .i64 p2, .int .i64 p3, .int .i64 p4, .int .i64 p5, .int .i64 p6, .int .i64 p7, .int .i64 p8], .agg [.int .u32 o0, .str o1, .int .u8 o2, .int .u8 o3, .int .u8 o4, .int .u8 o5, .int .u8 o6, .int .u8 o7], .csl 48 ns, .int .i64 nw, .bool hd] [.agg ⟨[.int .i64 p0, .int .i64 p1, .int .i64 p2, .int .i64 p3, .int .i64 p4, .int .i64 p5, .int .i64 p6, .int .i64 p7, .int .i64 p8]⟩, .agg ⟨[.int .u32 o0, .string o1, .int .u8 o2, .int .u8 o3, .int .u8 o4, .int .u8 o5, .int .u8 o6, .int .u8 o7]⟩, v2, .int .i64 nw, .bool hd] := (RepL.cons Try.prog u x0 (RepL.cons Try.prog u x1 (RepL.cons Try.prog u x2 (RepL.cons Try.prog u x3 x4))))
  have hu : p2 < 9223372036854775808 := (i64_wf wp2).2
  refine (said Try.prog u okStatAny (c := some (p2 < 9223372036854775808)) rfl hu hx).mono fun e W' ⟨he, bel⟩ => ?_
  subst he
  exact ⟨_, rfl, _, _, _, [], _, [], hW', trodAll_mk1 (shut_bool Try.underlying4 _), (trodAll_cons_mk (stays laid (by kernel_rfl) (of_decide_eq_true (by kernel_rfl)) h0 bel) (trodAll_cons_mk (stays laid (by kernel_rfl) (of_decide_eq_true (by kernel_rfl)) h1 bel) (trodAll_cons_mk (stays laid (by kernel_rfl) (of_decide_eq_true (by kernel_rfl)) h2 bel) (trodAll_cons_mk (stays laid (by kernel_rfl) (of_decide_eq_true (by kernel_rfl)) h3 bel) (trodAll_cons_mk (stays laid (by kernel_rfl) (of_decide_eq_true (by kernel_rfl)) h4 bel) trodAll_mk0))))), rfl, bel.frame _, fun h => by cases h⟩
theorem over : Rows.statusAnyRow.holds Try.pinned (OpenSpec.ofChange Rows.statusAnySpec) :=
  OpenClaim.holds_of_wide 4 Try.f4 rfl rfl rfl rfl rfl rfl rfl ⟨rfl, rfl, rfl, rfl, rfl⟩ rfl rfl rfl rfl rfl (by kernel_rfl) Try.func4 (by kernel_rfl)
    (of_decide_eq_true (by kernel_rfl)) (by unfold Func.isWrapper; first | (rw [if_pos (by decide +kernel)]; kernel_rfl) | (rw [if_neg (by decide +kernel)]; exact ⟨rfl, rfl⟩))
    (fun os started H enc _ => lifted os started H enc)
theorem proved : Rows.StatusAnySaid := over
#print axioms proved
end Go.Proofs.Ytpokkmgnapoomaa.statusAny
namespace Go.Proofs.Ytpokkmgnapoomaa
/-- The row, under a short name, for the claim. -/
theorem statusAny_holds : Rows.StatusAnySaid := statusAny.proved
end Go.Proofs.Ytpokkmgnapoomaa
