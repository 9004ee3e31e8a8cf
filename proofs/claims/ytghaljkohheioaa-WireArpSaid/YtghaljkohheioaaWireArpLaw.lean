/- A packet by ARP is written and read as the document says, and others are none: the law WireArp returns true and leaves its arguments as they were. -/
import Derived.Test.YtghaljkohheioaaRows
import Derived.Test.YtghaljkohheioaaWireWalkI
import Derived.Test.YtghaljkohheioaaSxR
import Derived.WalkKit
import Derived.ProofKit
import Derived.OpenShut
import Derived.ShutString
import Derived.ChangeOld
import Derived.Below
import Derived.SizedLaws
namespace Go.Proofs.Ytghaljkohheioaa.wireArp
open Go.ChangeShapes Go.WideShapes Go.ChangeAt Go.RowKit Go.Proofs.Ytghaljkohheioaa.Sx Go.Proofs.Ytghaljkohheioaa.Wire
open Go.ChangeMaps (open_string shut_string)
set_option linter.unusedVariables false
theorem own : ownKnob Try.prog.godebug = none := by kernel_rfl
theorem laid : laidOutB Try.prog = true := by kernel_rfl
set_option maxRecDepth 100000 in
theorem lifted (os : Os) (started : os.Started) (H : Type) (enc : TypeId × Value → H) :
    ReturnsInHanded {} Try.checked os 7 .any (Rows.wireArpSpec.pre6 enc Try.prog Try.f7 Rows.wireArpRow.domain false) (Rows.wireArpSpec.post enc Try.prog Try.f7 false true false false) := by
  refine returnsInHanded_of_change_sized (C := Try.checked) own started (by kernel_rfl) Try.func7
    (ChangeSpec.witness6 (enc := enc) (C := Try.checked) false ⟨#[], #[.agg #[.bool false, .int .u32 0, .int .u32 0, .int .u8 0, .int .u8 0, .int .u8 0, .int .u8 0, .int .u8 0, .int .u8 0, .int .i64 0, .int .i64 0], .int .u8 0, .int .u8 0, .slice none 0 0], []⟩ 7 (by kernel_rfl) (by kernel_rfl) (by kernel_rfl) (by kernel_rfl)) ?_
  intro W base args ds gs before hval0 hW hcnd hsz0 _
  have hval : ∀ (j : Nat) t v, Try.f7.params[j]? = some t → args[j]? = some v → Value.okWide Try.prog W .any base t v := hval0
  have hW' := hW
  obtain ⟨p, q, hA0, hV, rfl, hfz, hnd⟩ := hW
  have hA : DataW.TrodAll enc Try.prog W 0 (fun _ => true) true Try.f7.params.toList args.toList ds p := hA0
  have hsz : (DataW.weightsEach Try.prog (Try.f7.params.toList ++ Rows.wireArpSpec.plain.varTypes Try.prog) (ds ++ gs)).all (· ≤ reachBytes) = true := hsz0
  rw [Try.params7] at hA hval hsz
  obtain ⟨v0, vs0, d0, ds0, p0, q0, hargs, rfl, rfl, h0, r0⟩ := trodAll_cons hA
  obtain ⟨v1, vs1, d1, ds1, p1, q1, rfl, rfl, rfl, h1, r1⟩ := trodAll_cons r0
  obtain ⟨v2, vs2, d2, ds2, p2, q2, rfl, rfl, rfl, h2, r2⟩ := trodAll_cons r1
  obtain ⟨v3, vs3, d3, ds3, p3, q3, rfl, rfl, rfl, h3, r3⟩ := trodAll_cons r2
  obtain ⟨rfl, rfl, rfl⟩ := trodAll_nil r3
  obtain rfl : args = #[v0, v1, v2, v3] := by cases args; simp_all
  obtain ⟨rfl, rfl⟩ := trodVars_none hV
  obtain ⟨cs0, rfl, l0⟩ := open_cells (L := [.bool, .int .u32, .int .u32, .int .u8, .int .u8, .int .u8, .int .u8, .int .u8, .int .u8, .int .i64, .int .i64]) Try.underlying27 (by kernel_rfl) (hval 0 27 v0 rfl rfl) h0
  obtain ⟨p0, _, rfl, l0s1⟩ := l0.bool
  obtain ⟨p1, _, rfl, wp1, l0s2⟩ := l0s1.int
  obtain ⟨p2, _, rfl, wp2, l0s3⟩ := l0s2.int
  obtain ⟨p3, _, rfl, wp3, l0s4⟩ := l0s3.int
  obtain ⟨p4, _, rfl, wp4, l0s5⟩ := l0s4.int
  obtain ⟨p5, _, rfl, wp5, l0s6⟩ := l0s5.int
  obtain ⟨p6, _, rfl, wp6, l0s7⟩ := l0s6.int
  obtain ⟨p7, _, rfl, wp7, l0s8⟩ := l0s7.int
  obtain ⟨p8, _, rfl, wp8, l0s9⟩ := l0s8.int
  obtain ⟨p9, _, rfl, wp9, l0s10⟩ := l0s9.int
  obtain ⟨p10, _, rfl, wp10, l0s11⟩ := l0s10.int
  obtain rfl := l0s11.done
  have x0 : RepL Try.prog u (outer W fun _ => False) [.agg [.bool p0, .int .u32 p1, .int .u32 p2, .int .u8 p3, .int .u8 p4, .int .u8 p5, .int .u8 p6, .int .u8 p7, .int .u8 p8, .int .i64 p9, .int .i64 p10]] [.agg ⟨[.bool p0, .int .u32 p1, .int .u32 p2, .int .u8 p3, .int .u8 p4, .int .u8 p5, .int .u8 p6, .int .u8 p7, .int .u8 p8, .int .i64 p9, .int .i64 p10]⟩] := .agg _ _ (.bool p0 (.int _ p1 (.int _ p2 (.int _ p3 (.int _ p4 (.int _ p5 (.int _ p6 (.int _ p7 (.int _ p8 (.int _ p9 (.int _ p10 .nil))))))))))) .nil
  obtain ⟨z, rfl, _, _, wz⟩ := open_int Try.underlying5 (hval 1 5 v1 rfl rfl) h1
  have x1 : RepL Try.prog u (outer W fun _ => False) [.int .u8 z] [.int .u8 z] := .int _ z .nil
  obtain ⟨y, rfl, _, _, wy⟩ := open_int Try.underlying5 (hval 2 5 v2 rfl rfl) h2
  have x2 : RepL Try.prog u (outer W fun _ => False) [.int .u8 y] [.int .u8 y] := .int _ y .nil
  obtain ⟨ns, uns, lns, x3⟩ := open_bytes Try.prog u (T := 5) Try.underlying29 Try.underlying5 (by kernel_rfl) (fun n => n) (fun n => rfl) (hval 3 29 v3 rfl rfl) h3
  have zns := lns.2 (reach_of Try.prog hsz (j := 3) rfl rfl) (by kernel_rfl)
  have x3 : RepL Try.prog u (outer W fun _ => False) [SV.csl (A := Wire.A) 5 ns] [v3] := (congrArg (fun z : List Int => RepL Try.prog u (outer W fun _ => False) [SV.csl (A := Wire.A) 5 z] [v3]) (List.map_id' ns)).mp x3
  have hx : RepL Try.prog u (outer W fun _ => False) [.agg [.bool p0, .int .u32 p1, .int .u32 p2, .int .u8 p3, .int .u8 p4, .int .u8 p5, .int .u8 p6, .int .u8 p7, .int .u8 p8, .int .i64 p9, .int .i64 p10], .int .u8 z, .int .u8 y, .csl 5 ns] [.agg ⟨[.bool p0, .int .u32 p1, .int .u32 p2, .int .u8 p3, .int .u8 p4, .int .u8 p5, .int .u8 p6, .int .u8 p7, .int .u8 p8, .int .i64 p9, .int .i64 p10]⟩, .int .u8 z, .int .u8 y, v3] := (RepL.cons Try.prog u x0 (RepL.cons Try.prog u x1 (RepL.cons Try.prog u x2 x3)))
  have hu : arpOk ns p1 p2 p3 p4 p5 p6 p7 p8 z y := ⟨show ns.length < 9223372036854775808 by have hrb : reachBytes = 140737488351232 := rfl; omega, uns, ⟨u32_wf wp1, u32_wf wp2⟩, macB_ok (u8_wf wp3) (u8_wf wp4) (u8_wf wp5) (u8_wf wp6) (u8_wf wp7) (u8_wf wp8), u8_wf wz, u8_wf wy⟩
  refine (said Try.prog u okWArp (c := some (arpOk ns p1 p2 p3 p4 p5 p6 p7 p8 z y)) rfl hu hx).mono fun e W' ⟨he, bel⟩ => ?_
  subst he
  exact ⟨_, rfl, _, _, _, [], _, [], hW', trodAll_mk1 (shut_bool Try.underlying4 _), (trodAll_cons_mk (stays laid (by kernel_rfl) (of_decide_eq_true (by kernel_rfl)) h0 bel) (trodAll_cons_mk (stays laid (by kernel_rfl) (of_decide_eq_true (by kernel_rfl)) h1 bel) (trodAll_cons_mk (stays laid (by kernel_rfl) (of_decide_eq_true (by kernel_rfl)) h2 bel) (trodAll_cons_mk (stays laid (by kernel_rfl) (of_decide_eq_true (by kernel_rfl)) h3 bel) trodAll_mk0)))), rfl, bel.frame _, fun h => by cases h⟩
theorem over : Rows.wireArpRow.holds Try.pinned (OpenSpec.ofChange Rows.wireArpSpec) :=
  OpenClaim.holds_of_wide 7 Try.f7 rfl rfl rfl rfl rfl rfl rfl ⟨rfl, rfl, rfl, rfl, rfl⟩ rfl rfl rfl rfl rfl (by kernel_rfl) Try.func7 (by kernel_rfl)
    (of_decide_eq_true (by kernel_rfl)) (by unfold Func.isWrapper; first | (rw [if_pos (by decide +kernel)]; kernel_rfl) | (rw [if_neg (by decide +kernel)]; exact ⟨rfl, rfl⟩))
    (fun os started H enc _ => lifted os started H enc)
theorem proved : Rows.WireArpSaid := over
#print axioms proved
end Go.Proofs.Ytghaljkohheioaa.wireArp
namespace Go.Proofs.Ytghaljkohheioaa
/-- The row, under a short name, for the claim. -/
theorem wireArp_holds : Rows.WireArpSaid := wireArp.proved
end Go.Proofs.Ytghaljkohheioaa
