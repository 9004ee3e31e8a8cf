/- What stands on the disk is what the document says: the law's walk. -/
import Derived.Test.YtgimkldaeobhnaaWalVcM
import Derived.Test.YtgimkldaeobhnaaWalWalkH
import Derived.Test.YtgimkldaeobhnaaWalMathM
namespace Go.Proofs.Ytgimkldaeobhnaa.Dsk
open Go Go.Proofs.Ytgimkldaeobhnaa.Sx

theorem sect_start {b more : List Int} {h : Int} (hh : 16 ≤ h) : Stands ((List.replicate h.toNat zeroS).set 0 (headS 1 2 [])) h (layF b more 0) := by
  refine ⟨by rw [List.length_set, List.length_replicate]; omega, fun i h0 h1 => ?_⟩
  rw [getS_set (by rw [List.length_replicate]; omega)]
  show _ = if i = 0 then headS 1 2 [] else zeroS
  by_cases hi : i = 0
  · rw [if_pos (by omega), if_pos hi]
  · rw [if_neg (by omega), if_neg hi]
    show (List.replicate h.toNat zeroS).getD i.toNat zeroS = zeroS
    rw [List.getD_eq_getElem?_getD, List.getElem?_replicate]
    split <;> rfl
set_option maxRecDepth 100000 in
set_option maxHeartbeats 8000000 in
theorem bodyLSect (b more : List Int) (s : Int) (h : (lenOk (α := Int) b ∧ bytesOk b) ∧ (lenOk (α := Int) more ∧ bytesOk more) ∧ 0 ≤ s ∧ s < 256) : BodyOk Try.prog u tab9 [103000, 103001, 104007, 105008, 106009, 107008] [(0, .inv (annSec b more s)), (2, .see 74 (annSec2 b more s)), (4, .inv (annSec3 b more s))] Try.f6 [.csl 5 b, .csl 5 more, .int .u8 s] (.bool true) := by
  constructor
  have eqn : bodyW Try.prog u tab9 [103000, 103001, 104007, 105008, 106009, 107008] (drawW Try.prog u tab9) (loopsBy u [(0, .inv (annSec b more s)), (2, .see 74 (annSec2 b more s)), (4, .inv (annSec3 b more s))]) Try.f6 [.csl 5 b, .csl 5 more, .int .u8 s] (.bool true) = vcLSect b more s := by kernel_rfl
  rw [eqn]
  unfold vcLSect
  obtain ⟨⟨hb0, hby⟩, ⟨hm0, hmy⟩, hs⟩ := h
  have hb0 : b.length < 9223372036854775808 := hb0
  have hm0 : more.length < 9223372036854775808 := hm0
  have mb : 0 ≤ mn (b.length : Int) 300 ∧ mn (b.length : Int) 300 ≤ (b.length : Int) := by unfold mn; split <;> omega
  have mm : 0 ≤ mn (more.length : Int) 300 ∧ mn (more.length : Int) 300 ≤ (more.length : Int) := by unfold mn; split <;> omega
  have hh := halfB_in hs
  have lb : (hdB b).length ≤ 300 := by have := take_len b 300 (by omega); unfold hdB; omega
  have lm : (hdB more).length ≤ 300 := by have := take_len more 300 (by omega); unfold hdB; omega
  have yb : bytesOk (hdB b) := take_bytes hby _
  have ym : bytesOk (hdB more) := take_bytes hmy _
  refine ⟨⟨by omega, mb.1, mb.2⟩, ⟨by omega, mm.1, mm.2⟩, fun v hv v1 hv1 => ⟨by decide, fun v2 hv2 => ?_⟩⟩
  obtain rfl : v = hdB more := hv
  obtain rfl : v1 = hdB b := hv1
  obtain rfl : v2 = halfB s := hv2
  have hn : IntKind.i64.wrap (2 * halfB s) = 2 * halfB s := wrap_i64_id (by omega)
  have hn1 : IntKind.i64.wrap (halfB s + 1) = halfB s + 1 := wrap_i64_id (by omega)
  rw [hn, hn1]
  have hlen : ((spOf (2 * halfB s)).kept.length : Int) = 2 * halfB s := by
    rw [of_len]
    unfold mx mn
    split <;> split <;> omega
  have hhalf : halfOf (spOf (2 * halfB s)) = halfB s := by
    have := (half_in (DkB.of (2 * halfB s)).1).1
    omega
  refine nm (spOf (2 * halfB s)) ?_
  rw [Dk.eta]
  obtain ⟨e0, hc, cm⟩ := open_new (n := 2 * halfB s) (by omega)
  refine ⟨fun ht => ⟨⟨⟨(DkB.of _).mono (by omega), DkY.of _⟩, ht⟩, nmL (openM (spOf (2 * halfB s))).1 ?_⟩, fun hf => absurd e0 (by simpa using hf)⟩
  rw [Dk.eta, Lg.eta]
  clear ht e0
  obtain ⟨s1, s2, s3, s4, S⟩ := sect_plain hc cm hhalf hlen hh.1 lb yb lm ym
  clear hc cm hhalf hlen
  generalize (openM (spOf (2 * halfB s))).1 = l1 at *
  refine ⟨fun hz => absurd hz (by decide), fun _ => ⟨s1, fun hx => ?_, fun _ => ⟨s3, nm (appendM (beginM l1 (hdB b)).1 (hdB more)).1.d ⟨fun hx => ?_, fun _ => ⟨⟨by omega, by omega, by omega, by omega⟩, (by decide : 1 ≤ 9223372036854775808), ⟨by omega, ?_⟩, ⟨(0, _, (appendM (beginM l1 (hdB b)).1 (hdB more)).1.d), ⟨Nat.zero_le 2, sect_start hh.1, S⟩, ⟨rfl, rfl, rfl, trivial, rfl, trivial, trivial, rfl, rfl⟩, rfl, ⟨trivial, trivial, rfl, rfl, rfl, rfl⟩, rfl, rfl, rfl⟩, fun g hg => ?_⟩⟩⟩⟩⟩
  · rw [s2] at hx
    exact absurd hx (by decide)
  · rw [s4] at hx
    exact absurd hx (by decide)
  · rw [List.length_replicate]
    omega
  clear s1 s2 s3 s4 S
  obtain ⟨hk2, hst, hS⟩ := hg
  refine ⟨fun hlt => ?_, fun hge => ?_⟩
  · have hlt : (g.1 : Int) < ((2 : Nat) : Int) := of_decide_eq_true hlt
    have hk : g.1 < 2 := by omega
    have hat := at_in lb lm hk
    have hrl := row_le lb lm g.1
    have hl1 : (g.2.1.length : Int) = halfB s := hst.1
    refine ⟨⟨by omega, hlt⟩, (show (rowAt (hdB b) (hdB more) g.1).length < 9223372036854775808 by omega), ⟨by omega, by omega⟩, ⟨(0, _, g.2.2), ⟨Nat.zero_le _, lay_start lb lm hh.1 hk hst, hS⟩, ⟨rfl, rfl, rfl, rfl, rfl, rfl, trivial, rfl, rfl, rfl, rfl, trivial, trivial, rfl⟩, rfl, ⟨trivial, trivial, rfl, rfl, rfl, rfl⟩, rfl, rfl, rfl⟩, fun g1 hg1 => ?_⟩
    obtain ⟨hi, hst1, hS1⟩ := hg1
    have hl2 : (g1.2.1.length : Int) = halfB s := hst1.1
    refine ⟨fun hl => ?_, fun hl => ?_⟩
    · have hl : (g1.1 : Int) < ((rowAt (hdB b) (hdB more) g.1).length : Int) := of_decide_eq_true hl
      have hl' : g1.1 < (rowAt (hdB b) (hdB more) g.1).length := by omega
      have hdm : 64 * (g1.1 / 64) + g1.1 % 64 = g1.1 := Nat.div_add_mod g1.1 64
      have hml : g1.1 % 64 < 64 := Nat.mod_lt _ (by decide)
      have hsn : (rowAt (hdB b) (hdB more) g.1).length ≤ 64 * secsN (rowAt (hdB b) (hdB more) g.1).length := by unfold secsN; omega
      have htd : (g1.1 : Int).tdiv 64 = ((g1.1 / 64 : Nat) : Int) := by
        rw [Int.tdiv_eq_ediv_of_nonneg (by omega)]
        omega
      have htm : (g1.1 : Int).tmod 64 = ((g1.1 % 64 : Nat) : Int) := by
        rw [Int.tmod_eq_emod_of_nonneg (by omega)]
        omega
      rw [htd, htm, wrap_i64_id (n := atAt (hdB b) (hdB more) g.1 + 1) (by omega), wrap_i64_id (n := ((g1.1 / 64 : Nat) : Int)) (by omega), wrap_i64_id (n := atAt (hdB b) (hdB more) g.1 + 1 + ((g1.1 / 64 : Nat) : Int)) (by omega)]
      refine ⟨by decide, by decide, ⟨by omega, hl⟩, ⟨by omega, by omega⟩, ⟨by omega, by omega⟩, ⟨(g1.1 + 1, _, g1.2.2), ⟨by show g1.1 + 1 ≤ _; omega, lay_byte lb lm hh.1 hk hl' hst1 (a := (atAt (hdB b) (hdB more) g.1 + 1 + ((g1.1 / 64 : Nat) : Int)).toNat) (by omega) ?_, hS1⟩, (by show (rowAt (hdB b) (hdB more) g.1).length - (g1.1 + 1) < (rowAt (hdB b) (hdB more) g.1).length - g1.1; omega), ⟨rfl, rfl, rfl, rfl, rfl, rfl, trivial, rfl, rfl, rfl, rfl, trivial, trivial, wrap_next hl (by omega)⟩, rfl, ⟨trivial, trivial, rfl, rfl, rfl, rfl⟩, rfl, rfl, rfl⟩⟩
      exact Sec.of_l ((List.length_set).trans (Sec.h _))
    · have hl : ¬ (g1.1 : Int) < ((rowAt (hdB b) (hdB more) g.1).length : Int) := of_decide_eq_false hl
      have he : g1.1 = (rowAt (hdB b) (hdB more) g.1).length := by omega
      rw [he] at hst1
      exact ⟨⟨by omega, (show ((rowAt (hdB b) (hdB more) g.1).length : Int) ≤ 1000000 by omega)⟩, ⟨(g.1 + 1, g1.2.1, g1.2.2), ⟨by show g.1 + 1 ≤ 2; omega, lay_end hst1, hS1⟩, (by show 2 - (g.1 + 1) < 2 - g.1; omega), ⟨rfl, rfl, rfl, trivial, rfl, trivial, trivial, rfl, wrap_next hlt (by omega)⟩, rfl, ⟨trivial, trivial, rfl, rfl, rfl, rfl⟩, rfl, rfl, rfl⟩⟩
  · have hge : ¬ (g.1 : Int) < ((2 : Nat) : Int) := of_decide_eq_false hge
    have he : g.1 = 2 := by omega
    rw [he, lay_two lb] at hst
    have hl1 : (g.2.1.length : Int) = halfB s := hst.1
    refine ⟨⟨(0, g.2.1, g.2.2), ⟨by show ((0 : Nat) : Int) ≤ halfB s; omega, hst, hS⟩, ⟨rfl, rfl, rfl, rfl, trivial, trivial, rfl⟩, ⟨trivial, trivial, rfl, rfl, rfl, rfl⟩, rfl, rfl, rfl⟩, fun g1 hg1 => ?_⟩
    obtain ⟨hi, hst1, hS1⟩ := hg1
    have hl2 : (g1.2.1.length : Int) = halfB s := hst1.1
    have hkl := hS1.len
    have hB : DkB g1.2.2 0 := DkB.still (by omega) hS1.still
    have hok : DkOk g1.2.2 := hB.ok (by omega)
    refine ⟨fun hl => ?_, fun hl => ?_⟩
    · have hl : (g1.1 : Int) < (g.2.1.length : Int) := of_decide_eq_true hl
      have hr : 0 ≤ (g1.1 : Int) ∧ (g1.1 : Int) < g1.2.2.kept.length := by omega
      have hcn : readS g1.2.2 (g1.1 : Int) = getS g1.2.1 g1.1 := (readS_cont hS1.up hr).trans ((hS1.first _ (by omega) (by omega)).trans (hst1.2 (g1.1 : Int) (by omega) (by omega)).symm)
      refine ⟨hok, rfl, fun _ => Nat.le_of_eq (Sec.h _).symm, fun _ => ⟨by omega, by omega⟩, fun h7 => ?_, fun _ => ⟨(g1.1 + 1, g1.2.1, g1.2.2), ⟨by show ((g1.1 + 1 : Nat) : Int) ≤ halfB s; omega, hst1, hS1⟩, (by show (halfB s - ((g1.1 + 1 : Nat) : Int)).toNat < (halfB s - (g1.1 : Int)).toNat; omega), ⟨rfl, rfl, rfl, rfl, trivial, trivial, wrap_next hl (by omega)⟩, ⟨trivial, trivial, rfl, rfl, rfl, rfl⟩, rfl, rfl, rfl⟩⟩
      rw [readE_in hS1.up hr] at h7
      have h7 : (!eqSec (secP.put (u.dflt 53) (List.take 64 (List.drop 0 (secP.get (readS g1.2.2 (g1.1 : Int)))))) (getS g1.2.1 g1.1)) = true := h7
      rw [put_get, hcn, eqSec_self] at h7
      exact absurd h7 (by decide)
    · have r1 : readE g1.2.2 (halfB s) = 0 := readE_in hS1.up ⟨by omega, by omega⟩
      have r2 : readE g1.2.2 (halfB s + 1) = 0 := readE_in hS1.up ⟨by omega, by omega⟩
      have c1 : readS g1.2.2 (halfB s) = headS 1 1 [] := (readS_cont hS1.up ⟨by omega, by omega⟩).trans hS1.head
      have c2 : readS g1.2.2 (halfB s + 1) = headS 2 0 [] := (readS_cont hS1.up ⟨by omega, by omega⟩).trans hS1.row
      refine ⟨hok, rfl, hok, rfl, fun _ => Nat.le_of_eq (Sec.h _).symm, fun _ => (by decide : 1 ≤ 9223372036854775808), fun _ => Nat.le_of_eq (Sec.h _).symm, fun _ => (by decide : 1 ≤ 9223372036854775808), fun _ => ⟨by omega, by omega⟩, ?_⟩
      rw [r1, r2, put_get, put_get, c1, c2, eqSec_self, eqSec_self, beq_self_eq_true, beq_self_eq_true]
      show (true && ((g1.2.2.wait.length : Int) == 0)) = true
      rw [hS1.still]
      rfl
theorem okLSect : FnOk Try.prog u 6 spSectW := by
  refine fn_ok Try.prog u tab9 mo laws9 Try.func6 ?_
  intro xs c y h hc
  unfold spSectW at h
  split at h
  · cases h
    exact ⟨by kernel_rfl, _, _, bodyLSect _ _ _ hc⟩
  · cases h
end Go.Proofs.Ytgimkldaeobhnaa.Dsk
