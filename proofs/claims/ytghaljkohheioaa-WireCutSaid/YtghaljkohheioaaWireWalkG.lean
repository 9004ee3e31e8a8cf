/- Packets of the wire: the law WireCut, by the bodies' contracts. -/
import Derived.Test.YtghaljkohheioaaWireVcG
namespace Go.Proofs.Ytghaljkohheioaa.Wire
open Go Go.Proofs.Ytghaljkohheioaa.Sx Go.Proofs.Ytghaljkohheioaa.Sum

def spCut : Sx.Spec A
  | [.agg [.bool a, .int .u32 f, .int .u32 t, .int .u8 _, .int .u8 _, .int .u8 _, .int .u8 _, .int .u8 _, .int .u8 _, .int .i64 i, .int .i64 q], .int .u8 z, .csl 5 xs] => some (some (pktOk f t i q ∧ (0 ≤ z ∧ z < 256) ∧ Sum.bytes xs ∧ xs.length ≤ 140737488351232), .bool true)
  | _ => none
theorem bodyCut (a : Bool) (f t m0 m1 m2 m3 m4 m5 i q : Int) (z : Int) (xs : List Int) (h : pktOk f t i q ∧ (0 ≤ z ∧ z < 256) ∧ Sum.bytes xs ∧ xs.length ≤ 140737488351232) : BodyOk Try.prog u tab6 [103007, 103008] [] Try.f8 [pkt a f t m0 m1 m2 m3 m4 m5 i q, .int .u8 z, .csl 5 xs] (.bool true) := by
  constructor
  have eqn : bodyW Try.prog u tab6 [103007, 103008] (drawW Try.prog u tab6) (loopsBy u []) Try.f8 [pkt a f t m0 m1 m2 m3 m4 m5 i q, .int .u8 z, .csl 5 xs] (.bool true) = vcCut a f t m0 m1 m2 m3 m4 m5 i q z xs := by kernel_rfl
  rw [eqn]
  unfold vcCut
  obtain ⟨⟨hf, ht⟩, hz, hb, hn⟩ := h
  refine ⟨fun h => absurd h (by decide), fun _ v hv w hw => ?_⟩
  rw [echoB_eq _ _ _ _ _ hf ht] at hv
  have hl : v.length = 32 := by rw [hv]; rfl
  have hlw : w.length = 28 := by rw [hw]; unfold arpB; rw [layK_len, layK_len]; cases a <;> rfl
  rw [hl, hlw]
  have hw1 : IntKind.i64.wrap z = z := wrap_i64_id (by omega)
  rw [hw1]
  have r1 := tmod_rng (a := z) (n := 28) (by omega) (by omega)
  have r2 := tmod_rng (a := z) (n := 32) (by omega) (by omega)
  have q1 : 0 ≤ z.tmod ((28 : Nat) : Int) ∧ z.tmod ((28 : Nat) : Int) < 28 := r1
  have q2 : 0 ≤ z.tmod ((32 : Nat) : Int) ∧ z.tmod ((32 : Nat) : Int) < 32 := r2
  generalize z.tmod ((28 : Nat) : Int) = k1 at *
  generalize z.tmod ((32 : Nat) : Int) = k2 at *
  have l1 : (List.take (k1.toNat - 0) (List.drop 0 w)).length = k1.toNat := by rw [List.length_take, List.length_drop]; omega
  have l2 : (List.take (k2.toNat - 0) (List.drop 0 v)).length = k2.toNat := by rw [List.length_take, List.length_drop]; omega
  have hA : errA (List.take (k1.toNat - 0) (List.drop 0 w)) = 1 := by
    have : badA (List.take (k1.toNat - 0) (List.drop 0 w)) = true := by
      unfold badA
      rw [l1, show (((k1.toNat : Nat) : Int) != 28) = true by rw [bne_iff_ne]; omega]
      rfl
    unfold errA
    rw [if_pos this]
  have hE : ∀ ys : List Int, ys.length ≠ 32 → errE ys = 1 := by
    intro ys hy
    have : badE ys = true := by
      unfold badE
      rw [show ((ys.length : Int) != 32) = true by rw [bne_iff_ne]; omega]
      rfl
    unfold errE
    rw [if_pos this]
  refine ⟨by decide, ⟨by omega, by omega, by omega⟩, ?_, by decide, ⟨by omega, by omega, by omega⟩, ?_, by omega, by omega, ?_, ?_⟩
  · show (List.take (k1.toNat - 0) (List.drop 0 w)).length + 1 ≤ 9223372036854775808
    omega
  · show (List.take (k2.toNat - 0) (List.drop 0 v)).length + 1 ≤ 9223372036854775808
    omega
  · show (v ++ xs).length + 1 ≤ 9223372036854775808
    rw [List.length_append]
    omega
  · rw [hA, hE _ (by rw [l2]; omega)]
    cases xs with
    | nil =>
      rw [List.append_nil, hv, echo_err]
      rfl
    | cons x xs =>
      rw [hE _ (by rw [List.length_append, hl]; simp)]
      have : (((x :: xs).length : Int) == 0) = false := by simp; omega
      rw [this]
      rfl
theorem okCut : FnOk Try.prog u 8 spCut := by
  refine fn_ok Try.prog u tab6 mo laws6 Try.func8 ?_
  intro xs c y h hc
  unfold spCut at h
  split at h
  · cases h
    exact ⟨by kernel_rfl, _, _, bodyCut _ _ _ _ _ _ _ _ _ _ _ _ _ hc⟩
  · cases h
end Go.Proofs.Ytghaljkohheioaa.Wire
