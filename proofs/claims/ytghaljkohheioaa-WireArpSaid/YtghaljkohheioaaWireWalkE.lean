/- Packets of the wire: the contracts of the other kind of packet; the law WireSums. -/
import Derived.Test.YtghaljkohheioaaWireVcE
namespace Go.Proofs.Ytghaljkohheioaa.Wire
open Go Go.Proofs.Ytghaljkohheioaa.Sx Go.Proofs.Ytghaljkohheioaa.Sum

def opA (a : Bool) : Int := if a then 2 else 1
theorem arpB_eq (a : Bool) (f t m0 m1 m2 m3 m4 m5 : Int) (hf : inR 4294967296 f) (ht : inR 4294967296 t) : arpB a f t m0 m1 m2 m3 m4 m5 = [0, 1, 8, 0, 6, 4, 0, opA a] ++ [m0, m1, m2, m3, m4, m5] ++ ipL f ++ [0, 0, 0, 0, 0, 0] ++ ipL t := by
  obtain ⟨hf1, hf2⟩ := hf
  obtain ⟨ht1, ht2⟩ := ht
  have h : ∀ n m : Int, layK (layK (a2 a m0 m1 m2 m3 m4 m5) 14 4 n 4) 24 4 m 4 = [0, 1, 8, 0, 6, 4, 0, opA a] ++ [m0, m1, m2, m3, m4, m5] ++ [layB n 4 0, layB n 4 1, layB n 4 2, layB n 4 3] ++ [0, 0, 0, 0, 0, 0] ++ [layB m 4 0, layB m 4 1, layB m 4 2, layB m 4 3] := fun n m => by cases a <;> rfl
  unfold arpB
  rw [h, lay4, lay4, wrap_i64_id (by omega), wrap_i64_id (by omega)]
theorem bodyArp (a : Bool) (f t m0 m1 m2 m3 m4 m5 i q : Int) : BodyOkH Try.prog u tab4 [102003, 105003, 106003] [] Try.f17 [pkt a f t m0 m1 m2 m3 m4 m5 i q] [] (.orow 0) [.row 5 (arpB a f t m0 m1 m2 m3 m4 m5)] := by
  constructor
  have eqn : bodyH Try.prog u tab4 [102003, 105003, 106003] (drawW Try.prog u tab4) (loopsBy u []) Try.f17 [pkt a f t m0 m1 m2 m3 m4 m5 i q] [] (.orow 0) [.row 5 (arpB a f t m0 m1 m2 m3 m4 m5)] = vcArp a f t m0 m1 m2 m3 m4 m5 i q := by kernel_rfl
  rw [eqn]
  unfold vcArp
  refine ⟨by omega, fun v0 h0 => ?_⟩
  have h0 : v0 = a0 := h0.trans (by decide)
  have l0 : v0.length = 28 := by rw [h0]; rfl
  refine ⟨fun ha => ?_, fun ha => ?_⟩
  · subst ha
    have ls : (v0.set 7 2).length = 28 := by rw [List.length_set]; exact l0
    refine ⟨by omega, by omega, fun v1 h1 => ?_⟩
    have e1 : v1 = a2 true m0 m1 m2 m3 m4 m5 := by rw [h1, h0]; rfl
    have l1 : v1.length = 28 := by rw [e1]; rfl
    refine ⟨by omega, by omega, fun v2 h2 => ?_⟩
    have l2 : v2.length = 28 := by rw [h2, layK_len]; exact l1
    refine ⟨by omega, by omega, trivial, ?_, trivial⟩
    rw [h2, e1]
    rfl
  · subst ha
    refine ⟨by omega, fun v1 h1 => ?_⟩
    have e1 : v1 = a2 false m0 m1 m2 m3 m4 m5 := by rw [h1, h0]; rfl
    have l1 : v1.length = 28 := by rw [e1]; rfl
    refine ⟨by omega, by omega, fun v2 h2 => ?_⟩
    have l2 : v2.length = 28 := by rw [h2, layK_len]; exact l1
    refine ⟨by omega, by omega, trivial, ?_, trivial⟩
    rw [h2, e1]
    rfl
theorem okArp : FnOkH Try.prog u 17 hArp := by
  refine fn_okH Try.prog u tab4 mo laws4 Try.func17 ?_
  intro xs os c y os2 h hc
  unfold hArp at h
  split at h
  · cases h
    exact ⟨_, _, bodyArp _ _ _ _ _ _ _ _ _ _ _⟩
  · cases h
theorem bodyArpS (a : Bool) (f t m0 m1 m2 m3 m4 m5 i q : Int) (h : inR 4294967296 f ∧ inR 4294967296 t) : BodyOk Try.prog u tab4 [102003, 104004] [] Try.f18 [pkt a f t m0 m1 m2 m3 m4 m5 i q] (.str (bytesOf (arpB a f t m0 m1 m2 m3 m4 m5))) := by
  constructor
  have eqn : bodyW Try.prog u tab4 [102003, 104004] (drawW Try.prog u tab4) (loopsBy u []) Try.f18 [pkt a f t m0 m1 m2 m3 m4 m5 i q] (.str (bytesOf (arpB a f t m0 m1 m2 m3 m4 m5))) = vcArpS a f t m0 m1 m2 m3 m4 m5 i q := by kernel_rfl
  rw [eqn]
  unfold vcArpS
  intro v hv
  refine ⟨fun _ => trivial, fun _ => trivial, fun op hop => ?_⟩
  have hop : op = opA a := by rw [hop, hv]; cases a <;> rfl
  subst hop
  refine ⟨by exact Nat.le_of_ble_eq_true rfl, by exact Nat.le_of_ble_eq_true rfl, fun w hw => ?_⟩
  subst hw
  refine ⟨by exact Nat.le_of_ble_eq_true rfl, by exact Nat.le_of_ble_eq_true rfl, ?_⟩
  rw [ip_bytes, ip_bytes]
  have hfin : bytesOf [0, 1, 8, 0, 6, 4, 0, opA a] ++ bytesOf [m0, m1, m2, m3, m4, m5] ++ bytesOf (ipL f) ++ bytesOf [0, 0, 0, 0, 0, 0] ++ bytesOf (ipL t) = bytesOf (arpB a f t m0 m1 m2 m3 m4 m5) := by
    rw [bytesOf_append, bytesOf_append, bytesOf_append, bytesOf_append, arpB_eq _ _ _ _ _ _ _ _ _ h.1 h.2]
  exact hfin
theorem okArpS : FnOk Try.prog u 18 spArpS := by
  refine fn_ok Try.prog u tab4 mo laws4 Try.func18 ?_
  intro xs c y h hc
  unfold spArpS at h
  split at h
  · cases h
    exact ⟨by kernel_rfl, _, _, bodyArpS _ _ _ _ _ _ _ _ _ _ _ hc⟩
  · cases h
theorem laws5 : Laws Try.prog u tab5 := by
  refine ⟨law, clean, fun p hp => ?_⟩
  rcases List.mem_cons.1 hp with rfl | hp
  · exact okArp
  rcases List.mem_cons.1 hp with rfl | hp
  · exact okArpS
  exact laws4.tab p hp
def spSums : Sx.Spec A
  | [.agg [.bool a, .int .u32 f, .int .u32 t, .int .u8 _, .int .u8 _, .int .u8 _, .int .u8 _, .int .u8 _, .int .u8 _, .int .i64 i, .int .i64 q]] => some (some (pktOk f t i q), .bool true)
  | _ => none
theorem bodySums (a : Bool) (f t m0 m1 m2 m3 m4 m5 i q : Int) (h : pktOk f t i q) : BodyOk Try.prog u tab5 [103003] [] Try.f6 [pkt a f t m0 m1 m2 m3 m4 m5 i q] (.bool true) := by
  constructor
  have eqn : bodyW Try.prog u tab5 [103003] (drawW Try.prog u tab5) (loopsBy u []) Try.f6 [pkt a f t m0 m1 m2 m3 m4 m5 i q] (.bool true) = vcSums a f t m0 m1 m2 m3 m4 m5 i q := by kernel_rfl
  rw [eqn]
  unfold vcSums
  obtain ⟨hf, ht⟩ := h
  refine ⟨fun h => absurd h (by decide), fun _ v hv => ?_⟩
  rw [echoB_eq _ _ _ _ _ hf ht] at hv
  have hl : v.length = 32 := by rw [hv]; rfl
  have h1 : List.take 20 (List.drop 0 v) = headL (twoL (s1 f t)) f t := by rw [hv]; rfl
  have h2 : List.take ((v.length : Int).toNat - 20) (List.drop 20 v) = bodyL a (twoL (s2 a i q)) i q := by rw [tail_all v hl, hv]; rfl
  have z1 : (notW (IntKind.u16.wrap (wAt (headL (twoL (s1 f t)) f t) (headL (twoL (s1 f t)) f t).length)) == 0) = true := head_zero f t
  have z2 : (notW (IntKind.u16.wrap (wAt (bodyL a (twoL (s2 a i q)) i q) (bodyL a (twoL (s2 a i q)) i q).length)) == 0) = true := body_zero a i q
  rw [h1, h2, hl]
  refine ⟨fun _ => by omega, fun _ => show 21 ≤ 9223372036854775808 by omega, fun _ => by omega, fun _ => show 13 ≤ 9223372036854775808 by omega, fun _ => ?_, fun hx => ?_⟩
  · have : (arpB a f t m0 m1 m2 m3 m4 m5).length = 28 := by unfold arpB; rw [layK_len, layK_len]; cases a <;> rfl
    rw [this]
    rfl
  · exfalso
    have hx : ((((32 : Nat) : Int) == 32) && (notW (IntKind.u16.wrap (wAt (headL (twoL (s1 f t)) f t) (headL (twoL (s1 f t)) f t).length)) == 0) && (notW (IntKind.u16.wrap (wAt (bodyL a (twoL (s2 a i q)) i q) (bodyL a (twoL (s2 a i q)) i q).length)) == 0)) = false := hx
    rw [z1, z2] at hx
    cases hx
theorem okSums : FnOk Try.prog u 6 spSums := by
  refine fn_ok Try.prog u tab5 mo laws5 Try.func6 ?_
  intro xs c y h hc
  unfold spSums at h
  split at h
  · cases h
    exact ⟨by kernel_rfl, _, _, bodySums _ _ _ _ _ _ _ _ _ _ _ hc⟩
  · cases h
end Go.Proofs.Ytghaljkohheioaa.Wire
