/- Packets of the wire: the echo's contract. -/
import Derived.Test.YtghaljkohheioaaWireVcB
namespace Go.Proofs.Ytghaljkohheioaa.Wire
open Go Go.Proofs.Ytghaljkohheioaa.Sx Go.Proofs.Ytghaljkohheioaa.Sum

theorem bodySealed (xs : List Int) (hl : lenOk xs) : BodyOk Try.prog u tab1 [] [] Try.f16 [.csl 5 xs] (.bool (notW (IntKind.u16.wrap (wAt xs xs.length)) == 0)) := by
  constructor
  have e : bodyW Try.prog u tab1 [] (drawW Try.prog u tab1) (loopsBy u []) Try.f16 [.csl 5 xs] (.bool (notW (IntKind.u16.wrap (wAt xs xs.length)) == 0)) = vcSealed xs := by kernel_rfl
  rw [e]
  exact ⟨hl, rfl⟩
theorem okSealed : FnOk Try.prog u 16 spSealed := by
  refine fn_ok Try.prog u tab1 mo laws1 Try.func16 ?_
  intro xs c y h hc
  unfold spSealed at h
  split at h
  · cases h
    exact ⟨by kernel_rfl, [], [], bodySealed _ hc⟩
  · cases h
def litsEcho : List Nat := [102003, 103003, 104003, 105003, 109003]
theorem tail_all (v : List Int) (h : v.length = 32) : List.take ((v.length : Int).toNat - 20) (List.drop 20 v) = v.drop 20 := by
  rw [show ((v.length : Int)).toNat - 20 = (v.drop 20).length by rw [List.length_drop]; omega, List.take_length]
theorem bodyEcho (a : Bool) (f t m0 m1 m2 m3 m4 m5 i q : Int) : BodyOkH Try.prog u tab1 litsEcho [] Try.f10 [pkt a f t m0 m1 m2 m3 m4 m5 i q] [] (.orow 0) [.row 5 (echoB a f t i q)] := by
  constructor
  have e : bodyH Try.prog u tab1 litsEcho (drawW Try.prog u tab1) (loopsBy u []) Try.f10 [pkt a f t m0 m1 m2 m3 m4 m5 i q] [] (.orow 0) [.row 5 (echoB a f t i q)] = vcEcho a f t m0 m1 m2 m3 m4 m5 i q := by kernel_rfl
  rw [e]
  unfold vcEcho
  refine ⟨by omega, fun v0 h0 => ?_⟩
  have h0 : v0 = e0 := h0.trans (by decide)
  have l0 : v0.length = 32 := by rw [h0]; rfl
  refine ⟨by omega, by omega, fun v1 h1 => ?_⟩
  have l1 : v1.length = 32 := by rw [h1, layK_len]; exact l0
  refine ⟨by omega, by omega, fun v2 h2 => ?_⟩
  have l2 : v2.length = 32 := by rw [h2, layK_len]; exact l1
  have e2' : v2 = e1 f t := by rw [h2, h1, h0]; rfl
  refine ⟨by omega, by omega, ?_, by omega, fun v3 h3 => ?_⟩
  · show (List.take 20 (List.drop 0 v2)).length + 1 ≤ 9223372036854775808
    rw [List.length_take, List.length_drop]; omega
  have l3 : v3.length = 32 := by rw [h3, layK_len]; exact l2
  have e3' : v3 = e2 f t := by rw [h3, e2']; rfl
  have fin : ∀ (w : List Int), w.length = 32 → (List.take ((w.length : Int).toNat - 20) (List.drop 20 w)).length.succ.le 9223372036854775808 := fun w hw => by
    show (List.take ((w.length : Int).toNat - 20) (List.drop 20 w)).length + 1 ≤ 9223372036854775808
    rw [tail_all w hw, List.length_drop]; omega
  refine ⟨fun ha => ?_, fun ha => ?_⟩
  · have ha : a = false := by cases a <;> first | rfl | cases ha
    subst ha
    have ls : (v3.set 20 8).length = 32 := by rw [List.length_set]; exact l3
    refine ⟨by omega, by omega, by omega, by rw [layK_len]; omega, by omega, fun v4 h4 => ?_⟩
    have l4 : v4.length = 32 := by rw [h4, layK_len, layK_len]; exact ls
    refine ⟨by omega, by omega, fin v4 l4, by omega, trivial, ?_, trivial⟩
    rw [tail_all v4 l4, h4, e3']
    rfl
  · have ha : a = true := by cases a <;> first | rfl | cases ha
    subst ha
    refine ⟨by omega, by omega, by rw [layK_len]; omega, by omega, fun v4 h4 => ?_⟩
    have l4 : v4.length = 32 := by rw [h4, layK_len, layK_len]; exact l3
    refine ⟨by omega, by omega, fin v4 l4, by omega, trivial, ?_, trivial⟩
    rw [tail_all v4 l4, h4, e3']
    rfl
theorem okEcho : FnOkH Try.prog u 10 hEcho := by
  refine fn_okH Try.prog u tab1 mo laws1 Try.func10 ?_
  intro xs os c y os2 h hc
  unfold hEcho at h
  split at h
  · cases h
    exact ⟨litsEcho, [], bodyEcho _ _ _ _ _ _ _ _ _ _ _⟩
  · cases h
end Go.Proofs.Ytghaljkohheioaa.Wire
