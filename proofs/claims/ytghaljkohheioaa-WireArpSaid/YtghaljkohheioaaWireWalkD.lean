/- Packets of the wire: the contract of the law's own way to an echo. -/
import Derived.Test.YtghaljkohheioaaWireMath
namespace Go.Proofs.Ytghaljkohheioaa.Wire
open Go Go.Proofs.Ytghaljkohheioaa.Sx Go.Proofs.Ytghaljkohheioaa.Sum

def litsEchoS : List Nat := [102003, 104004, 104005, 105006, 105007]
theorem size_app (a b : ByteArray) : (a ++ b).size = a.size + b.size := ByteArray.size_append
theorem bodyEchoS (a : Bool) (f t m0 m1 m2 m3 m4 m5 i q : Int) (hf : inR 4294967296 f) (ht : inR 4294967296 t) : BodyOk Try.prog u tab2 litsEchoS [] Try.f12 [pkt a f t m0 m1 m2 m3 m4 m5 i q] (.str (bytesOf (echoB a f t i q))) := by
  constructor
  have e : bodyW Try.prog u tab2 litsEchoS (drawW Try.prog u tab2) (loopsBy u []) Try.f12 [pkt a f t m0 m1 m2 m3 m4 m5 i q] (.str (bytesOf (echoB a f t i q))) = vcEchoS a f t m0 m1 m2 m3 m4 m5 i q := by kernel_rfl
  rw [e]
  unfold vcEchoS
  intro v hv
  refine ⟨fun _ => trivial, fun _ => trivial, fun op hop => ?_⟩
  have hop : op = opL a := by rw [hop, hv]; cases a <;> rfl
  rw [ip_bytes, ip_bytes, two_bytes, two_bytes]
  refine ⟨by rw [bytesOf_size, bytesOf_size]; exact Nat.le_of_ble_eq_true rfl, fun ab hab => fun he hhe => ?_⟩
  have hab : ab = bytesOf (ipL f ++ ipL t) := by rw [hab, bytesOf_append]
  have hhe : he = bytesOf [69, 0, 0, 32, 0, 0, 0, 0, 64, 1] := hhe.trans (by decide)
  have hz2 : ({ data := #[0, 0] } : ByteArray) = bytesOf [0, 0] := by decide
  have hz4 : ({ data := #[0, 0, 0, 0] } : ByteArray) = bytesOf [0, 0, 0, 0] := by decide
  refine ⟨by rw [bytesOf_size, bytesOf_size]; exact Nat.le_of_ble_eq_true rfl, by rw [size_app, bytesOf_size, bytesOf_size]; exact Nat.le_of_ble_eq_true rfl, fun d hd c hc => ?_⟩
  have hd : d = bytesOf (twoL i ++ twoL q ++ [0, 0, 0, 0]) := by rw [hd, hz4, bytesOf_append, bytesOf_append]
  have hc : c = bytesOf [opL a, 0] := by rw [hc, hop]; rfl
  have hw1 : u.ofNums 5 (strNums (he ++ ({ data := #[0, 0] } : ByteArray) ++ ab)) = headL [0, 0] f t := by
    rw [hhe, hab, hz2, bytesOf_append, bytesOf_append, strNums_bytesOf]
    · show [69, 0, 0, 32, 0, 0, 0, 0, 64, 1] ++ [0, 0] ++ (ipL f ++ ipL t) = _
      unfold headL
      rw [List.append_assoc _ (ipL f)]
      rfl
    · have := headL_bytes [0, 0] zz_bytes f t
      unfold headL at this
      rw [List.append_assoc _ (ipL f)] at this
      exact this
  have hw2 : u.ofNums 5 (strNums (c ++ ({ data := #[0, 0] } : ByteArray) ++ d)) = bodyL a [0, 0] i q := by
    rw [hc, hd, hz2, bytesOf_append, bytesOf_append, strNums_bytesOf]
    · show [opL a, 0] ++ [0, 0] ++ (twoL i ++ twoL q ++ [0, 0, 0, 0]) = _
      unfold bodyL
      simp only [List.append_assoc]
      rfl
    · have := bodyL_bytes a [0, 0] zz_bytes i q
      unfold bodyL at this
      simp only [List.append_assoc] at this ⊢
      exact this
  have hr1 := s1_rng f t
  have hr2 := s2_rng a i q
  have hn1 : IntKind.i64.wrap (notW (IntKind.u16.wrap (wAt (headL [0, 0] f t) (List.length (α := A 5) (headL [0, 0] f t))))) = s1 f t := wrap_i64_id (n := s1 f t) (by omega)
  have hn2 : IntKind.i64.wrap (notW (IntKind.u16.wrap (wAt (bodyL a [0, 0] i q) (List.length (α := A 5) (bodyL a [0, 0] i q))))) = s2 a i q := wrap_i64_id (n := s2 a i q) (by omega)
  simp only [hw1, hw2, hn1, hn2, two_bytes]
  have l1 : List.length (α := A 5) (headL [0, 0] f t) = 20 := rfl
  have l2 : List.length (α := A 5) (bodyL a [0, 0] i q) = 12 := rfl
  have z1 : ab.size = 8 := by rw [hab, bytesOf_size]; rfl
  have z2 : he.size = 10 := by rw [hhe, bytesOf_size]; rfl
  have z3 : d.size = 8 := by rw [hd, bytesOf_size]; rfl
  have z4 : c.size = 2 := by rw [hc, bytesOf_size]; rfl
  have z5 : ∀ n, (bytesOf (twoL n)).size = 2 := fun n => by rw [bytesOf_size]; rfl
  have z6 : ({ data := #[0, 0] } : ByteArray).size = 2 := rfl
  simp only [size_app, z1, z2, z3, z4, z5, z6, l1, l2]
  refine ⟨by decide, by decide, show 21 ≤ 9223372036854775808 by omega, by decide, by decide, by decide, by decide, by decide, show 13 ≤ 9223372036854775808 by omega, by decide, by decide, ?_⟩
  rw [echoB_eq a f t i q hf ht, hhe, hab, hc, hd]
  simp only [bytesOf_append]
  unfold echoL headL bodyL
  simp only [List.append_assoc]
theorem okEchoS : FnOk Try.prog u 12 spEchoS := by
  refine fn_ok Try.prog u tab2 mo laws2 Try.func12 ?_
  intro xs c y h hc
  unfold spEchoS at h
  split at h
  · cases h
    exact ⟨by kernel_rfl, litsEchoS, [], bodyEchoS _ _ _ _ _ _ _ _ _ _ _ hc.1 hc.2⟩
  · cases h
end Go.Proofs.Ytghaljkohheioaa.Wire
