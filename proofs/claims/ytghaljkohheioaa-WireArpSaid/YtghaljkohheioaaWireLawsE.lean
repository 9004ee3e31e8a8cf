/- Packets of the wire: the laws WireEcho and WireTurned, by the bodies' contracts. -/
import Derived.Test.YtghaljkohheioaaWireVcD
namespace Go.Proofs.Ytghaljkohheioaa.Wire
open Go Go.Proofs.Ytghaljkohheioaa.Sx Go.Proofs.Ytghaljkohheioaa.Sum

theorem echoL_len (a : Bool) (f t i q : Int) : (echoL a f t i q).length = 32 := rfl
theorem body9 : BodyOk Try.prog u tab3 [102002] [] Try.f9 [] (.bool true) := by
  constructor
  have e : bodyW Try.prog u tab3 [102002] (drawW Try.prog u tab3) (loopsBy u []) Try.f9 [] (.bool true) = vcAwake := by kernel_rfl
  rw [e]
  unfold vcAwake
  intro v hv
  have hf : inR 4294967296 167772161 := ⟨by decide, by decide⟩
  have ht : inR 4294967296 167772162 := ⟨by decide, by decide⟩
  rw [echoB_eq _ _ _ _ _ hf ht] at hv
  obtain ⟨h1, h2, h3, h4, h5⟩ := echo_parts true 167772161 167772162 7 9 hf ht
  have h0 := echo_err true 167772161 167772162 7 9
  rw [← hv] at h0 h1 h2 h3 h4 h5
  have hl : v.length = 32 := by rw [hv]; rfl
  refine ⟨show v.length + 1 ≤ 9223372036854775808 by omega, ?_⟩
  rw [h0, h1, h2, h3, h4, h5, hl]
  decide
theorem ok9 : FnOk Try.prog u 9 spAwake := by
  refine fn_ok Try.prog u tab3 mo laws3 Try.func9 ?_
  intro xs c y h hc
  unfold spAwake at h
  split at h
  · cases h
    exact ⟨by kernel_rfl, [102002], [], body9⟩
  · cases h
theorem laws4 : Laws Try.prog u tab4 := { toLaw := law, clean := clean, tab := fun p hp => by
                                            rcases List.mem_cons.1 hp with rfl | hp
                                            · exact ok9
                                            exact laws3.tab p hp }
/-! ### WireEcho -/
theorem and_low (n : Int) : bitsI .and .i64 n 65535 = n % 65536 := by
  have h : (BitVec.ofInt 64 n &&& BitVec.ofInt 64 65535).toNat = (n % 65536).toNat := by
    rw [BitVec.toNat_and, BitVec.toNat_ofInt]
    rw [show (BitVec.ofInt 64 65535).toNat = 2 ^ 16 - 1 from rfl, Nat.and_two_pow_sub_one_eq_mod]
    show (n % (18446744073709551616 : Int)).toNat % 65536 = _
    omega
  show IntKind.i64.wrap ((BitVec.ofInt 64 n &&& BitVec.ofInt 64 65535).toNat : Int) = _
  rw [h, wrap_i64_id (by omega)]
  omega
theorem echoL_low (a : Bool) (f t i q : Int) : echoL a f t (i % 65536) (q % 65536) = echoL a f t i q := by
  have h : ∀ n : Int, twoL (n % 65536) = twoL n := by
    intro n
    unfold twoL
    have e1 : n % 65536 / 256 % 256 = n / 256 % 256 := by omega
    have e2 : n % 65536 % 256 = n % 256 := by omega
    rw [e1, e2]
  have hb : ∀ c, bodyL a c (i % 65536) (q % 65536) = bodyL a c i q := by intro c; unfold bodyL; rw [h, h]
  unfold echoL s2
  rw [hb, hb]
def pktOk (f t i q : Int) : Prop := inR 4294967296 f ∧ inR 4294967296 t
def spE3 : Sx.Spec A
  | [.agg [.bool a, .int .u32 f, .int .u32 t, .int .u8 _, .int .u8 _, .int .u8 _, .int .u8 _, .int .u8 _, .int .u8 _, .int .i64 i, .int .i64 q]] => some (some (pktOk f t i q), .bool true)
  | _ => none
theorem bodyE3 (a : Bool) (f t m0 m1 m2 m3 m4 m5 i q : Int) (h : pktOk f t i q) : BodyOk Try.prog u tab4 [103003] [] Try.f3 [pkt a f t m0 m1 m2 m3 m4 m5 i q] (.bool true) := by
  constructor
  have e : bodyW Try.prog u tab4 [103003] (drawW Try.prog u tab4) (loopsBy u []) Try.f3 [pkt a f t m0 m1 m2 m3 m4 m5 i q] (.bool true) = vcE3 a f t m0 m1 m2 m3 m4 m5 i q := by kernel_rfl
  rw [e]
  obtain ⟨hf, ht⟩ := h
  unfold vcE3
  refine ⟨fun h => absurd h (by decide), fun _ v hv => ?_⟩
  rw [echoB_eq _ _ _ _ _ hf ht] at hv
  obtain ⟨h1, h2, h3, h4, h5⟩ := echo_parts a f t i q hf ht
  have h0 := echo_err a f t i q
  rw [← hv] at h0 h1 h2 h3 h4 h5
  have hl : v.length = 32 := by rw [hv]; rfl
  refine ⟨show v.length + 1 ≤ 9223372036854775808 by omega, ⟨hf, ht⟩, ?_⟩
  rw [h0, h1, h2, h3, h4, h5, and_low, and_low, echoB_eq _ _ _ _ _ hf ht, echoL_low]
  have hb : bytesOf (u.nums 5 v) = bytesOf (echoL a f t i q) := by rw [hv]; rfl
  rw [hb]
  simp
theorem okE3 : FnOk Try.prog u 3 spE3 := by
  refine fn_ok Try.prog u tab4 mo laws4 Try.func3 ?_
  intro xs c y h hc
  unfold spE3 at h
  split at h
  · cases h
    exact ⟨by kernel_rfl, [103003], [], bodyE3 _ _ _ _ _ _ _ _ _ _ _ hc⟩
  · cases h
/-! ### WireTurned -/
theorem tmod_rng {a n : Int} (ha : 0 ≤ a) (hn : 0 < n) : 0 ≤ a.tmod n ∧ a.tmod n < n := by
  rw [Int.tmod_eq_emod_of_nonneg ha]
  exact ⟨Int.emod_nonneg _ (by omega), Int.emod_lt_of_pos _ hn⟩
theorem echo_turned (a : Bool) (f t i q : Int) {k : Nat} (hk : k < 32) (b : Int) (hb : 0 ≤ b ∧ b < 256) :
    ((errE ((echoL a f t i q).set k (IntKind.u8.wrap ((echoL a f t i q).getD k 0 + b))) == 0) == (b == 0)) = true := by
  have ho := bytes_get (echoL_bytes a f t i q) (k := k) hk
  by_cases hb0 : b = 0
  · subst hb0
    have : IntKind.u8.wrap ((echoL a f t i q).getD k 0 + 0) = (echoL a f t i q).getD k 0 := by rw [wrap8]; omega
    rw [this]
    have hs : (echoL a f t i q).set k ((echoL a f t i q).getD k 0) = echoL a f t i q := by
      apply List.ext_getElem?
      intro j
      rw [List.getElem?_set]
      split
      · rename_i hij
        subst hij
        have hk' : k < (echoL a f t i q).length := hk
        simp [List.getD, List.getElem?_eq_getElem hk', hk']
      · rfl
    rw [hs, echo_err]
    rfl
  · have hbf : (b == 0) = false := by simpa using hb0
    rw [hbf]
    have hne : (echoL a f t i q).getD k 0 ≠ IntKind.u8.wrap ((echoL a f t i q).getD k 0 + b) := by rw [wrap8]; omega
    have hx := wrap8_rng ((echoL a f t i q).getD k 0 + b)
    generalize IntKind.u8.wrap ((echoL a f t i q).getD k 0 + b) = x at *
    have hsum : sumE ((echoL a f t i q).set k x) = true := by
      by_cases h20 : k < 20
      · have e1 : part ((echoL a f t i q).set k x) 0 20 = (headL (twoL (s1 f t)) f t).set k x := by
          unfold part
          rw [List.drop_zero, List.take_set]
          rfl
        have hg : (headL (twoL (s1 f t)) f t).getD k 0 = (echoL a f t i q).getD k 0 := by
          unfold echoL
          rw [List.getD, List.getD, List.getElem?_append_left (by show k < 20; exact h20)]
        have := turned (headL (twoL (s1 f t)) f t) (headL_bytes _ (twoL_bytes _) f t) (head_zero f t) (k := k) h20 x hx
        rw [hg, show ((echoL a f t i q).getD k 0 == x) = false by simpa using hne] at this
        unfold sumE
        rw [e1]
        show (!(word ((headL (twoL (s1 f t)) f t).set k x) == 0) || _) = true
        have hw : (word ((headL (twoL (s1 f t)) f t).set k x) == 0) = false := by
          have h2 := this
          show (notW (IntKind.u16.wrap (wAt ((headL (twoL (s1 f t)) f t).set k x) ((headL (twoL (s1 f t)) f t).set k x).length)) == 0) = false
          cases hc : (notW (IntKind.u16.wrap (wAt ((headL (twoL (s1 f t)) f t).set k x) ((headL (twoL (s1 f t)) f t).set k x).length)) == 0) with
          | false => rfl
          | true => rw [hc] at h2; cases h2
        rw [hw]
        rfl
      · have hset : (echoL a f t i q).set k x = headL (twoL (s1 f t)) f t ++ (bodyL a (twoL (s2 a i q)) i q).set (k - 20) x := by
          unfold echoL
          rw [List.set_append_right _ _ (by show 20 ≤ k; omega)]
          rfl
        have e1 : part ((echoL a f t i q).set k x) 20 ((echoL a f t i q).set k x).length = (bodyL a (twoL (s2 a i q)) i q).set (k - 20) x := by
          unfold part
          rw [List.take_length, hset]
          rfl
        have hk2 : k - 20 < (bodyL a (twoL (s2 a i q)) i q).length := by show k - 20 < 12; omega
        have hg : (bodyL a (twoL (s2 a i q)) i q).getD (k - 20) 0 = (echoL a f t i q).getD k 0 := by
          unfold echoL
          rw [List.getD, List.getD, List.getElem?_append_right (by show 20 ≤ k; omega)]
          rfl
        have := turned (bodyL a (twoL (s2 a i q)) i q) (bodyL_bytes a _ (twoL_bytes _) i q) (body_zero a i q) (k := k - 20) hk2 x hx
        rw [hg, show ((echoL a f t i q).getD k 0 == x) = false by simpa using hne] at this
        unfold sumE
        rw [e1]
        have hw : (word ((bodyL a (twoL (s2 a i q)) i q).set (k - 20) x) == 0) = false := by
          have h2 := this
          show (notW (IntKind.u16.wrap (wAt ((bodyL a (twoL (s2 a i q)) i q).set (k - 20) x) ((bodyL a (twoL (s2 a i q)) i q).set (k - 20) x).length)) == 0) = false
          cases hc : (notW (IntKind.u16.wrap (wAt ((bodyL a (twoL (s2 a i q)) i q).set (k - 20) x) ((bodyL a (twoL (s2 a i q)) i q).set (k - 20) x).length)) == 0) with
          | false => rfl
          | true => rw [hc] at h2; cases h2
        rw [hw]
        simp
    unfold errE
    rw [hsum]
    split <;> rfl
def turnOk (f t i q z b : Int) : Prop := inR 4294967296 f ∧ inR 4294967296 t ∧ (0 ≤ z ∧ z < 256) ∧ (0 ≤ b ∧ b < 256)
def spE5 : Sx.Spec A
  | [.agg [.bool a, .int .u32 f, .int .u32 t, .int .u8 _, .int .u8 _, .int .u8 _, .int .u8 _, .int .u8 _, .int .u8 _, .int .i64 i, .int .i64 q], .int .u8 z, .int .u8 b] => some (some (turnOk f t i q z b), .bool true)
  | _ => none
theorem bodyE5 (a : Bool) (f t m0 m1 m2 m3 m4 m5 i q z b : Int) (h : turnOk f t i q z b) : BodyOk Try.prog u tab4 [103007, 106007] [] Try.f5 [pkt a f t m0 m1 m2 m3 m4 m5 i q, .int .u8 z, .int .u8 b] (.bool true) := by
  constructor
  have e : bodyW Try.prog u tab4 [103007, 106007] (drawW Try.prog u tab4) (loopsBy u []) Try.f5 [pkt a f t m0 m1 m2 m3 m4 m5 i q, .int .u8 z, .int .u8 b] (.bool true) = vcE5 a f t m0 m1 m2 m3 m4 m5 i q z b := by kernel_rfl
  rw [e]
  obtain ⟨hf, ht, hz, hb⟩ := h
  unfold vcE5
  refine ⟨fun h => absurd h (by decide), fun _ v hv => ?_⟩
  rw [echoB_eq _ _ _ _ _ hf ht] at hv
  have hl : v.length = 32 := by rw [hv]; rfl
  have hr := tmod_rng (a := z) (n := 32) (by omega) (by omega)
  refine ⟨fun h => ?_, fun _ => ⟨by decide, by omega, by omega, fun w hw => ⟨?_, ?_⟩⟩⟩
  · rw [hl] at h
    exact absurd h (by decide)
  · show w.length + 1 ≤ 9223372036854775808
    rw [hw, List.length_set]
    omega
  · have := echo_turned a f t i q (k := (z.tmod 32).toNat) (by omega) b hb
    rw [← hv] at this
    rw [hw]
    exact this
theorem okE5 : FnOk Try.prog u 5 spE5 := by
  refine fn_ok Try.prog u tab4 mo laws4 Try.func5 ?_
  intro xs c y h hc
  unfold spE5 at h
  split at h
  · cases h
    exact ⟨by kernel_rfl, [103007, 106007], [], bodyE5 _ _ _ _ _ _ _ _ _ _ _ _ _ hc⟩
  · cases h
end Go.Proofs.Ytghaljkohheioaa.Wire
