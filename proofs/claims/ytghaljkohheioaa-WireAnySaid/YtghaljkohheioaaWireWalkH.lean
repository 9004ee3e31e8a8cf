/- Packets of the wire: the law WireAny, by the bodies' contracts. -/
import Derived.Test.YtghaljkohheioaaWireVcH
namespace Go.Proofs.Ytghaljkohheioaa.Wire
open Go Go.Proofs.Ytghaljkohheioaa.Sx Go.Proofs.Ytghaljkohheioaa.Sum

def spAny : Sx.Spec A
  | [.csl 5 xs, .agg [.bool a, .int .u32 f, .int .u32 t, .int .u8 _, .int .u8 _, .int .u8 _, .int .u8 _, .int .u8 _, .int .u8 _, .int .i64 i, .int .i64 q], .int .u8 z, .int .u8 y] => some (some (anyOk xs f t z y), .bool true)
  | _ => none
theorem bodyAny (xs : List Int) (a : Bool) (f t m0 m1 m2 m3 m4 m5 i q : Int) (z y : Int) (h : anyOk xs f t z y) : BodyOk Try.prog u tab6 [104009, 105037, 107011, 110092, 112102] [(0, .inv annAny)] Try.f4 [.csl 5 xs, pkt a f t m0 m1 m2 m3 m4 m5 i q, .int .u8 z, .int .u8 y] (.bool true) := by
  constructor
  have eqn : bodyW Try.prog u tab6 [104009, 105037, 107011, 110092, 112102] (drawW Try.prog u tab6) (loopsBy u [(0, .inv annAny)]) Try.f4 [.csl 5 xs, pkt a f t m0 m1 m2 m3 m4 m5 i q, .int .u8 z, .int .u8 y] (.bool true) = vcAny xs a f t m0 m1 m2 m3 m4 m5 i q z y := by kernel_rfl
  rw [eqn]
  unfold vcAny
  obtain ⟨hl, hb, hft, hz, hy⟩ := h
  have hE : (u.ofNums 5 (strNums (bytesOf (echoB a f t i q))) : List Int) = echoL a f t i q := by
    show strNums (bytesOf (echoB a f t i q)) = _
    rw [echoB_eq _ _ _ _ _ hft.1 hft.2, strNums_bytesOf _ (echoL_bytes a f t i q)]
  rw [hE]
  have hel : List.length (α := A 5) (echoL a f t i q) = 32 := rfl
  have heb : Sum.bytes (echoL a f t i q) := echoL_bytes a f t i q
  generalize echoL a f t i q = e at *
  have hzz : IntKind.i64.wrap z = z := wrap_i64_id (by omega)
  rw [hzz]
  have hzr := tmod_rng (a := z) (n := 32) hz.1 (by omega)
  refine ⟨fun h => absurd h (by decide), fun _ => ⟨hft, by rw [hel]; decide, by rw [hel]; exact hzr, fun v hv => ?_⟩⟩
  have hvb : Sum.bytes v := by rw [hv]; exact bytes_set heb hy
  have hvl : v.length = 32 := by subst hv; exact (List.length_set (α := A 5)).trans hel
  refine ⟨by rw [hvl]; decide, by rw [hvl]; exact ⟨by decide, hzr.1, Int.le_of_lt hzr.2⟩, fun r hr => ⟨⟨0, Nat.zero_le _, ⟨trivial, rfl, rfl⟩, rfl⟩, fun g hg => ⟨fun hlt => ?_, fun _ => rfl⟩⟩⟩
  have hlt : (g : Int) < ((3 : Nat) : Int) := of_decide_eq_true hlt
  refine ⟨⟨by omega, by subst hr; exact hlt⟩, fun w hw => ?_⟩
  have hwb : Sum.bytes w := by
    subst hw hr
    exact row_bytes hb hvb _ g
  have hwl : w.length < 9223372036854775808 := by
    subst hw hr
    exact row_len hl hvl _ g
  have hwl' : lenOk w := hwl
  have o1 : ∀ x : Bool, (((w.length : Int) != 32) || x) = false → ((w.length : Nat) : Int) = 32 := by
    intro x hx
    simp only [Bool.or_eq_false_iff, bne_eq_false_iff_eq] at hx
    exact hx.1
  have hl0 : (errE w == 0) = true → w.length = 32 := fun h => err_len (eq_of_beq h)
  refine ⟨hwl, fun hx => ⟨by decide, ?_⟩, fun hx => ⟨by decide, ?_⟩, fun hx => ⟨by decide, ?_⟩, fun hx => ⟨by decide, ?_⟩, fun hx => ⟨by decide, ?_⟩, fun hx _ => ⟨by decide, ?_⟩, fun hx => ⟨by decide, ?_⟩, fun b hbb => ?_⟩
  iterate 7
    · simp only [Bool.or_eq_false_iff, bne_eq_false_iff_eq] at hx
      omega
  have hbb : b = badE w := hbb.trans (bad_eq w hwb)
  have s1 : ∀ x0 x1 x2 x3 y0 y1 y2 y3 : Int, (bytesOf [x0, x1, x2, x3]).size + (bytesOf [y0, y1, y2, y3]).size ≤ 4611686018427387904 := by
    intro x0 x1 x2 x3 y0 y1 y2 y3
    rw [bytesOf_size, bytesOf_size]
    show 4 + 4 ≤ 4611686018427387904
    decide
  have s2 : ∀ x0 x1 y0 y1 : Int, (bytesOf [x0, x1]).size + (bytesOf [y0, y1]).size ≤ 4611686018427387904 := by
    intro x0 x1 y0 y1
    rw [bytesOf_size, bytesOf_size]
    show 2 + 2 ≤ 4611686018427387904
    decide
  refine ⟨fun ht => ?_, fun hf => ?_⟩
  · have he : (1 : Int) = errE w := by unfold errE; rw [if_pos (by rw [← hbb]; exact ht)]
    refine ⟨fun _ _ => s1 _ _ _ _ _ _ _ _, fun _ h0 => ⟨by decide, by decide, by have := hl0 h0; omega⟩, fun _ _ _ => s2 _ _ _ _, fun _ h0 _ => ⟨by decide, by decide, by have := hl0 h0; omega⟩, fun _ h0 _ => ⟨by decide, by have := hl0 h0; omega⟩, fun hx => ?_, fun _ => ⟨g + 1, show g + 1 ≤ 3 by omega, show 3 - (g + 1) < 3 - g by omega, ⟨trivial, rfl, wrap_next (n := 3) hlt (by omega)⟩, rfl⟩⟩
    have hx : ckAny w 1 = true := hx
    exact absurd (hx.symm.trans (ck_false hwb he)) (by decide)
  · have hbf : badE w = false := by rw [← hbb]; exact hf
    have h32 : w.length = 32 := by
      unfold badE at hbf
      simp only [Bool.or_eq_false_iff, bne_eq_false_iff_eq] at hbf
      have h := hbf.1.1.1.1.1
      exact Int.ofNat_inj.1 h
    refine ⟨⟨by decide, by decide, by omega⟩, ?_, fun _ => ⟨by decide, by omega, Int.le_refl _⟩, fun _ => ?_, fun d hd => ⟨fun _ => trivial, fun _ => trivial, fun k hk => ?_⟩⟩
    · have : (List.drop 0 (List.take 20 w)).length ≤ w.length := by rw [List.length_drop, List.length_take]; omega
      exact Nat.lt_of_le_of_lt this hwl
    · have : (List.drop 20 (List.take (w.length : Int).toNat w)).length ≤ w.length := by rw [List.length_drop, List.length_take]; omega
      exact Nat.lt_of_le_of_lt this hwl
    · have hd : d = sumE w := hd
      have he : k = errE w := by
        rw [hk, hd]
        unfold errE
        rw [hbf]
        rfl
      refine ⟨fun _ _ => s1 _ _ _ _ _ _ _ _, fun _ h0 => ⟨by decide, by decide, by have := hl0 h0; omega⟩, fun _ _ _ => s2 _ _ _ _, fun _ h0 _ => ⟨by decide, by decide, by have := hl0 h0; omega⟩, fun _ h0 _ => ⟨by decide, by have := hl0 h0; omega⟩, fun hx => ?_, fun _ => ⟨g + 1, show g + 1 ≤ 3 by omega, show 3 - (g + 1) < 3 - g by omega, ⟨trivial, rfl, wrap_next (n := 3) hlt (by omega)⟩, rfl⟩⟩
      have hx : ckAny w k = true := hx
      exact absurd (hx.symm.trans (ck_false hwb he)) (by decide)
theorem okAny : FnOk Try.prog u 4 spAny := by
  refine fn_ok Try.prog u tab6 mo laws6 Try.func4 ?_
  intro xs c y h hc
  unfold spAny at h
  split at h
  · cases h
    exact ⟨by kernel_rfl, _, _, bodyAny _ _ _ _ _ _ _ _ _ _ _ _ _ _ hc⟩
  · cases h
end Go.Proofs.Ytghaljkohheioaa.Wire
