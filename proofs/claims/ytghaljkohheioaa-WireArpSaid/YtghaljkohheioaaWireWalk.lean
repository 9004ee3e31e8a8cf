/- Packets of the wire: the contracts of the small functions. -/
import Derived.Test.YtghaljkohheioaaWireVc
namespace Go.Proofs.Ytghaljkohheioaa.Wire
open Go Go.Proofs.Ytghaljkohheioaa.Sx Go.Proofs.Ytghaljkohheioaa.Sum

theorem dec_sound (e : E A) (T : Nat) (l : List (SV A)) (vs : List Value) (x : A T) (h : dec T l = some x) (hr : RepL Try.prog u e l vs) : RepL Try.prog u e (enc T x) vs := by
  unfold dec at h
  split at h
  · cases h; exact hr
  · cases h; exact hr
  · cases h
    cases hr with
    | nils h2 => cases h2; exact .csl 5 [] none 0 0 (fun _ => []) rfl (Nat.le_refl _) (.inl rfl) (fun i hi => by simp at hi) (fun i x hi => by simp at hi) .nil
  · cases h
    cases hr with
    | zsl a h2 => cases h2; exact .csl 5 [] a 0 0 (fun _ => []) rfl (Nat.le_refl _) (.inl rfl) (fun i hi => by simp at hi) (fun i x hi => by simp at hi) .nil
  · cases h
theorem dec_len {T : Nat} {l : List (SV A)} {x : A T} (h : dec T l = some x) : l.length = Try.prog.cellsOf T := by
  unfold dec at h
  split at h <;> first | (cases h; kernel_rfl) | cases h
theorem law : Law Try.prog u := by
  refine ⟨fun e T l vs x h hr => dec_sound e T l vs x h hr, fun T l x h => dec_len h, ?_, ?_, ?_, ?_⟩
  · intro T f x y h
    have h : eqv T = some f := h
    unfold eqv at h
    split at h
    · cases h
      show eqT Try.prog 8 5 [.int .u8 x] [.int .u8 y] = some (BEq.beq (α := Int) x y)
      kernel_rfl
    · cases h
  · intro T x
    show (enc T x).all _ = true
    unfold enc
    split <;> rfl
  · intro T xs h
    have h : isByte T = true := h
    unfold isByte at h
    split at h
    · exact ⟨rfl, fun i x hi => ⟨x, hi, rfl⟩⟩
    · cases h
  · intro T xs h
    have h : isByte T = true := h
    unfold isByte at h
    split at h
    · exact ⟨rfl, fun i x hi => ⟨x, hi, rfl⟩⟩
    · cases h
theorem clean : ∀ (T : Nat) (x : A T), noOwn.go (u.enc T x) = true := by
  intro T x
  show noOwn.go (enc T x) = true
  unfold enc
  split <;> rfl
theorem mo : Try.prog.follows .mixedOrders = true := by kernel_rfl
theorem laws0 : Laws Try.prog u tab0 := { toLaw := law, clean := clean, tab := fun p hp => by cases hp }
theorem wrap_i64_id {n : Int} (h : -9223372036854775808 ≤ n ∧ n < 9223372036854775808) : IntKind.i64.wrap n = n := by rw [IntKind.wrap_i64]; omega
theorem wrap_next {g n : Nat} (h : (g : Int) < n) (hn : n < 9223372036854775808) : IntKind.i64.wrap ((g : Int) + 1) = ((g + 1 : Nat) : Int) := by
  rw [IntKind.wrap_i64]
  omega
theorem even_shift (g : Nat) : (0 : Int) ≤ IntKind.i64.wrap (8 * IntKind.i64.wrap (1 - (g : Int).tmod 2)) := by
  rw [Int.tmod_eq_emod_of_nonneg (by omega), IntKind.wrap_i64, IntKind.wrap_i64]
  omega
theorem bodyWords (xs : List Int) (hl : lenOk xs) : BodyOk Try.prog u tab0 [] [(0, .inv (annW xs))] Try.f13 [.csl 5 xs] (.int .u16 (notW (IntKind.u16.wrap (wAt xs xs.length)))) := by
  constructor
  have e : bodyW Try.prog u tab0 [] (drawW Try.prog u tab0) (loopsBy u [(0, .inv (annW xs))]) Try.f13 [.csl 5 xs] (.int .u16 (notW (IntKind.u16.wrap (wAt xs xs.length)))) = vcWords xs := by kernel_rfl
  rw [e]
  unfold vcWords
  refine ⟨⟨0, Nat.zero_le _, rfl, rfl, rfl, rfl⟩, fun g hg => ⟨fun hlt => ?_, fun hge => ?_⟩⟩
  · have hlt := of_decide_eq_true hlt
    have hlt' : g < xs.length := by omega
    refine ⟨⟨by omega, hlt⟩, by decide, even_shift g, by decide, g + 1, hlt', ?_, rfl, rfl, wrap_next hlt hl, rfl⟩
    show xs.length - (g + 1) < xs.length - g
    omega
  · have hge := of_decide_eq_false hge
    have hg' : g = xs.length := by
      have : g ≤ xs.length := hg
      omega
    rw [hg']
    rfl
theorem okWords : FnOk Try.prog u 13 spWords := by
  refine fn_ok Try.prog u tab0 mo laws0 Try.func13 ?_
  intro xs c y h hc
  unfold spWords at h
  split at h
  · cases h
    rename_i zs
    exact ⟨by kernel_rfl, [], [(0, .inv (annW zs))], bodyWords zs hc⟩
  · cases h
theorem bodyNum (xs : List Int) (hl : lenOk xs) : BodyOk Try.prog u tab0 [] [(0, .inv (annNum xs))] Try.f23 [.csl 5 xs] (.int .i64 (numAt xs xs.length)) := by
  constructor
  have e : bodyW Try.prog u tab0 [] (drawW Try.prog u tab0) (loopsBy u [(0, .inv (annNum xs))]) Try.f23 [.csl 5 xs] (.int .i64 (numAt xs xs.length)) = vcNum xs := by kernel_rfl
  rw [e]
  unfold vcNum
  refine ⟨⟨0, Nat.zero_le _, rfl, rfl, rfl, rfl⟩, fun g hg => ⟨fun hlt => ?_, fun hge => ?_⟩⟩
  · have hlt := of_decide_eq_true hlt
    have hlt' : g < xs.length := by omega
    refine ⟨⟨by omega, hlt⟩, by decide, g + 1, hlt', ?_, rfl, rfl, wrap_next hlt hl, rfl⟩
    show xs.length - (g + 1) < xs.length - g
    omega
  · have hge := of_decide_eq_false hge
    have hg' : g = xs.length := by
      have : g ≤ xs.length := hg
      omega
    rw [hg']
theorem okNum : FnOk Try.prog u 23 spNumber := by
  refine fn_ok Try.prog u tab0 mo laws0 Try.func23 ?_
  intro xs c y h hc
  unfold spNumber at h
  split at h
  · cases h
    rename_i zs
    exact ⟨by kernel_rfl, [], [(0, .inv (annNum zs))], bodyNum zs hc⟩
  · cases h
theorem bodyIp (a : Int) : BodyOk Try.prog u tab0 [] [] Try.f14 [.int .u32 a] (.str (bytesOf [IntKind.u8.wrap (shr .u32 a 24), IntKind.u8.wrap (shr .u32 a 16), IntKind.u8.wrap (shr .u32 a 8), IntKind.u8.wrap a])) := by
  constructor
  have e : bodyW Try.prog u tab0 [] (drawW Try.prog u tab0) (loopsBy u []) Try.f14 [.int .u32 a] (.str (bytesOf [IntKind.u8.wrap (shr .u32 a 24), IntKind.u8.wrap (shr .u32 a 16), IntKind.u8.wrap (shr .u32 a 8), IntKind.u8.wrap a])) = vcIp a := by kernel_rfl
  rw [e]
  exact ⟨by decide, by decide, by decide, rfl⟩
theorem okIp : FnOk Try.prog u 14 spIp := by
  refine fn_ok Try.prog u tab0 mo laws0 Try.func14 ?_
  intro xs c y h hc
  unfold spIp at h
  split at h
  · cases h
    exact ⟨by kernel_rfl, [], [], bodyIp _⟩
  · cases h
theorem bodyTwo (a : Int) : BodyOk Try.prog u tab0 [] [] Try.f15 [.int .i64 a] (.str (bytesOf [IntKind.u8.wrap (shr .i64 a 8), IntKind.u8.wrap a])) := by
  constructor
  have e : bodyW Try.prog u tab0 [] (drawW Try.prog u tab0) (loopsBy u []) Try.f15 [.int .i64 a] (.str (bytesOf [IntKind.u8.wrap (shr .i64 a 8), IntKind.u8.wrap a])) = vcTwo a := by kernel_rfl
  rw [e]
  exact ⟨by decide, rfl⟩
theorem okTwo : FnOk Try.prog u 15 spTwo := by
  refine fn_ok Try.prog u tab0 mo laws0 Try.func15 ?_
  intro xs c y h hc
  unfold spTwo at h
  split at h
  · cases h
    exact ⟨by kernel_rfl, [], [], bodyTwo _⟩
  · cases h
theorem layK_len (xs : List Int) (lo len : Nat) (n : Int) : ∀ k, (layK xs lo len n k).length = xs.length
  | 0 => rfl
  | k + 1 => by rw [layK, List.length_set, layK_len xs lo len n k]
theorem bodyLay (xs : List Int) (lo len : Nat) (n : Int) (hl : len ≤ 1000) : BodyOkH Try.prog u tab0 [] [(0, .inv (annLay xs lo len n))] Try.f22 [.osl 0 lo len, .int .i64 n] [.row 5 xs] (.tup []) [.row 5 (layK xs lo len n len)] := by
  constructor
  have e : bodyH Try.prog u tab0 [] (drawW Try.prog u tab0) (loopsBy u [(0, .inv (annLay xs lo len n))]) Try.f22 [.osl 0 lo len, .int .i64 n] [.row 5 xs] (.tup []) [.row 5 (layK xs lo len n len)] = vcLay xs lo len n := by kernel_rfl
  rw [e]
  unfold vcLay
  refine ⟨⟨0, Nat.zero_le _, ⟨rfl, rfl, ⟨rfl, rfl⟩, rfl⟩, rfl⟩, fun g hg => ⟨fun hlt => ?_, fun hge => ?_⟩⟩
  · have hlt := of_decide_eq_true hlt
    have hlt' : g < len := by omega
    refine ⟨?_, ⟨by omega, hlt⟩, g + 1, hlt', ?_, ⟨rfl, rfl, ⟨rfl, rfl⟩, wrap_next hlt (by omega)⟩, rfl⟩
    · rw [IntKind.wrap_i64, IntKind.wrap_i64, IntKind.wrap_i64]; omega
    · show len - (g + 1) < len - g
      omega
  · have hge := of_decide_eq_false hge
    have hg' : g = len := by
      have : g ≤ len := hg
      omega
    rw [hg']
    exact ⟨trivial, rfl, layK_len _ _ _ _ _, trivial⟩
theorem okLay : FnOkH Try.prog u 22 hLay := by
  refine fn_okH Try.prog u tab0 mo laws0 Try.func22 ?_
  intro xs os c y os2 h hc
  unfold hLay at h
  split at h
  · cases h
    exact ⟨[], [(0, .inv (annLay _ _ _ _))], bodyLay _ _ _ _ hc⟩
  · cases h
end Go.Proofs.Ytghaljkohheioaa.Wire
