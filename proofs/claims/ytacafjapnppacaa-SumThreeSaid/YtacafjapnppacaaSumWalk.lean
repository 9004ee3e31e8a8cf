/- Sums of bytes: the contracts of the sums of 32 bits. -/
import Derived.Test.YtacafjapnppacaaSumVc
namespace Go.Proofs.Ytacafjapnppacaa.Sum
open Go Go.Proofs.Ytacafjapnppacaa.Sx

theorem dec_eq {T : Nat} {l : List (SV A)} {x : A T} (h : dec T l = some x) : l = enc T x ∧ l.length = Try.prog.cellsOf T := by
  unfold dec at h
  split at h
  · cases h
    exact ⟨rfl, by kernel_rfl⟩
  · cases h
theorem law : Law Try.prog u := by
  refine ⟨fun e T l vs x h hr => by rw [(dec_eq h).1] at hr; exact hr, fun T l x h => (dec_eq h).2, ?_, ?_, ?_, ?_⟩
  · intro T f x y h
    have h : eqv T = some f := h
    unfold eqv at h
    split at h
    · cases h
      show eqT Try.prog 8 5 [.int .u8 x] [.int .u8 y] = some (BEq.beq (α := Int) x y)
      kernel_rfl
    · cases h
  · intro T x
    show (enc T x).all _ = true
    unfold enc
    split <;> rfl
  · intro T xs h
    have h : isByte T = true := h
    unfold isByte at h
    split at h
    · exact ⟨rfl, fun i x hi => ⟨x, hi, rfl⟩⟩
    · cases h
  · intro T xs h
    have h : isByte T = true := h
    unfold isByte at h
    split at h
    · exact ⟨rfl, fun i x hi => ⟨x, hi, rfl⟩⟩
    · cases h
theorem clean : ∀ (T : Nat) (x : A T), noOwn.go (u.enc T x) = true := by
  intro T x
  show noOwn.go (enc T x) = true
  unfold enc
  split <;> rfl
theorem mo : Try.prog.follows .mixedOrders = true := by kernel_rfl
theorem laws0 : Laws Try.prog u tab0 := { toLaw := law, clean := clean, tab := fun p hp => by cases hp }
theorem wrap_next {g n : Nat} (h : (g : Int) < n) (hn : n < 9223372036854775808) : IntKind.i64.wrap ((g : Int) + 1) = ((g + 1 : Nat) : Int) := by
  rw [IntKind.wrap_i64]
  omega
theorem fold_next {f : Int → Int → Int} {z : Int} {xs : List Int} {g : Nat} (h : g < xs.length) (d : Int) : (xs.take (g + 1)).foldl f z = f ((xs.take g).foldl f z) (xs.getD g d) := by
  rw [List.take_add_one, List.foldl_append, List.getElem?_eq_getElem h]
  simp [List.getD, List.getElem?_eq_getElem h]
theorem body10 (xs : List Int) (hl : lenOk xs) : BodyOk Try.prog u tab0 [] [(0, .inv (ann10 xs)), (2, .rounds 9)] Try.f10 [.csl 5 xs] (.int .u32 (notU (foldA xs))) := by
  constructor
  have e : bodyW Try.prog u tab0 [] (drawW Try.prog u tab0) (loopsBy u [(0, .inv (ann10 xs)), (2, .rounds 9)]) Try.f10 [.csl 5 xs] (.int .u32 (notU (foldA xs))) = vc10 xs := by kernel_rfl
  rw [e]
  unfold vc10
  refine ⟨⟨0, Nat.zero_le _, rfl, rfl, rfl, rfl⟩, fun g hg => ⟨fun hlt => ?_, fun hge => ?_⟩⟩
  · have hlt := of_decide_eq_true hlt
    have hlt' : g < xs.length := by omega
    refine ⟨⟨by omega, hlt⟩, ?_⟩
    refine ⟨fun _ => ⟨by omega, fun _ => trivial, fun _ => trivial, fun v0 h0 => ?_⟩, fun h => absurd h (by decide)⟩
    refine ⟨fun _ => ⟨by omega, fun _ => trivial, fun _ => trivial, fun v1 h1 => ?_⟩, fun h => absurd h (by decide)⟩
    refine ⟨fun _ => ⟨by omega, fun _ => trivial, fun _ => trivial, fun v2 h2 => ?_⟩, fun h => absurd h (by decide)⟩
    refine ⟨fun _ => ⟨by omega, fun _ => trivial, fun _ => trivial, fun v3 h3 => ?_⟩, fun h => absurd h (by decide)⟩
    refine ⟨fun _ => ⟨by omega, fun _ => trivial, fun _ => trivial, fun v4 h4 => ?_⟩, fun h => absurd h (by decide)⟩
    refine ⟨fun _ => ⟨by omega, fun _ => trivial, fun _ => trivial, fun v5 h5 => ?_⟩, fun h => absurd h (by decide)⟩
    refine ⟨fun _ => ⟨by omega, fun _ => trivial, fun _ => trivial, fun v6 h6 => ?_⟩, fun h => absurd h (by decide)⟩
    refine ⟨fun _ => ⟨by omega, fun _ => trivial, fun _ => trivial, fun v7 h7 => ?_⟩, fun h => absurd h (by decide)⟩
    refine ⟨fun h => absurd h (by decide), fun _ => ⟨g + 1, hlt', ?_, rfl, rfl, wrap_next hlt hl, ?_⟩⟩
    · show xs.length - (g + 1) < xs.length - g
      omega
    · show v7 = foldA (xs.take (g + 1))
      unfold foldA
      rw [fold_next hlt' (u.dflt 5)]
      have hn : (g : Int).toNat = g := by omega
      rw [hn] at h0
      subst h7 h6 h5 h4 h3 h2 h1 h0
      rfl
  · have hge := of_decide_eq_false hge
    have hg' : g = xs.length := by
      have : g ≤ xs.length := hg
      omega
    rw [hg', List.take_length]
    rfl
theorem ok10 : FnOk Try.prog u 10 sp10 := by
  refine fn_ok Try.prog u tab0 mo laws0 Try.func10 ?_
  intro xs c y h hc
  unfold sp10 at h
  split at h
  · cases h
    rename_i zs
    exact ⟨by kernel_rfl, [], [(0, .inv (ann10 zs)), (2, .rounds 9)], body10 zs hc⟩
  · cases h
theorem body11 (xs : List Int) (hl : lenOk xs) : BodyOk Try.prog u tab0 [] [(0, .inv (ann11 xs)), (2, .rounds 9)] Try.f11 [.csl 5 xs] (.int .u32 (bitsI .xor .u32 (foldB xs) 4294967295)) := by
  constructor
  have e : bodyW Try.prog u tab0 [] (drawW Try.prog u tab0) (loopsBy u [(0, .inv (ann11 xs)), (2, .rounds 9)]) Try.f11 [.csl 5 xs] (.int .u32 (bitsI .xor .u32 (foldB xs) 4294967295)) = vc11 xs := by kernel_rfl
  rw [e]
  unfold vc11
  refine ⟨⟨0, Nat.zero_le _, rfl, rfl, rfl, rfl⟩, fun g hg => ⟨fun hlt => ?_, fun hge => ?_⟩⟩
  · have hlt := of_decide_eq_true hlt
    have hlt' : g < xs.length := by omega
    refine ⟨⟨by omega, hlt⟩, ?_⟩
    refine ⟨fun _ => ⟨by decide, fun _ h => absurd h (by decide), fun _ h => absurd h (by decide), fun v0 h0 => ?_⟩, fun h => absurd h (by decide)⟩
    refine ⟨fun _ => ⟨by decide, fun _ h => absurd h (by decide), fun _ h => absurd h (by decide), fun v1 h1 => ?_⟩, fun h => absurd h (by decide)⟩
    refine ⟨fun _ => ⟨by decide, fun _ h => absurd h (by decide), fun _ h => absurd h (by decide), fun v2 h2 => ?_⟩, fun h => absurd h (by decide)⟩
    refine ⟨fun _ => ⟨by decide, fun _ h => absurd h (by decide), fun _ h => absurd h (by decide), fun v3 h3 => ?_⟩, fun h => absurd h (by decide)⟩
    refine ⟨fun _ => ⟨by decide, fun _ h => absurd h (by decide), fun _ h => absurd h (by decide), fun v4 h4 => ?_⟩, fun h => absurd h (by decide)⟩
    refine ⟨fun _ => ⟨by decide, fun _ h => absurd h (by decide), fun _ h => absurd h (by decide), fun v5 h5 => ?_⟩, fun h => absurd h (by decide)⟩
    refine ⟨fun _ => ⟨by decide, fun _ h => absurd h (by decide), fun _ h => absurd h (by decide), fun v6 h6 => ?_⟩, fun h => absurd h (by decide)⟩
    refine ⟨fun _ => ⟨by decide, fun _ h => absurd h (by decide), fun _ h => absurd h (by decide), fun v7 h7 => ?_⟩, fun h => absurd h (by decide)⟩
    refine ⟨fun h => absurd h (by decide), fun _ => ⟨by decide, g + 1, hlt', ?_, rfl, rfl, wrap_next hlt hl, ?_⟩⟩
    · show xs.length - (g + 1) < xs.length - g
      omega
    · show _ = foldB (xs.take (g + 1))
      unfold foldB
      rw [fold_next hlt' (u.dflt 5)]
      have hn : (g : Int).toNat = g := by omega
      rw [hn] at h0
      subst h7 h6 h5 h4 h3 h2 h1 h0
      rfl
  · have hge := of_decide_eq_false hge
    have hg' : g = xs.length := by
      have : g ≤ xs.length := hg
      omega
    rw [hg', List.take_length]
theorem ok11 : FnOk Try.prog u 11 sp11 := by
  refine fn_ok Try.prog u tab0 mo laws0 Try.func11 ?_
  intro xs c y h hc
  unfold sp11 at h
  split at h
  · cases h
    rename_i zs
    exact ⟨by kernel_rfl, [], [(0, .inv (ann11 zs)), (2, .rounds 9)], body11 zs hc⟩
  · cases h
end Go.Proofs.Ytacafjapnppacaa.Sum
