/- Sightings: the contracts of the laws' own pieces. -/
import Derived.Test.YtcgeccpookgoeaaSeenVcB
namespace Go.Proofs.Ytcgeccpookgoeaa.Seen
open Go Go.Proofs.Ytcgeccpookgoeaa.Sx

theorem nilFirst_ok {T f : Nat} {sp : Sx.Spec A} (h : FnOk Try.prog u f sp) : FnOk Try.prog u f (nilFirst T sp) := by
  intro xs c y hs hc w O vs hO hx
  unfold nilFirst at hs
  split at hs
  · cases hx with
    | nils hr => exact h _ _ _ hs hc w O _ hO (.csl T [] none 0 0 (fun _ => []) rfl (Nat.le_refl _) (.inl rfl) (fun i hi => by simp at hi) (fun i x hi => by simp at hi) hr)
  · exact h _ _ _ hs hc w O vs hO hx
theorem okPutN : FnOk Try.prog u 11 (nilFirst 53 spPut) := nilFirst_ok okPut
theorem laws5 : Laws Try.prog u tab5 := by
  refine ⟨law, clean, fun p hp => ?_⟩
  rcases List.mem_cons.1 hp with rfl | hp
  · exact okPutN
  exact laws4.tab p hp
theorem bodyAwake : BodyOk Try.prog u tab5 [] [] Try.f9 [] (.bool true) := by
  constructor
  have eqn : bodyW Try.prog u tab5 [] (drawW Try.prog u tab5) (loopsBy u []) Try.f9 [] (.bool true) = vcAwake  := by kernel_rfl
  rw [eqn]
  unfold vcAwake
  have hg := put_good (now := 0) (ks := []) (a := 167772160) (s := zeroS)
  have hput : putL [] 5 ⟨1, ⟨0, 0, 0, 0, 0, 0⟩, 3⟩ = [⟨5, [⟨1, ⟨0, 0, 0, 0, 0, 0⟩, 3⟩]⟩] := rfl
  rw [hput]
  have hs1 : ∀ i j : Nat, i < j → j < 1 → (getK [⟨5, [⟨1, ⟨0, 0, 0, 0, 0, 0⟩, 3⟩]⟩] i).addr < (getK [⟨5, [⟨1, ⟨0, 0, 0, 0, 0, 0⟩, 3⟩]⟩] j).addr := fun i j h1 h2 => by omega
  have hl : ∀ (n : Nat), 1 ≤ n → ∀ x : Known, x ∈ [(⟨5, [⟨1, ⟨0, 0, 0, 0, 0, 0⟩, 3⟩]⟩ : Known)] → x.seen.length ≤ n := fun n hn x hx => by
    rw [List.mem_singleton] at hx
    subst hx
    exact hn
  refine ⟨⟨by decide, fun x hx => (by cases hx), fun i j h1 h2 => by omega⟩, ⟨by decide, hl 1000 (by decide), hs1⟩, ⟨⟨by decide, hs1⟩, fun x hx => by have := hl 1 (Nat.le_refl _) x hx; omega⟩, fun _ => ⟨⟨by decide, hs1⟩, fun x hx => by have := hl 1 (Nat.le_refl _) x hx; omega⟩, fun _ => ⟨by decide, fun x hx => by have := hl 1 (Nat.le_refl _) x hx; omega⟩, ?_⟩
  decide +kernel
theorem okAwake : FnOk Try.prog u 9 spAwake := by
  refine fn_ok Try.prog u tab5 mo laws5 Try.func9 ?_
  intro xs c y h hc
  unfold spAwake at h
  split at h
  · cases h
    exact ⟨by kernel_rfl, _, _, bodyAwake⟩
  · cases h
theorem bodySome (xs : List Act) (h : actsOk xs) : BodyOk Try.prog u tab5 [106005] [(0, .inv (annSome (headS xs 120)))] Try.f17 [.csl 28 xs] (.tup [.csl 53 (someL xs).1, .int .i64 (someL xs).2]) := by
  constructor
  have eqn : bodyW Try.prog u tab5 [106005] (drawW Try.prog u tab5) (loopsBy u [(0, .inv (annSome (headS xs 120)))]) Try.f17 [.csl 28 xs] (.tup [.csl 53 (someL xs).1, .int .i64 (someL xs).2]) = vcSome xs := by kernel_rfl
  rw [eqn]
  unfold vcSome
  obtain ⟨h, hn⟩ := h
  have h : xs.length < 9223372036854775808 := h
  have hm : 0 ≤ mn (xs.length : Int) 120 ∧ mn (xs.length : Int) 120 ≤ xs.length := by unfold mn; split <;> omega
  have hh := headS_le xs 120 (by decide)
  refine ⟨⟨by decide, hm.1, hm.2⟩, ⟨0, Nat.zero_le _, rfl, rfl, rfl, rfl, rfl⟩, fun g hg => ⟨fun hlt => ?_, fun hge => ?_⟩⟩
  · have hlt : (g : Int) < ((headS xs 120).length : Int) := of_decide_eq_true hlt
    have hlt' : g < (headS xs 120).length := by omega
    obtain ⟨hgood, _, _⟩ := some_good (nOk_head hn 120) g (by omega)
    have hstep : someAt (headS xs 120) (g + 1) = someStep (someAt (headS xs 120) g) (getA (headS xs 120) g) := rfl
    refine ⟨⟨by omega, hlt⟩, by decide, fun v hv => ⟨hgood.size, fun _ => trivial, fun _ => trivial, fun w hw => ⟨g + 1, hlt', show (headS xs 120).length - (g + 1) < (headS xs 120).length - g by omega, rfl, rfl, wrap_next hlt (by omega), ?_, ?_⟩⟩⟩
    · subst hw hv
      exact (congrArg Prod.fst hstep).symm
    · subst hv
      exact (congrArg Prod.snd hstep).symm
  · have hge : ¬ (g : Int) < ((headS xs 120).length : Int) := of_decide_eq_false hge
    have hg : g ≤ (headS xs 120).length := hg
    have : g = (headS xs 120).length := by omega
    subst this
    exact ⟨rfl, rfl⟩
theorem okSome : FnOk Try.prog u 17 spSome := by
  refine fn_ok Try.prog u tab5 mo laws5 Try.func17 ?_
  intro xs c y h hc
  unfold spSome at h
  split at h
  · cases h
    exact ⟨by kernel_rfl, _, _, bodySome _ hc⟩
  · cases h
theorem laws6 : Laws Try.prog u tab6 := by
  refine ⟨law, clean, fun p hp => ?_⟩
  rcases List.mem_cons.1 hp with rfl | hp
  · exact okAwake
  rcases List.mem_cons.1 hp with rfl | hp
  · exact okSome
  exact laws5.tab p hp

end Go.Proofs.Ytcgeccpookgoeaa.Seen
