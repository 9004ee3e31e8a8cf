/- Sums of bytes: the contracts of the sums of words, and of the document's examples. -/
import Derived.Test.YtacafjapnppacaaSumVcB
namespace Go.Proofs.Ytacafjapnppacaa.Sum
open Go Go.Proofs.Ytacafjapnppacaa.Sx
theorem even_shift (g : Nat) : (0 : Int) ≤ IntKind.i64.wrap (8 * IntKind.i64.wrap (1 - (g : Int).tmod 2)) := by
  rw [Int.tmod_eq_emod_of_nonneg (by omega), IntKind.wrap_i64, IntKind.wrap_i64]
  omega
theorem body12 (xs : List Int) (hl : lenOk xs) : BodyOk Try.prog u tab0 [] [(0, .inv (ann12 xs))] Try.f12 [.csl 5 xs] (.int .u16 (notW (IntKind.u16.wrap (wAt xs xs.length)))) := by
  constructor
  have e : bodyW Try.prog u tab0 [] (drawW Try.prog u tab0) (loopsBy u [(0, .inv (ann12 xs))]) Try.f12 [.csl 5 xs] (.int .u16 (notW (IntKind.u16.wrap (wAt xs xs.length)))) = vc12 xs := by kernel_rfl
  rw [e]
  unfold vc12
  refine ⟨⟨0, Nat.zero_le _, rfl, rfl, rfl, rfl⟩, fun g hg => ⟨fun hlt => ?_, fun hge => ?_⟩⟩
  · have hlt := of_decide_eq_true hlt
    have hlt' : g < xs.length := by omega
    refine ⟨⟨by omega, hlt⟩, by decide, even_shift g, by decide, g + 1, hlt', ?_, rfl, rfl, wrap_next hlt hl, rfl⟩
    show xs.length - (g + 1) < xs.length - g
    omega
  · have hge := of_decide_eq_false hge
    have hg' : g = xs.length := by
      have : g ≤ xs.length := hg
      omega
    rw [hg']
    rfl
theorem ok12 : FnOk Try.prog u 12 sp12 := by
  refine fn_ok Try.prog u tab0 mo laws0 Try.func12 ?_
  intro xs c y h hc
  unfold sp12 at h
  split at h
  · cases h
    rename_i zs
    exact ⟨by kernel_rfl, [], [(0, .inv (ann12 zs))], body12 zs hc⟩
  · cases h
theorem body13 (xs : List Int) (hl : lenOk xs) : BodyOk Try.prog u tab0 [] [(0, .inv (ann13 xs))] Try.f13 [.csl 5 xs] (.int .u16 (IntKind.u16.wrap (IntKind.i64.wrap (65535 - vAt xs xs.length)))) := by
  constructor
  have e : bodyW Try.prog u tab0 [] (drawW Try.prog u tab0) (loopsBy u [(0, .inv (ann13 xs))]) Try.f13 [.csl 5 xs] (.int .u16 (IntKind.u16.wrap (IntKind.i64.wrap (65535 - vAt xs xs.length)))) = vc13 xs := by kernel_rfl
  rw [e]
  unfold vc13
  refine ⟨⟨0, Nat.zero_le _, rfl, rfl, rfl, rfl⟩, fun g hg => ⟨fun hlt => ?_, fun hge => ?_⟩⟩
  · have hlt := of_decide_eq_true hlt
    have hlt' : g < xs.length := by omega
    refine ⟨by decide, fun _ => ⟨by omega, hlt⟩, fun _ => ⟨by omega, hlt⟩, fun v hv => ⟨fun _ => trivial, fun _ => trivial, fun v1 hv1 => ⟨g + 1, hlt', ?_, rfl, rfl, wrap_next hlt hl, ?_⟩⟩⟩
    · show xs.length - (g + 1) < xs.length - g
      omega
    · show v1 = downV (stepV (vAt xs g) g (xs.getD g 0))
      subst hv1
      have hs : v = stepV (vAt xs g) g (xs.getD g 0) := by
        rw [hv]
        unfold stepV
        split <;> rfl
      rw [hs]
      rfl
  · have hge := of_decide_eq_false hge
    have hg' : g = xs.length := by
      have : g ≤ xs.length := hg
      omega
    rw [hg']
theorem ok13 : FnOk Try.prog u 13 sp13 := by
  refine fn_ok Try.prog u tab0 mo laws0 Try.func13 ?_
  intro xs c y h hc
  unfold sp13 at h
  split at h
  · cases h
    rename_i zs
    exact ⟨by kernel_rfl, [], [(0, .inv (ann13 zs))], body13 zs hc⟩
  · cases h
theorem laws1 : Laws Try.prog u tab1 := { toLaw := law, clean := clean, tab := fun p hp => by
                                            rcases List.mem_cons.1 hp with rfl | hp
                                            · exact ok10
                                            rcases List.mem_cons.1 hp with rfl | hp
                                            · exact ok11
                                            rcases List.mem_cons.1 hp with rfl | hp
                                            · exact ok12
                                            rcases List.mem_cons.1 hp with rfl | hp
                                            · exact ok13
                                            cases hp }
theorem body14 (xs : List Int) (hl : lenOk xs) : BodyOk Try.prog u tab1 [] [] Try.f14 [.csl 5 xs] (.bool (notW (IntKind.u16.wrap (wAt xs xs.length)) == 0)) := by
  constructor
  have e : bodyW Try.prog u tab1 [] (drawW Try.prog u tab1) (loopsBy u []) Try.f14 [.csl 5 xs] (.bool (notW (IntKind.u16.wrap (wAt xs xs.length)) == 0)) = vc14 xs := by kernel_rfl
  rw [e]
  unfold vc14
  exact ⟨hl, rfl⟩
theorem ok14 : FnOk Try.prog u 14 sp14 := by
  refine fn_ok Try.prog u tab1 mo laws1 Try.func14 ?_
  intro xs c y h hc
  unfold sp14 at h
  split at h
  · cases h
    rename_i zs
    exact ⟨by kernel_rfl, [], [], body14 zs hc⟩
  · cases h
theorem body9 : BodyOk Try.prog u tab1 [] [] Try.f9 [] (.bool true) := by
  constructor
  have e : bodyW Try.prog u tab1 [] (drawW Try.prog u tab1) (loopsBy u []) Try.f9 [] (.bool true) = vc9 := by kernel_rfl
  rw [e]
  unfold vc9
  exact ⟨by decide, show 10 ≤ 9223372036854775808 by omega, fun _ => ⟨show 9 ≤ 9223372036854775808 by omega, by decide⟩, fun h => absurd h (by decide)⟩
theorem ok9 : FnOk Try.prog u 9 sp9 := by
  refine fn_ok Try.prog u tab1 mo laws1 Try.func9 ?_
  intro xs c y h hc
  unfold sp9 at h
  split at h
  · cases h
    exact ⟨by kernel_rfl, [], [], body9⟩
  · cases h
theorem laws2 : Laws Try.prog u tab2 := { toLaw := law, clean := clean, tab := fun p hp => by
                                            rcases List.mem_cons.1 hp with rfl | hp
                                            · exact ok9
                                            rcases List.mem_cons.1 hp with rfl | hp
                                            · exact ok14
                                            exact laws1.tab p hp }
end Go.Proofs.Ytacafjapnppacaa.Sum
