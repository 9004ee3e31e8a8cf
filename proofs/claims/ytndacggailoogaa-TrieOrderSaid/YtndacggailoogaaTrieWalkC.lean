/- Tries: the laws TrieTwo and TrieHalves, by the bodies' contracts. -/
import Derived.Test.YtndacggailoogaaTrieVcC
import Derived.Test.YtndacggailoogaaTrieWalkB
import Derived.Test.YtndacggailoogaaTrieHalf
namespace Go.Proofs.Ytndacggailoogaa.Tri
open Go Go.Proofs.Ytndacggailoogaa.Sx

theorem bodyAwake : BodyOk Try.prog u tab6 [] [] Try.f8 [] (.bool true) := by
  constructor
  have eqn : bodyW Try.prog u tab6 [] (drawW Try.prog u tab6) (loopsBy u []) Try.f8 [] (.bool true) = vcAwake  := by kernel_rfl
  rw [eqn]
  unfold vcAwake
  have h1 := (putV (n := 0) new_good (x := ⟨167772160, 8⟩) ⟨by decide, by decide +kernel⟩).2.2.1.wf
  have h2 : (putM 0 [nd0] 167772160 8).2.length = 9 := by decide +kernel
  unfold WfN at h1
  rw [h2] at h1
  exact ⟨new_good.wf, h1, by decide +kernel⟩
theorem okAwake : FnOk Try.prog u 8 spAwake := by
  refine fn_ok Try.prog u tab6 mo laws6 Try.func8 ?_
  intro xs c y h hc
  unfold spAwake at h
  split at h
  · cases h
    exact ⟨by kernel_rfl, _, _, bodyAwake⟩
  · cases h
theorem laws7 : Laws Try.prog u tab7 := by
  refine ⟨law, clean, fun p hp => ?_⟩
  rcases List.mem_cons.1 hp with rfl | hp
  · exact okAwake
  exact laws6.tab p hp
theorem bodyLTwo (a b c m : Int) (h : (0 ≤ a ∧ a < 4294967296) ∧ 0 ≤ b ∧ (0 ≤ c ∧ c < 4294967296) ∧ 0 ≤ m) : BodyOk Try.prog u tab7 [] [] Try.f3 [.int .u32 a, .int .u8 b, .int .u32 c, .int .u8 m] (.bool true) := by
  constructor
  have eqn : bodyW Try.prog u tab7 [] (drawW Try.prog u tab7) (loopsBy u []) Try.f3 [.int .u32 a, .int .u8 b, .int .u32 c, .int .u8 m] (.bool true) = vcLTwo a b c m := by kernel_rfl
  rw [eqn]
  unfold vcLTwo
  obtain ⟨ha, hb, hc, hm⟩ := h
  have hx := block_V ha hb
  have hy := block_V (xor_rng a (c.tmod 512)) hm
  obtain ⟨p1, p2, p3, p4, p5, p6, p7, p8, p9⟩ := two_spec hx hy rfl rfl
  simp only [eqB, blkL] at p1 p2 p3 p4 p5 p6 p7 p8 p9
  refine ⟨fun h => h, fun _ => ⟨hb, by decide, hm, fun h => ?_, fun _ => ⟨new_good.wf, fun h => ?_, fun _ => ⟨p3.wf, fun h => ?_, fun _ => ⟨fun h => ?_, fun _ => ⟨p5.wf, ?_⟩⟩⟩⟩⟩⟩
  · rw [p1] at h; cases h
  · rw [p2] at h; cases h
  · rw [p4] at h; cases h
  · rw [p6, p7, p8] at h; simp at h
  · rw [p9]; simp
theorem okLTwo : FnOk Try.prog u 3 spLTwo := by
  refine fn_ok Try.prog u tab7 mo laws7 Try.func3 ?_
  intro xs c y h hc
  unfold spLTwo at h
  split at h
  · cases h
    exact ⟨by kernel_rfl, _, _, bodyLTwo _ _ _ _ hc⟩
  · cases h
theorem bodyLHalves (a b k : Int) (h : (0 ≤ a ∧ a < 4294967296) ∧ 0 ≤ b ∧ 0 ≤ k ∧ k < 65536) : BodyOk Try.prog u tab7 [] [] Try.f5 [.int .u32 a, .int .u8 b, .int .u16 k] (.bool true) := by
  constructor
  have eqn : bodyW Try.prog u tab7 [] (drawW Try.prog u tab7) (loopsBy u []) Try.f5 [.int .u32 a, .int .u8 b, .int .u16 k] (.bool true) = vcLHalves a b k := by kernel_rfl
  rw [eqn]
  unfold vcLHalves
  obtain ⟨ha, hb, hk, hk2⟩ := h
  have hc := block_V ha hb
  have hr := bitsL_rng hb
  unfold blkL at hc
  refine ⟨fun h => h, fun _ => ⟨hb, fun h => ?_, fun hh => ?_⟩⟩
  · by_cases hlt : bitsL b < 32
    · have := (kids_spec hc hlt).1
      simp only at this
      rw [this] at h; cases h
    · simp only [beq_iff_eq]
      omega
  · have hlt : bitsL b < 32 := by
      rcases Int.lt_or_le (bitsL b) 32 with h1 | h1
      · exact h1
      · have h2 : bitsL b = 32 := by omega
        unfold halfB at hh
        rw [h2] at hh
        simp at hh
    have hh2 : halfB (baseL a (bitsL b)) (bitsL b) = true := by simpa using hh
    have hw : IntKind.i64.wrap k = k := wrap_i64_id (by omega)
    simp only [hh2, if_true, hw]
    obtain ⟨p1, p2, p3, p4, p5, p6, ⟨p7, p8, p9⟩, p10, p11, p12, p13, p14⟩ := half_spec hc (by show 1 ≤ bitsL b; omega) hlt hk rfl rfl rfl rfl rfl
    simp only at p1 p2 p3 p4 p5 p6 p7 p8 p9 p10 p11 p12 p13 p14
    simp only [p6, if_true, p1, p3, p7, p8, p9, p10, p11, p12, p13, p14]
    have hw2 : 0 ≤ IntKind.i64.wrap (32 - bitsL b) := by rw [wrap_i64_id (by omega)]; omega
    refine ⟨new_good.wf, fun h => (by cases h), fun _ => ⟨p2, fun h => (by cases h), fun _ => ⟨p5, fun h => ?_, fun h => ?_⟩⟩⟩
    · rw [if_pos h]
      refine ⟨hw2, fun _ => ⟨p4, by simp⟩, fun h => ?_⟩
      simp at h
    · rw [if_neg (by rw [h]; simp)]
      refine ⟨hw2, fun _ => ⟨p4, by simp⟩, fun h => ?_⟩
      simp at h
theorem okLHalves : FnOk Try.prog u 5 spLHalves := by
  refine fn_ok Try.prog u tab7 mo laws7 Try.func5 ?_
  intro xs c y h hc
  unfold spLHalves at h
  split at h
  · cases h
    exact ⟨by kernel_rfl, _, _, bodyLHalves _ _ _ hc⟩
  · cases h
end Go.Proofs.Ytndacggailoogaa.Tri
