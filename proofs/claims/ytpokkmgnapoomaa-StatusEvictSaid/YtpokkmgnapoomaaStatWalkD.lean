/- What an address stands as: the laws StatusOf and StatusAny, by the bodies' contracts. -/
import Derived.Test.YtpokkmgnapoomaaStatVcD
namespace Go.Proofs.Ytpokkmgnapoomaa.Stat
open Go Go.Proofs.Ytpokkmgnapoomaa.Sx

theorem headS_le (xs : List Seen) : (headS xs).length ≤ 12 := by
  unfold headS firstN
  have : mn (xs.length : Int) 12 ≤ 12 := by unfold mn; split <;> omega
  rw [List.length_drop, List.length_take]
  omega
theorem sightsAt_len (xs : List Seen) : ∀ k, (sightsAt xs k).length = k
  | 0 => rfl
  | k + 1 => by rw [sightsAt, List.length_append, sightsAt_len xs k]; rfl
theorem fc6_lt (c : Int) (h : 0 ≤ c) : fc 6 c < 4611686018427387904 := by
  unfold fc fz
  rw [Int.tmod_eq_emod_of_nonneg h, wrap_i64_id (n := c % 6) (by omega), wrap_i64_id (by omega)]
  omega
theorem sights_ok (xs : List Seen) (c2 : Int) (h : 0 ≤ c2) : ofOk (fc 6 c2) (sightsL xs) := by
  refine ⟨?_, fc6_lt c2 h⟩
  unfold sightsL
  rw [sightsAt_len]
  have := headS_le xs
  omega
theorem bodySights (xs : List Seen) (h : xs.length < 9223372036854775808) : BodyOk Try.prog u tab4 [] [(0, .inv (annSights xs))] Try.f11 [.csl 57 xs] (.csl 48 (sightsL xs)) := by
  constructor
  have eqn : bodyW Try.prog u tab4 [] (drawW Try.prog u tab4) (loopsBy u [(0, .inv (annSights xs))]) Try.f11 [.csl 57 xs] (.csl 48 (sightsL xs)) = vcSights xs := by kernel_rfl
  rw [eqn]
  unfold vcSights
  have hm : 0 ≤ mn (xs.length : Int) 12 ∧ mn (xs.length : Int) 12 ≤ xs.length ∧ mn (xs.length : Int) 12 ≤ 12 := by unfold mn; split <;> omega
  have h12 := headS_le xs
  refine ⟨⟨by omega, hm.1, hm.2.1⟩, ⟨0, Nat.zero_le _, ⟨rfl, rfl, rfl, trivial, rfl⟩, rfl⟩, fun g hg => ⟨fun hlt => ?_, fun hge => ?_⟩⟩
  · have hlt : (g : Int) < ((headS xs).length : Int) := of_decide_eq_true hlt
    have hlt' : g < (headS xs).length := by omega
    refine ⟨⟨by omega, hlt⟩, by decide, ?_, g + 1, hlt', show (headS xs).length - (g + 1) < (headS xs).length - g by omega, ⟨rfl, rfl, wrap_next hlt (by omega), trivial, rfl⟩, rfl⟩
    show ((sightsAt (headS xs) g).length + 1) * 24 ≤ 140737488355328
    rw [sightsAt_len]
    omega
  · have hge : ¬ (g : Int) < ((headS xs).length : Int) := of_decide_eq_false hge
    have hg : g ≤ (headS xs).length := hg
    have : g = (headS xs).length := by omega
    rw [this]
    rfl
theorem okSights : FnOk Try.prog u 11 spSights := by
  refine fn_ok Try.prog u tab4 mo laws4 Try.func11 ?_
  intro xs c y h hc
  unfold spSights at h
  split at h
  · cases h
    exact ⟨by kernel_rfl, _, _, bodySights _ hc⟩
  · cases h
theorem bodyName (s : Int) : BodyOk Try.prog u tab4 [] [] Try.f15 [.int .i64 s] (.str (nameS s)) := by
  constructor
  have eqn : bodyW Try.prog u tab4 [] (drawW Try.prog u tab4) (loopsBy u []) Try.f15 [.int .i64 s] (.str (nameS s)) = vcName s := by kernel_rfl
  rw [eqn]
  unfold vcName nameS
  refine ⟨fun h => by rw [if_pos h], fun h => ⟨?_, ?_⟩⟩
  · simp only [Bool.or_eq_false_iff, decide_eq_false_iff_not] at h
    omega
  · rw [if_neg (by rw [h]; simp)]
    rfl
theorem okName : FnOk Try.prog u 15 spName := by
  refine fn_ok Try.prog u tab4 mo laws4 Try.func15 ?_
  intro xs c y h hc
  unfold spName at h
  split at h
  · cases h
    exact ⟨by kernel_rfl, _, _, bodyName _⟩
  · cases h
theorem bodyWorth (s : Int) : BodyOk Try.prog u tab4 [] [] Try.f16 [.int .i64 s] (.int .i64 (worthS s)) := by
  constructor
  have eqn : bodyW Try.prog u tab4 [] (drawW Try.prog u tab4) (loopsBy u []) Try.f16 [.int .i64 s] (.int .i64 (worthS s)) = vcWorth s := by kernel_rfl
  rw [eqn]
  unfold vcWorth worthS
  refine ⟨fun h => by rw [if_pos h], fun h => ⟨fun h2 => ?_, fun h2 => ⟨fun h3 => ?_, fun h3 => ?_⟩⟩⟩
  · rw [if_neg (by rw [h]; simp), if_pos h2]
  · rw [if_neg (by rw [h]; simp), if_neg (by rw [h2]; simp), if_pos h3]
  · rw [if_neg (by rw [h]; simp), if_neg (by rw [h2]; simp), if_neg (by rw [h3]; simp)]
theorem okWorth : FnOk Try.prog u 16 spWorth := by
  refine fn_ok Try.prog u tab4 mo laws4 Try.func16 ?_
  intro xs c y h hc
  unfold spWorth at h
  split at h
  · cases h
    exact ⟨by kernel_rfl, _, _, bodyWorth _⟩
  · cases h
theorem laws5 : Laws Try.prog u tab5 := by
  refine ⟨law, clean, fun p hp => ?_⟩
  rcases List.mem_cons.1 hp with rfl | hp
  · exact okOf
  rcases List.mem_cons.1 hp with rfl | hp
  · exact okOfL
  rcases List.mem_cons.1 hp with rfl | hp
  · exact okSights
  rcases List.mem_cons.1 hp with rfl | hp
  · exact okName
  rcases List.mem_cons.1 hp with rfl | hp
  · exact okWorth
  exact laws4.tab p hp
theorem bodyAwake : BodyOk Try.prog u tab5 [103003, 104004] [] Try.f9 [] (.bool true) := by
  constructor
  have eqn : bodyW Try.prog u tab5 [103003, 104004] (drawW Try.prog u tab5) (loopsBy u []) Try.f9 [] (.bool true) = vcAwake  := by kernel_rfl
  rw [eqn]
  refine ⟨⟨by omega, by omega⟩, fun v hv => ⟨⟨by omega, by omega⟩, fun w hw => ?_⟩⟩
  subst hv hw
  decide +kernel
theorem okAwake : FnOk Try.prog u 9 spAwake := by
  refine fn_ok Try.prog u tab5 mo laws5 Try.func9 ?_
  intro xs c y h hc
  unfold spAwake at h
  split at h
  · cases h
    exact ⟨by kernel_rfl, _, _, bodyAwake⟩
  · cases h
theorem laws6 : Laws Try.prog u tab6 := by
  refine ⟨law, clean, fun p hp => ?_⟩
  rcases List.mem_cons.1 hp with rfl | hp
  · exact okAwake
  exact laws5.tab p hp
def spStatOf : Sx.Spec A
  | [.agg [.int .u8 c0, .int .u8 c1, .int .u8 c2, .int .u8 c3, .int .u8 c4, .int .u8 c5, .int .u8 c6, .int .u8 c7, .int .u8 c8], .bool hd, .int .u8 mc, .csl 57 xs, .int .u8 nw] => some (some (xs.length < 9223372036854775808 ∧ 0 ≤ c2), .bool true)
  | _ => none
def spStatAny : Sx.Spec A
  | [.agg [.int .i64 c0, .int .i64 c1, .int .i64 c2, .int .i64 c3, .int .i64 c4, .int .i64 c5, .int .i64 c6, .int .i64 c7, .int .i64 c8], .agg [.int .u32 _, .str _, .int .u8 a, .int .u8 b, .int .u8 c, .int .u8 d, .int .u8 e, .int .u8 f], .csl 48 xs, .int .i64 now, .bool hd] => some (some (c2 < 9223372036854775808), .bool true)
  | _ => none
theorem bodyStatOf (c0 c1 c2 c3 c4 c5 c6 c7 c8 : Int) (hd : Bool) (mc : Int) (xs : List Seen) (nw : Int) (h : xs.length < 9223372036854775808 ∧ 0 ≤ c2) : BodyOk Try.prog u tab6 [35] [(0, .rounds 3)] Try.f3 [.agg (cho c0 c1 c2 c3 c4 c5 c6 c7 c8), .bool hd, .int .u8 mc, .csl 57 xs, .int .u8 nw] (.bool true) := by
  constructor
  have eqn : bodyW Try.prog u tab6 [35] (drawW Try.prog u tab6) (loopsBy u [(0, .rounds 3)]) Try.f3 [.agg (cho c0 c1 c2 c3 c4 c5 c6 c7 c8), .bool hd, .int .u8 mc, .csl 57 xs, .int .u8 nw] (.bool true) = vcStatOf c0 c1 c2 c3 c4 c5 c6 c7 c8 hd mc xs nw := by kernel_rfl
  rw [eqn]
  unfold vcStatOf
  obtain ⟨h, hc⟩ := h
  have hok := sights_ok xs c2 hc
  have hk : (sightsL xs).length * 24 ≤ 140737488355328 ∧ fc 6 c2 < 4611686018427387904 := hok
  refine ⟨fun h => absurd h (by decide), fun _ => ⟨h, fun hd => ?_, fun hd => ?_⟩⟩
  · have key : ∀ n m : Int, ∀ s : Mac, (ofH n m (fc 6 c2) (IntKind.i64.wrap nw) s (sightsL xs) != ofLH n m (fc 6 c2) (IntKind.i64.wrap nw) s (sightsL xs)) = false := by intro n m s; rw [of_some hok]; simp
    have key2 : ∀ n m : Int, ∀ s : Mac, (ofH n m (fc 6 c2) (IntKind.i64.wrap ((IntKind.i64.wrap nw).tdiv 4)) s (sightsL xs) != ofLH n m (fc 6 c2) (IntKind.i64.wrap ((IntKind.i64.wrap nw).tdiv 4)) s (sightsL xs)) = false := by intro n m s; rw [of_some hok]; simp
    exact ⟨by decide, ⟨by omega, by simp⟩, hk, hk, fun hx => absurd hx (by rw [key]; simp), fun _ => ⟨⟨by omega, by simp⟩, hk, hk, fun hx => absurd hx (by rw [key2]; simp), fun _ => rfl⟩⟩
  · have key : ∀ n m : Int, (ofN n (fc 6 c2) m (sightsL xs) != ofLN n (fc 6 c2) m (sightsL xs)) = false := by intro n m; rw [of_none hok]; simp
    exact ⟨by decide, ⟨by omega, by simp⟩, hk, hk, fun hx => absurd hx (by rw [key]; simp), fun _ => ⟨⟨by omega, by simp⟩, hk, hk, fun hx => absurd hx (by rw [key]; simp), fun _ => rfl⟩⟩
theorem okStatOf : FnOk Try.prog u 3 spStatOf := by
  refine fn_ok Try.prog u tab6 mo laws6 Try.func3 ?_
  intro xs c y h hc
  unfold spStatOf at h
  split at h
  · cases h
    exact ⟨by kernel_rfl, _, _, bodyStatOf _ _ _ _ _ _ _ _ _ _ _ _ _ hc⟩
  · cases h
theorem bodyStatAny (c0 c1 c2 c3 c4 c5 c6 c7 c8 : Int) (z : Int) (o : ByteArray) (a b c d e f : Int) (xs : List Sight) (now : Int) (hd : Bool) (h : c2 < 9223372036854775808) : BodyOk Try.prog u tab6 [] [] Try.f4 [.agg (cfg c0 c1 c2 c3 c4 c5 c6 c7 c8), .agg [.int .u32 z, .str o, .int .u8 a, .int .u8 b, .int .u8 c, .int .u8 d, .int .u8 e, .int .u8 f], .csl 48 xs, .int .i64 now, .bool hd] (.bool true) := by
  constructor
  have eqn : bodyW Try.prog u tab6 [] (drawW Try.prog u tab6) (loopsBy u []) Try.f4 [.agg (cfg c0 c1 c2 c3 c4 c5 c6 c7 c8), .agg [.int .u32 z, .str o, .int .u8 a, .int .u8 b, .int .u8 c, .int .u8 d, .int .u8 e, .int .u8 f], .csl 48 xs, .int .i64 now, .bool hd] (.bool true) = vcStatAny c0 c1 c2 c3 c4 c5 c6 c7 c8 z o a b c d e f xs now hd := by kernel_rfl
  rw [eqn]
  unfold vcStatAny
  have hm : 0 ≤ mn (xs.length : Int) 60 ∧ mn (xs.length : Int) 60 ≤ xs.length ∧ mn (xs.length : Int) 60 ≤ 60 := by unfold mn; split <;> omega
  have hc : mn c2 1099511627776 < 4611686018427387904 := by unfold mn; split <;> omega
  have hl : (List.drop 0 (List.take (mn (xs.length : Int) 60).toNat xs)).length * 24 ≤ 140737488355328 := by rw [List.length_drop, List.length_take]; omega
  have hok : ofOk (mn c2 1099511627776) (List.drop 0 (List.take (mn (xs.length : Int) 60).toNat xs)) := ⟨hl, hc⟩
  refine ⟨fun h => absurd h (by decide), fun _ => ⟨fun _ => ⟨⟨by omega, hm.1, hm.2.1⟩, ⟨hl, hc⟩, ⟨hl, hc⟩, ?_⟩, fun _ => ⟨⟨by omega, hm.1, hm.2.1⟩, ⟨hl, hc⟩, ⟨hl, hc⟩, ?_⟩⟩⟩
  · rw [of_none hok]; simp
  · rw [of_some hok]; simp
theorem okStatAny : FnOk Try.prog u 4 spStatAny := by
  refine fn_ok Try.prog u tab6 mo laws6 Try.func4 ?_
  intro xs c y h hc
  unfold spStatAny at h
  split at h
  · cases h
    exact ⟨by kernel_rfl, _, _, bodyStatAny _ _ _ _ _ _ _ _ _ _ _ _ _ _ _ _ _ _ _ _ hc⟩
  · cases h
end Go.Proofs.Ytpokkmgnapoomaa.Stat
