/- What an address stands as: the contracts of the two ways. -/
import Derived.Test.YtpokkmgnapoomaaStatVcC
import Derived.Test.YtpokkmgnapoomaaStatMath
namespace Go.Proofs.Ytpokkmgnapoomaa.Stat
open Go Go.Proofs.Ytpokkmgnapoomaa.Sx

theorem apartL_next (ms : List Mac) (k : Nat) (hk : k < ms.length) : apartL ms (k + 1) = (apartL ms k || !((ms.getD k zeroMac).same (ms.getD 0 zeroMac))) := by
  unfold apartL
  rw [take_getD ms k hk zeroMac, List.any_append]
  simp
theorem otherL_next (h : Mac) (ms : List Mac) (k : Nat) (hk : k < ms.length) : otherL h ms (k + 1) = (otherL h ms k || (!noneM h && !((ms.getD k zeroMac).same h))) := by
  unfold otherL
  rw [take_getD ms k hk zeroMac, List.any_append]
  simp
theorem bodyOfN (c0 c1 c2 c3 c4 c5 c6 c7 c8 : Int) (xs : List Sight) (now : Int) (h : ofOk c2 xs) : BodyOk Try.prog u tab4 [101009] [] Try.f13 [.agg (cfg c0 c1 c2 c3 c4 c5 c6 c7 c8), .nilp, .csl 48 xs, .int .i64 now] (.int .i64 (ofN c0 c2 now xs)) := by
  constructor
  have eqn : bodyW Try.prog u tab4 [101009] (drawW Try.prog u tab4) (loopsBy u []) Try.f13 [.agg (cfg c0 c1 c2 c3 c4 c5 c6 c7 c8), .nilp, .csl 48 xs, .int .i64 now] (.int .i64 (ofN c0 c2 now xs)) = vcOfN c0 c1 c2 c3 c4 c5 c6 c7 c8 xs now := by kernel_rfl
  rw [eqn]
  unfold vcOfN
  have hl : (freshL c0 c2 now xs).length ≤ xs.length := by
    unfold freshL tailS
    refine Nat.le_trans (List.length_filter_le _ _) ?_
    rw [List.length_drop, List.length_take]
    omega
  have h1 := h.1
  have h2 := h.2
  refine ⟨⟨h.1, by omega⟩, fun v hv => ?_⟩
  have hv : v = freshL c0 c2 now xs := hv
  subst hv
  refine ⟨by omega, fun ha => ?_, fun ha => ⟨fun _ => trivial, fun _ => trivial, fun w hw => ?_⟩⟩
  · unfold ofN
    rw [if_pos ha]
  · have hw : w = decide (((freshL c0 c2 now xs).length : Int) > 0) := by
      rw [hw]
      cases decide (((freshL c0 c2 now xs).length : Int) > 0) <;> rfl
    subst hw
    unfold ofN
    refine ⟨fun hc => ?_, fun hc => ?_⟩
    · rw [if_neg (by rw [ha]; simp), if_pos hc]
    · rw [if_neg (by rw [ha]; simp), if_neg (by rw [hc]; simp)]
theorem bodyOfH (c0 c1 c2 c3 c4 c5 c6 c7 c8 : Int) (z : Int) (o : ByteArray) (a b c d e f : Int) (xs : List Sight) (now : Int) (h : ofOk c2 xs) : BodyOk Try.prog u tab4 [101009] [] Try.f13 [.agg (cfg c0 c1 c2 c3 c4 c5 c6 c7 c8), .cptr [.int .u32 z, .str o, .int .u8 a, .int .u8 b, .int .u8 c, .int .u8 d, .int .u8 e, .int .u8 f] 0, .csl 48 xs, .int .i64 now] (.int .i64 (ofH c0 c1 c2 now ⟨a, b, c, d, e, f⟩ xs)) := by
  constructor
  have eqn : bodyW Try.prog u tab4 [101009] (drawW Try.prog u tab4) (loopsBy u []) Try.f13 [.agg (cfg c0 c1 c2 c3 c4 c5 c6 c7 c8), .cptr [.int .u32 z, .str o, .int .u8 a, .int .u8 b, .int .u8 c, .int .u8 d, .int .u8 e, .int .u8 f] 0, .csl 48 xs, .int .i64 now] (.int .i64 (ofH c0 c1 c2 now ⟨a, b, c, d, e, f⟩ xs)) = vcOfH c0 c1 c2 c3 c4 c5 c6 c7 c8 z o a b c d e f xs now := by kernel_rfl
  rw [eqn]
  unfold vcOfH
  have hl : (freshL c0 c2 now xs).length ≤ xs.length := by
    unfold freshL tailS
    refine Nat.le_trans (List.length_filter_le _ _) ?_
    rw [List.length_drop, List.length_take]
    omega
  have h1 := h.1
  have h2 := h.2
  have hlast : IntKind.i64.wrap ((xs.length : Int) - 1) = (xs.length : Int) - 1 := wrap_i64_id (by omega)
  rw [hlast]
  refine ⟨⟨h.1, by omega⟩, fun v hv => ?_⟩
  have hv : v = freshL c0 c2 now xs := hv
  subst hv
  unfold ofH
  refine ⟨by omega, fun ha => ?_, fun ha => ⟨by omega, fun hf => ?_, fun hf => ⟨fun hg => ?_, fun hg => ⟨fun hx => ?_, fun hx => ?_, fun hx => ?_⟩⟩⟩⟩
  · rw [if_pos ha]
  · rw [if_neg (by rw [ha]; simp), if_pos hf]
  · rw [if_neg (by rw [ha]; simp), if_neg (by rw [hf]; simp), if_pos hg]
  · have := of_decide_eq_true hx
    omega
  · have hx : oldS c1 now xs = true := hx
    rw [if_neg (by rw [ha]; simp), if_neg (by rw [hf]; simp), if_neg (by rw [hg]; simp), if_pos hx]
  · have hx : oldS c1 now xs = false := hx
    rw [if_neg (by rw [ha]; simp), if_neg (by rw [hf]; simp), if_neg (by rw [hg]; simp), if_neg (by rw [hx]; simp)]
theorem bodyOfLN (c0 c1 c2 c3 c4 c5 c6 c7 c8 : Int) (xs : List Sight) (now : Int) (h : ofOk c2 xs) : BodyOk Try.prog u tab4 [] [(0, .inv (annL1 c0 c2 now xs)), (2, .inv (annL2N (macsL c0 c2 now xs xs.length)))] Try.f14 [.agg (cfg c0 c1 c2 c3 c4 c5 c6 c7 c8), .nilp, .csl 48 xs, .int .i64 now] (.int .i64 (ofLN c0 c2 now xs)) := by
  constructor
  have eqn : bodyW Try.prog u tab4 [] (drawW Try.prog u tab4) (loopsBy u [(0, .inv (annL1 c0 c2 now xs)), (2, .inv (annL2N (macsL c0 c2 now xs xs.length)))]) Try.f14 [.agg (cfg c0 c1 c2 c3 c4 c5 c6 c7 c8), .nilp, .csl 48 xs, .int .i64 now] (.int .i64 (ofLN c0 c2 now xs)) = vcOfLN c0 c1 c2 c3 c4 c5 c6 c7 c8 xs now := by kernel_rfl
  rw [eqn]
  unfold vcOfLN
  have h1 := h.1
  have h2 := h.2
  refine ⟨⟨0, Nat.zero_le _, ⟨trivial, rfl, rfl, trivial, rfl, rfl, rfl, trivial, rfl⟩, ⟨rfl, rfl, rfl, rfl, rfl, rfl, rfl, rfl, rfl⟩, rfl⟩, fun g hg => ⟨fun hlt => ?_, fun hge => ?_⟩⟩
  · have hlt := of_decide_eq_true hlt
    have hlt' : g < xs.length := by omega
    have hw : IntKind.i64.wrap ((g : Int) + 1) = ((g + 1 : Nat) : Int) := wrap_next hlt (by omega)
    have hms := (law_loop (c0 := c0) (now := now) h g hg)
    have hmu : xs.length - (g + 1) < xs.length - g := by omega
    have hc : cntL c0 c2 now xs (g + 1) = if goodL c0 c2 now xs g = true then IntKind.i64.wrap (cntL c0 c2 now xs g + 1) else cntL c0 c2 now xs g := rfl
    have hm : macsL c0 c2 now xs (g + 1) = if goodL c0 c2 now xs g = true then (if (!noneM (macL xs g)) = true then macsL c0 c2 now xs g ++ [macL xs g] else macsL c0 c2 now xs g) else macsL c0 c2 now xs g := rfl
    refine ⟨⟨by omega, hlt⟩, fun hgd => ⟨fun hn => ⟨?_, g + 1, hlt', hmu, ⟨trivial, rfl, rfl, trivial, rfl, rfl, hw, trivial, (by have hgd : goodL c0 c2 now xs g = true := hgd; rw [hc, if_pos hgd])⟩, ⟨rfl, rfl, rfl, rfl, rfl, rfl, rfl, rfl, rfl⟩, ?_⟩, fun hn => ⟨g + 1, hlt', hmu, ⟨trivial, rfl, rfl, trivial, rfl, rfl, hw, trivial, (by have hgd : goodL c0 c2 now xs g = true := hgd; rw [hc, if_pos hgd])⟩, ⟨rfl, rfl, rfl, rfl, rfl, rfl, rfl, rfl, rfl⟩, ?_⟩⟩, fun hgd => ⟨g + 1, hlt', hmu, ⟨trivial, rfl, rfl, trivial, rfl, rfl, hw, trivial, (by have hgd : goodL c0 c2 now xs g = false := hgd; rw [hc, if_neg (by rw [hgd]; simp)])⟩, ⟨rfl, rfl, rfl, rfl, rfl, rfl, rfl, rfl, rfl⟩, ?_⟩⟩
    · show ((macsL c0 c2 now xs g).length + 1) * 6 ≤ 140737488355328
      have : (macsL c0 c2 now xs g).length ≤ (freshK c0 c2 now xs g).length := by
        rw [hms.2.1]
        unfold someM
        refine Nat.le_trans (List.length_filter_le _ _) ?_
        rw [List.length_map]
        exact Nat.le_refl _
      have := hms.2.2
      omega
    · have hgd : goodL c0 c2 now xs g = true := hgd
      have hn : (!noneM (macL xs g)) = true := hn
      rw [hm, if_pos hgd, if_pos hn]
      rfl
    · have hgd : goodL c0 c2 now xs g = true := hgd
      have hn : (!noneM (macL xs g)) = false := hn
      rw [hm, if_pos hgd, if_neg (by rw [hn]; simp)]
    · have hgd : goodL c0 c2 now xs g = false := hgd
      rw [hm, if_neg (by rw [hgd]; simp)]
  · have hge := of_decide_eq_false hge
    have hg : g ≤ xs.length := hg
    have hgx : g = xs.length := by omega
    subst hgx
    have hml := (law_loop (c0 := c0) (now := now) h xs.length (Nat.le_refl _))
    have hmlen : (macsL c0 c2 now xs xs.length).length ≤ xs.length := by
      have h3 : (macsL c0 c2 now xs xs.length).length ≤ (freshK c0 c2 now xs xs.length).length := by
        rw [hml.2.1]
        unfold someM
        refine Nat.le_trans (List.length_filter_le _ _) ?_
        rw [List.length_map]
        exact Nat.le_refl _
      exact Nat.le_trans h3 hml.2.2
    refine ⟨⟨0, Nat.zero_le _, ⟨trivial, rfl, rfl, trivial, rfl, trivial, rfl, trivial, rfl, rfl, rfl⟩, ⟨rfl, rfl, rfl, rfl, rfl, rfl, rfl, rfl, rfl⟩, rfl⟩, fun k hk => ⟨fun hlt => ?_, fun hge => ?_⟩⟩
    · have hlt := of_decide_eq_true hlt
      have hlt2 : k < (macsL c0 c2 now xs xs.length).length := by omega
      refine ⟨⟨by omega, hlt⟩, fun _ => ⟨by omega, by omega⟩, k + 1, hlt2, show (macsL c0 c2 now xs xs.length).length - (k + 1) < (macsL c0 c2 now xs xs.length).length - k by omega, ⟨trivial, rfl, rfl, trivial, rfl, trivial, rfl, trivial, wrap_next hlt (by omega), (apartL_next (macsL c0 c2 now xs xs.length) k hlt2).symm, rfl⟩, ⟨rfl, rfl, rfl, rfl, rfl, rfl, rfl, rfl, rfl⟩, rfl⟩
    · have hge := of_decide_eq_false hge
      have hk : k ≤ (macsL c0 c2 now xs xs.length).length := hk
      have hkx : k = (macsL c0 c2 now xs xs.length).length := by omega
      subst hkx
      unfold ofLN
      refine ⟨fun ha => ?_, fun ha => ⟨fun hn => ?_, fun hn => ?_⟩⟩
      · rw [if_pos ha]
      · rw [if_neg (by rw [ha]; simp), if_pos hn]
      · rw [if_neg (by rw [ha]; simp), if_neg (by rw [hn]; simp)]
theorem bodyOfLH (c0 c1 c2 c3 c4 c5 c6 c7 c8 : Int) (z : Int) (o : ByteArray) (a b c d e f : Int) (xs : List Sight) (now : Int) (h : ofOk c2 xs) : BodyOk Try.prog u tab4 [] [(0, .inv (annL1 c0 c2 now xs)), (2, .inv (annL2H ⟨a, b, c, d, e, f⟩ (macsL c0 c2 now xs xs.length)))] Try.f14 [.agg (cfg c0 c1 c2 c3 c4 c5 c6 c7 c8), .cptr [.int .u32 z, .str o, .int .u8 a, .int .u8 b, .int .u8 c, .int .u8 d, .int .u8 e, .int .u8 f] 0, .csl 48 xs, .int .i64 now] (.int .i64 (ofLH c0 c1 c2 now ⟨a, b, c, d, e, f⟩ xs)) := by
  constructor
  have eqn : bodyW Try.prog u tab4 [] (drawW Try.prog u tab4) (loopsBy u [(0, .inv (annL1 c0 c2 now xs)), (2, .inv (annL2H ⟨a, b, c, d, e, f⟩ (macsL c0 c2 now xs xs.length)))]) Try.f14 [.agg (cfg c0 c1 c2 c3 c4 c5 c6 c7 c8), .cptr [.int .u32 z, .str o, .int .u8 a, .int .u8 b, .int .u8 c, .int .u8 d, .int .u8 e, .int .u8 f] 0, .csl 48 xs, .int .i64 now] (.int .i64 (ofLH c0 c1 c2 now ⟨a, b, c, d, e, f⟩ xs)) = vcOfLH c0 c1 c2 c3 c4 c5 c6 c7 c8 z o a b c d e f xs now := by kernel_rfl
  rw [eqn]
  unfold vcOfLH
  have h1 := h.1
  have h2 := h.2
  have hlast : IntKind.i64.wrap ((xs.length : Int) - 1) = (xs.length : Int) - 1 := wrap_i64_id (by omega)
  rw [hlast]
  refine ⟨⟨0, Nat.zero_le _, ⟨⟨rfl, rfl, rfl, rfl, rfl, rfl, rfl, rfl, rfl⟩, rfl, rfl, trivial, rfl, rfl, rfl, trivial, rfl⟩, ⟨rfl, rfl, rfl, rfl, rfl, rfl, rfl, rfl, rfl⟩, rfl⟩, fun g hg => ⟨fun hlt => ?_, fun hge => ?_⟩⟩
  · have hlt := of_decide_eq_true hlt
    have hlt' : g < xs.length := by omega
    have hw : IntKind.i64.wrap ((g : Int) + 1) = ((g + 1 : Nat) : Int) := wrap_next hlt (by omega)
    have hms := (law_loop (c0 := c0) (now := now) h g hg)
    have hmu : xs.length - (g + 1) < xs.length - g := by omega
    have hc : cntL c0 c2 now xs (g + 1) = if goodL c0 c2 now xs g = true then IntKind.i64.wrap (cntL c0 c2 now xs g + 1) else cntL c0 c2 now xs g := rfl
    have hm : macsL c0 c2 now xs (g + 1) = if goodL c0 c2 now xs g = true then (if (!noneM (macL xs g)) = true then macsL c0 c2 now xs g ++ [macL xs g] else macsL c0 c2 now xs g) else macsL c0 c2 now xs g := rfl
    refine ⟨⟨by omega, hlt⟩, fun hgd => ⟨fun hn => ⟨?_, g + 1, hlt', hmu, ⟨⟨rfl, rfl, rfl, rfl, rfl, rfl, rfl, rfl, rfl⟩, rfl, rfl, trivial, rfl, rfl, hw, trivial, (by have hgd : goodL c0 c2 now xs g = true := hgd; rw [hc, if_pos hgd])⟩, ⟨rfl, rfl, rfl, rfl, rfl, rfl, rfl, rfl, rfl⟩, ?_⟩, fun hn => ⟨g + 1, hlt', hmu, ⟨⟨rfl, rfl, rfl, rfl, rfl, rfl, rfl, rfl, rfl⟩, rfl, rfl, trivial, rfl, rfl, hw, trivial, (by have hgd : goodL c0 c2 now xs g = true := hgd; rw [hc, if_pos hgd])⟩, ⟨rfl, rfl, rfl, rfl, rfl, rfl, rfl, rfl, rfl⟩, ?_⟩⟩, fun hgd => ⟨g + 1, hlt', hmu, ⟨⟨rfl, rfl, rfl, rfl, rfl, rfl, rfl, rfl, rfl⟩, rfl, rfl, trivial, rfl, rfl, hw, trivial, (by have hgd : goodL c0 c2 now xs g = false := hgd; rw [hc, if_neg (by rw [hgd]; simp)])⟩, ⟨rfl, rfl, rfl, rfl, rfl, rfl, rfl, rfl, rfl⟩, ?_⟩⟩
    · show ((macsL c0 c2 now xs g).length + 1) * 6 ≤ 140737488355328
      have : (macsL c0 c2 now xs g).length ≤ (freshK c0 c2 now xs g).length := by
        rw [hms.2.1]
        unfold someM
        refine Nat.le_trans (List.length_filter_le _ _) ?_
        rw [List.length_map]
        exact Nat.le_refl _
      have := hms.2.2
      omega
    · have hgd : goodL c0 c2 now xs g = true := hgd
      have hn : (!noneM (macL xs g)) = true := hn
      rw [hm, if_pos hgd, if_pos hn]
      rfl
    · have hgd : goodL c0 c2 now xs g = true := hgd
      have hn : (!noneM (macL xs g)) = false := hn
      rw [hm, if_pos hgd, if_neg (by rw [hn]; simp)]
    · have hgd : goodL c0 c2 now xs g = false := hgd
      rw [hm, if_neg (by rw [hgd]; simp)]
  · have hge := of_decide_eq_false hge
    have hg : g ≤ xs.length := hg
    have hgx : g = xs.length := by omega
    subst hgx
    have hml := (law_loop (c0 := c0) (now := now) h xs.length (Nat.le_refl _))
    have hmlen : (macsL c0 c2 now xs xs.length).length ≤ xs.length := by
      have h3 : (macsL c0 c2 now xs xs.length).length ≤ (freshK c0 c2 now xs xs.length).length := by
        rw [hml.2.1]
        unfold someM
        refine Nat.le_trans (List.length_filter_le _ _) ?_
        rw [List.length_map]
        exact Nat.le_refl _
      exact Nat.le_trans h3 hml.2.2
    refine ⟨⟨0, Nat.zero_le _, ⟨⟨rfl, rfl, rfl, rfl, rfl, rfl, rfl, rfl, rfl⟩, rfl, rfl, trivial, rfl, trivial, rfl, trivial, rfl, rfl, rfl⟩, ⟨rfl, rfl, rfl, rfl, rfl, rfl, rfl, rfl, rfl⟩, rfl⟩, fun k hk => ⟨fun hlt => ?_, fun hge => ?_⟩⟩
    · have hlt := of_decide_eq_true hlt
      have hlt2 : k < (macsL c0 c2 now xs xs.length).length := by omega
      refine ⟨⟨by omega, hlt⟩, fun _ => ⟨by omega, by omega⟩, k + 1, hlt2, show (macsL c0 c2 now xs xs.length).length - (k + 1) < (macsL c0 c2 now xs xs.length).length - k by omega, ⟨⟨rfl, rfl, rfl, rfl, rfl, rfl, rfl, rfl, rfl⟩, rfl, rfl, trivial, rfl, trivial, rfl, trivial, wrap_next hlt (by omega), (apartL_next (macsL c0 c2 now xs xs.length) k hlt2).symm, (otherL_next ⟨a, b, c, d, e, f⟩ (macsL c0 c2 now xs xs.length) k hlt2).symm⟩, ⟨rfl, rfl, rfl, rfl, rfl, rfl, rfl, rfl, rfl⟩, rfl⟩
    · have hge := of_decide_eq_false hge
      have hk : k ≤ (macsL c0 c2 now xs xs.length).length := hk
      have hkx : k = (macsL c0 c2 now xs xs.length).length := by omega
      subst hkx
      unfold ofLH
      refine ⟨fun ha => ?_, fun ha => ⟨fun ho => ?_, fun ho => ⟨fun hn => ?_, fun hn => ⟨fun hx => ?_, fun hx => ?_, fun hx => ?_⟩⟩⟩⟩
      · rw [if_pos ha]
      · rw [if_neg (by rw [ha]; simp), if_pos ho]
      · rw [if_neg (by rw [ha]; simp), if_neg (by rw [ho]; simp), if_pos hn]
      · have := of_decide_eq_true hx
        omega
      · have hx : (decide ((xs.length : Int) > 0) && !withinL now (lastT xs) c1) = true := hx
        rw [if_neg (by rw [ha]; simp), if_neg (by rw [ho]; simp), if_neg (by rw [hn]; simp), if_pos hx]
      · have hx : (decide ((xs.length : Int) > 0) && !withinL now (lastT xs) c1) = false := hx
        rw [if_neg (by rw [ha]; simp), if_neg (by rw [ho]; simp), if_neg (by rw [hn]; simp), if_neg (by rw [hx]; simp)]
theorem okOf : FnOk Try.prog u 13 spOf := by
  refine fn_ok Try.prog u tab4 mo laws4 Try.func13 ?_
  intro xs c y h hc
  unfold spOf at h
  split at h
  · cases h
    exact ⟨by kernel_rfl, _, _, bodyOfN _ _ _ _ _ _ _ _ _ _ _ hc⟩
  · cases h
    exact ⟨by kernel_rfl, _, _, bodyOfH _ _ _ _ _ _ _ _ _ _ _ _ _ _ _ _ _ _ _ hc⟩
  · cases h
theorem okOfL : FnOk Try.prog u 14 spOfL := by
  refine fn_ok Try.prog u tab4 mo laws4 Try.func14 ?_
  intro xs c y h hc
  unfold spOfL at h
  split at h
  · cases h
    exact ⟨by kernel_rfl, _, _, bodyOfLN _ _ _ _ _ _ _ _ _ _ _ hc⟩
  · cases h
    exact ⟨by kernel_rfl, _, _, bodyOfLH _ _ _ _ _ _ _ _ _ _ _ _ _ _ _ _ _ _ _ hc⟩
  · cases h
end Go.Proofs.Ytpokkmgnapoomaa.Stat
