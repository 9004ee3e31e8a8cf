/- What an address stands as: the contracts of the loops. -/
import Derived.Test.YtpokkmgnapoomaaStatVcB
namespace Go.Proofs.Ytpokkmgnapoomaa.Stat
open Go Go.Proofs.Ytpokkmgnapoomaa.Sx

theorem bodySince (a b : Int) : BodyOk Try.prog u tab1 [] [] Try.f23 [.int .i64 a, .int .i64 b] (.int .i64 (since a b)) := by
  constructor
  have eqn : bodyW Try.prog u tab1 [] (drawW Try.prog u tab1) (loopsBy u []) Try.f23 [.int .i64 a, .int .i64 b] (.int .i64 (since a b)) = vcSince a b := by kernel_rfl
  rw [eqn]
  rfl
theorem okSince : FnOk Try.prog u 23 spSince := by
  refine fn_ok Try.prog u tab1 mo laws1 Try.func23 ?_
  intro xs c y h hc
  unfold spSince at h
  split at h
  · cases h
    exact ⟨by kernel_rfl, _, _, bodySince _ _⟩
  · cases h
theorem laws2 : Laws Try.prog u tab2 := by
  refine ⟨law, clean, fun p hp => ?_⟩
  rcases List.mem_cons.1 hp with rfl | hp
  · exact okSince
  exact laws1.tab p hp
theorem bodyWithin (a b n : Int) : BodyOk Try.prog u tab2 [] [] Try.f20 [.int .i64 a, .int .i64 b, .int .i64 n] (.bool (within a b n)) := by
  constructor
  have eqn : bodyW Try.prog u tab2 [] (drawW Try.prog u tab2) (loopsBy u []) Try.f20 [.int .i64 a, .int .i64 b, .int .i64 n] (.bool (within a b n)) = vcWithin a b n := by kernel_rfl
  rw [eqn]
  rfl
theorem okWithin : FnOk Try.prog u 20 spWithin := by
  refine fn_ok Try.prog u tab2 mo laws2 Try.func20 ?_
  intro xs c y h hc
  unfold spWithin at h
  split at h
  · cases h
    exact ⟨by kernel_rfl, _, _, bodyWithin _ _ _⟩
  · cases h
theorem laws3 : Laws Try.prog u tab3 := by
  refine ⟨law, clean, fun p hp => ?_⟩
  rcases List.mem_cons.1 hp with rfl | hp
  · exact okWithin
  exact laws2.tab p hp
theorem wrap_i64_id {n : Int} (h : -9223372036854775808 ≤ n ∧ n < 9223372036854775808) : IntKind.i64.wrap n = n := by rw [IntKind.wrap_i64]; omega
theorem wrap_next {g n : Nat} (h : (g : Int) < n) (hn : n < 9223372036854775808) : IntKind.i64.wrap ((g : Int) + 1) = ((g + 1 : Nat) : Int) := by
  rw [IntKind.wrap_i64]
  omega
theorem drop_getD {α : Type} (xs : List α) (g : Nat) (h : g < xs.length) (d : α) : xs.drop g = xs.getD g d :: xs.drop (g + 1) := by
  rw [List.drop_eq_getElem_cons h]
  simp [List.getD, List.getElem?_eq_getElem h]
theorem take_getD {α : Type} (xs : List α) (g : Nat) (h : g < xs.length) (d : α) : xs.take (g + 1) = xs.take g ++ [xs.getD g d] := by
  rw [List.take_add_one, List.getElem?_eq_getElem h]
  simp [List.getD, List.getElem?_eq_getElem h]
theorem any_take_drop {α : Type} (p : α → Bool) (xs : List α) (g : Nat) : xs.any p = ((xs.take g).any p || (xs.drop g).any p) := by
  rw [← List.any_append, List.take_append_drop]
theorem bodyApart (xs : List Sight) (h : xs.length < 9223372036854775808) : BodyOk Try.prog u tab3 [] [(0, .inv (annApart xs))] Try.f18 [.csl 48 xs] (.bool (apartGo zeroMac xs)) := by
  constructor
  have eqn : bodyW Try.prog u tab3 [] (drawW Try.prog u tab3) (loopsBy u [(0, .inv (annApart xs))]) Try.f18 [.csl 48 xs] (.bool (apartGo zeroMac xs)) = vcApart xs := by kernel_rfl
  rw [eqn]
  unfold vcApart
  refine ⟨⟨(0, zeroMac), ⟨Nat.zero_le _, rfl⟩, ⟨rfl, rfl, rfl, trivial⟩, rfl, rfl, rfl, rfl, rfl, rfl⟩, fun g hg => ⟨fun hlt => ?_, fun hge => ?_⟩⟩
  · have hlt := of_decide_eq_true hlt
    have hlt' : g.1 < xs.length := by omega
    obtain ⟨hg1, hg2⟩ := hg
    rw [drop_getD xs g.1 hlt' (u.dflt 48), apartGo] at hg2
    refine ⟨by omega, fun hn => ?_, fun hn => ⟨fun hf => ?_, fun hf => ⟨fun hs => ?_, fun hs => ?_⟩⟩⟩
    · have hn : noneM (xs.getD g.1 (u.dflt 48)).mac = true := hn
      rw [if_pos hn] at hg2
      exact ⟨(g.1 + 1, g.2), ⟨hlt', hg2⟩, show xs.length - (g.1 + 1) < xs.length - g.1 by omega, ⟨rfl, rfl, wrap_next hlt h, trivial⟩, rfl, rfl, rfl, rfl, rfl, rfl⟩
    · have hn : noneM (xs.getD g.1 (u.dflt 48)).mac = false := hn
      have hf : noneM g.2 = true := hf
      rw [if_neg (by rw [hn]; simp), if_pos hf] at hg2
      exact ⟨(g.1 + 1, (xs.getD g.1 (u.dflt 48)).mac), ⟨hlt', hg2⟩, show xs.length - (g.1 + 1) < xs.length - g.1 by omega, ⟨rfl, rfl, wrap_next hlt h, trivial⟩, rfl, rfl, rfl, rfl, rfl, rfl⟩
    · have hn : noneM (xs.getD g.1 (u.dflt 48)).mac = false := hn
      have hf : noneM g.2 = false := hf
      have hs : (!g.2.same (xs.getD g.1 (u.dflt 48)).mac) = true := hs
      have hs : g.2.same (xs.getD g.1 (u.dflt 48)).mac = false := by simpa using hs
      rw [if_neg (by rw [hn]; simp), if_neg (by rw [hf]; simp), if_neg (by rw [hs]; simp)] at hg2
      exact hg2
    · have hn : noneM (xs.getD g.1 (u.dflt 48)).mac = false := hn
      have hf : noneM g.2 = false := hf
      have hs : (!g.2.same (xs.getD g.1 (u.dflt 48)).mac) = false := hs
      have hs : g.2.same (xs.getD g.1 (u.dflt 48)).mac = true := by simpa using hs
      rw [if_neg (by rw [hn]; simp), if_neg (by rw [hf]; simp), if_pos hs] at hg2
      exact ⟨(g.1 + 1, g.2), ⟨hlt', hg2⟩, show xs.length - (g.1 + 1) < xs.length - g.1 by omega, ⟨rfl, rfl, wrap_next hlt h, trivial⟩, rfl, rfl, rfl, rfl, rfl, rfl⟩
  · have hge := of_decide_eq_false hge
    obtain ⟨hg1, hg2⟩ := hg
    have : g.1 = xs.length := by omega
    rw [this, List.drop_length] at hg2
    exact hg2
theorem okApart : FnOk Try.prog u 18 spApart := by
  refine fn_ok Try.prog u tab3 mo laws3 Try.func18 ?_
  intro xs c y h hc
  unfold spApart at h
  split at h
  · cases h
    exact ⟨by kernel_rfl, _, _, bodyApart _ hc⟩
  · cases h
theorem bodyForeign (z : Int) (o : ByteArray) (a b c d e f : Int) (xs : List Sight) (h : xs.length < 9223372036854775808) : BodyOk Try.prog u tab3 [] [(0, .inv (annForeign ⟨a, b, c, d, e, f⟩ xs))] Try.f19 [.agg [.int .u32 z, .str o, .int .u8 a, .int .u8 b, .int .u8 c, .int .u8 d, .int .u8 e, .int .u8 f], .csl 48 xs] (.bool (foreign ⟨a, b, c, d, e, f⟩ xs)) := by
  constructor
  have eqn : bodyW Try.prog u tab3 [] (drawW Try.prog u tab3) (loopsBy u [(0, .inv (annForeign ⟨a, b, c, d, e, f⟩ xs))]) Try.f19 [.agg [.int .u32 z, .str o, .int .u8 a, .int .u8 b, .int .u8 c, .int .u8 d, .int .u8 e, .int .u8 f], .csl 48 xs] (.bool (foreign ⟨a, b, c, d, e, f⟩ xs)) = vcForeign z o a b c d e f xs := by kernel_rfl
  rw [eqn]
  unfold vcForeign
  refine ⟨⟨0, ⟨Nat.zero_le _, rfl⟩, ⟨trivial, rfl, rfl, rfl⟩, rfl, rfl, rfl, rfl, rfl, rfl, rfl, rfl⟩, fun g hg => ⟨fun hlt => ?_, fun hge => ?_⟩⟩
  · have hlt := of_decide_eq_true hlt
    have hlt' : g < xs.length := by omega
    obtain ⟨hg1, hg2⟩ := hg
    refine ⟨by omega, fun hn => ?_, fun hn => ?_⟩
    · have hn : foreignS ⟨a, b, c, d, e, f⟩ (xs.getD g (u.dflt 48)) = true := hn
      unfold foreign
      rw [any_take_drop _ xs g, drop_getD xs g hlt' (u.dflt 48), List.any_cons, hn]
      simp
    · have hn : foreignS ⟨a, b, c, d, e, f⟩ (xs.getD g (u.dflt 48)) = false := hn
      refine ⟨g + 1, ⟨hlt', ?_⟩, show xs.length - (g + 1) < xs.length - g by omega, ⟨trivial, rfl, rfl, wrap_next hlt h⟩, rfl, rfl, rfl, rfl, rfl, rfl, rfl, rfl⟩
      unfold foreign at hg2 ⊢
      rw [take_getD xs g hlt' (u.dflt 48), List.any_append, hg2]
      simpa using hn
  · have hge := of_decide_eq_false hge
    obtain ⟨hg1, hg2⟩ := hg
    have : g = xs.length := by omega
    rw [this, List.take_length] at hg2
    exact hg2.symm
theorem okForeign : FnOk Try.prog u 19 spForeign := by
  refine fn_ok Try.prog u tab3 mo laws3 Try.func19 ?_
  intro xs c y h hc
  unfold spForeign at h
  split at h
  · cases h
    exact ⟨by kernel_rfl, _, _, bodyForeign _ _ _ _ _ _ _ _ _ hc⟩
  · cases h
theorem bodyFresh (c0 c1 c2 c3 c4 c5 c6 c7 c8 : Int) (xs : List Sight) (now : Int) (h : xs.length * 24 ≤ 140737488355328 ∧ c2 < 9223372036854775808) : BodyOk Try.prog u tab3 [] [(0, .inv (annFresh c0 c2 now xs))] Try.f17 [.agg (cfg c0 c1 c2 c3 c4 c5 c6 c7 c8), .csl 48 xs, .int .i64 now] (.csl 48 (freshL c0 c2 now xs)) := by
  constructor
  have eqn : bodyW Try.prog u tab3 [] (drawW Try.prog u tab3) (loopsBy u [(0, .inv (annFresh c0 c2 now xs))]) Try.f17 [.agg (cfg c0 c1 c2 c3 c4 c5 c6 c7 c8), .csl 48 xs, .int .i64 now] (.csl 48 (freshL c0 c2 now xs)) = vcFresh c0 c1 c2 c3 c4 c5 c6 c7 c8 xs now := by kernel_rfl
  rw [eqn]
  unfold vcFresh
  obtain ⟨h, h2⟩ := h
  have hk : 0 ≤ fromK c2 xs ∧ fromK c2 xs ≤ xs.length := by
    unfold fromK
    have hm : 0 ≤ mx 0 c2 ∧ mx 0 c2 < 9223372036854775808 := by unfold mx; split <;> omega
    generalize mx 0 c2 = m at *
    rw [wrap_i64_id (n := (xs.length : Int) - m) (by omega), wrap_i64_id (by omega)]
    unfold mx
    split <;> omega
  have hlen : (tailS c2 xs).length ≤ xs.length := by
    unfold tailS
    rw [List.length_drop, List.length_take]
    omega
  refine ⟨⟨hk.1, hk.2, by omega⟩, ⟨0, Nat.zero_le _, ⟨rfl, trivial, rfl, rfl, rfl, trivial⟩, ⟨rfl, rfl, rfl, rfl, rfl, rfl, rfl, rfl, rfl⟩, rfl⟩, fun g hg => ⟨fun hlt => ?_, fun hge => ?_⟩⟩
  · have hlt : (g : Int) < ((tailS c2 xs).length : Int) := of_decide_eq_true hlt
    have hlt' : g < (tailS c2 xs).length := by omega
    have hf : (((tailS c2 xs).take g).filter (freshS c0 now)).length ≤ g := Nat.le_trans (List.length_filter_le _ _) (by rw [List.length_take]; omega)
    have hw : IntKind.i64.wrap ((g : Int) + 1) = ((g + 1 : Nat) : Int) := wrap_next hlt (by omega)
    refine ⟨⟨by omega, hlt⟩, fun hn => ⟨?_, g + 1, hlt', show (tailS c2 xs).length - (g + 1) < (tailS c2 xs).length - g by omega, ⟨rfl, trivial, rfl, rfl, hw, trivial⟩, ⟨rfl, rfl, rfl, rfl, rfl, rfl, rfl, rfl, rfl⟩, ?_⟩, fun hn => ⟨g + 1, hlt', show (tailS c2 xs).length - (g + 1) < (tailS c2 xs).length - g by omega, ⟨rfl, trivial, rfl, rfl, hw, trivial⟩, ⟨rfl, rfl, rfl, rfl, rfl, rfl, rfl, rfl, rfl⟩, ?_⟩⟩
    · show ((((tailS c2 xs).take g).filter (freshS c0 now)).length + 1) * 24 ≤ 140737488355328
      omega
    · have hn : freshS c0 now ((tailS c2 xs).getD g (u.dflt 48)) = true := hn
      rw [take_getD (tailS c2 xs) g hlt' (u.dflt 48), List.filter_append, List.filter_cons_of_pos hn]
      rfl
    · have hn : freshS c0 now ((tailS c2 xs).getD g (u.dflt 48)) = false := hn
      rw [take_getD (tailS c2 xs) g hlt' (u.dflt 48), List.filter_append, List.filter_cons_of_neg (by rw [hn]; simp)]
      simp
  · have hge : ¬ (g : Int) < ((tailS c2 xs).length : Int) := of_decide_eq_false hge
    have hg : g ≤ (tailS c2 xs).length := hg
    have : g = (tailS c2 xs).length := by omega
    rw [this, List.take_length]
    rfl
theorem okFresh : FnOk Try.prog u 17 spFresh := by
  refine fn_ok Try.prog u tab3 mo laws3 Try.func17 ?_
  intro xs c y h hc
  unfold spFresh at h
  split at h
  · cases h
    exact ⟨by kernel_rfl, _, _, bodyFresh _ _ _ _ _ _ _ _ _ _ _ hc⟩
  · cases h
end Go.Proofs.Ytpokkmgnapoomaa.Stat
