/- Tries: the laws TrieOrder and TrieTake, by the bodies' contracts. -/
import Derived.Test.YtndacggailoogaaTrieVcD
import Derived.Test.YtndacggailoogaaTrieWalkC
import Derived.Test.YtndacggailoogaaTrieMany
namespace Go.Proofs.Ytndacggailoogaa.Tri
open Go Go.Proofs.Ytndacggailoogaa.Sx

theorem bodyLOrder (xs : List Act) (h : actsOk xs) : BodyOk Try.prog u tab7 [] [(0, .inv (annOrd xs)), (2, .inv annSame)] Try.f4 [.csl 42 xs] (.bool true) := by
  constructor
  have eqn : bodyW Try.prog u tab7 [] (drawW Try.prog u tab7) (loopsBy u [(0, .inv (annOrd xs)), (2, .inv annSame)]) Try.f4 [.csl 42 xs] (.bool true) = vcLOrder xs := by kernel_rfl
  rw [eqn]
  unfold vcLOrder
  obtain ⟨hl1, hl2, hl3, hl4⟩ := headA_len xs 60 (by decide)
  have hd : u.dflt 42 = zeroA := rfl
  have hd2 : u.dflt 26 = zeroB := rfl
  have e : List.drop 0 (List.take (mn (xs.length : Int) 60).toNat xs) = headA xs 60 := rfl
  simp only [e, hd, hd2]
  have hl1 : (headA xs 60).length ≤ 60 := hl1
  refine ⟨fun h => h, fun _ => ⟨⟨Int.le_refl _, hl3, hl4⟩, ⟨(0, ⟨0, [nd0], []⟩, ⟨0, [nd0], []⟩), ⟨Nat.zero_le _, ord_zero _⟩, ⟨trivial, trivial, trivial, trivial, rfl⟩, ⟨rfl, rfl⟩, rfl, rfl⟩, fun g hg => ?_⟩⟩
  obtain ⟨k, g, h'⟩ := g
  obtain ⟨hk, i⟩ := hg
  refine ⟨fun hlt => ?_, fun hge => ?_⟩
  · have hlt : (k : Int) < ((headA xs 60).length : Int) := of_decide_eq_true hlt
    have hk2 : k < (headA xs 60).length := by omega
    have a1 := head_ok h hk2
    have a2 := head_ok h (show (headA xs 60).length - 1 - k < (headA xs 60).length by omega)
    have hi : IntKind.i64.wrap (IntKind.i64.wrap (((headA xs 60).length : Int) - 1) - (k : Int)) = (((headA xs 60).length - 1 - k : Nat) : Int) := by
      rw [wrap_i64_id (n := ((headA xs 60).length : Int) - 1) (by omega), wrap_i64_id (by omega)]
      omega
    obtain ⟨l, m, j⟩ := ord_step i hk2 (by omega) rfl rfl (act_B32 a1) (act_B32 a2)
    dsimp only
    rw [hi]
    exact ⟨⟨Int.natCast_nonneg _, hlt⟩, a1.2.2.1, i.x.rel.wf, ⟨Int.natCast_nonneg _, by omega⟩, a2.2.2.1, i.y.rel.wf, (k + 1, ⟨_, _, l⟩, ⟨_, _, m⟩), ⟨hk2, j⟩, (show (headA xs 60).length - (k + 1) < (headA xs 60).length - k by omega), ⟨trivial, trivial, trivial, trivial, wrap_k (by omega)⟩, ⟨rfl, rfl⟩, rfl, rfl⟩
  · have hge : ¬ (k : Int) < ((headA xs 60).length : Int) := of_decide_eq_false hge
    obtain ⟨o1, o2, o3⟩ := ord_end i (show (headA xs 60).length ≤ k by omega)
    have hsz : (allM g.ns).length ≤ 60 := by
      have h1 : g.all.length ≤ k := i.x.le
      have h2 : k ≤ (headA xs 60).length := hk
      have h3 : (allM g.ns).length = g.all.length := o2
      omega
    dsimp only
    rw [← o1]
    refine ⟨show (allM g.ns).length ≤ _ by omega, show (allM g.ns).length ≤ _ by omega, fun hb => ?_, fun _ => ⟨⟨0, Nat.zero_le _, ⟨trivial, trivial, trivial, rfl⟩, trivial, trivial⟩, fun j hj => ⟨fun hlt => ?_, fun _ => trivial⟩⟩⟩
    · rw [o3] at hb; simp at hb
    · have hlt : (j : Int) < ((allM g.ns).length : Int) := of_decide_eq_true hlt
      refine ⟨⟨Int.natCast_nonneg _, hlt⟩, ⟨Int.natCast_nonneg _, hlt⟩, fun hb => ?_, fun _ => ⟨j + 1, (show j + 1 ≤ 1000000000000 by omega), (show 1000000000000 - (j + 1) < 1000000000000 - j by omega), ⟨trivial, trivial, trivial, wrap_k (by omega)⟩, trivial, trivial⟩⟩
      simp at hb
theorem okLOrder : FnOk Try.prog u 4 spLOrder := by
  refine fn_ok Try.prog u tab7 mo laws7 Try.func4 ?_
  intro xs c y h hc
  unfold spLOrder at h
  split at h
  · cases h
    exact ⟨by kernel_rfl, _, _, bodyLOrder _ hc⟩
  · cases h
theorem bodyLTake (xs : List Act) (h : actsOk xs) : BodyOk Try.prog u tab7 [] [(0, .inv (annTk xs)), (2, .inv annDown)] Try.f6 [.csl 42 xs] (.bool true) := by
  constructor
  have eqn : bodyW Try.prog u tab7 [] (drawW Try.prog u tab7) (loopsBy u [(0, .inv (annTk xs)), (2, .inv annDown)]) Try.f6 [.csl 42 xs] (.bool true) = vcLTake xs := by kernel_rfl
  rw [eqn]
  unfold vcLTake
  obtain ⟨hl1, hl2, hl3, hl4⟩ := headA_len xs 60 (by decide)
  have hd : u.dflt 42 = zeroA := rfl
  have hd2 : u.dflt 26 = zeroB := rfl
  have e : List.drop 0 (List.take (mn (xs.length : Int) 60).toNat xs) = headA xs 60 := rfl
  simp only [e, hd, hd2]
  have hl1 : (headA xs 60).length ≤ 60 := hl1
  refine ⟨fun h => h, fun _ => ⟨⟨Int.le_refl _, hl3, hl4⟩, ⟨(0, ⟨0, [nd0], []⟩), ⟨Nat.zero_le _, tri_zero⟩, ⟨trivial, trivial, trivial, trivial, rfl⟩, ⟨rfl, rfl⟩, rfl⟩, fun g hg => ?_⟩⟩
  obtain ⟨k, g⟩ := g
  obtain ⟨hk, i⟩ := hg
  have hk : k ≤ (headA xs 60).length := hk
  refine ⟨fun hlt => ?_, fun hge => ⟨⟨(0, g), down_zero i (by omega), ⟨trivial, trivial, rfl, rfl⟩, ⟨rfl, rfl⟩, rfl⟩, fun g hg => ?_⟩⟩
  · have hlt : (k : Int) < ((headA xs 60).length : Int) := of_decide_eq_true hlt
    have hk2 : k < (headA xs 60).length := by omega
    have a1 := head_ok h hk2
    have hmu : (headA xs 60).length - (k + 1) < (headA xs 60).length - k := by omega
    have hle : g.all.length ≤ k := i.le
    dsimp only
    refine ⟨⟨Int.natCast_nonneg _, hlt⟩, a1.2.2.1, i.rel.wf, fun hb => ?_, fun hb => ?_⟩
    · rcases put_act i (show k < 1000 by omega) (act_B32 a1) with ⟨p1, p2, p3, p4⟩ | ⟨p1, p2, p3, p4⟩ | ⟨p1, p2, p3, p4⟩
      · exact ⟨a1.2.2.1, (show (g.all.length + 1) * 16 ≤ _ by omega), (k + 1, ⟨_, _, _⟩), ⟨hk2, p4⟩, hmu, ⟨trivial, trivial, trivial, trivial, wrap_k (by omega)⟩, ⟨rfl, rfl⟩, rfl⟩
      · exfalso
        have hb' : (putE g.ns (actB ((headA xs 60).getD k zeroA)).base (actB ((headA xs 60).getD k zeroA)).bits == 0) = true := hb
        rw [p3] at hb'; cases hb'
      · exfalso
        have hb' : (putE g.ns (actB ((headA xs 60).getD k zeroA)).base (actB ((headA xs 60).getD k zeroA)).bits == 0) = true := hb
        rw [p3] at hb'; cases hb'
    · rcases put_act i (show k < 1000 by omega) (act_B32 a1) with ⟨p1, p2, p3, p4⟩ | ⟨p1, p2, p3, p4⟩ | ⟨p1, p2, p3, p4⟩
      · exfalso
        have hb' : (putE g.ns (actB ((headA xs 60).getD k zeroA)).base (actB ((headA xs 60).getD k zeroA)).bits == 0) = false := hb
        rw [p3] at hb'; cases hb'
      · exact ⟨(k + 1, ⟨_, _, _⟩), ⟨hk2, p4⟩, hmu, ⟨trivial, trivial, trivial, trivial, wrap_k (by omega)⟩, ⟨rfl, rfl⟩, rfl⟩
      · exact ⟨(k + 1, ⟨_, _, _⟩), ⟨hk2, p4⟩, hmu, ⟨trivial, trivial, trivial, trivial, wrap_k (by omega)⟩, ⟨rfl, rfl⟩, rfl⟩
  · obtain ⟨k, g⟩ := g
    have i : DownI k g := hg
    have hle : k ≤ g.all.length := i.le
    have hs60 : g.all.length ≤ 60 := i.small
    refine ⟨fun hlt => ?_, fun hge => ?_⟩
    · have hlt : (k : Int) < (g.all.length : Int) := of_decide_eq_true hlt
      have hk2 : k < g.all.length := by omega
      obtain ⟨d1, d2, d3, d4⟩ := down_step i hk2 rfl rfl
      have hi : IntKind.i64.wrap (IntKind.i64.wrap ((g.all.length : Int) - 1) - (k : Int)) = ((g.all.length - 1 - k : Nat) : Int) := by
        rw [wrap_i64_id (n := (g.all.length : Int) - 1) (by omega), wrap_i64_id (by omega)]
        omega
      have hn : (g.n != IntKind.i64.wrap ((g.all.length : Int) - (k : Int))) = false := by
        rw [i.num, wrap_i64_id (by omega)]
        simp
        omega
      have hrg : (0 : Int) ≤ ((g.all.length - 1 - k : Nat) : Int) ∧ ((g.all.length - 1 - k : Nat) : Int) < (g.all.length : Int) := by omega
      dsimp only
      simp only [hi, hn, Int.toNat_natCast, d1, d2, d3]
      exact ⟨fun _ => hrg, fun h => (by cases h), fun _ => ⟨fun _ => hrg, fun h => h, fun _ => ⟨fun h => h, fun _ => ⟨(k + 1, ⟨_, _, g.all⟩), d4, (show g.all.length - (k + 1) < g.all.length - k by omega), ⟨trivial, trivial, rfl, wrap_k (by omega)⟩, ⟨rfl, rfl⟩, rfl⟩⟩⟩⟩
    · have hge : ¬ (k : Int) < (g.all.length : Int) := of_decide_eq_false hge
      obtain ⟨d1, d2, d3, d4⟩ := down_end i (by omega)
      dsimp only
      simp only [d1, d2, d3, d4]
      exact ⟨fun _ => ⟨Nat.zero_le _, rfl⟩, fun h => absurd h (by decide)⟩
theorem okLTake : FnOk Try.prog u 6 spLOrder := by
  refine fn_ok Try.prog u tab7 mo laws7 Try.func6 ?_
  intro xs c y h hc
  unfold spLOrder at h
  split at h
  · cases h
    exact ⟨by kernel_rfl, _, _, bodyLTake _ hc⟩
  · cases h

end Go.Proofs.Ytndacggailoogaa.Tri
