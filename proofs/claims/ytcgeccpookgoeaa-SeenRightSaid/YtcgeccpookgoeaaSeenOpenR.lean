/- Sightings: rows of sightings that are handed in. -/
import Derived.Test.YtcgeccpookgoeaaSeenSpecR
import Derived.Test.YtcgeccpookgoeaaSeenOpen
namespace Go.Proofs.Ytcgeccpookgoeaa.Seen
open Go Go.RowKit Go.Proofs.Ytcgeccpookgoeaa.Sx

/-- A slice that stands in a value that is handed in. -/
theorem open_leaf {H : Type} {enc : TypeId × Value → H} {P : Program} (u : U A) {w : World} {sp : Nat → Bool} {T : TypeId} {v : Value} {L : List Sx.Leaf} {good : A T → Prop} (hc0 : 0 < P.cellsOf T) (hs : Sx.shape P 8 T = some L)
    (f : ∀ cs : List Value, Sx.Leaves enc P w sp L cs → ∃ x : A T, good x ∧ RepL P u (outer w fun _ => False) (u.enc T x) cs) (h : Sx.leafOk enc P w sp (.sl T) v) :
    ∃ xs : List (A T), (∀ x ∈ xs, good x) ∧ xs.length ≤ maxLen ∧ RepL P u (outer w fun _ => False) [.csl T xs] [v] := by
  rcases h with rfl | ⟨a', len, cap, n, rfl, hl, hcap, hel⟩
  · exact ⟨[], by simp, Nat.zero_le _, .csl _ _ none 0 0 (fun _ => []) rfl (Nat.le_refl _) (.inl rfl) (fun i hi => by simp at hi) (fun i x hi => by simp at hi) .nil⟩
  · have hpick : ∀ i, ∃ p : List Value × A T, i < len → w.cells? 0 (a'.add (i * P.cellsOf T)) (P.cellsOf T) = some p.1 ∧ good p.2 ∧ RepL P u (outer w fun _ => False) (u.enc T p.2) p.1 := by
      intro i
      by_cases hi : i < len
      · obtain ⟨cs, _, h2, h3⟩ := hel i hi
        obtain ⟨x, h4, h5⟩ := f cs (Sx.shape_sound 8 hs h3)
        exact ⟨(cs, x), fun _ => ⟨h2, h4, h5⟩⟩
      · exact ⟨([], u.dflt T), fun h => absurd h hi⟩
    obtain ⟨K, hK⟩ := Classical.axiomOfChoice hpick
    have hlen' : ((List.range len).map fun i => (K i).2).length = len := by simp
    refine ⟨(List.range len).map fun i => (K i).2, ?_, by rw [hlen']; omega, ?_⟩
    · intro c hcm
      obtain ⟨i, hi, rfl⟩ := List.mem_map.1 hcm
      exact (hK i (List.mem_range.1 hi)).2.1
    · refine .csl _ _ (some a') len cap (fun i => (K i).1) hlen' hl ?_ ?_ ?_ .nil
      · by_cases h0 : len = 0
        · left
          subst h0
          rfl
        · right
          have hb := World.cells?_block (hK 0 (by omega)).1 hc0
          obtain ⟨_, hcl, hcell⟩ := World.cells?_some (hK 0 (by omega)).1
          have hspot : (a'.add (0 * P.cellsOf T)).spot = none := by
            have h1 := hcell 0 hc0
            have hg : ∃ v, (K 0).1[0]? = some v := ⟨(K 0).1[0]'(by omega), List.getElem?_eq_getElem _⟩
            obtain ⟨v, hv⟩ := hg
            rw [hv] at h1
            have := no_spot h1
            simpa [Addr.add] using this
          obtain ⟨b, o, s⟩ := a'
          have hs' : s = none := by
            unfold Addr.add at hspot
            simpa using hspot
          subst hs'
          refine ⟨b, o, rfl, ?_, fun h => h, fun i hi => ?_⟩
          · show b < w.heap.size
            simpa [Addr.add] using hb
          · have hi' : i < len := by rw [hlen'] at hi; exact hi
            intro j x hj
            obtain ⟨_, hcl, hcell⟩ := World.cells?_some (hK i hi').1
            have hjlt : j < P.cellsOf T := by have := (List.getElem?_eq_some_iff.1 hj).1; omega
            have h1 := hcell j hjlt
            rw [hj, add_add', add_add'] at h1
            exact h1
      · intro i hi
        have hi' : i < len := by rw [hlen'] at hi; exact hi
        exact (World.cells?_some (hK i hi').1).2.1
      · intro i x hi
        simp only [List.getElem?_map, Option.map_eq_some_iff] at hi
        obtain ⟨j, hj, rfl⟩ := hi
        have hjlen : i < len := by
          rcases Nat.lt_or_ge i len with h' | h'
          · exact h'
          · rw [List.getElem?_eq_none (by simpa using h')] at hj; cases hj
        have hji : j = i := by rw [List.getElem?_range hjlen] at hj; cases hj; rfl
        subst hji
        exact (hK j hjlen).2.2
def knownOk (x : Known) : Prop := x.seen.length < 9223372036854775808
theorem openKnown {H : Type} {enc : TypeId × Value → H} {w : World} {sp : Nat → Bool} (cs : List Value) (l : Sx.Leaves enc Try.prog w sp [.int .u32, .sl 35] cs) : ∃ x : A 53, knownOk (x : Known) ∧ RepL Try.prog u (outer w fun _ => False) (u.enc 53 x) cs := by
  obtain ⟨a, _, rfl, _, l1⟩ := l.int
  obtain ⟨v, _, rfl, hv, l2⟩ := l1.split
  obtain rfl := l2.done
  obtain ⟨xs, _, h2, h3⟩ := open_leaf (T := 35) u (of_decide_eq_true (by kernel_rfl)) (by kernel_rfl) openSight hv
  have hml : maxLen = 9223372036854775807 := rfl
  refine ⟨(⟨a, xs⟩ : Known), (show (xs : List Sight).length < 9223372036854775808 by omega), ?_⟩
  show RepL Try.prog u (outer w fun _ => False) [.int .u32 a, .csl 35 xs] [.int .u32 a, v]
  exact .int _ a h3
end Go.Proofs.Ytcgeccpookgoeaa.Seen
