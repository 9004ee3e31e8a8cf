/- Tries, in plain terms: all of them, in order. -/
import Derived.Test.YtndacggailoogaaTrieNum
namespace Go.Proofs.Ytndacggailoogaa.Tri
open Go Go.Proofs.Ytndacggailoogaa.Sx

def Ahead (x y : Blk) : Prop := x.base < y.base ∨ (x.base = y.base ∧ x.bits < y.bits)
theorem ahead_iff {x y : Blk} : aheadA x.base x.bits y.base y.bits = true ↔ Ahead x y := by
  unfold aheadA Ahead
  simp
/-- The halves of a prefix. -/
theorem kids_spec {c : Blk} (h : V c) (hb : c.bits < 32) : halfB c.base c.bits = true ∧ (V ⟨c.base, halfN c.bits⟩ ∧ P ⟨c.base, halfN c.bits⟩ = P c ++ [0]) ∧ (V ⟨highA c.base c.bits, halfN c.bits⟩ ∧ P ⟨highA c.base c.bits, halfN c.bits⟩ = P c ++ [1]) ∧ halfN c.bits = c.bits + 1 ∧ highA c.base c.bits = c.base + 2 ^ (31 - c.bits.toNat) := by
  have hr := h.rng
  obtain ⟨n, hn⟩ := Int.eq_ofNat_of_zero_le hr.1
  have hv := h.2
  have hP : P c = pathA c.base 0 n := by unfold P pathB; rw [hn]; rfl
  rw [hn] at hv hb ⊢
  have hn32 : n < 32 := by omega
  obtain ⟨d1, d2, d3, d4, d5⟩ := halves hn32 h.1 hv
  have hroom := room (by omega) h.1 hv
  have h0 := (right_iff (by omega) h.1).1 hv
  have hq := pw_pos (31 - n)
  have hp2 : (2 : Int) ^ (32 - n) = 2 * 2 ^ (31 - n) := by rw [show 32 - n = (31 - n) + 1 by omega, Int.pow_succ, Int.mul_comm]
  have hv0 : V ⟨c.base, halfN n⟩ := ⟨h.1, by rw [d2]; exact d4⟩
  have hb1 : 0 ≤ c.base + 2 ^ (31 - n) ∧ c.base + 2 ^ (31 - n) < 4294967296 := by have := h.1; omega
  have hv1 : V ⟨highA c.base n, halfN n⟩ := by rw [d3]; exact ⟨hb1, by rw [d2]; exact d5⟩
  obtain ⟨y, hy⟩ := Int.eq_ofNat_of_zero_le h.1.1
  have hM : 0 < 2 ^ (31 - n) := Nat.pow_pos (by decide)
  have hp3 : 2 ^ (32 - n) = 2 * 2 ^ (31 - n) := by rw [show 32 - n = (31 - n) + 1 by omega, Nat.pow_succ, Nat.mul_comm]
  have h0' : y % 2 ^ (32 - n) = 0 := by
    rw [hy, ← pw_cast] at h0
    have h1 : ((y % 2 ^ (32 - n) : Nat) : Int) = 0 := by rw [Int.natCast_emod]; exact h0
    exact Int.ofNat_eq_zero.1 h1
  rw [hp3] at h0'
  have hyk : ∃ k, y = 2 * 2 ^ (31 - n) * k := ⟨_, (Nat.mul_div_cancel' (Nat.dvd_of_mod_eq_zero h0')).symm⟩
  obtain ⟨k, hk⟩ := hyk
  refine ⟨d1, ⟨hv0, ?_⟩, ⟨hv1, ?_⟩, by rw [d2]; omega, by rw [d3]; rfl⟩
  · rw [hP]
    unfold P pathB
    simp only [d2]
    rw [Int.toNat_natCast, path_snoc, Nat.zero_add, bit_val h.1 (by omega), hy, Int.toNat_natCast]
    have : y / 2 ^ (31 - n) = 2 * k := by rw [hk, Nat.mul_right_comm, Nat.mul_div_cancel _ hM]
    rw [this, Nat.mul_mod_right]
  · have ht : pathA (highA c.base n) 0 n = pathA c.base 0 n := by
      have hv1' : 0 ≤ highA c.base n ∧ highA c.base n < 4294967296 := hv1.1
      have h1 := (P_has h (a := highA c.base n) hv1').2 (by
        rw [hn, has_iff (by omega) h.1 hv1' hv, d3]
        omega)
      rw [hn, Int.toNat_natCast, hP] at h1
      exact h1
    rw [hP]
    unfold P pathB
    simp only [d2]
    rw [Int.toNat_natCast, path_snoc, Nat.zero_add, ht, bit_val hv1.1 (by omega), d3]
    have e1 : (c.base + 2 ^ (31 - n)).toNat = y + 2 ^ (31 - n) := by rw [hy, ← pw_cast]; omega
    have e2 : (y + 2 ^ (31 - n)) / 2 ^ (31 - n) = 2 * k + 1 := by rw [hk, Nat.mul_right_comm, Nat.add_div_right _ hM, Nat.mul_div_cancel _ hM]
    rw [e1, e2, show (2 * k + 1) % 2 = 1 by omega]
def subL (ns : List Nd) (d : Nat) (o : Option Nat) (base bits : Int) : List Blk := match o with
  | some i => allN ns d i base bits
  | none => []
theorem all_step2 (ns : List Nd) (d j : Nat) (base bits : Int) : allN ns (d + 1) j base bits = (if (getN ns j).is = true then [⟨base, bits⟩] else []) ++ (if (!halfB base bits) = true then [] else
      subL ns d (kidN (getN ns j) 0) base (halfN bits) ++ subL ns d (kidN (getN ns j) 1) (highA base bits) (halfN bits)) := rfl
theorem all_spec {ns : List Nd} (hg : Good ns) : ∀ (d j : Nat) (c : Blk), V c → (32 - c.bits).toNat < d → atN ns 0 (P c) = some j →
    (∀ e, e ∈ allN ns d j c.base c.bits ↔ V e ∧ isAt ns (P e) = true ∧ ∃ r, P e = P c ++ r) ∧ (allN ns d j c.base c.bits).Pairwise Ahead
  | 0, j, c, _, hd, _ => absurd hd (Nat.not_lt_zero _)
  | d + 1, j, c, hv, hd, hj => by
    have hr := hv.rng
    have hself : ∀ e, e ∈ (if (getN ns j).is = true then [(⟨c.base, c.bits⟩ : Blk)] else []) ↔ V e ∧ isAt ns (P e) = true ∧ P e = P c := by
      intro e
      have hc : (⟨c.base, c.bits⟩ : Blk) = c := by cases c; rfl
      rw [hc]
      have hic : isAt ns (P c) = (getN ns j).is := isAt_of hj
      constructor
      · intro h
        split at h
        · rename_i hi
          rw [List.mem_singleton.1 h]
          exact ⟨hv, by rw [hic]; exact hi, rfl⟩
        · cases h
      · rintro ⟨h1, h2, h3⟩
        have := P_inj h1 hv h3
        subst this
        rw [hic] at h2
        rw [if_pos h2]
        exact List.mem_singleton.2 rfl
    have hsp : (if (getN ns j).is = true then [(⟨c.base, c.bits⟩ : Blk)] else []).Pairwise Ahead := by
      split
      · exact List.pairwise_singleton _ _
      · exact List.Pairwise.nil
    rw [all_step2]
    by_cases h32 : c.bits < 32
    · obtain ⟨k1, ⟨k2, k3⟩, ⟨k4, k5⟩, k6, k7⟩ := kids_spec hv h32
      rw [if_neg (show ¬ (!halfB c.base c.bits) = true by rw [k1]; simp)]
      have hd' : (32 - halfN c.bits).toNat < d := by rw [k6]; omega
      have kid : ∀ (b : Nat) (cb : Blk), b < 2 → V cb → P cb = P c ++ [b] → cb.bits = halfN c.bits → (∀ e, e ∈ subL ns d (kidN (getN ns j) b) cb.base (halfN c.bits) ↔ V e ∧ isAt ns (P e) = true ∧ ∃ r, P e = P c ++ b :: r) ∧ (subL ns d (kidN (getN ns j) b) cb.base (halfN c.bits)).Pairwise Ahead := by
        intro b cb hb hvb hPb hbb
        cases hk : kidN (getN ns j) b with
        | some i =>
          obtain ⟨g1, g2⟩ := all_spec hg d i cb hvb (by rw [hbb]; exact hd') (by rw [hPb, at_snoc, hj]; exact hk)
          rw [hbb] at g1 g2
          refine ⟨fun e => ?_, g2⟩
          show e ∈ allN ns d i cb.base (halfN c.bits) ↔ _
          rw [g1 e, hPb]
          simp
        | none =>
          refine ⟨fun e => ⟨fun h => (by cases h), ?_⟩, List.Pairwise.nil⟩
          rintro ⟨h1, h2, r, h3⟩
          exfalso
          obtain ⟨m, hm, _⟩ := isAt_some h2
          rw [h3, show P c ++ b :: r = (P c ++ [b]) ++ r by simp] at hm
          obtain ⟨m', hm', _⟩ := at_pre hm
          rw [at_snoc, hj] at hm'
          have hm' : kidN (getN ns j) b = some m' := hm'
          rw [hk] at hm'; cases hm'
      obtain ⟨a1, a2⟩ := kid 0 ⟨c.base, halfN c.bits⟩ (by decide) k2 k3 rfl
      obtain ⟨b1, b2⟩ := kid 1 ⟨highA c.base c.bits, halfN c.bits⟩ (by decide) k4 k5 rfl
      have rng : ∀ (e cb : Blk) (b : Nat), V cb → P cb = P c ++ [b] → V e → (∃ r, P e = P c ++ b :: r) → cb.bits = halfN c.bits → cb.base ≤ e.base ∧ e.base < cb.base + 2 ^ (31 - c.bits.toNat) ∧ c.bits < e.bits := by
        rintro e cb b hcb hPb he ⟨r, hr'⟩ hbb
        have := (P_pre hcb he).1 ⟨r, by rw [hr', hPb]; simp⟩
        obtain ⟨n, hn⟩ := Int.eq_ofNat_of_zero_le hcb.rng.1
        have hcr := hcb.rng
        have h2 := this.2
        have hcv := hcb.2
        rw [hn] at h2 hcv
        have h3 := (has_iff (by omega) hcb.1 he.1 hcv).1 h2
        have h4 := this.1
        rw [hbb, k6] at hn h4
        rw [show 31 - c.bits.toNat = 32 - n by omega]
        omega
      have hpw := pw_pos (31 - c.bits.toNat)
      refine ⟨fun e => ?_, ?_⟩
      · rw [List.mem_append, List.mem_append, hself e, a1 e, b1 e]
        constructor
        · rintro (⟨h1, h2, h3⟩ | ⟨h1, h2, r, h3⟩ | ⟨h1, h2, r, h3⟩)
          · exact ⟨h1, h2, [], by rw [List.append_nil]; exact h3⟩
          · exact ⟨h1, h2, _, h3⟩
          · exact ⟨h1, h2, _, h3⟩
        · rintro ⟨h1, h2, r, h3⟩
          cases r with
          | nil => exact .inl ⟨h1, h2, by rw [List.append_nil] at h3; exact h3⟩
          | cons b r =>
            have hbe : b < 2 := bin_P e b (by rw [h3]; simp)
            match b, hbe with
            | 0, _ => exact .inr (.inl ⟨h1, h2, r, h3⟩)
            | 1, _ => exact .inr (.inr ⟨h1, h2, r, h3⟩)
      · rw [List.pairwise_append, List.pairwise_append]
        refine ⟨hsp, ⟨a2, b2, fun x hx y hy => ?_⟩, fun x hx y hy => ?_⟩
        · obtain ⟨x1, x2, x3⟩ := (a1 x).1 hx
          obtain ⟨y1, y2, y3⟩ := (b1 y).1 hy
          have r1 := rng x ⟨c.base, halfN c.bits⟩ 0 k2 k3 x1 x3 rfl
          have r2 := rng y ⟨highA c.base c.bits, halfN c.bits⟩ 1 k4 k5 y1 y3 rfl
          simp only [k7] at r1 r2
          left
          omega
        · have hxc : x = c := by
            split at hx
            · rw [List.mem_singleton.1 hx]
            · cases hx
          subst hxc
          rw [List.mem_append] at hy
          rcases hy with hy | hy
          · obtain ⟨y1, y2, y3⟩ := (a1 y).1 hy
            have r1 := rng y ⟨x.base, halfN x.bits⟩ 0 k2 k3 y1 y3 rfl
            simp only at r1
            unfold Ahead
            omega
          · obtain ⟨y1, y2, y3⟩ := (b1 y).1 hy
            have r2 := rng y ⟨highA x.base x.bits, halfN x.bits⟩ 1 k4 k5 y1 y3 rfl
            simp only [k7] at r2
            left
            omega
    · have hb32 : c.bits = 32 := by omega
      have hh : halfB c.base c.bits = false := by unfold halfB; rw [hb32]; simp
      rw [if_pos (show (!halfB c.base c.bits) = true by rw [hh]; rfl), List.append_nil]
      refine ⟨fun e => ?_, hsp⟩
      rw [hself e]
      constructor
      · rintro ⟨h1, h2, h3⟩; exact ⟨h1, h2, [], by rw [List.append_nil]; exact h3⟩
      · rintro ⟨h1, h2, r, h3⟩
        have hl := congrArg List.length h3
        rw [List.length_append, P_len, P_len] at hl
        have he := h1.rng
        have : r = [] := List.eq_nil_of_length_eq_zero (by omega)
        subst this
        exact ⟨h1, h2, by rw [List.append_nil] at h3; exact h3⟩
theorem zeroB_V : V zeroB := ⟨⟨by decide, by decide⟩, by decide +kernel⟩
theorem P_zero : P zeroB = [] := rfl
theorem allM_spec {ns : List Nd} (hg : Good ns) : (∀ e, e ∈ allM ns ↔ V e ∧ isAt ns (P e) = true) ∧ (allM ns).Pairwise Ahead := by
  obtain ⟨h1, h2⟩ := all_spec hg 33 0 zeroB zeroB_V (by decide) rfl
  refine ⟨fun e => ?_, h2⟩
  have := h1 e
  rw [P_zero] at this
  have h3 : e ∈ allM ns ↔ V e ∧ isAt ns (P e) = true ∧ ∃ r, P e = [] ++ r := this
  rw [h3]
  simp
theorem ahead_irr (x : Blk) : ¬ Ahead x x := by unfold Ahead; omega
theorem ahead_asym {x y : Blk} (h : Ahead x y) : ¬ Ahead y x := by unfold Ahead at *; omega
theorem sorted_eq : ∀ {l l' : List Blk}, l.Pairwise Ahead → l'.Pairwise Ahead → (∀ e, e ∈ l ↔ e ∈ l') → l = l'
  | [], [], _, _, _ => rfl
  | [], y :: l', _, _, h => absurd ((h y).2 (List.mem_cons_self ..)) (by simp)
  | x :: l, [], _, _, h => absurd ((h x).1 (List.mem_cons_self ..)) (by simp)
  | x :: l, y :: l', hl, hl', h => by
    obtain ⟨h1, h2⟩ := List.pairwise_cons.1 hl
    obtain ⟨h3, h4⟩ := List.pairwise_cons.1 hl'
    have hxy : x = y := by
      rcases List.mem_cons.1 ((h x).1 (List.mem_cons_self ..)) with e | e
      · exact e
      · rcases List.mem_cons.1 ((h y).2 (List.mem_cons_self ..)) with e' | e'
        · exact e'.symm
        · exact absurd (h1 y e') (ahead_asym (h3 x e))
    subst hxy
    rw [sorted_eq h2 h4 (fun e => ?_)]
    constructor
    · intro he
      rcases List.mem_cons.1 ((h e).1 (List.mem_cons_of_mem _ he)) with e' | e'
      · subst e'; exact absurd (h1 e he) (ahead_irr e)
      · exact e'
    · intro he
      rcases List.mem_cons.1 ((h e).2 (List.mem_cons_of_mem _ he)) with e' | e'
      · subst e'; exact absurd (h3 e he) (ahead_irr e)
      · exact e'
theorem sorted_nodup {l : List Blk} (h : l.Pairwise Ahead) : l.Nodup := h.imp fun {x y} hxy => by rintro rfl; exact ahead_irr _ hxy
theorem nodup_le : ∀ {l l' : List Blk}, l.Nodup → (∀ e, e ∈ l → e ∈ l') → l.length ≤ l'.length
  | [], _, _, _ => Nat.zero_le _
  | x :: l, l', hn, h => by
    obtain ⟨h1, h2⟩ := List.nodup_cons.1 hn
    obtain ⟨s, t, rfl⟩ := List.append_of_mem (h x (List.mem_cons_self ..))
    have := nodup_le (l := l) (l' := s ++ t) h2 (fun e he => by
      have h3 := h e (List.mem_cons_of_mem _ he)
      rw [List.mem_append] at h3 ⊢
      rcases h3 with h3 | h3
      · exact .inl h3
      · rcases List.mem_cons.1 h3 with h4 | h4
        · subst h4; exact absurd he h1
        · exact .inr h4)
    simp only [List.length_append, List.length_cons] at this ⊢
    omega
end Go.Proofs.Ytndacggailoogaa.Tri
