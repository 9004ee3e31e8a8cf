/- Tries: the laws' plain parts. -/
import Derived.Test.YtndacggailoogaaTrieAll
namespace Go.Proofs.Ytndacggailoogaa.Tri
open Go Go.Proofs.Ytndacggailoogaa.Sx

theorem new_at (q : List Nat) : atN [nd0] 0 q = if q = [] then some 0 else none := by
  cases q with
  | nil => rfl
  | cons b q =>
    rw [if_neg (by simp), atN, show getN [nd0] 0 = nd0 from rfl, kid_nd0]
theorem new_is (q : List Nat) : isAt [nd0] q = false := by
  unfold isAt
  rw [new_at]
  split
  · rename_i j h
    split at h
    · cases h; rfl
    · cases h
  · rfl
theorem new_good : Good [nd0] := by
  refine ⟨⟨Nat.le_refl _, fun j b i h => ?_⟩, fun p q j _ _ h1 h2 => ?_, fun p i _ hne h => ?_, fun p i _ h => ?_⟩
  · have : getN [nd0] j = nd0 := by
      cases j with
      | zero => rfl
      | succ j => exact getN_ge (by simp)
    rw [this, kid_nd0] at h
    cases h
  · rw [new_at] at h1 h2
    split at h1
    · split at h2
      · rename_i e1 e2; rw [e1, e2]
      · cases h2
    · cases h1
  · rw [new_at, if_neg hne] at h; cases h
  · rw [new_at] at h
    split at h
    · rename_i e; rw [e]; simp
    · cases h
/-- Put, Has, Overlaps of a prefix. -/
theorem putV {n : Int} {ns : List Nd} {x : Blk} (hg : Good ns) (hx : V x) : putE ns x.base x.bits = (if isAt ns (P x) = true then 6 else 0) ∧ (putM n ns x.base x.bits).1 = (if isAt ns (P x) = true then n else IntKind.i64.wrap (n + 1)) ∧ Good (putM n ns x.base x.bits).2 ∧ ∀ q, Bin q → isAt (putM n ns x.base x.bits).2 q = (isAt ns q || decide (q = P x)) := put_right hg hx.2
theorem hasV (ns : List Nd) {x : Blk} (hx : V x) : hasM ns x.base x.bits = isAt ns (P x) := by rw [hasM_eq, hx.2, Bool.true_and]; rfl
theorem overV {ns : List Nd} (hg : Good ns) {x : Blk} (hx : V x) : overM ns x.base x.bits = true ↔ (∃ q r, P x = q ++ r ∧ isAt ns q = true) ∨ ∃ q, Bin q ∧ isAt ns (P x ++ q) = true := by
  rw [over_iff hg]
  exact ⟨fun h => h.2, fun h => ⟨hx.2, h⟩⟩
def eqB (x y : Blk) : Bool := x.base == y.base && (x.bits == y.bits && true)
theorem eqB_iff {x y : Blk} : eqB x y = true ↔ x = y := by
  unfold eqB
  cases x; cases y
  simp
theorem eqB_P {x y : Blk} (hx : V x) (hy : V y) : eqB x y = decide (P y = P x) := by
  by_cases h : x = y
  · subst h
    rw [eqB_iff.2 rfl, decide_eq_true rfl]
  · have h1 : eqB x y = false := by simpa using fun he => h (eqB_iff.1 he)
    rw [h1, decide_eq_false (fun he => h (P_inj hx hy he.symm))]
theorem xor_rng (a b : Int) : 0 ≤ bitsI .xor .u32 a b ∧ bitsI .xor .u32 a b < 4294967296 := by
  show 0 ≤ IntKind.u32.wrap _ ∧ IntKind.u32.wrap _ < _
  rw [IntKind.wrap_u32]
  omega
theorem baseL_eq {a : Int} {n : Nat} (ha : 0 ≤ a ∧ a < 4294967296) (hn : n ≤ 32) : baseL a n = a - a % 2 ^ (32 - n) := by
  have hp := pw_pos (32 - n)
  have h1 := Int.emod_nonneg a (show (2 : Int) ^ (32 - n) ≠ 0 by omega)
  have h3 : (32 - (n : Int)).toNat = 32 - n := by omega
  have h4 : min (32 - n) 32 = 32 - n := Nat.min_eq_left (by omega)
  have h5 := Int.mul_ediv_add_emod a (2 ^ (32 - n))
  unfold baseL shl shr
  rw [wrap_i64_id (by omega), h3, show IntKind.u32.bits = 32 from rfl, h4, Int.fdiv_eq_ediv_of_nonneg _ (by omega), Int.mul_comm]
  have h6 : 0 ≤ 2 ^ (32 - n) * (a / 2 ^ (32 - n)) := Int.mul_nonneg (by omega) (Int.ediv_nonneg ha.1 (by omega))
  rw [wrap32 (by omega)]
  omega
def blkL (a b : Int) : Blk := ⟨baseL a (bitsL b), bitsL b⟩
theorem block_V {a b : Int} (ha : 0 ≤ a ∧ a < 4294967296) (hb : 0 ≤ b) : V (blkL a b) := by
  have hr := bitsL_rng hb
  obtain ⟨n, hn⟩ := Int.eq_ofNat_of_zero_le (show 0 ≤ bitsL b by omega)
  unfold blkL
  rw [hn]
  have h := baseL_eq (n := n) ha (by omega)
  have hp := pw_pos (32 - n)
  have h1 := Int.emod_nonneg a (show (2 : Int) ^ (32 - n) ≠ 0 by omega)
  have h5 := Int.mul_ediv_add_emod a (2 ^ (32 - n))
  have h6 : 0 ≤ 2 ^ (32 - n) * (a / 2 ^ (32 - n)) := Int.mul_nonneg (by omega) (Int.ediv_nonneg ha.1 (by omega))
  have hb' : 0 ≤ baseL a n ∧ baseL a n < 4294967296 := by rw [h]; omega
  exact ⟨hb', (right_iff (by omega) hb').2 (by show baseL a n % _ = 0; rw [h, Int.sub_emod, Int.emod_emod, Int.sub_self, Int.zero_emod])⟩
/-- Two prefixes. -/
theorem two_spec {x y : Blk} (hx : V x) (hy : V y) {g1 g2 : Int × List Nd} (h1 : g1 = putM 0 [nd0] x.base x.bits) (h2 : g2 = putM g1.1 g1.2 x.base x.bits) :
    overM [nd0] y.base y.bits = false ∧ putE [nd0] x.base x.bits = 0 ∧ Good g1.2 ∧ putE g1.2 x.base x.bits = 6 ∧ Good g2.2 ∧ overM g2.2 y.base y.bits = lapA x.base x.bits y.base y.bits ∧ hasM g2.2 y.base y.bits = eqB x y ∧ overM g2.2 x.base x.bits = true ∧ (putE g2.2 y.base y.bits == 0) = !eqB x y := by
  obtain ⟨p1, p2, p3, p4⟩ := putV (n := 0) new_good hx
  rw [← h1] at p2 p3 p4
  obtain ⟨q1, q2, q3, q4⟩ := putV (n := g1.1) p3 hx
  rw [← h2] at q2 q3 q4
  have hi1 : isAt g1.2 (P x) = true := by rw [p4 _ (bin_P x), decide_eq_true rfl, Bool.or_true]
  have his : ∀ q, Bin q → isAt g2.2 q = decide (q = P x) := by
    intro q hq
    rw [q4 q hq, p4 q hq, new_is, Bool.false_or, Bool.or_self]
  have hov : ∀ z, V z → (overM g2.2 z.base z.bits = true ↔ (∃ r, P z = P x ++ r) ∨ ∃ r, P x = P z ++ r) := by
    intro z hz
    rw [overV q3 hz]
    constructor
    · rintro (⟨q, r, h3, h4⟩ | ⟨q, h3, h4⟩)
      · have hq : Bin q := (h3 ▸ bin_P z : Bin (q ++ r)).left
        rw [his q hq] at h4
        have := of_decide_eq_true h4
        subst this
        exact .inl ⟨r, h3⟩
      · rw [his _ ((bin_P z).app h3)] at h4
        exact .inr ⟨q, (of_decide_eq_true h4).symm⟩
    · rintro (⟨r, h3⟩ | ⟨r, h3⟩)
      · exact .inl ⟨P x, r, h3, by rw [his _ (bin_P x)]; exact decide_eq_true rfl⟩
      · have hr : Bin r := (h3 ▸ bin_P x : Bin (P z ++ r)).right
        exact .inr ⟨r, hr, by rw [his _ ((bin_P z).app hr)]; exact decide_eq_true h3.symm⟩
  refine ⟨?_, by rw [p1, new_is]; rfl, p3, by rw [q1, hi1]; rfl, q3, ?_, ?_, ?_, ?_⟩
  · cases ho : overM [nd0] y.base y.bits with
    | false => rfl
    | true =>
      rcases (overV new_good hy).1 ho with ⟨q, r, _, h⟩ | ⟨q, _, h⟩ <;> rw [new_is] at h <;> cases h
  · have := hov y hy
    rw [← or_comm, ← lap_iff hx hy] at this
    exact Bool.eq_iff_iff.2 this
  · rw [hasV _ hy, his _ (bin_P y), eqB_P hx hy]
  · exact (hov x hx).2 (.inl ⟨[], by simp⟩)
  · obtain ⟨r1, _⟩ := putV (n := g2.1) q3 hy
    rw [r1, his _ (bin_P y), ← eqB_P hx hy]
    cases eqB x y <;> rfl
end Go.Proofs.Ytndacggailoogaa.Tri
