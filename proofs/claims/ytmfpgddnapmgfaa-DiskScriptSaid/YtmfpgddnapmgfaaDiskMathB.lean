/- The disk, in plain terms: what the laws' own ways come to. -/
import Derived.Test.YtmfpgddnapmgfaaDiskMath
namespace Go.Proofs.Ytmfpgddnapmgfaa.Dsk
open Go Go.Proofs.Ytmfpgddnapmgfaa.Sx

theorem eqSec_self (x : Sec) : eqSec x x = true := by
  unfold eqSec
  have key : ∀ (f : Nat → Int) (l : List Nat), l.foldr (fun i acc => (f i == f i) && acc) true = true := by
    intro f l
    induction l with
    | nil => rfl
    | cons i l ih => rw [List.foldr_cons, ih, beq_self_eq_true]; rfl
  exact key (fun i => x.l.getD i 0) _
theorem wrap_u64' (n : Int) : IntKind.u64.wrap n = n % 18446744073709551616 := by simp [IntKind.wrap, IntKind.bits, IntKind.signed]
theorem sec_pos (x : Sec) : 0 < (secP.get x).length := by
  show 0 < x.l.length
  rw [x.h]
  decide
theorem i8_wf {n : Int} (h : (Lit.int .i8 n).wf = true) : -128 ≤ n ∧ n < 128 := by
  have h : IntKind.i8.min ≤ n ∧ n ≤ IntKind.i8.max := by simpa [Lit.wf] using h
  have h1 : IntKind.i8.min = -128 := by decide
  have h2 : IntKind.i8.max = 127 := by decide
  rw [h1, h2] at h
  omega
theorem no_err {e : Int} (h : e = 0) {p : Prop} (hn : (e != 0) = true) : p := absurd hn (by rw [h]; decide)
/-- A bit of a mask, in two ways. -/
theorem bit_one {a : Int} (h0 : 0 ≤ a) (h1 : a < 18446744073709551616) : bitsI .and .u64 a 1 = a % 2 := by
  obtain ⟨n, rfl⟩ := Int.eq_ofNat_of_zero_le h0
  unfold bitsI
  simp only
  have hb : IntKind.u64.bits = 64 := rfl
  rw [wrap_u64']
  have e1 : (BitVec.ofInt IntKind.u64.bits ((n : Nat) : Int)).toNat = n := by
    rw [BitVec.toNat_ofInt]
    show (((n : Nat) : Int) % ((2 ^ 64 : Nat) : Int)).toNat = n
    omega
  have e2 : (BitVec.ofInt IntKind.u64.bits (1 : Int)).toNat = 1 := by decide
  rw [BitVec.toNat_and, e1, e2, Nat.and_one_is_mod]
  omega
theorem shr_pos {m : Int} {k : Int} (h0 : 0 ≤ m) : 0 ≤ shr .u64 m k := Int.fdiv_nonneg h0 (Int.le_of_lt (Int.pow_pos (by decide)))
theorem shr_le {m : Int} {k : Int} (h0 : 0 ≤ m) : shr .u64 m k ≤ m := by
  unfold shr
  rw [Int.fdiv_eq_ediv_of_nonneg _ (Int.le_of_lt (Int.pow_pos (by decide)))]
  exact Int.ediv_le_self _ h0
theorem bit_eq {m : Int} {k : Nat} (h0 : 0 ≤ m) (h1 : m < 18446744073709551616) (hk : k < 64) : bitM m k = bitD m k := by
  unfold bitM bitD
  have ht : Int.tmod (k : Int) 64 = (k : Int) := by rw [Int.tmod_eq_emod_of_nonneg (by omega)]; omega
  have hp := shr_pos (k := (k : Int)) h0
  have hl := shr_le (k := (k : Int)) h0
  rw [ht, bit_one hp (by omega), Int.tmod_eq_emod_of_nonneg hp]

/-! ### writes of one sector -/
theorem again_ok (k : Int) (cs : List Int) (hk : 0 ≤ k ∧ k < 16) : ∀ g, Calm (dAgain k cs g) ∧ (dAgain k cs g).kept = List.replicate 16 zeroS ∧ (dAgain k cs g).wait = (List.range g).map (fun i => ⟨k, sectorL (getI cs i)⟩) ∧ DkB (dAgain k cs g) g
  | 0 => ⟨Calm.of 16, rfl, rfl, DkB.of 16⟩
  | g + 1 => by
    obtain ⟨h1, h2, h3, h4⟩ := again_ok k cs hk g
    have hin : 0 ≤ k ∧ k < (dAgain k cs g).kept.length := by rw [h2]; simpa using hk
    show Calm ((dAgain k cs g).write k (sectorL (getI cs g))) ∧ ((dAgain k cs g).write k (sectorL (getI cs g))).kept = _ ∧ ((dAgain k cs g).write k (sectorL (getI cs g))).wait = _ ∧ DkB ((dAgain k cs g).write k (sectorL (getI cs g))) (g + 1)
    refine ⟨h1.write_calm hin, by rw [write_kept, h2], ?_, h4.write _ _⟩
    rw [h1.write_wait hin, h3, List.range_succ, List.map_append]
    rfl
theorem again_in (k : Int) (cs : List Int) (hk : 0 ≤ k ∧ k < 16) (g : Nat) : 0 ≤ k ∧ k < (dAgain k cs g).kept.length := by rw [(again_ok k cs hk g).2.1]; simpa using hk
theorem getW_range {f : Nat → Wr} {g i : Nat} (h : i < g) : getW ((List.range g).map f) i = f i := by
  unfold getW
  simp [List.getD, h]
theorem again_read (k : Int) (cs : List Int) (hk : 0 ≤ k ∧ k < 16) (g : Nat) : readS (dAgain k cs (g + 1)) k = sectorL (getI cs g) := by
  obtain ⟨h1, h2, h3, h4⟩ := again_ok k cs hk (g + 1)
  rw [h1.readS (again_in k cs hk (g + 1)), h3, List.length_map, List.length_range, readAt_next, h3, getW_range (Nat.lt_succ_self g)]
  simp
theorem again_kept (k m : Int) (cs : List Int) (hk : 0 ≤ k ∧ k < 16) (hm : 0 ≤ m ∧ m < 18446744073709551616) (n : Nat) (hn : n ≤ 64) : ∀ g, g ≤ n → getS (keptR (dAgain k cs n) m (-1) 0 g) k.toNat = wantA m cs g
  | 0, _ => by
    rw [show keptR (dAgain k cs n) m (-1) 0 0 = (dAgain k cs n).kept from rfl, (again_ok k cs hk n).2.1]
    show (List.replicate 16 zeroS).getD k.toNat zeroS = zeroS
    rw [List.getD_eq_getElem?_getD, List.getElem?_replicate]
    split <;> rfl
  | g + 1, hg => by
    have ih := again_kept k m cs hk hm n hn g (by omega)
    have hw : getW (dAgain k cs n).wait g = ⟨k, sectorL (getI cs g)⟩ := by rw [(again_ok k cs hk n).2.2.1, getW_range (by omega)]
    have hne : ¬ ((g : Int) == -1) = true := by
      intro h
      have := eq_of_beq h
      omega
    have hlen : k.toNat < (keptR (dAgain k cs n) m (-1) 0 g).length := by rw [keptR_len, (again_ok k cs hk n).2.1]; simp; omega
    rw [keptR_next, if_neg hne, hw, bit_eq hm.1 hm.2 (by omega)]
    unfold wantA
    split
    · show getS ((keptR (dAgain k cs n) m (-1) 0 g).set k.toNat (sectorL (getI cs g))) k.toNat = _
      rw [getS_set hlen, if_pos rfl]
    · exact ih

/-! ### a disk that stops -/
theorem stops_ok (n : Int) (hn : -128 ≤ n ∧ n < 128) : ∀ g : Nat, g ≤ 70 → DkB (dStops n g) g ∧ (dStops n g).kept.length = 4 ∧ (dStops n g).fail = -1 ∧ (dStops n g).down = (decide (n ≥ 0) && decide ((g : Int) > n)) ∧ (dStops n g).left = if n < 0 then -1 else mx (-1) (n - g)
  | 0, _ => by
    refine ⟨DkB.of 4, by simp [dStops, spOf, mx, mn], rfl, ?_, ?_⟩
    · show false = _
      by_cases h : n ≥ 0 <;> simp [h]
    · show mx (-1) n = _
      unfold mx
      split <;> split <;> (try split) <;> omega
  | g + 1, hg => by
    obtain ⟨h1, h2, h3, h4, h5⟩ := stops_ok n hn g (by omega)
    have hin : inD (dStops n g) ((g : Int).tmod 4) = true := by
      rw [inD_iff, h2, Int.tmod_eq_emod_of_nonneg (by omega)]
      omega
    have hS : dStops n (g + 1) = (dStops n g).write ((g : Int).tmod 4) (sectorL 1) := rfl
    refine ⟨by rw [hS]; exact h1.write _ _, by rw [hS, write_kept, h2], ?_⟩
    rw [hS]
    unfold Dk.write
    by_cases hd : (dStops n g).down = true
    · rw [if_pos hd]
      rw [h4, Bool.and_eq_true, decide_eq_true_eq, decide_eq_true_eq] at hd
      refine ⟨h3, ?_, ?_⟩
      · rw [h4]
        simp only [decide_eq_true hd.1, Bool.true_and]
        rw [decide_eq_true hd.2, decide_eq_true (by omega)]
      · rw [h5, if_neg (by omega), if_neg (by omega)]
        unfold mx
        split <;> split <;> omega
    · have hd : (dStops n g).down = false := by simpa using hd
      rw [if_neg (by simp [hd]), if_pos hin]
      have hcall : (dStops n g).call.fail = -1 ∧ (dStops n g).call.down = (decide (n ≥ 0) && decide (((g + 1 : Nat) : Int) > n)) ∧ (dStops n g).call.left = if n < 0 then -1 else mx (-1) (n - ((g + 1 : Nat) : Int)) := by
        rw [h4] at hd
        refine ⟨?_, ?_, ?_⟩
        · show mx (-1) (IntKind.i64.wrap ((dStops n g).fail - 1)) = -1
          rw [h3]; decide
        · show ((dStops n g).down || (dStops n g).left == 0) = _
          rw [h4, hd, h5, Bool.false_or]
          by_cases h0 : n < 0
          · rw [if_pos h0]
            simp [show ¬ n ≥ 0 by omega]
          · rw [if_neg h0]
            have hgn : (g : Int) ≤ n := by
              simp only [decide_eq_true (show n ≥ 0 by omega), Bool.true_and, decide_eq_false_iff_not] at hd
              omega
            rw [show mx (-1) (n - (g : Int)) = n - g by unfold mx; rw [if_pos (by omega)], decide_eq_true (show n ≥ 0 by omega), Bool.true_and]
            by_cases he : n - (g : Int) = 0
            · rw [he, decide_eq_true (show ((g + 1 : Nat) : Int) > n by omega)]; rfl
            · rw [decide_eq_false (show ¬ ((g + 1 : Nat) : Int) > n by omega)]
              simpa using he
        · show mx (-1) (IntKind.i64.wrap ((dStops n g).left - 1)) = _
          rw [h5]
          split
          · decide
          · have : IntKind.i64.wrap (mx (-1) (n - (g : Int)) - 1) = mx (-1) (n - (g : Int)) - 1 := wrap_i64_id (by unfold mx; split <;> omega)
            rw [this]
            unfold mx
            split <;> split <;> (try split) <;> omega
      split
      · exact hcall
      · exact hcall
theorem stops_e (n : Int) (hn : -128 ≤ n ∧ n < 128) (g : Nat) (hg : g < 70) : writeE (dStops n g) ((g : Int).tmod 4) = if n < 0 ∨ (g : Int) < n then 0 else 9 := by
  obtain ⟨h1, h2, h3, h4, h5⟩ := stops_ok n hn g (by omega)
  have hin : inD (dStops n g) ((g : Int).tmod 4) = true := by
    rw [inD_iff, h2, Int.tmod_eq_emod_of_nonneg (by omega)]
    omega
  unfold writeE
  by_cases hd : (dStops n g).down = true
  · rw [if_pos hd]
    rw [h4, Bool.and_eq_true, decide_eq_true_eq, decide_eq_true_eq] at hd
    rw [if_neg (by omega)]
  · rw [if_neg hd, if_pos hin]
    have hd : (dStops n g).down = false := by simpa using hd
    unfold callE
    rw [hd, h5, h3, Bool.false_or]
    rw [h4] at hd
    by_cases h0 : n < 0
    · rw [if_pos h0, if_neg (by decide), if_neg (by decide), if_pos (.inl h0)]
    · rw [if_neg h0]
      have hgn : (g : Int) ≤ n := by
        simp only [decide_eq_true (show n ≥ 0 by omega), Bool.true_and, decide_eq_false_iff_not] at hd
        omega
      rw [show mx (-1) (n - (g : Int)) = n - g by unfold mx; rw [if_pos (by omega)]]
      by_cases he : n - (g : Int) = 0
      · rw [if_pos (by rw [he]; rfl), if_neg (by omega)]
      · rw [if_neg (by simpa using he), if_neg (by decide), if_pos (.inr (by omega))]

/-! ### a disk that fails -/
theorem fails_ok (n c : Int) (hn : 0 ≤ n ∧ n < 9) : ∀ g : Nat, g ≤ 12 → DkB (dFails n c g) g ∧ (dFails n c g).kept.length = 2 ∧ (dFails n c g).left = -1 ∧ (dFails n c g).down = false ∧ (dFails n c g).fail = mx (-1) (n - g) ∧ ((dFails n c g).wait.length : Int) = if (g : Int) > n then g - 1 else g
  | 0, _ => by
    refine ⟨DkB.of 2, by simp [dFails, spOf, mx, mn], rfl, rfl, ?_, ?_⟩
    · show mx (-1) n = mx (-1) (n - 0)
      rw [Int.sub_zero]
    · rw [if_neg (by omega)]; rfl
  | g + 1, hg => by
    obtain ⟨h1, h2, h3, h4, h5, h6⟩ := fails_ok n c hn g (by omega)
    have hin : inD (dFails n c g) ((g : Int).tmod 2) = true := by
      rw [inD_iff, h2, Int.tmod_eq_emod_of_nonneg (by omega)]
      omega
    have hS : dFails n c (g + 1) = (dFails n c g).write ((g : Int).tmod 2) (sectorL (IntKind.u8.wrap (c + IntKind.u8.wrap g))) := rfl
    refine ⟨by rw [hS]; exact h1.write _ _, by rw [hS, write_kept, h2], ?_⟩
    rw [hS]
    unfold Dk.write
    rw [if_neg (by simp [h4]), if_pos hin]
    have hc1 : (dFails n c g).call.left = -1 := by
      show mx (-1) (IntKind.i64.wrap ((dFails n c g).left - 1)) = -1
      rw [h3]; decide
    have hc2 : (dFails n c g).call.down = false := by
      show ((dFails n c g).down || (dFails n c g).left == 0) = false
      rw [h4, h3]; rfl
    have hc3 : (dFails n c g).call.fail = mx (-1) (n - ((g + 1 : Nat) : Int)) := by
      show mx (-1) (IntKind.i64.wrap ((dFails n c g).fail - 1)) = _
      rw [h5, wrap_i64_id (by unfold mx; split <;> omega)]
      unfold mx
      split <;> split <;> (try split) <;> omega
    have hE : callE (dFails n c g) = if (g : Int) = n then 10 else 0 := by
      unfold callE
      rw [h4, h3, h5, Bool.false_or, if_neg (by decide)]
      by_cases he : (g : Int) = n
      · rw [if_pos he, he, Int.sub_self]; rfl
      · rw [if_neg he]
        have : ¬ (mx (-1) (n - (g : Int)) == 0) = true := by
          intro h
          have h := eq_of_beq h
          unfold mx at h
          split at h <;> omega
        rw [if_neg this]
    split
    · rename_i he
      have hne : ¬ (g : Int) = n := by
        intro h
        rw [hE, if_pos h] at he
        cases he
      refine ⟨hc1, hc2, hc3, ?_⟩
      show (((dFails n c g).wait ++ [_]).length : Int) = _
      rw [List.length_append, List.length_singleton]
      split at h6 <;> split <;> omega
    · rename_i he
      have heq : (g : Int) = n := by
        rcases Decidable.em ((g : Int) = n) with h | h
        · exact h
        · rw [hE, if_neg h] at he
          exact absurd rfl he
      refine ⟨hc1, hc2, hc3, ?_⟩
      show ((dFails n c g).wait.length : Int) = _
      split at h6 <;> split <;> omega
theorem fails_e (n c : Int) (hn : 0 ≤ n ∧ n < 9) (g : Nat) (hg : g < 12) : writeE (dFails n c g) ((g : Int).tmod 2) = if (g : Int) = n then 10 else 0 := by
  obtain ⟨h1, h2, h3, h4, h5, h6⟩ := fails_ok n c hn g (by omega)
  have hin : inD (dFails n c g) ((g : Int).tmod 2) = true := by
    rw [inD_iff, h2, Int.tmod_eq_emod_of_nonneg (by omega)]
    omega
  unfold writeE
  rw [if_neg (by simp [h4]), if_pos hin]
  unfold callE
  rw [h4, h3, h5, Bool.false_or, if_neg (by decide)]
  by_cases he : (g : Int) = n
  · rw [if_pos he, he, Int.sub_self]; rfl
  · rw [if_neg he]
    have : ¬ (mx (-1) (n - (g : Int)) == 0) = true := by
      intro h
      have h := eq_of_beq h
      unfold mx at h
      split at h <;> omega
    rw [if_neg this]
end Go.Proofs.Ytmfpgddnapmgfaa.Dsk
