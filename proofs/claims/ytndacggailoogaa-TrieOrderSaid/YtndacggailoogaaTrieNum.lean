/- Prefixes, their bits as numbers. -/
import Derived.Test.YtndacggailoogaaTrieRepC
namespace Go.Proofs.Ytndacggailoogaa.Tri
open Go Go.Proofs.Ytndacggailoogaa.Sx

theorem of32 {a : Int} (h : 0 ≤ a ∧ a < 4294967296) : (BitVec.ofInt 32 a).toNat = a.toNat := by
  rw [BitVec.toNat_ofInt]
  show (a % (4294967296 : Int)).toNat = _
  omega
theorem wrap32 {a : Int} (h : 0 ≤ a ∧ a < 4294967296) : IntKind.u32.wrap a = a := by rw [IntKind.wrap_u32]; omega
theorem mask_nat : ∀ n : Fin 33, maskA (n.val : Int) = ((4294967296 - 2 ^ (32 - n.val) : Nat) : Int) := by decide +kernel
theorem size_nat : ∀ n : Fin 33, shl .i64 1 (IntKind.i64.wrap (32 - (n.val : Int))) = ((2 ^ (32 - n.val) : Nat) : Int) := by decide +kernel
theorem mask_bv (n : Nat) (hn : n ≤ 32) : (BitVec.ofInt 32 (maskA (n : Int))).toNat = 4294967296 - 2 ^ (32 - n) := by
  have h := mask_nat ⟨n, by omega⟩
  have hp : 0 < 2 ^ (32 - n) := Nat.pow_pos (by decide)
  simp only at h
  rw [h, of32 (by omega)]
  rfl
theorem and_mask (a m : Nat) (ha : a < 2 ^ 32) (hm : m ≤ 32) : a &&& (4294967296 - 2 ^ m) = a / 2 ^ m * 2 ^ m := by
  have h1 : 4294967296 - 2 ^ m = (2 ^ (32 - m) - 1) <<< m := by
    rw [Nat.shiftLeft_eq, Nat.sub_mul, ← Nat.pow_add, show 32 - m + m = 32 by omega, Nat.one_mul]
  have h2 : a / 2 ^ m * 2 ^ m = (a >>> m) <<< m := by rw [Nat.shiftLeft_eq, Nat.shiftRight_eq_div_pow]
  rw [h1, h2]
  apply Nat.eq_of_testBit_eq
  intro i
  rw [Nat.testBit_and, Nat.testBit_shiftLeft, Nat.testBit_shiftLeft, Nat.testBit_two_pow_sub_one, Nat.testBit_shiftRight]
  by_cases h : m ≤ i
  · rw [show m + (i - m) = i by omega]
    by_cases h3 : i < 32
    · rw [decide_eq_true (show i - m < 32 - m by omega), decide_eq_true (show i ≥ m from h)]
      simp
    · rw [Nat.testBit_lt_two_pow (Nat.lt_of_lt_of_le ha (Nat.pow_le_pow_right (by decide) (by omega)))]
      simp
  · rw [decide_eq_false (show ¬ i ≥ m from h)]
    simp
theorem pw_pos (m : Nat) : (0 : Int) < (2 : Int) ^ m := Int.pow_pos (by decide)
theorem pw_cast (m : Nat) : ((2 ^ m : Nat) : Int) = (2 : Int) ^ m := by simp
theorem and_int {a : Int} {n : Nat} (hn : n ≤ 32) (ha : 0 ≤ a ∧ a < 4294967296) : bitsI .and .u32 a (maskA (n : Int)) = a - a % 2 ^ (32 - n) := by
  show IntKind.u32.wrap ((BitVec.ofInt 32 a &&& BitVec.ofInt 32 (maskA (n : Int))).toNat : Int) = _
  rw [BitVec.toNat_and, of32 ha, mask_bv n hn, and_mask _ _ (by omega) (by omega)]
  obtain ⟨x, rfl⟩ := Int.eq_ofNat_of_zero_le ha.1
  rw [Int.toNat_natCast]
  have h1 := Nat.div_add_mod x (2 ^ (32 - n))
  have h2 : ((x : Int) % 2 ^ (32 - n)) = ((x % 2 ^ (32 - n) : Nat) : Int) := by rw [← pw_cast]; exact (Int.natCast_emod _ _).symm
  rw [Nat.mul_comm] at h1
  rw [h2, wrap32 (by omega)]
  omega
theorem right_iff {base : Int} {n : Nat} (hn : n ≤ 32) (hb : 0 ≤ base ∧ base < 4294967296) : rightA base n = true ↔ base % 2 ^ (32 - n) = 0 := by
  have h : bitsI .andNot .u32 base (maskA (n : Int)) = base % 2 ^ (32 - n) := by
    show IntKind.u32.wrap ((BitVec.ofInt 32 base &&& ~~~ BitVec.ofInt 32 (maskA (n : Int))).toNat : Int) = _
    have hp : 2 ^ (32 - n) ≤ 2 ^ 32 := Nat.pow_le_pow_right (by decide) (by omega)
    have hp1 : 0 < 2 ^ (32 - n) := Nat.pow_pos (by decide)
    rw [BitVec.toNat_and, BitVec.toNat_not, of32 hb, mask_bv n hn, show 2 ^ 32 - 1 - (4294967296 - 2 ^ (32 - n)) = 2 ^ (32 - n) - 1 by omega, Nat.and_two_pow_sub_one_eq_mod]
    obtain ⟨x, rfl⟩ := Int.eq_ofNat_of_zero_le hb.1
    rw [Int.toNat_natCast, ← pw_cast, ← Int.natCast_emod]
    have := Nat.mod_le x (2 ^ (32 - n))
    exact wrap32 (by omega)
  unfold rightA
  rw [h, decide_eq_true (show (n : Int) ≥ 0 by omega), decide_eq_true (show (n : Int) ≤ 32 by omega)]
  simp
theorem has_iff {base a : Int} {n : Nat} (hn : n ≤ 32) (hb : 0 ≤ base ∧ base < 4294967296) (ha : 0 ≤ a ∧ a < 4294967296) (hr : rightA base n = true) : hasA base n a = true ↔ base ≤ a ∧ a < base + 2 ^ (32 - n) := by
  have h0 := (right_iff hn hb).1 hr
  have hp := pw_pos (32 - n)
  have h1 := Int.emod_nonneg a (show (2 : Int) ^ (32 - n) ≠ 0 by omega)
  have h2 := Int.emod_lt_of_pos a hp
  unfold hasA
  rw [hr, and_int hn ha, Bool.true_and, beq_iff_eq]
  constructor
  · intro h; omega
  · intro h
    have h3 : (a - base) % 2 ^ (32 - n) = a - base := Int.emod_eq_of_lt (by omega) (by omega)
    have h4 : (a - base) % 2 ^ (32 - n) = a % 2 ^ (32 - n) := by rw [Int.sub_emod, h0, Int.sub_zero, Int.emod_emod]
    omega
theorem size_eq {base : Int} {n : Nat} (hn : n ≤ 32) (hr : rightA base n = true) : sizeA base n = 2 ^ (32 - n) := by
  unfold sizeA
  rw [if_neg (by rw [hr]; simp), ← pw_cast]
  exact size_nat ⟨n, by omega⟩
theorem room {base : Int} {n : Nat} (hn : n ≤ 32) (hb : 0 ≤ base ∧ base < 4294967296) (hr : rightA base n = true) : base + 2 ^ (32 - n) ≤ 4294967296 := by
  have h0 := (right_iff hn hb).1 hr
  have hd : (2 : Int) ^ (32 - n) ∣ 4294967296 := ⟨2 ^ n, by rw [← Int.pow_add, show 32 - n + n = 32 by omega]; rfl⟩
  have := Int.le_of_dvd (show (0 : Int) < 4294967296 - base by omega) (Int.dvd_sub hd (Int.dvd_of_emod_eq_zero h0))
  omega
theorem halves {base : Int} {n : Nat} (hn : n < 32) (hb : 0 ≤ base ∧ base < 4294967296) (hr : rightA base n = true) :
    halfB base n = true ∧ halfN n = ((n + 1 : Nat) : Int) ∧ highA base n = base + 2 ^ (31 - n) ∧ rightA base ((n + 1 : Nat) : Int) = true ∧ rightA (base + 2 ^ (31 - n)) ((n + 1 : Nat) : Int) = true := by
  have h0 := (right_iff (by omega) hb).1 hr
  have hp : (2 : Int) ^ (32 - n) = 2 * 2 ^ (31 - n) := by rw [show 32 - n = (31 - n) + 1 by omega, Int.pow_succ, Int.mul_comm]
  have hq := pw_pos (31 - n)
  have hroom := room (by omega) hb hr
  have hN : halfN (n : Int) = ((n + 1 : Nat) : Int) := by unfold halfN; rw [wrap_i64_id (by omega)]; rfl
  have hd : (2 : Int) ^ (31 - n) ∣ base := Int.dvd_trans ⟨2, by rw [hp, Int.mul_comm]⟩ (Int.dvd_of_emod_eq_zero h0)
  have e1 : base % 2 ^ (31 - n) = 0 := Int.emod_eq_zero_of_dvd hd
  have e2 : (base + 2 ^ (31 - n)) % 2 ^ (31 - n) = 0 := Int.emod_eq_zero_of_dvd (Int.dvd_add hd (Int.dvd_refl _))
  refine ⟨?_, hN, ?_, (right_iff (by omega) hb).2 (by rw [show 32 - (n + 1) = 31 - n by omega]; exact e1), (right_iff (by omega) (by omega)).2 (by rw [show 32 - (n + 1) = 31 - n by omega]; exact e2)⟩
  · unfold halfB
    rw [hr, show ((n : Int) == 32) = false by simpa using (show ¬ (n : Int) = 32 by omega)]
    rfl
  · unfold highA shl
    rw [hN, wrap_i64_id (n := 32 - ((n + 1 : Nat) : Int)) (by omega), show (32 - ((n + 1 : Nat) : Int)).toNat = 31 - n by omega, show min (31 - n) IntKind.u32.bits = 31 - n from Nat.min_eq_left (show 31 - n ≤ 32 by omega), Int.one_mul, wrap32 (a := 2 ^ (31 - n)) (by omega)]
    show IntKind.u32.wrap ((BitVec.ofInt 32 base ||| BitVec.ofInt 32 (2 ^ (31 - n))).toNat : Int) = _
    obtain ⟨q, hq2⟩ := Int.dvd_of_emod_eq_zero h0
    have hq0 : 0 ≤ q := by
      rcases Int.lt_or_le q 0 with h | h
      · have := Int.mul_neg_of_pos_of_neg (pw_pos (32 - n)) h
        omega
      · exact h
    obtain ⟨k, rfl⟩ := Int.eq_ofNat_of_zero_le hq0
    have hbn : base.toNat = 2 ^ (32 - n) * k := by
      rw [← pw_cast, ← Int.natCast_mul] at hq2
      omega
    have hpn : ((2 : Int) ^ (31 - n)).toNat = 2 ^ (31 - n) := by rw [← pw_cast]; rfl
    rw [BitVec.toNat_or, of32 hb, of32 (by omega), hpn, hbn, ← Nat.two_pow_add_eq_or_of_lt (Nat.pow_lt_pow_right (by decide) (by omega)), ← hbn, Int.natCast_add, pw_cast, show ((base.toNat : Nat) : Int) = base by omega]
    exact wrap32 (by omega)

def num (p : List Nat) : Nat := p.foldl (fun acc b => 2 * acc + b) 0
theorem num_snoc (p : List Nat) (b : Nat) : num (p ++ [b]) = 2 * num p + b := by simp [num]
theorem path_snoc (base : Int) : ∀ (n k : Nat), pathA base k (n + 1) = pathA base k n ++ [(bitI base ((k + n : Nat) : Int)).toNat]
  | 0, k => rfl
  | n + 1, k => by
    rw [pathA, path_snoc base n (k + 1), pathA, show k + 1 + n = k + (n + 1) by omega]
    rfl
theorem path_take (base : Int) : ∀ (m n k : Nat), n ≤ m → (pathA base k m).take n = pathA base k n
  | m, 0, k, _ => by simp [pathA]
  | m + 1, n + 1, k, h => by rw [pathA, pathA, List.take_succ_cons, path_take base m n (k + 1) (by omega)]
theorem bit_val {a : Int} {k : Nat} (ha : 0 ≤ a ∧ a < 4294967296) (hk : k ≤ 31) : (bitI a k).toNat = a.toNat / 2 ^ (31 - k) % 2 := by
  obtain ⟨x, rfl⟩ := Int.eq_ofNat_of_zero_le ha.1
  have h1 : shr .u32 (x : Int) (IntKind.i64.wrap (31 - (k : Int))) = ((x / 2 ^ (31 - k) : Nat) : Int) := by
    unfold shr
    rw [wrap_i64_id (by omega), show (31 - (k : Int)).toNat = 31 - k by omega, show min (31 - k) IntKind.u32.bits = 31 - k from Nat.min_eq_left (show 31 - k ≤ 32 by omega), Int.fdiv_eq_ediv_of_nonneg _ (by have := pw_pos (31 - k); omega), ← pw_cast]
    rfl
  have hle : x / 2 ^ (31 - k) ≤ x := Nat.div_le_self _ _
  rw [Int.toNat_natCast]
  generalize x / 2 ^ (31 - k) = q at *
  have h2 : bitsI .and .u32 (q : Int) 1 = ((q % 2 : Nat) : Int) := by
    show IntKind.u32.wrap ((BitVec.ofInt 32 (q : Int) &&& BitVec.ofInt 32 1).toNat : Int) = _
    rw [BitVec.toNat_and, of32 (by omega), show (BitVec.ofInt 32 1).toNat = 1 from by decide, Nat.and_one_is_mod, Int.toNat_natCast]
    exact wrap32 (by omega)
  unfold bitI
  rw [h1, h2, wrap_i64_id (by omega)]
  rfl
theorem num_path {a : Int} (ha : 0 ≤ a ∧ a < 4294967296) : ∀ n, n ≤ 32 → num (pathA a 0 n) = a.toNat / 2 ^ (32 - n)
  | 0, _ => by
    show 0 = _
    rw [Nat.div_eq_of_lt (show a.toNat < 2 ^ 32 by omega)]
  | n + 1, hn => by
    rw [path_snoc, num_snoc, num_path ha n (by omega), Nat.zero_add, bit_val ha (by omega), show 32 - (n + 1) = 31 - n by omega, show 32 - n = (31 - n) + 1 by omega, Nat.pow_succ, ← Nat.div_div_eq_div_mul]
    omega
theorem num_inj : ∀ (p q : List Nat), p.length = q.length → Bin p → Bin q → num p = num q → p = q := by
  refine snocInd (P := fun p => ∀ q, p.length = q.length → Bin p → Bin q → num p = num q → p = q) ?_ ?_
  · intro q hl _ _ _
    exact (List.eq_nil_of_length_eq_zero hl.symm).symm
  · intro p b ih q hl hp hq hn
    rcases List.eq_nil_or_concat q with rfl | ⟨q', c, hq'⟩
    · simp at hl
    · rw [List.concat_eq_append] at hq'
      subst hq'
      rw [num_snoc, num_snoc] at hn
      have hb := hp b (by simp)
      have hc := hq c (by simp)
      have : p = q' := ih q' (by simpa using hl) hp.left hq.left (by omega)
      subst this
      rw [show b = c by omega]
/-- A prefix. -/
def V (c : Blk) : Prop := (0 ≤ c.base ∧ c.base < 4294967296) ∧ rightA c.base c.bits = true
def P (c : Blk) : List Nat := pathB c.base c.bits
theorem V.rng {c : Blk} (h : V c) : 0 ≤ c.bits ∧ c.bits ≤ 32 := right_rng h.2
theorem bin_P (c : Blk) : Bin (P c) := bin_pathB _ _
theorem P_len (c : Blk) : (P c).length = c.bits.toNat := pathB_len _ _
theorem P_has {c : Blk} {a : Int} (h : V c) (ha : 0 ≤ a ∧ a < 4294967296) : pathA a 0 c.bits.toNat = P c ↔ hasA c.base c.bits a = true := by
  have hr := h.rng
  obtain ⟨n, hn⟩ := Int.eq_ofNat_of_zero_le hr.1
  have hn32 : n ≤ 32 := by omega
  have hv := h.2
  rw [hn] at hv ⊢
  rw [has_iff hn32 h.1 ha hv, Int.toNat_natCast]
  have hP : P c = pathA c.base 0 n := by unfold P pathB; rw [hn]; rfl
  rw [hP]
  have h0 := (right_iff hn32 h.1).1 hv
  obtain ⟨x, hx⟩ := Int.eq_ofNat_of_zero_le ha.1
  obtain ⟨y, hy⟩ := Int.eq_ofNat_of_zero_le h.1.1
  have e1 := num_path ha n hn32
  have e2 := num_path h.1 n hn32
  rw [hx] at e1 ⊢
  rw [hy] at e2 h0 ⊢
  rw [Int.toNat_natCast] at e1 e2
  rw [← pw_cast] at h0 ⊢
  have hpp : 0 < 2 ^ (32 - n) := Nat.pow_pos (by decide)
  generalize 2 ^ (32 - n) = M at *
  have h0' : y % M = 0 := by have : ((y % M : Nat) : Int) = 0 := by rw [Int.natCast_emod]; exact h0
                             omega
  have m1 := Nat.div_add_mod y M
  have m2 := Nat.div_add_mod x M
  have m3 := Nat.mod_lt x hpp
  constructor
  · intro he
    rw [he, e2] at e1
    rw [← e1] at m2
    omega
  · intro he
    refine num_inj _ _ (by rw [path_len, path_len]) (bin_path _ _ _) (bin_path _ _ _) ?_
    rw [e1, e2]
    have hy' : y = M * (y / M) := by omega
    generalize hk : y / M = k at *
    rw [Nat.div_eq_of_lt_le (k := k)]
    · rw [Nat.mul_comm]; omega
    · rw [Nat.add_mul, Nat.one_mul, Nat.mul_comm]; omega
theorem P_inj {c e : Blk} (h : V c) (k : V e) (he : P c = P e) : c = e := by
  have hl := congrArg List.length he
  rw [P_len, P_len] at hl
  have hr := h.rng
  have kr := k.rng
  have hb : c.bits = e.bits := by omega
  have h1 := (P_has h k.1).1 (by
    have : pathA e.base 0 c.bits.toNat = P e := by unfold P pathB; rw [hb]
    rw [this, he])
  have h2 := (P_has k h.1).1 (by
    have : pathA c.base 0 e.bits.toNat = P c := by unfold P pathB; rw [hb]
    rw [this, he])
  obtain ⟨n, hn⟩ := Int.eq_ofNat_of_zero_le hr.1
  have hv := h.2
  have kv := k.2
  rw [hn] at h1 hv
  rw [← hb, hn] at h2 kv
  have g1 := (has_iff (by omega) h.1 k.1 hv).1 h1
  have g2 := (has_iff (by omega) k.1 h.1 kv).1 h2
  cases c; cases e
  simp only at *
  rw [hb, show _ = _ from Int.le_antisymm g1.1 g2.1]
/-- One prefix lies within another. -/
theorem P_pre {c e : Blk} (h : V c) (k : V e) : (∃ r, P e = P c ++ r) ↔ c.bits ≤ e.bits ∧ hasA c.base c.bits e.base = true := by
  have hr := h.rng
  have kr := k.rng
  have key : ∀ r, P e = P c ++ r → c.bits.toNat ≤ e.bits.toNat ∧ pathA e.base 0 c.bits.toNat = P c := by
    intro r hq
    have hl := congrArg List.length hq
    rw [List.length_append, P_len, P_len] at hl
    refine ⟨by omega, ?_⟩
    have := path_take e.base e.bits.toNat c.bits.toNat 0 (by omega)
    rw [← this]
    show (P e).take _ = _
    rw [hq, ← P_len c, List.take_left]
  constructor
  · rintro ⟨r, hq⟩
    obtain ⟨h1, h2⟩ := key r hq
    exact ⟨by omega, (P_has h k.1).1 h2⟩
  · rintro ⟨h1, h2⟩
    have h3 := (P_has h k.1).2 h2
    refine ⟨(P e).drop c.bits.toNat, ?_⟩
    have := path_take e.base e.bits.toNat c.bits.toNat 0 (by omega)
    rw [← h3, ← this]
    exact (List.take_append_drop _ _).symm
theorem within_iff {c e : Blk} (h : V c) (k : V e) : withinA e.base e.bits c.base c.bits = true ↔ ∃ r, P e = P c ++ r := by
  rw [P_pre h k]
  unfold withinA
  rw [h.2, k.2]
  simp
theorem lap_iff {c e : Blk} (h : V c) (k : V e) : lapA c.base c.bits e.base e.bits = true ↔ (∃ r, P c = P e ++ r) ∨ ∃ r, P e = P c ++ r := by
  unfold lapA
  rw [Bool.or_eq_true, within_iff k h, within_iff h k]
theorem addr_pre {c : Blk} {a : Int} (h : V c) (ha : 0 ≤ a ∧ a < 4294967296) : hasA c.base c.bits a = true ↔ (pathB a 32).take c.bits.toNat = P c := by
  have hr := h.rng
  rw [← P_has h ha]
  show _ ↔ (pathA a 0 (32 : Int).toNat).take _ = _
  rw [path_take a _ _ 0 (by show c.bits.toNat ≤ 32; omega)]
theorem make_V {a : Int} {m : Nat} (ha : 0 ≤ a ∧ a < 4294967296) (hm : m ≤ 32) : V ⟨makeA a m, m⟩ ∧ P ⟨makeA a m, m⟩ = (pathB a 32).take m := by
  have hp := pw_pos (32 - m)
  have h1 := Int.emod_nonneg a (show (2 : Int) ^ (32 - m) ≠ 0 by omega)
  have h2 := Int.emod_lt_of_pos a hp
  have h3 : makeA a m = a - a % 2 ^ (32 - m) := and_int hm ha
  have h4 : a % 2 ^ (32 - m) ≤ a := by
    have := Int.mul_ediv_add_emod a (2 ^ (32 - m))
    have h5 : 0 ≤ 2 ^ (32 - m) * (a / 2 ^ (32 - m)) := Int.mul_nonneg (by omega) (Int.ediv_nonneg ha.1 (by omega))
    omega
  have hb : 0 ≤ makeA a m ∧ makeA a m < 4294967296 := by rw [h3]; omega
  have hv : V ⟨makeA a m, m⟩ := ⟨hb, (right_iff hm hb).2 (by show makeA a m % _ = 0; rw [h3, Int.sub_emod, Int.emod_emod, Int.sub_self, Int.zero_emod])⟩
  refine ⟨hv, ((addr_pre hv ha).1 ?_).symm⟩
  show hasA (makeA a m) m a = true
  rw [has_iff hm hb ha hv.2, h3]
  omega
end Go.Proofs.Ytndacggailoogaa.Tri
