/- Packets of the wire: the plain part: what an echo's bytes are, and that they read as they were laid. -/
import Derived.Test.YtghaljkohheioaaWireWalkC
namespace Go.Proofs.Ytghaljkohheioaa.Wire
open Go Go.Proofs.Ytghaljkohheioaa.Sx Go.Proofs.Ytghaljkohheioaa.Sum

/-! ### texts and bytes -/
theorem bytesOf_append (a b : List Int) : bytesOf a ++ bytesOf b = bytesOf (a ++ b) := by
  apply ByteArray.ext
  show (bytesOf a ++ bytesOf b).data = _
  rw [ByteArray.data_append]
  simp [bytesOf]
theorem bytesOf_size (a : List Int) : (bytesOf a).size = a.length := by simp [bytesOf, ByteArray.size]
theorem strNums_bytesOf (a : List Int) (h : Sum.bytes a) : strNums (bytesOf a) = a := by
  unfold strNums bytesOf
  simp only [List.map_map]
  have : ∀ (l : List Int), Sum.bytes l → l.map ((fun b : UInt8 => (b.toNat : Int)) ∘ fun n : Int => UInt8.ofNat n.toNat) = l := by
    intro l
    induction l with
    | nil => intro _; rfl
    | cons c l ih =>
      intro h
      have hc := h c (List.mem_cons_self ..)
      rw [List.map_cons, ih fun c hc => h c (List.mem_cons_of_mem _ hc)]
      congr 1
      show (((UInt8.ofNat c.toNat).toNat : Nat) : Int) = c
      rw [UInt8.toNat_ofNat']
      omega
  exact this a h

/-! ### bytes of numbers -/
theorem shr_i64 (n : Int) (k : Nat) (hk : k ≤ 64) : shr .i64 n (k : Int) = n / (2 ^ k : Nat) := by
  unfold shr
  rw [show min (k : Int).toNat IntKind.i64.bits = k by show min (k : Int).toNat 64 = k; omega, Int.fdiv_eq_ediv_of_nonneg _ (by exact Int.pow_nonneg (by omega))]
  norm_cast
theorem shr_u32 (n : Int) (k : Nat) (hk : k ≤ 32) : shr .u32 n (k : Int) = n / (2 ^ k : Nat) := by
  unfold shr
  rw [show min (k : Int).toNat IntKind.u32.bits = k by show min (k : Int).toNat 32 = k; omega, Int.fdiv_eq_ediv_of_nonneg _ (by exact Int.pow_nonneg (by omega))]
  norm_cast
theorem shr_u16 (n : Int) (k : Nat) (hk : k ≤ 16) : shr .u16 n (k : Int) = n / (2 ^ k : Nat) := by
  unfold shr
  rw [show min (k : Int).toNat IntKind.u16.bits = k by show min (k : Int).toNat 16 = k; omega, Int.fdiv_eq_ediv_of_nonneg _ (by exact Int.pow_nonneg (by omega))]
  norm_cast
theorem layB_at (n : Int) (len k s : Nat) (h : IntKind.i64.wrap (8 * IntKind.i64.wrap (IntKind.i64.wrap ((len : Int) - 1) - k)) = (s : Int)) (hs : s ≤ 64) : layB n len k = n / (2 ^ s : Nat) % 256 := by
  unfold layB
  rw [h, shr_i64 n s hs, wrap8]
def ipL (f : Int) : List Int := [f / 16777216 % 256, f / 65536 % 256, f / 256 % 256, f % 256]
def twoL (n : Int) : List Int := [n / 256 % 256, n % 256]
theorem lay4 (n : Int) : [layB n 4 0, layB n 4 1, layB n 4 2, layB n 4 3] = ipL n := by
  rw [layB_at n 4 0 24 (by decide) (by omega), layB_at n 4 1 16 (by decide) (by omega), layB_at n 4 2 8 (by decide) (by omega), layB_at n 4 3 0 (by decide) (by omega)]
  simp [ipL]
theorem lay2 (n : Int) : [layB n 2 0, layB n 2 1] = twoL n := by
  rw [layB_at n 2 0 8 (by decide) (by omega), layB_at n 2 1 0 (by decide) (by omega)]
  simp [twoL]
theorem ip_bytes (f : Int) : [IntKind.u8.wrap (shr .u32 f 24), IntKind.u8.wrap (shr .u32 f 16), IntKind.u8.wrap (shr .u32 f 8), IntKind.u8.wrap f] = ipL f := by
  rw [show (24 : Int) = ((24 : Nat) : Int) from rfl, show (16 : Int) = ((16 : Nat) : Int) from rfl, show (8 : Int) = ((8 : Nat) : Int) from rfl, shr_u32 f 24 (by omega), shr_u32 f 16 (by omega), shr_u32 f 8 (by omega), wrap8, wrap8, wrap8, wrap8]
  rfl
theorem two_bytes (n : Int) : [IntKind.u8.wrap (shr .i64 n 8), IntKind.u8.wrap n] = twoL n := by
  rw [show (8 : Int) = ((8 : Nat) : Int) from rfl, shr_i64 n 8 (by omega), wrap8, wrap8]
  rfl
theorem two_sum (n : Int) : [IntKind.u8.wrap (shr .u16 n 8), IntKind.u8.wrap n] = twoL n := by
  rw [show (8 : Int) = ((8 : Nat) : Int) from rfl, shr_u16 n 8 (by omega), wrap8, wrap8]
  rfl
theorem ipL_bytes (f : Int) : Sum.bytes (ipL f) := by
  intro c hc
  simp only [ipL, List.mem_cons, List.not_mem_nil, or_false] at hc
  rcases hc with rfl | rfl | rfl | rfl <;> omega
theorem twoL_bytes (f : Int) : Sum.bytes (twoL f) := by
  intro c hc
  simp only [twoL, List.mem_cons, List.not_mem_nil, or_false] at hc
  rcases hc with rfl | rfl <;> omega

/-! ### the echo's bytes -/
def headL (c : List Int) (f t : Int) : List Int := [69, 0, 0, 32, 0, 0, 0, 0, 64, 1] ++ c ++ ipL f ++ ipL t
def opL (a : Bool) : Int := if a then 0 else 8
def bodyL (a : Bool) (c : List Int) (i q : Int) : List Int := [opL a, 0] ++ c ++ twoL i ++ twoL q ++ [0, 0, 0, 0]
def s1 (f t : Int) : Int := word (headL [0, 0] f t)
def s2 (a : Bool) (i q : Int) : Int := word (bodyL a [0, 0] i q)
def echoL (a : Bool) (f t i q : Int) : List Int := headL (twoL (s1 f t)) f t ++ bodyL a (twoL (s2 a i q)) i q
theorem headL_bytes (c : List Int) (hc : Sum.bytes c) (f t : Int) : Sum.bytes (headL c f t) :=
  bytes_app (bytes_app (bytes_app (by intro c hc; simp at hc; omega) hc) (ipL_bytes f)) (ipL_bytes t)
theorem bodyL_bytes (a : Bool) (c : List Int) (hc : Sum.bytes c) (i q : Int) : Sum.bytes (bodyL a c i q) :=
  bytes_app (bytes_app (bytes_app (bytes_app (by intro c hc; unfold opL at hc; simp at hc; cases a <;> simp at hc <;> omega) hc) (twoL_bytes i)) (twoL_bytes q)) (by intro c hc; simp at hc; omega)
theorem zz_bytes : Sum.bytes [0, 0] := by intro c hc; simp at hc; omega
theorem word_rng (xs : List Int) (h : Sum.bytes xs) : 0 ≤ word xs ∧ word xs ≤ 65535 := by
  unfold word
  rw [notW_eq xs h]
  have := (w_all xs h).1
  omega
theorem s1_rng (f t : Int) : 0 ≤ s1 f t ∧ s1 f t ≤ 65535 := word_rng _ (headL_bytes _ zz_bytes f t)
theorem s2_rng (a : Bool) (i q : Int) : 0 ≤ s2 a i q ∧ s2 a i q ≤ 65535 := word_rng _ (bodyL_bytes a _ zz_bytes i q)
def z12 : List Int := [0, 0, 0, 0, 0, 0, 0, 0, 0, 0, 0, 0]
theorem e1_eq (f t : Int) (hf : inR 4294967296 f) (ht : inR 4294967296 t) : e1 f t = headL [0, 0] f t ++ z12 := by
  obtain ⟨hf1, hf2⟩ := hf
  obtain ⟨ht1, ht2⟩ := ht
  have h : ∀ n m : Int, layK (layK e0 12 4 n 4) 16 4 m 4 = [69, 0, 0, 32, 0, 0, 0, 0, 64, 1, 0, 0] ++ [layB n 4 0, layB n 4 1, layB n 4 2, layB n 4 3] ++ [layB m 4 0, layB m 4 1, layB m 4 2, layB m 4 3] ++ z12 := fun n m => rfl
  unfold e1
  rw [h, lay4, lay4, wrap_i64_id (by omega), wrap_i64_id (by omega)]
  rfl
theorem e2_eq (f t : Int) (hf : inR 4294967296 f) (ht : inR 4294967296 t) : e2 f t = headL (twoL (s1 f t)) f t ++ z12 := by
  have hs := s1_rng f t
  unfold e2
  rw [e1_eq f t hf ht]
  have h1 : (headL [0, 0] f t ++ z12).take 20 = headL [0, 0] f t := rfl
  have h2 : ∀ n : Int, layK (headL [0, 0] f t ++ z12) 10 2 n 2 = headL [layB n 2 0, layB n 2 1] f t ++ z12 := fun n => rfl
  rw [h1, h2, lay2]
  show headL (twoL (IntKind.i64.wrap (s1 f t))) f t ++ z12 = _
  rw [wrap_i64_id (by omega)]
theorem e4_eq (a : Bool) (f t i q : Int) (hf : inR 4294967296 f) (ht : inR 4294967296 t) : e4 a f t i q = headL (twoL (s1 f t)) f t ++ bodyL a [0, 0] i q := by
  have h : ∀ (x : List Int) (n m o : Int), layK (layK ([x.getD 0 0, x.getD 1 0, x.getD 2 0, x.getD 3 0, x.getD 4 0, x.getD 5 0, x.getD 6 0, x.getD 7 0, x.getD 8 0, x.getD 9 0, x.getD 10 0, x.getD 11 0, x.getD 12 0, x.getD 13 0, x.getD 14 0, x.getD 15 0, x.getD 16 0, x.getD 17 0, x.getD 18 0, x.getD 19 0] ++ [o, 0, 0, 0, 0, 0, 0, 0, 0, 0, 0, 0]) 24 2 n 2) 26 2 m 2 =
      [x.getD 0 0, x.getD 1 0, x.getD 2 0, x.getD 3 0, x.getD 4 0, x.getD 5 0, x.getD 6 0, x.getD 7 0, x.getD 8 0, x.getD 9 0, x.getD 10 0, x.getD 11 0, x.getD 12 0, x.getD 13 0, x.getD 14 0, x.getD 15 0, x.getD 16 0, x.getD 17 0, x.getD 18 0, x.getD 19 0] ++ ([o, 0] ++ [0, 0] ++ [layB n 2 0, layB n 2 1] ++ [layB m 2 0, layB m 2 1] ++ [0, 0, 0, 0]) := fun x n m o => rfl
  have h3 : e3 a f t = headL (twoL (s1 f t)) f t ++ [opL a, 0, 0, 0, 0, 0, 0, 0, 0, 0, 0, 0] := by
    unfold e3
    rw [e2_eq f t hf ht]
    cases a <;> rfl
  have h5 := h (headL (twoL (s1 f t)) f t) i q (opL a)
  unfold e4
  rw [h3]
  rw [lay2, lay2] at h5
  exact h5
theorem echoB_eq (a : Bool) (f t i q : Int) (hf : inR 4294967296 f) (ht : inR 4294967296 t) : echoB a f t i q = echoL a f t i q := by
  have hs := s2_rng a i q
  unfold echoB
  rw [e4_eq a f t i q hf ht]
  have h1 : (headL (twoL (s1 f t)) f t ++ bodyL a [0, 0] i q).drop 20 = bodyL a [0, 0] i q := rfl
  have h2 : ∀ n : Int, layK (headL (twoL (s1 f t)) f t ++ bodyL a [0, 0] i q) 22 2 n 2 = headL (twoL (s1 f t)) f t ++ bodyL a [layB n 2 0, layB n 2 1] i q := fun n => rfl
  rw [h1, h2, lay2]
  show headL (twoL (s1 f t)) f t ++ bodyL a (twoL (IntKind.i64.wrap (s2 a i q))) i q = _
  rw [wrap_i64_id (by omega)]
  rfl
theorem echoL_bytes (a : Bool) (f t i q : Int) : Sum.bytes (echoL a f t i q) := bytes_app (headL_bytes _ (twoL_bytes _) f t) (bodyL_bytes a _ (twoL_bytes _) i q)

/-! ### reading it -/
theorem or_byte (m : Nat) (c : Int) (hm : m < 1099511627776) (hc : 0 ≤ c ∧ c < 256) : bitsI .or .i64 (shl .i64 (m : Int) 8) (IntKind.i64.wrap c) = (m : Int) * 256 + c := by
  obtain ⟨k, rfl⟩ := Int.eq_ofNat_of_zero_le hc.1
  have h1 : shl .i64 (m : Int) 8 = ((m * 256 : Nat) : Int) := by
    unfold shl
    rw [show (2 : Int) ^ (min (8 : Int).toNat IntKind.i64.bits) = 256 from rfl, wrap_i64_id (by omega)]
    omega
  rw [h1, wrap_i64_id (by omega)]
  show IntKind.i64.wrap ((BitVec.ofInt 64 ((m * 256 : Nat) : Int) ||| BitVec.ofInt 64 (k : Int)).toNat : Int) = _
  rw [BitVec.ofInt_natCast, BitVec.ofInt_natCast, BitVec.toNat_or, BitVec.toNat_ofNat, BitVec.toNat_ofNat, Nat.mod_eq_of_lt (by omega), Nat.mod_eq_of_lt (by omega)]
  have h2 : m * 256 ||| k = m * 256 + k := by
    have := Nat.shiftLeft_add_eq_or_of_lt (show k < 2 ^ 8 by omega) m
    rw [Nat.shiftLeft_eq] at this
    exact this.symm
  rw [h2, wrap_i64_id (by omega)]
  omega
theorem or_byteI (n c : Int) (hn : 0 ≤ n ∧ n < 1099511627776) (hc : 0 ≤ c ∧ c < 256) : bitsI .or .i64 (shl .i64 n 8) (IntKind.i64.wrap c) = n * 256 + c := by
  obtain ⟨m, rfl⟩ := Int.eq_ofNat_of_zero_le hn.1
  exact or_byte m c (by omega) hc
theorem num2 (a b : Int) (ha : 0 ≤ a ∧ a < 256) (hb : 0 ≤ b ∧ b < 256) : numOf [a, b] = a * 256 + b := by
  show bitsI .or .i64 (shl .i64 (bitsI .or .i64 (shl .i64 0 8) (IntKind.i64.wrap a)) 8) (IntKind.i64.wrap b) = _
  rw [or_byteI 0 a (by omega) ha, or_byteI _ b (by omega) hb]
  omega
theorem num4 (a b c d : Int) (ha : 0 ≤ a ∧ a < 256) (hb : 0 ≤ b ∧ b < 256) (hc : 0 ≤ c ∧ c < 256) (hd : 0 ≤ d ∧ d < 256) : numOf [a, b, c, d] = ((a * 256 + b) * 256 + c) * 256 + d := by
  show bitsI .or .i64 (shl .i64 (bitsI .or .i64 (shl .i64 (bitsI .or .i64 (shl .i64 (bitsI .or .i64 (shl .i64 0 8) (IntKind.i64.wrap a)) 8) (IntKind.i64.wrap b)) 8) (IntKind.i64.wrap c)) 8) (IntKind.i64.wrap d) = _
  rw [or_byteI 0 a (by omega) ha, or_byteI _ b (by omega) hb, or_byteI _ c (by omega) hc, or_byteI _ d (by omega) hd]
  omega
theorem num_two (n : Int) : numOf (twoL n) = n % 65536 := by
  unfold twoL
  rw [num2 _ _ (by omega) (by omega)]
  omega
theorem num_ip (n : Int) (h : inR 4294967296 n) : IntKind.u32.wrap (numOf (ipL n)) = n := by
  obtain ⟨h1, h2⟩ := h
  unfold ipL
  rw [num4 _ _ _ _ (by omega) (by omega) (by omega) (by omega), IntKind.wrap_u32]
  omega
theorem head_zero (f t : Int) : (word (headL (twoL (s1 f t)) f t) == 0) = true := by
  have := sealed_in (headL [0, 0] f t) (headL_bytes _ zz_bytes f t) (k := 10) rfl (by show 11 < 20; omega) rfl rfl (s1 f t) rfl
  have e : ((headL [0, 0] f t).set 10 (IntKind.u8.wrap (shr .u16 (s1 f t) 8))).set (10 + 1) (IntKind.u8.wrap (s1 f t)) = headL (twoL (s1 f t)) f t := by
    rw [← two_sum (s1 f t)]
    rfl
  rw [e] at this
  exact this
theorem body_zero (a : Bool) (i q : Int) : (word (bodyL a (twoL (s2 a i q)) i q) == 0) = true := by
  have := sealed_in (bodyL a [0, 0] i q) (bodyL_bytes a _ zz_bytes i q) (k := 2) rfl (by show 3 < 12; omega) rfl rfl (s2 a i q) rfl
  have e : ((bodyL a [0, 0] i q).set 2 (IntKind.u8.wrap (shr .u16 (s2 a i q) 8))).set (2 + 1) (IntKind.u8.wrap (s2 a i q)) = bodyL a (twoL (s2 a i q)) i q := by
    rw [← two_sum (s2 a i q)]
    rfl
  rw [e] at this
  exact this
theorem num32 : numOf [0, 32] = 32 := by rw [num2 _ _ (by omega) (by omega)]; rfl
theorem echo_good (a : Bool) (f t i q : Int) : badE (echoL a f t i q) = false := by
  have h : badE (echoL a f t i q) = (((32 : Nat) : Int) != 32 || (69 : Int) != 69 || numOf [0, 32] != 32 || (1 : Int) != 1 || (opL a != 0 && opL a != 8) || (0 : Int) != 0) := rfl
  rw [h, num32]
  cases a <;> decide
theorem echo_sums (a : Bool) (f t i q : Int) : sumE (echoL a f t i q) = false := by
  have h : sumE (echoL a f t i q) = (!(word (headL (twoL (s1 f t)) f t) == 0) || !(word (bodyL a (twoL (s2 a i q)) i q) == 0)) := rfl
  rw [h, head_zero, body_zero]
  rfl
theorem echo_err (a : Bool) (f t i q : Int) : errE (echoL a f t i q) = 0 := by
  unfold errE
  rw [echo_good, echo_sums]
  rfl
theorem echo_parts (a : Bool) (f t i q : Int) (hf : inR 4294967296 f) (ht : inR 4294967296 t) :
    rA (echoL a f t i q) = a ∧ rN (echoL a f t i q) (IntKind.u32.wrap (numOf (part (echoL a f t i q) 12 16))) = f ∧ rN (echoL a f t i q) (IntKind.u32.wrap (numOf (part (echoL a f t i q) 16 20))) = t ∧
    rN (echoL a f t i q) (numOf (part (echoL a f t i q) 24 26)) = i % 65536 ∧ rN (echoL a f t i q) (numOf (part (echoL a f t i q) 26 28)) = q % 65536 := by
  unfold rA rN
  rw [if_pos (echo_err a f t i q), if_pos (echo_err a f t i q), if_pos (echo_err a f t i q), if_pos (echo_err a f t i q), if_pos (echo_err a f t i q)]
  refine ⟨?_, num_ip f hf, num_ip t ht, num_two i, num_two q⟩
  show (opL a == 0) = a
  cases a <;> rfl
end Go.Proofs.Ytghaljkohheioaa.Wire
