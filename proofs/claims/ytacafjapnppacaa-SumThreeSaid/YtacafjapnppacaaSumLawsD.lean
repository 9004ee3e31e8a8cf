/- Sums of bytes: the laws SumSeal and SumThree, by the bodies' contracts. -/
import Derived.Test.YtacafjapnppacaaSumLawsC
namespace Go.Proofs.Ytacafjapnppacaa.Sum
open Go Go.Proofs.Ytacafjapnppacaa.Sx

/-! ### SumSeal -/
def tail7 (ys : List Int) (at' : Int) : Prop :=

                        (↑ys.length : Int) ≠ (0 : Int) ∧
                          (2 : Int) ≠ (0 : Int) ∧
                            ∀ (v : Int),
                              v = IntKind.i64.wrap ((2 : Int) + IntKind.i64.wrap (IntKind.i64.wrap (((IntKind.i64.wrap at').tmod (↑ys.length : Int)).tdiv (2 : Int)) * (2 : Int))) →
                                ((0 : Int) ≤ (0 : Int) ∧ (0 : Int) ≤ mn v (↑ys.length : Int) ∧ mn v (↑ys.length : Int) ≤ (↑ys.length : Int)) ∧
                                  (List.take ((mn v (↑ys.length : Int)).toNat - (0 : Nat)) (List.drop (0 : Nat) ys)).length * (1 : Nat) ≤ (140737488355328 : Nat) ∧
                                    ((List.take ((mn v (↑ys.length : Int)).toNat - (0 : Nat)) (List.drop (0 : Nat) ys)).length + (2 : Nat)) * (1 : Nat) ≤ (140737488355328 : Nat) ∧
                                      ((0 : Int) ≤ mn v (↑ys.length : Int) ∧ mn v (↑ys.length : Int) ≤ (↑ys.length : Int) ∧ (↑ys.length : Int) ≤ (↑ys.length : Int)) ∧
                                        ((List.take ((mn v (↑ys.length : Int)).toNat - (0 : Nat)) (List.drop (0 : Nat) ys) ++ [(0 : Int), (0 : Int)]).length +
                                                (List.take ((↑ys.length : Int).toNat - (mn v (↑ys.length : Int)).toNat) (List.drop ((0 : Nat) + (mn v (↑ys.length : Int)).toNat) ys)).length) *
                                              (1 : Nat) ≤
                                            (140737488355328 : Nat) ∧
                                          ∀ (v_2 : List Int),
                                            v_2 =
                                                List.take ((mn v (↑ys.length : Int)).toNat - (0 : Nat)) (List.drop (0 : Nat) ys) ++ [(0 : Int), (0 : Int)] ++
                                                  List.take ((↑ys.length : Int).toNat - (mn v (↑ys.length : Int)).toNat) (List.drop ((0 : Nat) + (mn v (↑ys.length : Int)).toNat) ys) →
                                              ∀ (v_3 : Int),
                                                v_3 = mn v (IntKind.i64.wrap ((↑v_2.length : Int) - (2 : Int))) →
                                                  v_2.length.succ.le (9223372036854775808 : Nat) ∧
                                                    ∀ (v : Int),
                                                      v = notW (IntKind.u16.wrap (wAt v_2 v_2.length)) →
                                                        (0 : Int) ≤ (8 : Int) ∧
                                                          ((0 : Int) ≤ v_3 ∧ v_3 < (↑v_2.length : Int)) ∧
                                                            ((0 : Int) ≤ IntKind.i64.wrap (v_3 + (1 : Int)) ∧
                                                                IntKind.i64.wrap (v_3 + (1 : Int)) < (↑(v_2.set v_3.toNat (IntKind.u8.wrap (shr IntKind.u16 v (8 : Int)))).length : Int)) ∧
                                                              ∀ (v_4 : List Int),
                                                                v_4 = (v_2.set v_3.toNat (IntKind.u8.wrap (shr IntKind.u16 v (8 : Int)))).set (IntKind.i64.wrap (v_3 + (1 : Int))).toNat (IntKind.u8.wrap v) →
                                                                  v_4.length.succ.le (9223372036854775808 : Nat) ∧ (notW (IntKind.u16.wrap (wAt v_4 v_4.length)) == (0 : Int)) = true
theorem tail7_ok (v : List Int) (t : Int) (hb : bytes v) (he : v.length % 2 = 0) (h2 : 2 ≤ v.length) (hl : v.length ≤ 1000) (ht : 0 ≤ t ∧ t < 256) : tail7 v t := by
  unfold tail7
  have hr := tmod_rng (a := IntKind.i64.wrap t) (n := v.length) (by rw [IntKind.wrap_i64]; omega) (by omega)
  refine ⟨by omega, by decide, fun k hk => ?_⟩
  have hk2 : k = 2 + (IntKind.i64.wrap t).tmod (v.length : Int) / 2 * 2 := by
    rw [hk, Int.tdiv_eq_ediv_of_nonneg hr.1]
    rw [wrap_i64_id (n := (IntKind.i64.wrap t).tmod (v.length : Int) / 2) (by omega), wrap_i64_id (n := (IntKind.i64.wrap t).tmod (v.length : Int) / 2 * 2) (by omega), wrap_i64_id (by omega)]
  clear hk
  generalize (IntKind.i64.wrap t).tmod (v.length : Int) = r at *
  simp only [mn_eq] at *
  obtain ⟨m, hm⟩ := Int.eq_ofNat_of_zero_le (show 0 ≤ min k (v.length : Int) by omega)
  have hm2 : m ≤ v.length := by omega
  have hme : m % 2 = 0 := by omega
  have hmt : (min k (v.length : Int)).toNat = m := by omega
  rw [hmt]
  have e1 : v.drop 0 = v := rfl
  have e2 : ((v.length : Int)).toNat - m = (v.drop m).length := by rw [List.length_drop]; omega
  have l1 : (v.take m).length = m := List.length_take_of_le hm2
  have l2 : (v.drop m).length = v.length - m := List.length_drop ..
  rw [e1, Nat.sub_zero, Nat.zero_add, e2, List.take_length]
  refine ⟨by omega, by omega, by omega, by omega, by rw [List.length_append]; simp; omega, fun x hx => ?_⟩
  have hx : x = v.take m ++ ([0, 0] ++ v.drop m) := by rw [hx, List.append_assoc]
  have hxl : x.length = v.length + 2 := by rw [hx, List.length_append, List.length_append, l1, l2]; simp; omega
  have hxb : bytes x := by rw [hx]; exact bytes_app (bytes_take _ hb) (bytes_app (bytes_two (by omega) (by omega)) (bytes_drop _ hb))
  have g0 : x.getD m 0 = 0 := by
    rw [hx, List.getD, List.getElem?_append_right (by omega), l1]
    simp
  have g1 : x.getD (m + 1) 0 = 0 := by
    rw [hx, List.getD, List.getElem?_append_right (by omega), l1, show m + 1 - m = 1 by omega]
    simp
  clear hx
  intro k2 hk2'
  have hk3 : k2 = m := by rw [hk2', wrap_i64_id (by omega)]; omega
  subst hk3
  refine ⟨show x.length + 1 ≤ 9223372036854775808 by omega, fun s hs => ⟨by decide, by omega, ?_⟩⟩
  have hw : IntKind.i64.wrap ((m : Int) + 1) = ((m + 1 : Nat) : Int) := by rw [wrap_i64_id (by omega)]; omega
  rw [hw]
  refine ⟨by rw [List.length_set]; omega, fun y hy => ?_⟩
  have hz := sealed_in x hxb hme (by omega) g0 g1 s hs
  have hy : y = (x.set m (IntKind.u8.wrap (shr .u16 s 8))).set (m + 1) (IntKind.u8.wrap s) := hy
  rw [← hy] at hz
  refine ⟨?_, hz⟩
  show y.length + 1 ≤ 9223372036854775808
  rw [hy, List.length_set, List.length_set]
  omega
def sealOk (xs : List Int) (t : Int) : Prop := xs.length < 9223372036854775808 ∧ bytes xs ∧ (0 ≤ t ∧ t < 256)
def sp7 : Sx.Spec A
  | [.csl 5 xs, .int .u8 t] => some (some (sealOk xs t), .bool true)
  | _ => none
def lits7 : List Nat := [103000, 104005, 106005, 107006, 108005, 109006, 110007, 111005]
theorem body7 (xs : List Int) (t : Int) (h : sealOk xs t) : BodyOk Try.prog u tab2 lits7 [] Try.f7 [.csl 5 xs, .int .u8 t] (.bool true) := by
  constructor
  have e : bodyW Try.prog u tab2 lits7 (drawW Try.prog u tab2) (loopsBy u []) Try.f7 [.csl 5 xs, .int .u8 t] (.bool true) = vc7 xs t := by kernel_rfl
  rw [e]
  obtain ⟨hl, hb, ht⟩ := h
  unfold vc7
  refine ⟨fun h => absurd h (by decide), fun _ => ⟨⟨by decide, by rw [mn_eq]; omega, by rw [mn_eq]; omega⟩, fun v hv => ?_⟩⟩
  have hv : v = xs.take (mn (xs.length : Int) 200).toNat := by rw [hv, List.drop_zero]
  rw [mn_eq] at hv
  have hvl : v.length = (min (xs.length : Int) 200).toNat := by rw [hv]; exact List.length_take_of_le (by omega)
  have hvb : bytes v := by rw [hv]; exact bytes_take _ hb
  clear hv
  refine ⟨by simp; omega, fun v1 hv1 => ?_⟩
  have hv1 : v1 = [1, IntKind.u8.wrap (v.length : Int)] ++ v := hv1
  have hl1 : v1.length = 2 + v.length := by rw [hv1, List.length_append]; rfl
  have hb1 : bytes v1 := by rw [hv1]; exact bytes_app (bytes_two (by omega) (wrap8_rng _)) hvb
  clear hv1
  have ho : ((v1.length : Int).tmod 2 == 1) = decide (v1.length % 2 = 1) := by
    rw [Int.tmod_eq_emod_of_nonneg (by omega)]
    by_cases h : v1.length % 2 = 1
    · simp [h]; omega
    · simp [h]; omega
  rw [ho]
  refine ⟨by decide, fun hc => ⟨by omega, fun v2 hv2 => ?_⟩, fun hc => ?_⟩
  · have hv2 : v2 = v1 ++ [0] := hv2
    have hc := of_decide_eq_true hc
    have hb2 : bytes v2 := by rw [hv2]; exact bytes_app hb1 (fun c hc => by rw [List.mem_singleton.1 hc]; omega)
    have hl2 : v2.length = v1.length + 1 := by rw [hv2, List.length_append]; rfl
    exact tail7_ok v2 t hb2 (by omega) (by omega) (by omega) ht
  · have hc := of_decide_eq_false hc
    exact tail7_ok v1 t hb1 (by omega) (by omega) (by omega) ht
theorem ok7 : FnOk Try.prog u 7 sp7 := by
  refine fn_ok Try.prog u tab2 mo laws2 Try.func7 ?_
  intro xs c y h hc
  unfold sp7 at h
  split at h
  · cases h
    rename_i zs t
    exact ⟨by kernel_rfl, lits7, [], body7 zs t hc⟩
  · cases h

/-! ### SumThree -/
theorem crc_xor3 (L : List Nat) (fa fb fc fw : Nat → Int) (h : ∀ k ∈ L, BitVec.ofNat 32 (fw k).toNat = BitVec.ofNat 32 (fa k).toNat ^^^ BitVec.ofNat 32 (fb k).toNat ^^^ BitVec.ofNat 32 (fc k).toNat) :
    ∀ (x y z : BitVec 32), crc (x ^^^ y ^^^ z) (L.map fw) = crc x (L.map fa) ^^^ crc y (L.map fb) ^^^ crc z (L.map fc) := by
  induction L with
  | nil => intro x y z; rfl
  | cons k L ih =>
    intro x y z
    have hk := h k (List.mem_cons_self ..)
    simp only [List.map_cons, crc]
    rw [← ih (fun j hj => h j (List.mem_cons_of_mem _ hj)), ← rv8_xor, ← rv8_xor, hk]
    congr 2
    generalize BitVec.ofNat 32 (fa k).toNat = p
    generalize BitVec.ofNat 32 (fb k).toNat = q
    generalize BitVec.ofNat 32 (fc k).toNat = r
    apply BitVec.eq_of_getLsbD_eq
    intro i hi
    simp only [BitVec.getLsbD_xor]
    cases p.getLsbD i <;> cases q.getLsbD i <;> cases r.getLsbD i <;> cases x.getLsbD i <;> cases y.getLsbD i <;> cases z.getLsbD i <;> rfl
theorem xor64_nat (a b : Nat) (ha : a < 18446744073709551616) (hb : b < 18446744073709551616) : bitsI .xor .u64 (a : Int) (b : Int) = ((a ^^^ b : Nat) : Int) := by
  show IntKind.u64.wrap ((BitVec.ofInt 64 (a : Int) ^^^ BitVec.ofInt 64 (b : Int)).toNat : Int) = _
  rw [BitVec.ofInt_natCast, BitVec.ofInt_natCast, BitVec.toNat_xor, BitVec.toNat_ofNat, BitVec.toNat_ofNat, Nat.mod_eq_of_lt (show a < 2 ^ 64 by omega), Nat.mod_eq_of_lt (show b < 2 ^ 64 by omega)]
  have : a ^^^ b < 2 ^ 64 := Nat.xor_lt_two_pow (by omega) (by omega)
  have hw : ∀ n : Int, IntKind.u64.wrap n = n % 18446744073709551616 := fun n => by simp [IntKind.wrap, IntKind.bits, IntKind.signed]
  rw [hw]
  omega
theorem byteOf_nat (a k : Nat) (hk : k < 8) : (byteOf (a : Int) k).toNat = (a >>> (8 * k)) % 256 := by
  unfold byteOf shr
  have e1 : min (8 * (k : Int)).toNat IntKind.u64.bits = 8 * k := by
    show min (8 * (k : Int)).toNat 64 = 8 * k
    omega
  have h2 : ((2 : Int) ^ (8 * k)) = ((2 ^ (8 * k) : Nat) : Int) := (Int.natCast_pow 2 (8 * k)).symm
  rw [e1, h2, Int.fdiv_eq_ediv_of_nonneg _ (Int.natCast_nonneg _), wrap8, Nat.shiftRight_eq_div_pow]
  omega
theorem byte_xor (a b c k : Nat) (hk : k < 8) : BitVec.ofNat 32 (byteOf ((a ^^^ b ^^^ c : Nat) : Int) k).toNat = BitVec.ofNat 32 (byteOf (a : Int) k).toNat ^^^ BitVec.ofNat 32 (byteOf (b : Int) k).toNat ^^^ BitVec.ofNat 32 (byteOf (c : Int) k).toNat := by
  rw [byteOf_nat _ k hk, byteOf_nat _ k hk, byteOf_nat _ k hk, byteOf_nat _ k hk]
  apply BitVec.eq_of_getLsbD_eq
  intro i hi
  simp only [BitVec.getLsbD_xor, BitVec.getLsbD_ofNat, show (256 : Nat) = 2 ^ 8 from rfl, Nat.testBit_mod_two_pow, Nat.testBit_shiftRight, Nat.testBit_xor]
  cases decide (i < 32) <;> cases decide (i < 8) <;> simp
def threeOk (a b c : Int) : Prop := (0 ≤ a ∧ a < 18446744073709551616) ∧ (0 ≤ b ∧ b < 18446744073709551616) ∧ (0 ≤ c ∧ c < 18446744073709551616)
theorem bsOf_bytes (a : Int) (k : Nat) : bytes (bsOf a k) := fun c hc => by
  unfold bsOf at hc
  obtain ⟨j, _, rfl⟩ := List.mem_map.1 hc
  exact wrap8_rng _
theorem bsOf_len (a : Int) (k : Nat) : (bsOf a k).length = k := by simp [bsOf]
theorem bsOf_next (a : Int) (k : Nat) : bsOf a k ++ [IntKind.u8.wrap (shr .u64 a (8 * (k : Int)))] = bsOf a (k + 1) := by
  unfold bsOf
  rw [List.range_succ, List.map_append]
  rfl
theorem three_crc (a b c : Int) (h : threeOk a b c) : (notU (foldA (bsOf (bitsI .xor .u64 (bitsI .xor .u64 a b) c) 8)) == bitsI .xor .u32 (bitsI .xor .u32 (notU (foldA (bsOf a 8))) (notU (foldA (bsOf b 8)))) (notU (foldA (bsOf c 8)))) = true := by
  obtain ⟨ha, hb, hc⟩ := h
  obtain ⟨a, rfl⟩ := Int.eq_ofNat_of_zero_le ha.1
  obtain ⟨b, rfl⟩ := Int.eq_ofNat_of_zero_le hb.1
  obtain ⟨c, rfl⟩ := Int.eq_ofNat_of_zero_le hc.1
  have hab : a ^^^ b < 2 ^ 64 := Nat.xor_lt_two_pow (by omega) (by omega)
  rw [xor64_nat a b (by omega) (by omega), xor64_nat (a ^^^ b) c (by omega) (by omega)]
  rw [foldA_crc (bsOf_bytes _ _), foldA_crc (bsOf_bytes _ _), foldA_crc (bsOf_bytes _ _), foldA_crc (bsOf_bytes _ _), notU_nat, notU_nat, notU_nat, notU_nat, xor_nat, xor_nat, beq_iff_eq, bv_inj]
  have := crc_xor3 (List.range 8) (byteOf (a : Int)) (byteOf (b : Int)) (byteOf (c : Int)) (byteOf ((a ^^^ b ^^^ c : Nat) : Int)) (fun k hk => byte_xor a b c k (List.mem_range.1 hk)) 4294967295#32 4294967295#32 4294967295#32
  rw [show 4294967295#32 ^^^ 4294967295#32 ^^^ 4294967295#32 = 4294967295#32 from by decide] at this
  unfold bsOf
  rw [this]
  generalize crc 4294967295#32 ((List.range 8).map (byteOf (a : Int))) = p
  generalize crc 4294967295#32 ((List.range 8).map (byteOf (b : Int))) = q
  generalize crc 4294967295#32 ((List.range 8).map (byteOf (c : Int))) = r
  apply BitVec.eq_of_getLsbD_eq
  intro i hi
  simp only [BitVec.getLsbD_xor]
  cases p.getLsbD i <;> cases q.getLsbD i <;> cases r.getLsbD i <;> cases (4294967295#32).getLsbD i <;> rfl
def sp5 : Sx.Spec A
  | [.int .u64 a, .int .u64 b, .int .u64 c] => some (some (threeOk a b c), .bool true)
  | _ => none
theorem body5 (a b c : Int) (h : threeOk a b c) : BodyOk Try.prog u tab2 [] [(0, .inv (ann5 a b c))] Try.f5 [.int .u64 a, .int .u64 b, .int .u64 c] (.bool true) := by
  constructor
  have e : bodyW Try.prog u tab2 [] (drawW Try.prog u tab2) (loopsBy u [(0, .inv (ann5 a b c))]) Try.f5 [.int .u64 a, .int .u64 b, .int .u64 c] (.bool true) = vc5 a b c := by kernel_rfl
  rw [e]
  unfold vc5
  refine ⟨fun h => absurd h (by decide), fun _ => ⟨⟨0, Nat.zero_le _, ⟨rfl, rfl, rfl, rfl, trivial, trivial, trivial, trivial⟩, rfl, rfl, rfl, rfl⟩, fun g hg => ?_⟩⟩
  have hg : g ≤ 8 := hg
  have hlen : ∀ a : Int, ∀ z : Int, ((bsOf a g).length + [z].length) * 1 ≤ 140737488355328 := fun a z => by rw [bsOf_len]; simp; omega
  have hlen2 : ∀ a : Int, (bsOf a g).length.succ.le 9223372036854775808 := fun a => show (bsOf a g).length + 1 ≤ 9223372036854775808 by rw [bsOf_len]; omega
  refine ⟨fun hlt => ?_, fun hge => ?_⟩
  · have hlt := of_decide_eq_true hlt
    refine ⟨by omega, hlen _ _, by omega, hlen _ _, by omega, hlen _ _, by omega, hlen _ _, g + 1, show g + 1 ≤ 8 by omega, show 8 - (g + 1) < 8 - g by omega, ⟨rfl, rfl, rfl, ?_, trivial, trivial, trivial, trivial⟩, bsOf_next _ _, bsOf_next _ _, bsOf_next _ _, bsOf_next _ _⟩
    rw [wrap_i64_id (by omega)]
    omega
  · have hge := of_decide_eq_false hge
    have : g = 8 := by omega
    subst this
    exact ⟨hlen2 _, hlen2 _, hlen2 _, hlen2 _, three_crc a b c h⟩
theorem ok5 : FnOk Try.prog u 5 sp5 := by
  refine fn_ok Try.prog u tab2 mo laws2 Try.func5 ?_
  intro xs c y h hc
  unfold sp5 at h
  split at h
  · cases h
    rename_i a b c
    exact ⟨by kernel_rfl, [], [(0, .inv (ann5 a b c))], body5 a b c hc⟩
  · cases h
end Go.Proofs.Ytacafjapnppacaa.Sum
