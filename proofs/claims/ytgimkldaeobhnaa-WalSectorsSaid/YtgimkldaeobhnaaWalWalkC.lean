/- The log: the contracts of clearing, writing and reading a row. -/
import Derived.Test.YtgimkldaeobhnaaWalVcC
import Derived.Test.YtgimkldaeobhnaaWalWalkB
import Derived.Test.YtgimkldaeobhnaaWalMathD
namespace Go.Proofs.Ytgimkldaeobhnaa.Dsk
open Go Go.Proofs.Ytgimkldaeobhnaa.Sx

theorem bodyClear (l : Lg) (r a : Int) (h : logOk l r a) : BodyOkH Try.prog u tab4 [104019] [(0, .inv (annClear l r a))] Try.f32 (.optr 0 0 :: [.int .i64 r, .int .i64 a]) l.own (.int .i64 (clearM l.d r a).2) { l with d := (clearM l.d r a).1 }.own5 := by
  constructor
  have eqn : bodyH Try.prog u tab4 [104019] (drawW Try.prog u tab4) (loopsBy u [(0, .inv (annClear l r a))]) Try.f32 (.optr 0 0 :: [.int .i64 r, .int .i64 a]) l.own (.int .i64 (clearM l.d r a).2) { l with d := (clearM l.d r a).1 }.own5 = vcClear l r a := by kernel_rfl
  rw [eqn]
  unfold vcClear
  obtain ⟨hB, hr, ha0, ha1⟩ := h
  have hh := half_in hB.1
  refine ⟨⟨0, ⟨by simpa using ha1, by rw [show (a + ((0 : Nat) : Int)) = a by simp]; rfl, rfl, hB⟩, ⟨rfl, trivial, by simp⟩, ⟨trivial, rfl, rfl, rfl, trivial, rfl⟩, ⟨trivial, trivial, rfl, rfl, rfl, rfl⟩, rfl, rfl, rfl⟩, fun g hg => ?_⟩
  obtain ⟨i1, i2, i3, i4⟩ := hg
  have i4 : DkB (clearAt l.d r a g) (1000000 + g) := i4
  have hD := half_len i3
  refine ⟨fun hlt => ⟨i4.ok (by omega), ?_⟩, fun hge => ⟨i4.ok (by omega), ?_⟩⟩
  · have hlt : a + (g : Int) < halfOf (clearAt l.d r a g) := of_decide_eq_true hlt
    rw [hD] at hlt
    obtain ⟨m, hm⟩ : ∃ m, (halfOf l.d - (a + (g : Int))).toNat = m + 1 := ⟨(halfOf l.d - (a + (g : Int))).toNat - 1, by omega⟩
    rintro _ rfl _ rfl _ rfl _ rfl _ rfl _ rfl
    refine ⟨fun he => ?_, fun he => ?_⟩
    · have he : (writeE (clearAt l.d r a g) (posOf (clearAt l.d r a g) r (a + g)) != 0) = true := he
      have e : clearM l.d r a = ((clearAt l.d r a g).write (posOf (clearAt l.d r a g) r (a + g)) zeroS, writeE (clearAt l.d r a g) (posOf (clearAt l.d r a g) r (a + g))) := by
        rw [i2, hm, clearGo, if_pos he]
      rw [e]
      exact ⟨rfl, ⟨⟨trivial, rfl, rfl, rfl, trivial, rfl⟩, ⟨trivial, trivial, rfl, rfl, rfl, rfl⟩, rfl, rfl, trivial, rfl⟩, rfl, (write_len _ _ _).trans i3, trivial⟩
    · have e : clearM l.d r a = clearGo (clearAt l.d r a (g + 1)) r (a + ((g + 1 : Nat) : Int)) (halfOf l.d - (a + ((g + 1 : Nat) : Int))).toNat := by
        rw [i2, hm, clearGo, if_neg (show ¬ (writeE (clearAt l.d r a g) (posOf (clearAt l.d r a g) r (a + g)) != 0) = true by rw [show (writeE (clearAt l.d r a g) (posOf (clearAt l.d r a g) r (a + g)) != 0) = false from he]; decide)]
        have e1 : a + (g : Int) + 1 = a + ((g + 1 : Nat) : Int) := by omega
        have e2 : m = (halfOf l.d - (a + ((g + 1 : Nat) : Int))).toNat := by omega
        rw [e1, e2]
        rfl
      exact ⟨g + 1, ⟨by omega, e, (write_len _ _ _).trans i3, i4.write _ _⟩, show (halfOf l.d - (a + ((g + 1 : Nat) : Int))).toNat < (halfOf l.d - (a + (g : Int))).toNat by omega, ⟨rfl, trivial, by rw [wrap_i64_id (by omega)]; omega⟩, ⟨trivial, rfl, rfl, rfl, trivial, rfl⟩, ⟨trivial, trivial, rfl, rfl, rfl, rfl⟩, rfl, rfl, rfl⟩
  · have hge : ¬ a + (g : Int) < halfOf (clearAt l.d r a g) := of_decide_eq_false hge
    rw [hD] at hge
    have hz : (halfOf l.d - (a + (g : Int))).toNat = 0 := by omega
    have e : clearM l.d r a = ((clearAt l.d r a g).flush, flushE (clearAt l.d r a g)) := by rw [i2, hz]; rfl
    rw [e]
    exact ⟨rfl, ⟨⟨trivial, rfl, rfl, rfl, trivial, rfl⟩, ⟨trivial, trivial, rfl, rfl, rfl, rfl⟩, rfl, rfl, trivial, rfl⟩, rfl, (flush_len _).trans i3, trivial⟩
theorem okClear : FnOkH Try.prog u 32 hClear := by
  refine fn_okH Try.prog u tab4 mo laws4 Try.func32 ?_
  intro xs os c y os2 h hc
  obtain ⟨l, d, rfl, rfl, hh⟩ := lgH_eq h
  split at hh
  · cases hh
    exact ⟨_, _, bodyClear d _ _ hc⟩
  · cases hh
theorem bodyPut (l : Lg) (r a k i : Int) (b : List Int) (h : putCan l r a b) : BodyOkH Try.prog u tab4 [106015, 107042, 110054, 113062] [(0, .inv (annPut l r a b k i))] Try.f33 (.optr 0 0 :: [.int .i64 r, .int .i64 a, .int .i64 k, .int .i64 i, .csl 5 b]) l.own (.int .i64 (putM l.d r a k i b).2) { l with d := (putM l.d r a k i b).1 }.own5 := by
  constructor
  have eqn : bodyH Try.prog u tab4 [106015, 107042, 110054, 113062] (drawW Try.prog u tab4) (loopsBy u [(0, .inv (annPut l r a b k i))]) Try.f33 (.optr 0 0 :: [.int .i64 r, .int .i64 a, .int .i64 k, .int .i64 i, .csl 5 b]) l.own (.int .i64 (putM l.d r a k i b).2) { l with d := (putM l.d r a k i b).1 }.own5 = vcPut l r a k i b := by kernel_rfl
  rw [eqn]
  unfold vcPut
  obtain ⟨⟨hB, hr, ha0, ha1⟩, hb⟩ := h
  have hs : secsOf ((b : List Int).length : Int) = 1 + (secsN (b : List Int).length : Int) := secs_eq _ (by omega)
  have hsn : 64 * secsN (b : List Int).length ≤ (b : List Int).length + 63 := by unfold secsN; omega
  refine ⟨⟨0, ⟨Nat.zero_le _, rfl, hB⟩, ⟨rfl, rfl, rfl, rfl, trivial, by simp⟩, ⟨trivial, rfl, rfl, rfl, trivial, rfl⟩, ⟨trivial, trivial, rfl, rfl, rfl, rfl⟩, rfl, rfl, rfl⟩, fun g hg => ?_⟩
  obtain ⟨i1, i2, i4⟩ := hg
  have i4 : DkB (putAt l.d (posOf l.d r a) b g) (1000000 + g) := i4
  have i3 : (putAt l.d (posOf l.d r a) b g).kept.length = l.d.kept.length := putAt_len ..
  refine ⟨fun hlt => ?_, fun hge => ⟨i4.ok (by omega), ?_⟩⟩
  · have hlt : (g : Int) + 1 < secsOf (b.length : Int) := of_decide_eq_true hlt
    rw [hs] at hlt
    obtain ⟨m, hm⟩ : ∃ m, secsN b.length - g = m + 1 := ⟨secsN b.length - g - 1, by omega⟩
    have hgb : 64 * g ≤ b.length := by omega
    have w1 : IntKind.i64.wrap (IntKind.i64.wrap ((g : Int) + 1 - 1) * 64) = 64 * (g : Int) := by
      rw [wrap_i64_id (n := (g : Int) + 1 - 1) (by omega), wrap_i64_id (by omega)]
      omega
    refine ⟨⟨by decide, by decide, by decide, rfl⟩, ⟨by rw [w1]; omega, by rw [w1]; omega, Int.le_refl _⟩, fun v hv => ?_⟩
    have hv : v = (chunkS b g).l := hv.trans (chunk_eq hb hgb)
    subst hv
    rw [put_self]
    refine ⟨Nat.le_of_eq (Sec.h _).symm, i4.ok (by omega), ?_⟩
    rintro _ rfl _ rfl _ rfl _ rfl _ rfl _ rfl
    refine ⟨fun he => ?_, fun he => ?_⟩
    · have he : (writeE (putAt l.d (posOf l.d r a) b g) (IntKind.i64.wrap (posOf l.d r a + ((g : Int) + 1))) != 0) = true := he
      have e : putM l.d r a k i b = ((putAt l.d (posOf l.d r a) b g).write (IntKind.i64.wrap (posOf l.d r a + ((g : Int) + 1))) (chunkS b g), writeE (putAt l.d (posOf l.d r a) b g) (IntKind.i64.wrap (posOf l.d r a + ((g : Int) + 1)))) := by
        rw [i2, hm, putGo, if_pos he]
      rw [e]
      exact ⟨rfl, ⟨⟨trivial, rfl, rfl, rfl, trivial, rfl⟩, ⟨trivial, trivial, rfl, rfl, rfl, rfl⟩, rfl, rfl, trivial, rfl⟩, rfl, (write_len _ _ _).trans i3, trivial⟩
    · have he : (writeE (putAt l.d (posOf l.d r a) b g) (IntKind.i64.wrap (posOf l.d r a + ((g : Int) + 1))) != 0) = false := he
      have e : putM l.d r a k i b = putGo (putAt l.d (posOf l.d r a) b (g + 1)) (posOf l.d r a) k i b (g + 1) (secsN b.length - (g + 1)) := by
        rw [i2, hm, putGo, if_neg (by rw [he]; decide), show secsN b.length - (g + 1) = m by omega]
        rfl
      exact ⟨g + 1, ⟨by omega, e, i4.write _ _⟩, show secsN b.length - (g + 1) < secsN b.length - g by omega, ⟨rfl, rfl, rfl, rfl, trivial, by rw [wrap_i64_id (by omega)]; omega⟩, ⟨trivial, rfl, rfl, rfl, trivial, rfl⟩, ⟨trivial, trivial, rfl, rfl, rfl, rfl⟩, rfl, rfl, rfl⟩
  · have hge : ¬ (g : Int) + 1 < secsOf ((b : List Int).length : Int) := of_decide_eq_false hge
    rw [hs] at hge
    have hz : secsN (b : List Int).length - g = 0 := by omega
    have e : putM l.d r a k i b = putEnd (putAt l.d (posOf l.d r a) b g) (posOf l.d r a) k i b := by rw [i2, hz]; rfl
    rw [e]
    generalize (putAt l.d (posOf l.d r a) b g) = d at *
    rintro _ rfl _ rfl _ rfl _ rfl _ rfl _ rfl
    refine ⟨fun he => ?_, fun he => ⟨(show (b : List Int).length < 9223372036854775808 by omega), (i4.flush).ok (by omega), ?_⟩⟩
    · have he : (flushE d != 0) = true := he
      have e2 : putEnd d (posOf l.d r a) k i b = (d.flush, flushE d) := by unfold putEnd; rw [if_pos he]
      rw [e2]
      exact ⟨rfl, ⟨⟨trivial, rfl, rfl, rfl, trivial, rfl⟩, ⟨trivial, trivial, rfl, rfl, rfl, rfl⟩, rfl, rfl, trivial, rfl⟩, rfl, (flush_len _).trans i3, trivial⟩
    · have he : (flushE d != 0) = false := he
      have i5 := i4.flush.write (posOf l.d r a) (headS k i b)
      rintro _ rfl _ rfl _ rfl _ rfl _ rfl _ rfl
      refine ⟨fun hf => ?_, fun hf => ⟨i5.ok (by omega), ?_⟩⟩
      · have hf : (writeE d.flush (posOf l.d r a) != 0) = true := hf
        have e2 : putEnd d (posOf l.d r a) k i b = (d.flush.write (posOf l.d r a) (headS k i b), writeE d.flush (posOf l.d r a)) := by unfold putEnd; rw [if_neg (by rw [he]; decide), if_pos hf]
        rw [e2]
        exact ⟨rfl, ⟨⟨trivial, rfl, rfl, rfl, trivial, rfl⟩, ⟨trivial, trivial, rfl, rfl, rfl, rfl⟩, rfl, rfl, trivial, rfl⟩, rfl, ((write_len _ _ _).trans (flush_len _)).trans i3, trivial⟩
      · have hf : (writeE d.flush (posOf l.d r a) != 0) = false := hf
        have e2 : putEnd d (posOf l.d r a) k i b = ((d.flush.write (posOf l.d r a) (headS k i b)).flush, flushE (d.flush.write (posOf l.d r a) (headS k i b))) := by unfold putEnd; rw [if_neg (by rw [he]; decide), if_neg (by rw [hf]; decide)]
        rw [e2]
        exact ⟨rfl, ⟨⟨trivial, rfl, rfl, rfl, trivial, rfl⟩, ⟨trivial, trivial, rfl, rfl, rfl, rfl⟩, rfl, rfl, trivial, rfl⟩, rfl, ((flush_len _).trans ((write_len _ _ _).trans (flush_len _))).trans i3, trivial⟩
theorem okPut : FnOkH Try.prog u 33 hPut := by
  refine fn_okH Try.prog u tab4 mo laws4 Try.func33 ?_
  intro xs os c y os2 h hc
  obtain ⟨l, d, rfl, rfl, hh⟩ := lgH_eq h
  split at hh
  · cases hh
    exact ⟨_, _, bodyPut d _ _ _ _ _ hc⟩
  · cases hh
theorem bodyOne (l : Lg) (r a k : Int) (h : oneOk l r a) : BodyOkH Try.prog u tab4 [103011, 104013, 104014] [(0, .inv (annOne l r a))] Try.f37 (.optr 0 0 :: [.int .i64 r, .int .i64 a, .int .i64 k]) l.own (.tup [.int .i64 (oneM l.d r a k).1, .csl 5 (oneM l.d r a k).2.1, .bool (oneM l.d r a k).2.2]) l.own := by
  constructor
  have eqn : bodyH Try.prog u tab4 [103011, 104013, 104014] (drawW Try.prog u tab4) (loopsBy u [(0, .inv (annOne l r a))]) Try.f37 (.optr 0 0 :: [.int .i64 r, .int .i64 a, .int .i64 k]) l.own (.tup [.int .i64 (oneM l.d r a k).1, .csl 5 (oneM l.d r a k).2.1, .bool (oneM l.d r a k).2.2]) l.own = vcOne l r a k := by kernel_rfl
  rw [eqn]
  unfold vcOne
  obtain ⟨hB, hY, hr, ha0, ha1⟩ := h
  have hh := half_in hB.1
  have hP := posOf_eq hB.1 hr ⟨ha0, ha1⟩
  have hP0 : IntKind.i64.wrap (IntKind.i64.wrap (r * halfOf l.d) + a) = posOf l.d r a := rfl
  rw [hP0]
  refine ⟨fun hge => ?_, fun hlt => ⟨hB.ok (by omega), rfl, fun v hv => ?_⟩⟩
  · have e : oneM l.d r a k = (0, [], false) := by unfold oneM; rw [if_pos (of_decide_eq_true hge)]
    rw [e]
    exact ⟨⟨rfl, rfl, rfl⟩, ⟨⟨trivial, rfl, rfl, rfl, trivial, rfl⟩, ⟨trivial, trivial, rfl, rfl, rfl, rfl⟩, rfl, rfl, rfl⟩, rfl, rfl, rfl, trivial⟩
  · have hlt : ¬ a ≥ halfOf l.d := of_decide_eq_false hlt
    have hH := readS_ok hY (posOf l.d r a)
    have hv : v = (readS l.d (posOf l.d r a)).l := hv
    have hvl : v.length = 64 := by rw [hv]; exact Sec.h _
    refine ⟨⟨by decide, by decide, by decide, hvl⟩, ?_, ⟨by decide, by decide, by decide, hvl⟩, ?_, fun v1 h1 v2 h2 => ?_⟩
    · show (List.take 2 (List.drop 0 v)).length < _
      rw [List.length_take]; omega
    · show (List.take 4 (List.drop 2 v)).length < _
      rw [List.length_take]; omega
    have h1 : v1 = oneI (readS l.d (posOf l.d r a)) := by rw [h1, hv]; rfl
    have h2 : v2 = oneN (readS l.d (posOf l.d r a)) := by rw [h2, hv]; rfl
    have hN0 := oneN_pos hH
    subst h1 h2
    refine ⟨fun hc => ?_, fun hc => ?_⟩
    · have e : oneM l.d r a k = (0, [], false) := by unfold oneM; rw [if_neg hlt, if_pos hc]
      rw [e]
      exact ⟨⟨rfl, rfl, rfl⟩, ⟨⟨trivial, rfl, rfl, rfl, trivial, rfl⟩, ⟨trivial, trivial, rfl, rfl, rfl, rfl⟩, rfl, rfl, rfl⟩, rfl, rfl, rfl, trivial⟩
    · have hcs := hc
      simp only [Bool.or_eq_false_iff, decide_eq_false_iff_not, bne_eq_false_iff_eq] at hcs
      obtain ⟨⟨hE, hn⟩, hf⟩ := hcs
      have hnn : oneN (readS l.d (posOf l.d r a)) = ((oneN (readS l.d (posOf l.d r a))).toNat : Int) := by omega
      have hsec := secs_eq (oneN (readS l.d (posOf l.d r a))).toNat (by omega)
      rw [← hnn] at hsec
      have hsn : 64 * secsN (oneN (readS l.d (posOf l.d r a))).toNat ≤ (oneN (readS l.d (posOf l.d r a))).toNat + 63 ∧ (oneN (readS l.d (posOf l.d r a))).toNat ≤ 64 * secsN (oneN (readS l.d (posOf l.d r a))).toNat := by unfold secsN; omega
      have hf : ¬ a + secsOf (oneN (readS l.d (posOf l.d r a))) > halfOf l.d := by rw [wrap_i64_id (by omega)] at hf; exact hf
      have e : oneM l.d r a k = (oneI (readS l.d (posOf l.d r a)), oneB l.d (posOf l.d r a) (oneN (readS l.d (posOf l.d r a))), eqSec (readS l.d (posOf l.d r a)) (headS k (oneI (readS l.d (posOf l.d r a))) (oneB l.d (posOf l.d r a) (oneN (readS l.d (posOf l.d r a)))))) := by
        unfold oneM; rw [if_neg hlt, if_neg (by rw [hc]; decide)]
      rw [e]
      have mu : ∀ k : Nat, (annOne l r a).μ k = (secsOf (oneN (readS l.d (posOf l.d r a))) - 1 - (k : Int)).toNat := fun _ => rfl
      have e3 : ∀ X : Sec, List.take 64 (List.drop 0 (secL X)) = X.l := fun X => by rw [List.drop_zero]; exact List.take_of_length_le (Nat.le_of_eq X.h)
      generalize oneN (readS l.d (posOf l.d r a)) = n at *
      refine ⟨⟨0, (show ((0 : Nat) : Int) ≤ secsOf n - 1 by omega), ⟨rfl, rfl, rfl, rfl, rfl, rfl, trivial, trivial, rfl⟩, rfl, ⟨trivial, rfl, rfl, rfl, trivial, rfl⟩, ⟨trivial, trivial, rfl, rfl, rfl, rfl⟩, rfl, rfl, rfl, rfl⟩, fun g hg => ?_⟩
      have hg : (g : Int) ≤ secsOf n - 1 := hg
      refine ⟨fun hl2 => ?_, fun hl2 => ?_⟩
      · have hl2 : (g : Int) + 1 < secsOf n := of_decide_eq_true hl2
        have hm : 0 ≤ r * halfOf l.d ∧ r * halfOf l.d ≤ halfOf l.d := by
          rcases (show r = 0 ∨ r = 1 by omega) with rfl | rfl <;> omega
        have hw : IntKind.i64.wrap (posOf l.d r a + ((g : Int) + 1)) = posOf l.d r a + ((g : Int) + 1) := wrap_i64_id (by omega)
        have hE2 : readE l.d (posOf l.d r a + ((g : Int) + 1)) = 0 := read_on hE (by omega) (by omega)
        rw [hw]
        refine ⟨hB.ok (by omega), rfl, fun hx => absurd hx (by rw [hE2]; decide), fun _ => ⟨⟨by decide, by decide, by decide, Sec.h _⟩, ?_, g + 1, (show ((g + 1 : Nat) : Int) ≤ secsOf n - 1 by omega), (by rw [mu, mu]; omega), ⟨rfl, rfl, rfl, rfl, rfl, rfl, trivial, trivial, by rw [wrap_i64_id (by omega)]; omega⟩, rfl, ⟨trivial, rfl, rfl, rfl, trivial, rfl⟩, ⟨trivial, trivial, rfl, rfl, rfl, rfl⟩, rfl, rfl, rfl, ?_⟩⟩
        · rw [blk_len, List.length_take]
          omega
        · rw [e3]
          show _ = blkAt l.d (posOf l.d r a) g ++ (readS l.d (IntKind.i64.wrap (posOf l.d r a + ((g : Int) + 1)))).l
          rw [hw]
      · have hge : ¬ (g : Int) + 1 < secsOf n := of_decide_eq_false hl2
        have hgk : g = (secsOf n - 1).toNat := by omega
        have hblk : blkAt l.d (posOf l.d r a) g = blkAt l.d (posOf l.d r a) (secsOf n - 1).toNat := by rw [hgk]
        have hlen := blk_len l.d (posOf l.d r a) g
        have hb : List.take (n.toNat - 0) (List.drop 0 (blkAt l.d (posOf l.d r a) g)) = oneB l.d (posOf l.d r a) n := by
          rw [hblk, Nat.sub_zero, List.drop_zero]
          rfl
        rw [hb, hv, put_self]
        refine ⟨⟨by decide, hN0, by omega⟩, Nat.le_of_eq (Sec.h _).symm, Nat.le_of_eq (Sec.h _).symm, ?_, ⟨rfl, rfl, rfl⟩, ⟨⟨trivial, rfl, rfl, rfl, trivial, rfl⟩, ⟨trivial, trivial, rfl, rfl, rfl, rfl⟩, rfl, rfl, rfl⟩, rfl, rfl, rfl, trivial⟩
        show (oneB l.d (posOf l.d r a) n).length < _
        unfold oneB
        rw [List.length_take]
        omega
theorem okOne : FnOkH Try.prog u 37 (lookH lOne) := by
  refine fn_okH Try.prog u tab4 mo laws4 Try.func37 ?_
  intro xs os c y os2 h hc
  unfold lookH at h
  split at h
  case h_2 => cases h
  rename_i c' y' h'
  cases h
  obtain ⟨l, d, rfl, rfl, hh⟩ := lgL_eq h'
  split at hh
  · cases hh
    exact ⟨_, _, bodyOne d _ _ _ hc⟩
  · cases hh

end Go.Proofs.Ytgimkldaeobhnaa.Dsk
