/- Tries: the plain part of the law of two halves. -/
import Derived.Test.YtndacggailoogaaTrieRel
namespace Go.Proofs.Ytndacggailoogaa.Tri
open Go Go.Proofs.Ytndacggailoogaa.Sx

theorem xor_ne {a s : Int} (ha : 0 ≤ a ∧ a < 4294967296) (hs : 0 < s ∧ s < 4294967296) : bitsI .xor .u32 a s ≠ a := by
  intro h
  have h1 : ((BitVec.ofInt 32 a ^^^ BitVec.ofInt 32 s).toNat : Int) = a := by
    have h2 : IntKind.u32.wrap ((BitVec.ofInt 32 a ^^^ BitVec.ofInt 32 s).toNat : Int) = a := h
    have h3 := (BitVec.ofInt 32 a ^^^ BitVec.ofInt 32 s).isLt
    rw [wrap32 (by omega)] at h2
    exact h2
  have h4 : BitVec.ofInt 32 a ^^^ BitVec.ofInt 32 s = BitVec.ofInt 32 a := by
    apply BitVec.eq_of_toNat_eq
    rw [of32 ha]
    omega
  have h5 : BitVec.ofInt 32 s = 0#32 := by
    have h6 : BitVec.ofInt 32 a ^^^ (BitVec.ofInt 32 a ^^^ BitVec.ofInt 32 s) = BitVec.ofInt 32 a ^^^ BitVec.ofInt 32 a := by rw [h4]
    rw [← BitVec.xor_assoc, BitVec.xor_self, BitVec.zero_xor] at h6
    exact h6
  have h7 := of32 (show 0 ≤ s ∧ s < 4294967296 by omega)
  rw [h5] at h7
  have h8 : (0#32).toNat = 0 := rfl
  omega
/-- Of two halves. -/
theorem half_spec {c : Blk} (hc : V c) (hb : 1 ≤ c.bits) (hb2 : c.bits < 32) {k : Int} (hk : 0 ≤ k) {l r : Blk} (hl : l = ⟨c.base, halfN c.bits⟩) (hr : r = ⟨highA c.base c.bits, halfN c.bits⟩) {g1 g2 : Int × List Nd} (h1 : g1 = putM 0 [nd0] l.base l.bits) (h2 : g2 = putM g1.1 g1.2 r.base r.bits) {x : Int} (hx : x = atA c.base (k.tmod (sizeA c.base c.bits))) :
    putE [nd0] l.base l.bits = 0 ∧ WfN g1.2 ∧ putE g1.2 r.base r.bits = 0 ∧ WfN g2.2 ∧ sizeA c.base c.bits ≠ 0 ∧ atB c.base c.bits (k.tmod (sizeA c.base c.bits)) = true ∧ (lonB g2.2 x = true ∧ makeB (lonK g2.2 x) = true ∧ lonM g2.2 x = if hasA r.base r.bits x = true then r else l) ∧ overM g2.2 c.base c.bits = true ∧ overM g2.2 (bitsI .xor .u32 c.base (shl .u32 1 (IntKind.i64.wrap (32 - c.bits)))) c.bits = false ∧ hasM g2.2 c.base c.bits = false ∧ putE g2.2 c.base c.bits = 0 ∧ (putM g2.1 g2.2 c.base c.bits).1 = 3 := by
  obtain ⟨_, ⟨l1, l2⟩, ⟨r1, r2⟩, _, _⟩ := kids_spec hc hb2
  rw [← hl] at l1 l2
  rw [← hr] at r1 r2
  have hne : ¬ r = l := by
    rintro rfl
    rw [l2] at r2
    have := List.append_cancel_left r2
    cases this
  obtain ⟨p1, p2⟩ := rel_new.put_new (n := 0) l1 (by simp)
  rw [← h1] at p1 p2
  have hr1 : ¬ r ∈ ([] ++ [l] : List Blk) := by simpa using hne
  obtain ⟨q1, q2⟩ := p2.put_new (n := g1.1) r1 hr1
  rw [← h2] at q1 q2
  have hcl : ∀ z, z ∈ ([] ++ [l] ++ [r] : List Blk) → ∃ b, b < 2 ∧ P z = P c ++ [b] := by
    intro z hz
    simp only [List.nil_append, List.cons_append, List.mem_cons, List.not_mem_nil, or_false] at hz
    rcases hz with rfl | rfl
    · exact ⟨0, by decide, l2⟩
    · exact ⟨1, by decide, r2⟩
  have hnc : ¬ c ∈ ([] ++ [l] ++ [r] : List Blk) := by
    intro h
    obtain ⟨b, _, hb⟩ := hcl c h
    have := congrArg List.length hb
    simp at this
  have hln : g2.1 = 2 := by rw [q1, p1]; decide +kernel
  obtain ⟨nb, hnb⟩ := Int.eq_ofNat_of_zero_le (show 0 ≤ c.bits by omega)
  have hright : rightA c.base (nb : Int) = true := by rw [← hnb]; exact hc.2
  have hsz : sizeA c.base c.bits = 2 ^ (32 - nb) := by rw [hnb]; exact size_eq (by omega) hright
  have hpos := pw_pos (32 - nb)
  have hm1 : 0 ≤ k.tmod (sizeA c.base c.bits) := Int.tmod_nonneg _ hk
  have hm2 : k.tmod (sizeA c.base c.bits) < sizeA c.base c.bits := Int.tmod_lt_of_pos _ (by rw [hsz]; exact hpos)
  have hroom := room (show nb ≤ 32 by omega) hc.1 hright
  have hx2 : x = c.base + k.tmod (sizeA c.base c.bits) := by
    rw [hx]
    unfold atA
    have := hc.1
    generalize k.tmod (sizeA c.base c.bits) = j at hm1 hm2 ⊢
    rw [hsz] at hm2
    rw [wrap32 (a := j) (by omega), wrap32 (by omega)]
  have hx3 : 0 ≤ x ∧ x < 4294967296 := by have := hc.1; omega
  have hhc : hasA c.base c.bits x = true := by
    rw [hnb]
    exact (has_iff (by omega) hc.1 hx3 hright).2 (by omega)
  have hpc := (addr_pre hc hx3).1 hhc
  have hlen : (pathB x 32).length = 32 := pathB_len x 32
  have hstep : ∀ z b, V z → P z = P c ++ [b] → (hasA z.base z.bits x = true ↔ (pathB x 32)[nb]? = some b) := by
    intro z b hz hpz
    have hzb : z.bits.toNat = nb + 1 := by
      have := congrArg List.length hpz
      rw [P_len, List.length_append, P_len] at this
      simp at this
      omega
    rw [addr_pre hz hx3, hpz, hzb, List.take_add_one]
    have hcn : c.bits.toNat = nb := by omega
    rw [hcn] at hpc
    rw [hpc]
    rw [List.append_cancel_left_eq]
    cases (pathB x 32)[nb]? with
    | none => simp
    | some y => simp
  have hbit : ∃ b, b < 2 ∧ (pathB x 32)[nb]? = some b := by
    have h5 : nb < (pathB x 32).length := by omega
    exact ⟨(pathB x 32)[nb], bin_pathB x 32 _ (List.getElem_mem h5), List.getElem?_eq_getElem h5⟩
  refine ⟨(rel_new.putE l1).2 (by simp), p2.wf, (p2.putE r1).2 hr1, q2.wf, by omega, ?_, ?_, ?_, ?_, ?_, (q2.putE hc).2 hnc, ?_⟩
  · unfold atB
    rw [decide_eq_false (by omega), decide_eq_false (by omega)]
    rfl
  · obtain ⟨b, hb, hbx⟩ := hbit
    rcases q2.lon hx3 with ⟨_, _, h6⟩ | ⟨e, he, h6, h7, h8, h9, _⟩
    · exfalso
      have hl' := h6 l (by simp)
      have hr' := h6 r (by simp)
      rcases (show b = 0 ∨ b = 1 by omega) with rfl | rfl
      · rw [(hstep l 0 l1 l2).2 hbx] at hl'; cases hl'
      · rw [(hstep r 1 r1 r2).2 hbx] at hr'; cases hr'
    · refine ⟨h6, h7, ?_⟩
      rw [h8]
      simp only [List.nil_append, List.cons_append, List.mem_cons, List.not_mem_nil, or_false] at he
      rcases he with rfl | rfl
      · have h10 := (hstep e 0 l1 l2).1 h9
        rw [if_neg]
        intro h11
        rw [(hstep r 1 r1 r2).1 h11] at h10
        cases h10
      · rw [if_pos h9]
  · exact (q2.over hc.1).2 ⟨l, by simp, (lap_iff l1 hc).2 (.inl ⟨[0], l2⟩)⟩
  · generalize hbs : bitsI .xor .u32 c.base (shl .u32 1 (IntKind.i64.wrap (32 - c.bits))) = bs
    cases ho : overM g2.2 bs c.bits with
    | false => rfl
    | true =>
      exfalso
      have hrg : 0 ≤ bs ∧ bs < 4294967296 := hbs ▸ xor_rng _ _
      have hrb := ((over_iff q2.good bs c.bits).1 ho).1
      have hV : V ⟨bs, c.bits⟩ := ⟨hrg, hrb⟩
      obtain ⟨e, he, hl⟩ := (q2.over (x := ⟨bs, c.bits⟩) hrg).1 ho
      obtain ⟨b, _, hpe⟩ := hcl e he
      have hplen : (P ⟨bs, c.bits⟩).length = (P c).length := by rw [P_len, P_len]
      have hpp : P ⟨bs, c.bits⟩ = P c := by
        rcases (lap_iff (q2.val e he) hV).1 hl with ⟨r', h⟩ | ⟨r', h⟩
        · rw [hpe] at h
          exact (List.append_inj_left h hplen.symm).symm
        · have := congrArg List.length h
          rw [hpe] at this
          simp only [List.length_append, List.length_cons, List.length_nil] at this
          omega
      have hcc := congrArg Blk.base (P_inj hV hc hpp)
      have hsh : shl .u32 1 (IntKind.i64.wrap (32 - c.bits)) = 2 ^ (32 - nb) := by
        unfold shl
        rw [wrap_i64_id (by omega), show (32 - c.bits).toNat = 32 - nb by omega, show min (32 - nb) IntKind.u32.bits = 32 - nb from Nat.min_eq_left (show 32 - nb ≤ 32 by omega), Int.one_mul]
        have h12 : (2 : Int) ^ (32 - nb) ≤ 2 ^ 31 := by
          rw [← pw_cast, ← pw_cast]
          have := Nat.pow_le_pow_right (show 0 < 2 by decide) (show 32 - nb ≤ 31 by omega)
          omega
        exact wrap32 (by have : (2:Int)^31 = 2147483648 := by decide
                         omega)
      rw [hsh] at hbs
      refine xor_ne hc.1 ⟨hpos, ?_⟩ (hbs.trans hcc)
      have h12 : (2 : Int) ^ (32 - nb) ≤ 2 ^ 31 := by
        rw [← pw_cast, ← pw_cast]
        have := Nat.pow_le_pow_right (show 0 < 2 by decide) (show 32 - nb ≤ 31 by omega)
        omega
      have : (2:Int)^31 = 2147483648 := by decide
      omega
  · cases hh : hasM g2.2 c.base c.bits with
    | false => rfl
    | true => exact absurd ((q2.has hc.1).1 hh) hnc
  · rw [(q2.put_new (n := g2.1) hc hnc).1, hln]
    decide +kernel
end Go.Proofs.Ytndacggailoogaa.Tri
