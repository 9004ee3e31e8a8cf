/- Holders: the plain part of HeldScript: a map has what a row has. -/
import Derived.Test.YtfpapepjobfahaaHeldSpecC
import Derived.Test.YtfpapepjobfahaaHeldMath
import Derived.Test.YtfpapepjobfahaaMapMath
namespace Go.Proofs.Ytfpapepjobfahaa.Held
open Go Go.Proofs.Ytfpapepjobfahaa.Sx

def pr (x : Holder) : Int × Holder := (x.addr, x)
structure Sim (hs : List Holder) (m : Mp) : Prop where
  good : Good hs
  perm : List.Perm (α := Int × Holder) m (hs.map pr)
theorem has_mem {hs : List Holder} {a : Int} (h : hasH hs a = true) : getL hs a ∈ hs ∧ (getL hs a).addr = a := by
  unfold getL
  rw [if_pos h]
  obtain ⟨h1, h2⟩ := has_lt h
  exact ⟨getH_mem h1, h2⟩
theorem Sim.has {hs : List Holder} {m : Mp} (s : Sim hs m) (a : Int) : hasM m a = hasH hs a := by
  cases h : hasH hs a with
  | true =>
    obtain ⟨h1, h2⟩ := has_mem h
    refine hasM_iff.2 ⟨pr (getL hs a), ?_, h2⟩
    exact (s.perm.mem_iff).2 (List.mem_map_of_mem h1)
  | false =>
    refine hasM_false.2 fun p hp hk => ?_
    obtain ⟨x, hx, rfl⟩ := List.mem_map.1 ((s.perm.mem_iff).1 hp)
    have := (get_of_mem (srt_sorted s.good.srt) hx).1
    have hk : x.addr = a := hk
    rw [hk, h] at this
    cases this
theorem Sim.get {hs : List Holder} {m : Mp} (s : Sim hs m) (a : Int) : getM m a (zeroH : Holder) = getL hs a := by
  have h0 := s.has a
  cases h : hasH hs a with
  | true =>
    have hm := getM_mem (zeroH : Holder) (h0.trans h)
    obtain ⟨x, hx, he⟩ := List.mem_map.1 ((s.perm.mem_iff).1 hm)
    have h1 : x.addr = a := congrArg Prod.fst he
    have h2 : x = getM m a (zeroH : Holder) := congrArg Prod.snd he
    rw [← h2, ← h1]
    exact ((get_of_mem (srt_sorted s.good.srt) hx).2).symm
  | false =>
    rw [getM_none (zeroH : Holder) (h0.trans h)]
    unfold getL
    rw [if_neg (by rw [h]; simp)]
theorem Sim.len {hs : List Holder} {m : Mp} (s : Sim hs m) : m.length = hs.length := by
  have := s.perm.length_eq
  rw [List.length_map] at this
  exact this
theorem Sim.put {hs : List Holder} {m : Mp} (s : Sim hs m) {x : Holder} (h0 : putE hs x = 0) : Sim (putNew hs x) (setM m x.addr x) := by
  obtain ⟨h1, h2, h3⟩ := put_may h0
  obtain ⟨g1, _⟩ := put_good s.good h0
  refine ⟨g1, ?_⟩
  rw [setM_new (α := Holder) x ((s.has _).trans h2)]
  unfold putNew
  have e1 : hs.map pr = (hs.take (idxH hs x.addr)).map pr ++ (hs.drop (idxH hs x.addr)).map pr := by rw [← List.map_append, List.take_append_drop]
  rw [List.map_append, List.map_append, List.map_cons, List.map_nil]
  refine (List.Perm.append_right _ s.perm).trans ?_
  rw [e1, List.append_assoc, List.append_assoc]
  exact List.Perm.append_left _ List.perm_append_comm
theorem take_split {hs : List Holder} {a : Int} (h : hasH hs a = true) : hs = hs.take (idxH hs a) ++ getL hs a :: hs.drop (idxH hs a + 1) := by
  have h1 := (has_lt h).1
  have h2 : getL hs a = hs[idxH hs a] := by unfold getL; rw [if_pos h, getH_get h1]
  rw [h2, List.getElem_cons_drop, List.take_append_drop]
theorem Sim.take {hs : List Holder} {m : Mp} (s : Sim hs m) {a : Int} (h : hasH hs a = true) : Sim (takeL hs a) (delM m a) := by
  have hsp := take_split h
  have ht : takeL hs a = hs.take (idxH hs a) ++ hs.drop (idxH hs a + 1) := by unfold takeL; rw [if_pos h]
  have hp : hs.Perm (getL hs a :: takeL hs a) := by
    rw [ht]
    exact (List.Perm.of_eq hsp).trans List.perm_middle
  have hsub : (takeL hs a).Sublist hs := by
    rw [ht]
    conv => rhs; rw [hsp]
    exact List.Sublist.append_left (List.sublist_cons_self _ _) _
  refine ⟨⟨s.good.srt.sublist (hsub.map _), fun x hx => s.good.may x (hsub.subset hx), Nat.le_trans hsub.length_le s.good.len⟩, ?_⟩
  obtain ⟨v, hv⟩ := delM_perm ((s.has a).trans h)
  have hmem : (a, v) ∈ m := hv.mem_iff.2 (List.mem_cons_self ..)
  obtain ⟨x, hx, he⟩ := List.mem_map.1 ((s.perm.mem_iff).1 hmem)
  have h1 : x.addr = a := congrArg Prod.fst he
  have h2 : getL hs a = x := by rw [← h1]; exact (get_of_mem (srt_sorted s.good.srt) hx).2
  have h3 : List.Perm (α := Int × Holder) ((a, v) :: delM m a) ((a, v) :: (takeL hs a).map pr) := by
    refine hv.symm.trans (s.perm.trans ?_)
    rw [← he, ← h2]
    exact hp.map pr
  exact h3.cons_inv
theorem read_addr (a : Act) : (readA a).addr = nearA a.addr := by
  unfold readA
  split <;> rfl
theorem put_e {hs : List Holder} {m : Mp} (s : Sim hs m) (x : Holder) : putE hs x = if mayL x.owner = true then (if hasM m x.addr = true then 6 else if decide ((m.length : Int) ≥ 48) = true then 4 else 0) else 12 := by
  unfold putE
  rw [may_eq, s.has, s.len]
  cases mayL x.owner <;> rfl
theorem sim_at (xs : List Act) : ∀ k, Sim (hsAt xs k) (mpAt xs k) := by
  intro k
  induction k with
  | zero => exact ⟨⟨List.Pairwise.nil, fun x hx => (by cases hx), Nat.zero_le _⟩, .nil⟩
  | succ k ih =>
    rw [hsAt, mpAt]
    generalize hsAt xs k = hs at *
    generalize mpAt xs k = m at *
    unfold hNext mNext
    split
    · rw [ih.has]
      split
      · rename_i hh; exact ih.take hh
      · exact ih
    · have he := put_e ih (readA (getA xs k))
      cases hm : mayL (readA (getA xs k)).owner
      · rw [hm] at he
        rw [he]
        exact ih
      · rw [hm] at he
        simp only [if_true] at he ⊢
        cases hh : hasM m (readA (getA xs k)).addr
        · rw [hh] at he
          simp only [Bool.false_eq_true, if_false] at he ⊢
          split
          · rename_i hc
            have hc := eq_of_beq hc
            rw [hc] at he
            split
            · rename_i h48; rw [if_pos h48] at he; cases he
            · rw [putL_new hc]; exact ih.put hc
          · rename_i hc
            split
            · exact ih
            · rename_i h48; rw [if_neg h48] at he; rw [he] at hc; exact absurd rfl hc
        · rw [hh] at he
          simp only [if_true] at he ⊢
          rw [he]
          exact ih
end Go.Proofs.Ytfpapepjobfahaa.Held
