/- Tries: the contract of the walk over all. -/
import Derived.Test.YtndacggailoogaaTrieVcB
import Derived.Test.YtndacggailoogaaTrieWalk
namespace Go.Proofs.Ytndacggailoogaa.Tri
open Go Go.Proofs.Ytndacggailoogaa.Sx

theorem lawsV {d : Nat} (h : FnOkH Try.prog u 29 (spVisit d)) : Laws Try.prog u (tabV d) := by
  refine ⟨law, clean, fun p hp => ?_⟩
  rcases List.mem_cons.1 hp with rfl | hp
  · exact h
  · exact laws3.tab p hp
theorem bodyVisitN (d d1 : Nat) (n : Int) (ns : List Nd) (z : Option Nat) (base bits : Int) (h : d1 = d + 1 ∧ z.isSome = true ∧ (32 - bits).toNat < d1 ∧ 0 ≤ bits ∧ lenB (allN ns d1 (z.getD 0) base bits) ≤ 1000000000000) : BodyOkH Try.prog u (tabV d) [] [] Try.f29 [.np 0 (.nd z) 0, .agg [.int .u32 base, .int .i64 bits], .optr 1 0, .optr 2 0] [.ar n ns, .var [.nils], .var [.fn 29 [.optr 1 0, .optr 2 0]]] (.tup []) [.ar n ns, .var [.orow 3], .var [.fn 29 [.optr 1 0, .optr 2 0]], .row 26 (allN ns d1 (z.getD 0) base bits)] := by
  constructor
  have eqn : bodyH Try.prog u (tabV d) [] (drawW Try.prog u (tabV d)) (loopsBy u []) Try.f29 [.np 0 (.nd z) 0, .agg [.int .u32 base, .int .i64 bits], .optr 1 0, .optr 2 0] [.ar n ns, .var [.nils], .var [.fn 29 [.optr 1 0, .optr 2 0]]] (.tup []) [.ar n ns, .var [.orow 3], .var [.fn 29 [.optr 1 0, .optr 2 0]], .row 26 (allN ns d1 (z.getD 0) base bits)] = vcVisitN d d1 n ns z base bits := by kernel_rfl
  rw [eqn]
  unfold vcVisitN
  obtain ⟨rfl, hz, hd, h0, hl⟩ := h
  rw [all_step] at hl ⊢
  generalize ns.getD (z.getD 0) nd0 = x at *
  have e0 : kidN x (nat_lit 0) = x.k0 := rfl
  have e1 : kidN x (nat_lit 1) = x.k1 := rfl
  rw [e0, e1]
  have hb1 : (0 : Int) ≤ 0 ∧ (0 : Int) < 2 := by decide
  have hb2 : (0 : Int) ≤ 1 ∧ (1 : Int) < 2 := by decide
  have hb3 : nat_lit 0 < 2 := by decide
  have hb4 : nat_lit 1 < 2 := by decide
  cases h1 : x.is <;> cases h2 : halfB base bits <;> cases h3 : x.k0 <;> cases h4 : x.k1 <;> (try obtain ⟨hd2, h02⟩ := half_true h2 h0 hd) <;> simp [h1, h2, h3, h4, appB, lenB, hz] at hl ⊢ <;> (try simp only [hd2, h02, true_and, and_true]) <;> (try omega)
theorem bodyVisitR (d d1 : Nat) (n : Int) (ns : List Nd) (z : Option Nat) (base bits : Int) (xs : List Blk) (h : d1 = d + 1 ∧ z.isSome = true ∧ (32 - bits).toNat < d1 ∧ 0 ≤ bits ∧ lenB xs + lenB (allN ns d1 (z.getD 0) base bits) ≤ 1000000000000) : BodyOkH Try.prog u (tabV d) [] [] Try.f29 [.np 0 (.nd z) 0, .agg [.int .u32 base, .int .i64 bits], .optr 1 0, .optr 2 0] [.ar n ns, .var [.orow 3], .var [.fn 29 [.optr 1 0, .optr 2 0]], .row 26 xs] (.tup []) [.ar n ns, .var [.orow 4], .var [.fn 29 [.optr 1 0, .optr 2 0]], .dead, .row 26 (appB xs (allN ns d1 (z.getD 0) base bits))] := by
  constructor
  have eqn : bodyH Try.prog u (tabV d) [] (drawW Try.prog u (tabV d)) (loopsBy u []) Try.f29 [.np 0 (.nd z) 0, .agg [.int .u32 base, .int .i64 bits], .optr 1 0, .optr 2 0] [.ar n ns, .var [.orow 3], .var [.fn 29 [.optr 1 0, .optr 2 0]], .row 26 xs] (.tup []) [.ar n ns, .var [.orow 4], .var [.fn 29 [.optr 1 0, .optr 2 0]], .dead, .row 26 (appB xs (allN ns d1 (z.getD 0) base bits))] = vcVisitR d d1 n ns z base bits xs := by kernel_rfl
  rw [eqn]
  unfold vcVisitR
  obtain ⟨rfl, hz, hd, h0, hl⟩ := h
  rw [all_step] at hl ⊢
  generalize ns.getD (z.getD 0) nd0 = x at *
  have e0 : kidN x (nat_lit 0) = x.k0 := rfl
  have e1 : kidN x (nat_lit 1) = x.k1 := rfl
  rw [e0, e1]
  have hb1 : (0 : Int) ≤ 0 ∧ (0 : Int) < 2 := by decide
  have hb2 : (0 : Int) ≤ 1 ∧ (1 : Int) < 2 := by decide
  have hb3 : nat_lit 0 < 2 := by decide
  have hb4 : nat_lit 1 < 2 := by decide
  cases h1 : x.is <;> cases h2 : halfB base bits <;> cases h3 : x.k0 <;> cases h4 : x.k1 <;> (try obtain ⟨hd2, h02⟩ := half_true h2 h0 hd) <;> simp [h1, h2, h3, h4, appB, lenB, hz] at hl ⊢ <;> (try simp only [hd2, h02, true_and, and_true]) <;> (try omega)
theorem okVisit : ∀ d, FnOkH Try.prog u 29 (spVisit d)
  | 0 => by
    intro xs os c y os2 h hc
    exfalso
    unfold spVisit at h
    split at h
    · cases h; exact absurd hc.2.1 (Nat.not_lt_zero _)
    · cases h; exact absurd hc.2.1 (Nat.not_lt_zero _)
    · cases h
  | d + 1 => by
    refine fn_okH Try.prog u (tabV d) mo (lawsV (okVisit d)) Try.func29 ?_
    intro xs os c y os2 h hc
    unfold spVisit at h
    split at h
    · cases h
      exact ⟨_, _, bodyVisitR d (d + 1) _ _ _ _ _ _ ⟨rfl, hc⟩⟩
    · cases h
      exact ⟨_, _, bodyVisitN d (d + 1) _ _ _ _ _ ⟨rfl, hc⟩⟩
    · cases h
theorem bodyAll (n : Int) (ns : List Nd) (h : lenB (allM ns) ≤ 1000000000000) : BodyOkH Try.prog u (tabV 33) [] [] Try.f15 [.np 0 (.nd (some 0)) 0] [.ar n ns] (.orow 1) [.ar n ns, .row 26 (allM ns)] := by
  constructor
  have eqn : bodyH Try.prog u (tabV 33) [] (drawW Try.prog u (tabV 33)) (loopsBy u []) Try.f15 [.np 0 (.nd (some 0)) 0] [.ar n ns] (.orow 1) [.ar n ns, .row 26 (allM ns)] = vcAll n ns := by kernel_rfl
  rw [eqn]
  exact ⟨rfl, ⟨rfl, by decide, by decide, h⟩, trivial, ⟨⟨rfl, rfl⟩, rfl⟩, Nat.le_refl _, trivial⟩
theorem okAll : FnOkH Try.prog u 15 spAll := by
  refine fn_okH Try.prog u (tabV 33) mo (lawsV (okVisit 33)) Try.func15 ?_
  intro xs os c y os2 h hc
  unfold spAll at h
  split at h
  · cases h
    exact ⟨_, _, bodyAll _ _ hc⟩
  · cases h
theorem laws6 : Laws Try.prog u tab6 := by
  refine ⟨law, clean, fun p hp => ?_⟩
  rcases List.mem_cons.1 hp with rfl | hp
  · exact okAll
  exact laws5.tab p hp

end Go.Proofs.Ytndacggailoogaa.Tri
