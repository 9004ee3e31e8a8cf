/- Holders: the law HeldScript, by the bodies' contracts. -/
import Derived.Test.YtfpapepjobfahaaHeldVcC
import Derived.Test.YtfpapepjobfahaaHeldMathC
import Derived.Test.YtfpapepjobfahaaHeldWalkB
namespace Go.Proofs.Ytfpapepjobfahaa.Held
open Go Go.Proofs.Ytfpapepjobfahaa.Sx

/-! ### HeldScript -/
theorem takeE_no {hs : List Holder} {a : Int} (h : hasH hs a = false) : takeE hs a = 7 := by unfold takeE; rw [h]; rfl
theorem takeE_yes {hs : List Holder} {a : Int} (h : hasH hs a = true) : takeE hs a = 0 := by unfold takeE; rw [h]; rfl
theorem takeL_no {hs : List Holder} {a : Int} (h : hasH hs a = false) : takeL hs a = [] := by unfold takeL; rw [h]; rfl
theorem putL_no {hs : List Holder} {x : Holder} (h : putE hs x ≠ 0) : putL hs x = [] := by
  unfold putL
  rw [if_neg (fun hc => h (eq_of_beq hc))]
theorem neq_false {x y : Holder} {p q : Bool} (h : x = y) (h2 : p = q) : (!(x.addr == y.addr && (x.owner.toList == y.owner.toList && (x.mac.m0 == y.mac.m0 && (x.mac.m1 == y.mac.m1 && (x.mac.m2 == y.mac.m2 && (x.mac.m3 == y.mac.m3 && (x.mac.m4 == y.mac.m4 && (x.mac.m5 == y.mac.m5 && true))))) && true))) || !p == q) = false := by
  subst h; subst h2
  simp
theorem tail_ok (X : List Act) (g : Nat) (hg : g < X.length) (hl : X.length < 9223372036854775808) (want v26 : Int) (v27 hs : List Holder) (m2 : Mp) (he : v26 = want) (h27 : v26 ≠ 0 → v27 = []) (hrow : (if (v26 == 0) = true then v27 else hs) = hsAt X (g + 1)) (hm : m2 = mpAt X (g + 1)) :
    ∀ (v : Bool), v = (v26 != want || v26 != 0 && (v27.length : Int) != 0) → (v = true → false = true) ∧ (v = false → ((v26 == 0) = true → True) ∧ ((v26 == 0) = false → True) ∧ ∀ v : List Holder, v = (if (v26 == 0) = true then v27 else hs) → ((((v.length : Int) != (m2.length : Int)) = false → rowOk v) ∧ (((v.length : Int) != m2.length || !rightB v) = true → false = true) ∧ (((v.length : Int) != m2.length || !rightB v) = false → ∃ g1 : Nat, g1.le X.length ∧ (annScript X).μ g1 < (annScript X).μ g ∧ (X = X ∧ (X.length : Int) = X.length ∧ IntKind.i64.wrap (g + 1) = g1 ∧ v = hsAt X g1 ∧ True) ∧ m2 = mpAt X g1))) := by
  intro v hv
  have hvf : v = false := by
    rw [hv, he]
    by_cases h0 : want = 0
    · simp [h0]
    · rw [h27 (by omega)]; simp
  refine ⟨fun h => absurd (h.symm.trans hvf) (by decide), fun _ => ⟨fun _ => trivial, fun _ => trivial, ?_⟩⟩
  intro r hr
  have S := sim_at X (g + 1)
  have hr : r = hsAt X (g + 1) := hr.trans hrow
  subst hr
  subst hm
  have hb : ((((hsAt X (g + 1)).length : Int) != ((mpAt X (g + 1)).length : Int)) || !rightB (hsAt X (g + 1))) = false := by
    rw [S.len, S.good.right]
    simp
  exact ⟨fun _ => S.good.row, fun h => absurd (h.symm.trans hb) (by decide), fun _ => ⟨g + 1, hg, show X.length - (g + 1) < X.length - g by omega, ⟨rfl, rfl, wrap_next (show (g : Int) < (X.length : Int) by omega) (by omega), rfl, trivial⟩, rfl⟩⟩
theorem nt {b : Bool} (h : (!b) = true) : b = false := by cases b <;> first | rfl | cases h
theorem nf {b : Bool} (h : (!b) = false) : b = true := by cases b <;> first | rfl | cases h
theorem bodyLScript (xs : List Act) (h : actsOk2 xs) : BodyOk Try.prog u tab6 [107006, 108007, 111008, 111009, 112010, 112011, 113064, 119013, 119014, 123013, 123014, 124087, 131108, 135119] [(0, .inv (annScript (headS xs 150)))] Try.f8 [.csl 58 xs] (.bool true) := by
  constructor
  have eqn : bodyW Try.prog u tab6 [107006, 108007, 111008, 111009, 112010, 112011, 113064, 119013, 119014, 123013, 123014, 124087, 131108, 135119] (drawW Try.prog u tab6) (loopsBy u [(0, .inv (annScript (headS xs 150)))]) Try.f8 [.csl 58 xs] (.bool true) = vcLScript xs := by kernel_rfl
  rw [eqn]
  unfold vcLScript
  obtain ⟨⟨hl, hn⟩, hs⟩ := h
  have hl : xs.length < 9223372036854775808 := hl
  have hX : nOk (headS xs 150) := nOk_head hn 150
  have hS : ∀ a ∈ headS xs 150, strOk a.any := fun a ha => hs a (List.mem_of_mem_take (List.mem_of_mem_drop ha))
  have hhl := headS_len xs 150
  refine ⟨fun h => absurd h (by decide), fun _ => ⟨⟨Int.le_refl _, by unfold mn; split <;> omega, by unfold mn; split <;> omega⟩, ⟨0, Nat.zero_le _, ⟨rfl, rfl, rfl, rfl, trivial⟩, rfl⟩, fun g hg => ⟨fun hlt => ?_, fun _ => rfl⟩⟩⟩
  have hlt : (g : Int) < ((headS xs 150).length : Int) := of_decide_eq_true hlt
  have hlt' : g < (headS xs 150).length := by omega
  have hm := getA_mem hlt'
  have ha := hX _ hm
  have hstr := hS _ hm
  have hlX : (headS xs 150).length < 9223372036854775808 := by omega
  refine ⟨⟨by omega, hlt⟩, ?_⟩
  rintro _ rfl _ rfl _ rfl
  refine ⟨ha.2, ?_⟩
  rintro _ rfl _ rfl _ rfl _ rfl _ rfl _ rfl _ rfl
  refine ⟨fun _ => by decide, fun hany => ?_, fun hany => ?_⟩
  · have hR : readA (getA (headS xs 150) g) = ⟨nearA (getA (headS xs 150) g).addr, (getA (headS xs 150) g).any, station (getA (headS xs 150) g).who⟩ := by
      unfold readA
      exact if_pos hany
    have ho : (getA (headS xs 150) g).any.size < 9223372036854775808 := hstr
    have S := sim_at (headS xs 150) g
    rintro _ rfl _ rfl _ rfl _ rfl _ rfl _ rfl _ rfl _ rfl
    refine ⟨S.good.find, ?_⟩
    rintro _ rfl _ rfl _ rfl _ rfl _ rfl _ rfl _ rfl _ rfl
    intro v25 h25
    have e25 : v25 = false := h25.trans (neq_false (S.get _).symm (S.has _).symm)
    refine ⟨fun h => absurd (h.symm.trans e25) (by decide), fun _ => ⟨fun htk => ?_, fun htk => ?_⟩⟩
    · have htk : (getA (headS xs 150) g).take = true := htk
      refine ⟨S.good.find, ?_⟩
      intro v26 h26 v27 h27
      have hN : hsAt (headS xs 150) (g + 1) = if hasH (hsAt (headS xs 150) g) (nearA (getA (headS xs 150) g).addr) = true then takeL (hsAt (headS xs 150) g) (nearA (getA (headS xs 150) g).addr) else hsAt (headS xs 150) g := by
        show hNext _ _ = _
        unfold hNext
        rw [if_pos htk, hR]
      have hM : mpAt (headS xs 150) (g + 1) = if hasM (mpAt (headS xs 150) g) (nearA (getA (headS xs 150) g).addr) = true then delM (mpAt (headS xs 150) g) (nearA (getA (headS xs 150) g).addr) else mpAt (headS xs 150) g := by
        show mNext _ _ = _
        unfold mNext
        rw [if_pos htk, hR]
      have hsh := S.has (nearA (getA (headS xs 150) g).addr)
      refine ⟨fun hv => ?_, fun hv => ?_⟩
      · have hv : hasM (mpAt (headS xs 150) g) (nearA (getA (headS xs 150) g).addr) = false := nt hv
        rw [hv] at hM hsh
        rw [← hsh] at hN
        have e26 : v26 = 7 := h26.trans (takeE_no hsh.symm)
        exact tail_ok (headS xs 150) g hlt' hlX 7 v26 v27 _ _ e26 (fun _ => h27.trans (takeL_no hsh.symm)) (by rw [e26]; exact hN.symm) hM.symm
      · have hv : hasM (mpAt (headS xs 150) g) (nearA (getA (headS xs 150) g).addr) = true := nf hv
        rw [hv] at hM hsh
        rw [← hsh] at hN
        have e26 : v26 = 0 := h26.trans (takeE_yes hsh.symm)
        exact tail_ok (headS xs 150) g hlt' hlX 0 v26 v27 _ _ e26 (fun h => absurd e26 h) (by rw [e26, h27]; exact hN.symm) hM.symm
    · have htk : (getA (headS xs 150) g).take = false := htk
      have hp : putE (hsAt (headS xs 150) g) ⟨nearA (getA (headS xs 150) g).addr, (getA (headS xs 150) g).any, station (getA (headS xs 150) g).who⟩ = if mayL ((getA (headS xs 150) g).any) = true then (if hasM (mpAt (headS xs 150) g) (nearA (getA (headS xs 150) g).addr) = true then 6 else if decide (((mpAt (headS xs 150) g).length : Int) ≥ 48) = true then 4 else 0) else 12 := by
        have := put_e S (readA (getA (headS xs 150) g))
        rw [hR] at this
        exact this
      have hN : hsAt (headS xs 150) (g + 1) = if (putE (hsAt (headS xs 150) g) ⟨nearA (getA (headS xs 150) g).addr, (getA (headS xs 150) g).any, station (getA (headS xs 150) g).who⟩ == 0) = true then putL (hsAt (headS xs 150) g) ⟨nearA (getA (headS xs 150) g).addr, (getA (headS xs 150) g).any, station (getA (headS xs 150) g).who⟩ else hsAt (headS xs 150) g := by
        show hNext _ _ = _
        unfold hNext
        rw [if_neg (fun hc => absurd (hc.symm.trans htk) (by decide)), hR]
      have hM : mpAt (headS xs 150) (g + 1) = if mayL ((getA (headS xs 150) g).any) = true then (if hasM (mpAt (headS xs 150) g) (nearA (getA (headS xs 150) g).addr) = true then mpAt (headS xs 150) g else if decide (((mpAt (headS xs 150) g).length : Int) ≥ 48) = true then mpAt (headS xs 150) g else setM (mpAt (headS xs 150) g) (nearA (getA (headS xs 150) g).addr) ⟨nearA (getA (headS xs 150) g).addr, (getA (headS xs 150) g).any, station (getA (headS xs 150) g).who⟩) else mpAt (headS xs 150) g := by
        show mNext _ _ = _
        unfold mNext
        rw [if_neg (fun hc => absurd (hc.symm.trans htk) (by decide)), hR]
      refine ⟨⟨S.good.find, ho⟩, ?_⟩
      intro v26 h26 v27 h27
      have h27' : v26 ≠ 0 → v27 = [] := fun h => h27.trans (putL_no (fun e => h (h26.trans e)))
      have hrow : (if (v26 == 0) = true then v27 else hsAt (headS xs 150) g) = hsAt (headS xs 150) (g + 1) := by rw [h26, h27]; exact hN.symm
      refine ⟨ho, ?_⟩
      intro v28 _
      refine ⟨fun hmay => ?_, fun hmay => ⟨fun hh => ?_, fun hh => ⟨fun h48 => ?_, fun h48 => ?_⟩⟩⟩
      · have hmay : mayL ((getA (headS xs 150) g).any) = false := nt hmay
        rw [hmay] at hp hM
        exact tail_ok (headS xs 150) g hlt' hlX 12 v26 v27 _ _ (h26.trans hp) h27' hrow hM.symm
      · have hmay : mayL ((getA (headS xs 150) g).any) = true := nf hmay
        have hh : hasM (mpAt (headS xs 150) g) (nearA (getA (headS xs 150) g).addr) = true := hh
        rw [hmay, hh] at hp hM
        exact tail_ok (headS xs 150) g hlt' hlX 6 v26 v27 _ _ (h26.trans hp) h27' hrow hM.symm
      · have hmay : mayL ((getA (headS xs 150) g).any) = true := nf hmay
        have hh : hasM (mpAt (headS xs 150) g) (nearA (getA (headS xs 150) g).addr) = false := hh
        have h48 : decide (((mpAt (headS xs 150) g).length : Int) ≥ 48) = true := h48
        rw [hmay, hh, h48] at hp hM
        exact tail_ok (headS xs 150) g hlt' hlX 4 v26 v27 _ _ (h26.trans hp) h27' hrow hM.symm
      · have hmay : mayL ((getA (headS xs 150) g).any) = true := nf hmay
        have hh : hasM (mpAt (headS xs 150) g) (nearA (getA (headS xs 150) g).addr) = false := hh
        have h48 : decide (((mpAt (headS xs 150) g).length : Int) ≥ 48) = false := h48
        rw [hmay, hh, h48] at hp hM
        exact tail_ok (headS xs 150) g hlt' hlX 0 v26 v27 _ _ (h26.trans hp) h27' hrow hM.symm
  · have hR : readA (getA (headS xs 150) g) = ⟨nearA (getA (headS xs 150) g).addr, ownerA (getA (headS xs 150) g).owner, station (getA (headS xs 150) g).who⟩ := by
      unfold readA
      exact if_neg (fun hc => absurd (hc.symm.trans hany) (by decide))
    have ho : (ownerA (getA (headS xs 150) g).owner).size < 9223372036854775808 := Nat.lt_of_le_of_lt (owner_may ha.2).2 (by decide)
    have S := sim_at (headS xs 150) g
    rintro _ rfl _ rfl _ rfl _ rfl _ rfl _ rfl _ rfl _ rfl
    refine ⟨S.good.find, ?_⟩
    rintro _ rfl _ rfl _ rfl _ rfl _ rfl _ rfl _ rfl _ rfl
    intro v25 h25
    have e25 : v25 = false := h25.trans (neq_false (S.get _).symm (S.has _).symm)
    refine ⟨fun h => absurd (h.symm.trans e25) (by decide), fun _ => ⟨fun htk => ?_, fun htk => ?_⟩⟩
    · have htk : (getA (headS xs 150) g).take = true := htk
      refine ⟨S.good.find, ?_⟩
      intro v26 h26 v27 h27
      have hN : hsAt (headS xs 150) (g + 1) = if hasH (hsAt (headS xs 150) g) (nearA (getA (headS xs 150) g).addr) = true then takeL (hsAt (headS xs 150) g) (nearA (getA (headS xs 150) g).addr) else hsAt (headS xs 150) g := by
        show hNext _ _ = _
        unfold hNext
        rw [if_pos htk, hR]
      have hM : mpAt (headS xs 150) (g + 1) = if hasM (mpAt (headS xs 150) g) (nearA (getA (headS xs 150) g).addr) = true then delM (mpAt (headS xs 150) g) (nearA (getA (headS xs 150) g).addr) else mpAt (headS xs 150) g := by
        show mNext _ _ = _
        unfold mNext
        rw [if_pos htk, hR]
      have hsh := S.has (nearA (getA (headS xs 150) g).addr)
      refine ⟨fun hv => ?_, fun hv => ?_⟩
      · have hv : hasM (mpAt (headS xs 150) g) (nearA (getA (headS xs 150) g).addr) = false := nt hv
        rw [hv] at hM hsh
        rw [← hsh] at hN
        have e26 : v26 = 7 := h26.trans (takeE_no hsh.symm)
        exact tail_ok (headS xs 150) g hlt' hlX 7 v26 v27 _ _ e26 (fun _ => h27.trans (takeL_no hsh.symm)) (by rw [e26]; exact hN.symm) hM.symm
      · have hv : hasM (mpAt (headS xs 150) g) (nearA (getA (headS xs 150) g).addr) = true := nf hv
        rw [hv] at hM hsh
        rw [← hsh] at hN
        have e26 : v26 = 0 := h26.trans (takeE_yes hsh.symm)
        exact tail_ok (headS xs 150) g hlt' hlX 0 v26 v27 _ _ e26 (fun h => absurd e26 h) (by rw [e26, h27]; exact hN.symm) hM.symm
    · have htk : (getA (headS xs 150) g).take = false := htk
      have hp : putE (hsAt (headS xs 150) g) ⟨nearA (getA (headS xs 150) g).addr, ownerA (getA (headS xs 150) g).owner, station (getA (headS xs 150) g).who⟩ = if mayL (ownerA (getA (headS xs 150) g).owner) = true then (if hasM (mpAt (headS xs 150) g) (nearA (getA (headS xs 150) g).addr) = true then 6 else if decide (((mpAt (headS xs 150) g).length : Int) ≥ 48) = true then 4 else 0) else 12 := by
        have := put_e S (readA (getA (headS xs 150) g))
        rw [hR] at this
        exact this
      have hN : hsAt (headS xs 150) (g + 1) = if (putE (hsAt (headS xs 150) g) ⟨nearA (getA (headS xs 150) g).addr, ownerA (getA (headS xs 150) g).owner, station (getA (headS xs 150) g).who⟩ == 0) = true then putL (hsAt (headS xs 150) g) ⟨nearA (getA (headS xs 150) g).addr, ownerA (getA (headS xs 150) g).owner, station (getA (headS xs 150) g).who⟩ else hsAt (headS xs 150) g := by
        show hNext _ _ = _
        unfold hNext
        rw [if_neg (fun hc => absurd (hc.symm.trans htk) (by decide)), hR]
      have hM : mpAt (headS xs 150) (g + 1) = if mayL (ownerA (getA (headS xs 150) g).owner) = true then (if hasM (mpAt (headS xs 150) g) (nearA (getA (headS xs 150) g).addr) = true then mpAt (headS xs 150) g else if decide (((mpAt (headS xs 150) g).length : Int) ≥ 48) = true then mpAt (headS xs 150) g else setM (mpAt (headS xs 150) g) (nearA (getA (headS xs 150) g).addr) ⟨nearA (getA (headS xs 150) g).addr, ownerA (getA (headS xs 150) g).owner, station (getA (headS xs 150) g).who⟩) else mpAt (headS xs 150) g := by
        show mNext _ _ = _
        unfold mNext
        rw [if_neg (fun hc => absurd (hc.symm.trans htk) (by decide)), hR]
      refine ⟨⟨S.good.find, ho⟩, ?_⟩
      intro v26 h26 v27 h27
      have h27' : v26 ≠ 0 → v27 = [] := fun h => h27.trans (putL_no (fun e => h (h26.trans e)))
      have hrow : (if (v26 == 0) = true then v27 else hsAt (headS xs 150) g) = hsAt (headS xs 150) (g + 1) := by rw [h26, h27]; exact hN.symm
      refine ⟨ho, ?_⟩
      intro v28 _
      refine ⟨fun hmay => ?_, fun hmay => ⟨fun hh => ?_, fun hh => ⟨fun h48 => ?_, fun h48 => ?_⟩⟩⟩
      · have hmay : mayL (ownerA (getA (headS xs 150) g).owner) = false := nt hmay
        rw [hmay] at hp hM
        exact tail_ok (headS xs 150) g hlt' hlX 12 v26 v27 _ _ (h26.trans hp) h27' hrow hM.symm
      · have hmay : mayL (ownerA (getA (headS xs 150) g).owner) = true := nf hmay
        have hh : hasM (mpAt (headS xs 150) g) (nearA (getA (headS xs 150) g).addr) = true := hh
        rw [hmay, hh] at hp hM
        exact tail_ok (headS xs 150) g hlt' hlX 6 v26 v27 _ _ (h26.trans hp) h27' hrow hM.symm
      · have hmay : mayL (ownerA (getA (headS xs 150) g).owner) = true := nf hmay
        have hh : hasM (mpAt (headS xs 150) g) (nearA (getA (headS xs 150) g).addr) = false := hh
        have h48 : decide (((mpAt (headS xs 150) g).length : Int) ≥ 48) = true := h48
        rw [hmay, hh, h48] at hp hM
        exact tail_ok (headS xs 150) g hlt' hlX 4 v26 v27 _ _ (h26.trans hp) h27' hrow hM.symm
      · have hmay : mayL (ownerA (getA (headS xs 150) g).owner) = true := nf hmay
        have hh : hasM (mpAt (headS xs 150) g) (nearA (getA (headS xs 150) g).addr) = false := hh
        have h48 : decide (((mpAt (headS xs 150) g).length : Int) ≥ 48) = false := h48
        rw [hmay, hh, h48] at hp hM
        exact tail_ok (headS xs 150) g hlt' hlX 0 v26 v27 _ _ (h26.trans hp) h27' hrow hM.symm
theorem okLScript : FnOk Try.prog u 8 spLScript := by
  refine fn_ok Try.prog u tab6 mo laws6 Try.func8 ?_
  intro xs c y h hc
  unfold spLScript at h
  split at h
  · cases h
    exact ⟨by kernel_rfl, _, _, bodyLScript _ hc⟩
  · cases h
end Go.Proofs.Ytfpapepjobfahaa.Held
