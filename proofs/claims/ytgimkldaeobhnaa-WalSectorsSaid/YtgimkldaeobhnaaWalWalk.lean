/- The disk: the contracts of its functions. -/
import Derived.Test.YtgimkldaeobhnaaWalVc
import Derived.Test.YtgimkldaeobhnaaWalMath
namespace Go.Proofs.Ytgimkldaeobhnaa.Dsk
open Go Go.Proofs.Ytgimkldaeobhnaa.Sx

theorem dkL_eq {f : List (SV A) → Dk → Option (Option Prop × SV A)} {xs : List (SV A)} {os : List (Own A)} {r : Option Prop × SV A} (h : dkL f xs os = some r) : ∃ l d, xs = .optr 0 0 :: l ∧ os = d.own ∧ f l d = some r := by
  unfold dkL at h
  split at h
  · rename_i l a b dn c ks ws
    exact ⟨l, ⟨ks, ws, a, b, dn, c⟩, rfl, rfl, h⟩
  · cases h
theorem dkH_eq {f : List (SV A) → Dk → Option (Option Prop × SV A × List (Own A))} {xs : List (SV A)} {os : List (Own A)} {r : Option Prop × SV A × List (Own A)} (h : dkH f xs os = some r) : ∃ l d, xs = .optr 0 0 :: l ∧ os = d.own ∧ f l d = some r := by
  unfold dkH at h
  split at h
  · rename_i l a b dn c ks ws
    exact ⟨l, ⟨ks, ws, a, b, dn, c⟩, rfl, rfl, h⟩
  · cases h
theorem decW'_eq {l : List (SV A)} {x : Wr} (h : decW' l = some x) : l = .int .i64 x.at_ :: x.data.cells := by
  unfold decW' at h
  split at h
  · obtain ⟨h1, h2⟩ := decW_eq h
    rw [h1, h2]
  · cases h
theorem decI_eq {l : List (SV A)} {x : Int} (h : decI l = some x) : l = [.int .u8 x] := by
  unfold decI at h
  split at h
  · cases h; rfl
  · cases h
theorem sec_dec {l : List (SV A)} {x : Sec} (h : decS l = some x) : l = enc 53 x ∧ l.length = Try.prog.cellsOf 53 := by
  have h := decS_eq h
  rw [h]
  exact ⟨by kernel_rfl, by kernel_rfl⟩
theorem wr_dec {l : List (SV A)} {x : Wr} (h : decW' l = some x) : l = enc 68 x ∧ l.length = Try.prog.cellsOf 68 := by
  have h := decW'_eq h
  rw [h]
  exact ⟨by kernel_rfl, by kernel_rfl⟩
theorem decB_sound {e : E A} {l : List (SV A)} {vs : List Value} {x : List Int} (h : decB l = some x) (hr : RepL Try.prog u e l vs) : RepL Try.prog u e (enc 22 x) vs := by
  unfold decB at h
  split at h
  · cases h; exact hr
  · cases h
    cases hr with
    | nils h0 => exact .csl _ [] none 0 0 (fun _ => []) rfl (Nat.le_refl _) (.inl rfl) (fun i hi => by simp at hi) (fun i x hi => by simp at hi) h0
  · cases h
    cases hr with
    | zsl z h0 => exact .csl _ [] z 0 0 (fun _ => []) rfl (Nat.le_refl _) (.inl rfl) (fun i hi => by simp at hi) (fun i x hi => by simp at hi) h0
  · cases h
theorem decB_len {l : List (SV A)} {x : List Int} (h : decB l = some x) : l.length = Try.prog.cellsOf 22 := by
  unfold decB at h
  split at h
  · kernel_rfl
  · kernel_rfl
  · kernel_rfl
  · cases h
theorem decT_eq {l : List (SV A)} {x : ByteArray} (h : decT l = some x) : l = [.str x] := by
  unfold decT at h
  split at h
  · cases h; rfl
  · cases h
theorem decA_eq {l : List (SV A)} {x : Act} (h : decA l = some x) : l = enc 39 x := by
  unfold decA at h
  split at h
  · cases h; rfl
  · cases h
theorem decI_len {l : List (SV A)} {x : Int} (h : decI l = some x) : l.length = Try.prog.cellsOf 5 := by
  rw [decI_eq h]
  exact (by kernel_rfl : ([SV.int .u8 x] : List (SV A)).length = Try.prog.cellsOf 5)
theorem decT_len {l : List (SV A)} {x : ByteArray} (h : decT l = some x) : l.length = Try.prog.cellsOf 9 := by
  rw [decT_eq h]
  exact (by kernel_rfl : ([SV.str x] : List (SV A)).length = Try.prog.cellsOf 9)
theorem decA_len {l : List (SV A)} {x : Act} (h : decA l = some x) : l.length = Try.prog.cellsOf 39 := by
  rw [decA_eq h]
  exact (by kernel_rfl : (enc 39 x).length = Try.prog.cellsOf 39)
theorem dec_sound {e : E A} {T : Nat} {l : List (SV A)} {vs : List Value} {x : A T} (h : dec T l = some x) (hr : RepL Try.prog u e l vs) : RepL Try.prog u e (enc T x) vs := by
  unfold dec at h
  split at h
  · rename_i hT; subst hT; rw [(sec_dec h).1] at hr; exact hr
  · split at h
    · rename_i hT; subst hT; rw [(wr_dec h).1] at hr; exact hr
    · split at h
      · rename_i hT; subst hT; have h := decI_eq h; subst h; exact hr
      · split at h
        · rename_i hT; subst hT; exact decB_sound h hr
        · split at h
          · rename_i hT; subst hT; have h := decT_eq h; subst h; exact hr
          · split at h
            · rename_i hT; subst hT; have h := decA_eq h; subst h; exact hr
            · cases h
theorem dec_len {T : Nat} {l : List (SV A)} {x : A T} (h : dec T l = some x) : l.length = Try.prog.cellsOf T := by
  unfold dec at h
  split at h
  · rename_i hT; subst hT; exact (sec_dec h).2
  · split at h
    · rename_i hT; subst hT; exact (wr_dec h).2
    · split at h
      · rename_i hT; subst hT; exact decI_len h
      · split at h
        · rename_i hT; subst hT; exact decB_len h
        · split at h
          · rename_i hT; subst hT; exact decT_len h
          · split at h
            · rename_i hT; subst hT; exact decA_len h
            · cases h
theorem sec_part : PartIs Try.prog u 0 secP := by
  refine ⟨by kernel_rfl, Nat.le_of_ble_eq_true (by kernel_rfl), fun x => by kernel_rfl, fun x => Sec.h x, ?_, ?_, ?_⟩
  · intro (x : Sec) i (y : Int) h
    refine ⟨.int .u8 y, ?_, rfl⟩
    show (Sec.cells (A := A) x)[0 + i]? = _
    have h : (Sec.l x)[i]? = some y := h
    rw [Sec.cells_map, Nat.zero_add, List.getElem?_map, h]
    rfl
  · intro x (l : List Int) hl i (y : Int) (h : l[i]? = some y)
    refine ⟨.int .u8 y, ?_, rfl⟩
    show (Sec.cells (A := A) (Sec.of l))[0 + i]? = _
    rw [Sec.cells_map, Sec.of_l hl, Nat.zero_add, List.getElem?_map, h]
    rfl
  · intro (x : Sec) (l : List Int) hl k hk
    show (Sec.cells (A := A) (Sec.of l))[k]? = (Sec.cells (A := A) x)[k]?
    have hk : 64 ≤ k := by
      rcases hk with h | h
      · omega
      · have h : 0 + 64 ≤ k := h
        omega
    rw [List.getElem?_eq_none (by rw [Sec.cells_len]; exact hk), List.getElem?_eq_none (by rw [Sec.cells_len]; exact hk)]
theorem wr_part : PartIs Try.prog u 1 wrP := by
  refine ⟨by kernel_rfl, Nat.le_of_ble_eq_true (by kernel_rfl), fun x => by kernel_rfl, fun x => Sec.h (Wr.data x), ?_, ?_, ?_⟩
  · intro (x : Wr) i (y : Int) h
    refine ⟨.int .u8 y, ?_, rfl⟩
    show (SV.int .i64 (Wr.at_ x) :: Sec.cells (A := A) (Wr.data x))[1 + i]? = _
    have h : (Sec.l (Wr.data x))[i]? = some y := h
    rw [Nat.add_comm, List.getElem?_cons_succ, Sec.cells_map, List.getElem?_map, h]
    rfl
  · intro x (l : List Int) hl i (y : Int) (h : l[i]? = some y)
    refine ⟨.int .u8 y, ?_, rfl⟩
    show (SV.int .i64 (Wr.at_ x) :: Sec.cells (A := A) (Sec.of l))[1 + i]? = _
    rw [Nat.add_comm, List.getElem?_cons_succ, Sec.cells_map, Sec.of_l hl, List.getElem?_map, h]
    rfl
  · intro (x : Wr) (l : List Int) hl k hk
    show (SV.int .i64 (Wr.at_ x) :: Sec.cells (A := A) (Sec.of l))[k]? = (SV.int .i64 (Wr.at_ x) :: Sec.cells (A := A) (Wr.data x))[k]?
    cases k with
    | zero => rfl
    | succ k =>
      have hk : 64 ≤ k := by
        rcases hk with h | h
        · omega
        · have h : 1 + 64 ≤ k + 1 := h
          omega
      rw [List.getElem?_cons_succ, List.getElem?_cons_succ, List.getElem?_eq_none (by rw [Sec.cells_len]; exact hk), List.getElem?_eq_none (by rw [Sec.cells_len]; exact hk)]
theorem bld0 : buildO Try.prog u 53 [] = some (.agg (u.enc 53 zeroS)) := by kernel_rfl
theorem bld1 (n : Int) : buildO Try.prog u 53 [(0, .int .u8 n)] = some (.agg (u.enc 53 (Sec.of (n :: List.replicate 63 0)))) := by kernel_rfl
theorem bld2 : buildO Try.prog u 68 [] = some (.agg (u.enc 68 zeroW)) := by kernel_rfl
theorem bld3 (n : Int) (s : Sec) : buildO Try.prog u 68 [(0, .int .i64 n), (1, .el 53 s)] = some (.agg (u.enc 68 (⟨n, s⟩ : Wr))) := by kernel_rfl
theorem law : Law Try.prog u where
  dec := fun e T l vs x h hr => dec_sound h hr
  len := fun T l x h => dec_len h
  eqv := by
    intro T f x y h
    have h : eqv T = some f := h
    unfold eqv at h
    split at h
    · cases h
      show eqT Try.prog 8 53 (Sec.cells x) (Sec.cells y) = some (eqSec x y)
      kernel_rfl
    · cases h
  cells := by
    intro T x
    show (enc T x).all _ = true
    unfold enc
    split <;> rfl
  nums := by
    intro T xs h
    have h : isByte T = true := h
    unfold isByte at h
    split at h
    · exact ⟨rfl, fun i x hi => ⟨x, hi, rfl⟩⟩
    · cases h
  ofNums := by
    intro T xs h
    have h : isByte T = true := h
    unfold isByte at h
    split at h
    · exact ⟨rfl, fun i x hi => ⟨x, hi, rfl⟩⟩
    · cases h
  proj := by
    intro T off t f h
    have h : proj T off t = some f := h
    unfold proj at h
    split at h
    · cases h
      exact ⟨by kernel_rfl, fun x => ⟨by kernel_rfl, by kernel_rfl⟩⟩
    · cases h
  part := by
    intro T off S p h
    have h : part T off S = some p := h
    unfold part at h
    split at h
    · cases h; exact sec_part
    · cases h; exact wr_part
    · cases h
  arr := by
    intro t S h
    have h : arr t = some S := h
    unfold arr at h
    split at h
    · cases h
      exact ⟨by kernel_rfl, by kernel_rfl, Nat.le_of_ble_eq_true (by kernel_rfl), secP, rfl, by kernel_rfl⟩
    · cases h
  bld := by
    intro t ps x h
    have h : bld t ps = some x := h
    unfold bld at h
    split at h
    · cases h; exact bld0
    · cases h; exact bld1 _
    · cases h; exact bld2
    · cases h; exact bld3 _ _
    · cases h
  zeroLen := by
    intro t x h
    have h : bld t [] = some x := h
    generalize ([] : List (Nat × SV A)) = ps at h
    unfold bld at h
    split at h
    · exact sec_part.len _
    · exact sec_part.len _
    · exact wr_part.len _
    · exact wr_part.len _
    · cases h
theorem clean : ∀ (T : Nat) (x : A T), noOwn.go (u.enc T x) = true := by
  intro T x
  show noOwn.go (enc T x) = true
  unfold enc
  split <;> rfl
theorem mo : Try.prog.follows .mixedOrders = true := by kernel_rfl
theorem laws0 : Laws Try.prog u tab0 := { toLaw := law, clean := clean, tab := fun p hp => by cases hp }
theorem bodyCall (d : Dk)  : BodyOkH Try.prog u tab0 [] [] Try.f42 (.optr 0 0 :: []) d.own (.int .i64 (callE d)) d.call.own := by
  constructor
  have eqn : bodyH Try.prog u tab0 [] (drawW Try.prog u tab0) (loopsBy u []) Try.f42 (.optr 0 0 :: []) d.own (.int .i64 (callE d)) d.call.own = vcCall d := by kernel_rfl
  rw [eqn]
  unfold vcCall
  refine ⟨fun h => ?_, fun h => ⟨fun hd => ?_, fun hd => ⟨fun hf => ?_, fun hf => ?_⟩⟩⟩ <;> simp [callE, Dk.call, *]
theorem okCall : FnOkH Try.prog u 42 hCall := by
  refine fn_okH Try.prog u tab0 mo laws0 Try.func42 ?_
  intro xs os c y os2 h hc
  obtain ⟨l, d, rfl, rfl, hh⟩ := dkH_eq h
  split at hh
  · cases hh
    exact ⟨_, _, bodyCall d⟩
  · cases hh
theorem bodySize (d : Dk)  : BodyOkH Try.prog u tab0 [] [] Try.f36 (.optr 0 0 :: []) d.own (.int .i64 d.kept.length) d.own := by
  constructor
  have eqn : bodyH Try.prog u tab0 [] (drawW Try.prog u tab0) (loopsBy u []) Try.f36 (.optr 0 0 :: []) d.own (.int .i64 d.kept.length) d.own = vcSize d := by kernel_rfl
  rw [eqn]
  unfold vcSize
  simp
theorem okSize : FnOkH Try.prog u 36 (lookH lSize) := by
  refine fn_okH Try.prog u tab0 mo laws0 Try.func36 ?_
  intro xs os c y os2 h hc
  unfold lookH at h
  split at h
  case h_2 => cases h
  rename_i c' y' h'
  cases h
  obtain ⟨l, d, rfl, rfl, hh⟩ := dkL_eq h'
  split at hh
  · cases hh
    exact ⟨_, _, bodySize d⟩
  · cases hh
theorem bodyWait (d : Dk)  : BodyOkH Try.prog u tab0 [] [] Try.f26 (.optr 0 0 :: []) d.own (.int .i64 d.wait.length) d.own := by
  constructor
  have eqn : bodyH Try.prog u tab0 [] (drawW Try.prog u tab0) (loopsBy u []) Try.f26 (.optr 0 0 :: []) d.own (.int .i64 d.wait.length) d.own = vcWait d := by kernel_rfl
  rw [eqn]
  unfold vcWait
  simp
theorem okWait : FnOkH Try.prog u 26 (lookH lWait) := by
  refine fn_okH Try.prog u tab0 mo laws0 Try.func26 ?_
  intro xs os c y os2 h hc
  unfold lookH at h
  split at h
  case h_2 => cases h
  rename_i c' y' h'
  cases h
  obtain ⟨l, d, rfl, rfl, hh⟩ := dkL_eq h'
  split at hh
  · cases hh
    exact ⟨_, _, bodyWait d⟩
  · cases hh
theorem bodyDown (d : Dk)  : BodyOkH Try.prog u tab0 [] [] Try.f30 (.optr 0 0 :: []) d.own (.bool d.down) d.own := by
  constructor
  have eqn : bodyH Try.prog u tab0 [] (drawW Try.prog u tab0) (loopsBy u []) Try.f30 (.optr 0 0 :: []) d.own (.bool d.down) d.own = vcDown d := by kernel_rfl
  rw [eqn]
  unfold vcDown
  simp
theorem okDown : FnOkH Try.prog u 30 (lookH lDown) := by
  refine fn_okH Try.prog u tab0 mo laws0 Try.func30 ?_
  intro xs os c y os2 h hc
  unfold lookH at h
  split at h
  case h_2 => cases h
  rename_i c' y' h'
  cases h
  obtain ⟨l, d, rfl, rfl, hh⟩ := dkL_eq h'
  split at hh
  · cases hh
    exact ⟨_, _, bodyDown d⟩
  · cases hh
theorem bodyCalls (d : Dk)  : BodyOkH Try.prog u tab0 [] [] Try.f28 (.optr 0 0 :: []) d.own (.int .i64 d.calls) d.own := by
  constructor
  have eqn : bodyH Try.prog u tab0 [] (drawW Try.prog u tab0) (loopsBy u []) Try.f28 (.optr 0 0 :: []) d.own (.int .i64 d.calls) d.own = vcCalls d := by kernel_rfl
  rw [eqn]
  unfold vcCalls
  simp
theorem okCalls : FnOkH Try.prog u 28 (lookH lCalls) := by
  refine fn_okH Try.prog u tab0 mo laws0 Try.func28 ?_
  intro xs os c y os2 h hc
  unfold lookH at h
  split at h
  case h_2 => cases h
  rename_i c' y' h'
  cases h
  obtain ⟨l, d, rfl, rfl, hh⟩ := dkL_eq h'
  split at hh
  · cases hh
    exact ⟨_, _, bodyCalls d⟩
  · cases hh
theorem bodyArm (d : Dk) (n : Int) : BodyOkH Try.prog u tab0 [] [] Try.f12 (.optr 0 0 :: [.int .i64 n]) d.own (.tup []) { d with left := mx (-1) n }.own := by
  constructor
  have eqn : bodyH Try.prog u tab0 [] (drawW Try.prog u tab0) (loopsBy u []) Try.f12 (.optr 0 0 :: [.int .i64 n]) d.own (.tup []) { d with left := mx (-1) n }.own = vcArm d n := by kernel_rfl
  rw [eqn]
  unfold vcArm
  simp
theorem okArm : FnOkH Try.prog u 12 hArm := by
  refine fn_okH Try.prog u tab0 mo laws0 Try.func12 ?_
  intro xs os c y os2 h hc
  obtain ⟨l, d, rfl, rfl, hh⟩ := dkH_eq h
  split at hh
  · cases hh
    exact ⟨_, _, bodyArm d _⟩
  · cases hh
theorem bodyFail (d : Dk) (n : Int) : BodyOkH Try.prog u tab0 [] [] Try.f27 (.optr 0 0 :: [.int .i64 n]) d.own (.tup []) { d with fail := mx (-1) n }.own := by
  constructor
  have eqn : bodyH Try.prog u tab0 [] (drawW Try.prog u tab0) (loopsBy u []) Try.f27 (.optr 0 0 :: [.int .i64 n]) d.own (.tup []) { d with fail := mx (-1) n }.own = vcFail d n := by kernel_rfl
  rw [eqn]
  unfold vcFail
  simp
theorem okFail : FnOkH Try.prog u 27 hFail := by
  refine fn_okH Try.prog u tab0 mo laws0 Try.func27 ?_
  intro xs os c y os2 h hc
  obtain ⟨l, d, rfl, rfl, hh⟩ := dkH_eq h
  split at hh
  · cases hh
    exact ⟨_, _, bodyFail d _⟩
  · cases hh
theorem bodyOf (n : Int) : BodyOkH Try.prog u tab0 [] [] Try.f9 [.int .i64 n] [] (.optr 0 0) (spOf n).own := by
  constructor
  have eqn : bodyH Try.prog u tab0 [] (drawW Try.prog u tab0) (loopsBy u []) Try.f9 [.int .i64 n] [] (.optr 0 0) (spOf n).own = vcOf n := by kernel_rfl
  rw [eqn]
  unfold vcOf
  have h1 : 0 ≤ mx 0 (mn n 512) ∧ mx 0 (mn n 512) ≤ 512 := by unfold mx mn; split <;> split <;> omega
  exact ⟨⟨h1.1, Int.le_refl _, by omega, by omega⟩, trivial, ⟨⟨trivial, trivial, rfl, rfl, rfl, rfl⟩, rfl, rfl⟩, trivial⟩
theorem okOf : FnOkH Try.prog u 9 hOf := by
  refine fn_okH Try.prog u tab0 mo laws0 Try.func9 ?_
  intro xs os c y os2 h hc
  unfold hOf at h
  split at h
  · cases h
    exact ⟨_, _, bodyOf _⟩
  · cases h
theorem bodyRead (d : Dk) (n : Int) (h : DkOk d) : BodyOkH Try.prog u tab0 [] [(1, .inv (annRead d n))] Try.f24 (.optr 0 0 :: [.int .i64 n]) d.own (.tup [.el 53 (readS d n), .int .i64 (readE d n)]) d.own := by
  constructor
  have eqn : bodyH Try.prog u tab0 [] (drawW Try.prog u tab0) (loopsBy u [(1, .inv (annRead d n))]) Try.f24 (.optr 0 0 :: [.int .i64 n]) d.own (.tup [.el 53 (readS d n), .int .i64 (readE d n)]) d.own = vcRead d n := by kernel_rfl
  rw [eqn]
  unfold vcRead
  have hwl : d.wait.length < 9223372036854775808 := by have := h.2.1; omega
  refine ⟨fun hd => ?_, fun hd => ⟨fun hb => ?_, fun hb => ?_⟩⟩
  · refine ⟨rfl, Nat.le_refl _, ⟨?_, ?_⟩, same_own rfl, rfl, rfl, trivial⟩
    · unfold readS; rw [if_pos hd]; exact put_get zeroS
    · unfold readE; rw [if_pos hd]
  · have hin : inD d n = false := by unfold inD; rw [hb]; rfl
    refine ⟨rfl, Nat.le_refl _, ⟨?_, ?_⟩, same_own rfl, rfl, rfl, trivial⟩
    · unfold readS; rw [if_neg (by simp [hd]), if_neg (by simp [hin])]; exact put_get zeroS
    · unfold readE; rw [if_neg (by simp [hd]), if_neg (by simp [hin])]
  · have hin : inD d n = true := by unfold inD; rw [hb]; rfl
    have hn := inD_iff.1 hin
    refine ⟨hn, rfl, ⟨0, Nat.zero_le _, ⟨rfl, rfl, trivial, trivial, rfl, rfl, rfl⟩, ⟨trivial, trivial, rfl, rfl, rfl, rfl⟩, rfl, rfl, rfl, rfl⟩, fun g hg => ⟨fun hlt => ?_, fun hge => ?_⟩⟩
    · have hlt := of_decide_eq_true hlt
      rw [one_wr]
      have hmu : (annRead d n).μ (g + 1) < (annRead d n).μ g := by show d.wait.length - (g + 1) < d.wait.length - g; omega
      refine ⟨⟨by omega, hlt⟩, fun he => ⟨Sec.h _, g + 1, show g + 1 ≤ d.wait.length by omega, hmu, ⟨rfl, rfl, trivial, trivial, rfl, rfl, wrap_next hlt hwl⟩, ⟨trivial, trivial, rfl, rfl, rfl, rfl⟩, rfl, rfl, ?_, rfl⟩, fun he => ⟨g + 1, show g + 1 ≤ d.wait.length by omega, hmu, ⟨rfl, rfl, trivial, trivial, rfl, rfl, wrap_next hlt hwl⟩, ⟨trivial, trivial, rfl, rfl, rfl, rfl⟩, rfl, rfl, ?_, rfl⟩⟩
      · rw [readAt_next, if_pos he]; rfl
      · rw [readAt_next, if_neg (by rw [he]; decide)]
    · have hge := of_decide_eq_false hge
      obtain rfl : g = d.wait.length := by have hg : g ≤ d.wait.length := hg; omega
      rw [put_row (Sec.h _), put_get]
      refine ⟨Nat.le_of_eq (Sec.h _).symm, rfl, Nat.le_of_eq (Sec.h _).symm, ⟨?_, ?_⟩, same_own rfl, rfl, rfl, trivial⟩
      · unfold readS; rw [if_neg (by simp [hd]), if_pos hin]
      · unfold readE; rw [if_neg (by simp [hd]), if_pos hin]
theorem okRead : FnOkH Try.prog u 24 (lookH lRead) := by
  refine fn_okH Try.prog u tab0 mo laws0 Try.func24 ?_
  intro xs os c y os2 h hc
  unfold lookH at h
  split at h
  case h_2 => cases h
  rename_i c' y' h'
  cases h
  obtain ⟨l, d, rfl, rfl, hh⟩ := dkL_eq h'
  split at hh
  · cases hh
    exact ⟨_, _, bodyRead d _ hc⟩
  · cases hh
theorem laws1 : Laws Try.prog u tab1 := by
  refine ⟨law, clean, fun p hp => ?_⟩
  rcases List.mem_cons.1 hp with rfl | hp
  · exact okCall
  rcases List.mem_cons.1 hp with rfl | hp
  · exact okOf
  rcases List.mem_cons.1 hp with rfl | hp
  · exact okSize
  rcases List.mem_cons.1 hp with rfl | hp
  · exact okWait
  rcases List.mem_cons.1 hp with rfl | hp
  · exact okDown
  rcases List.mem_cons.1 hp with rfl | hp
  · exact okCalls
  rcases List.mem_cons.1 hp with rfl | hp
  · exact okArm
  rcases List.mem_cons.1 hp with rfl | hp
  · exact okFail
  rcases List.mem_cons.1 hp with rfl | hp
  · exact okRead
  exact laws0.tab p hp
theorem bodyWrite (d : Dk) (n : Int) (s : Sec) (h : DkOk d) : BodyOkH Try.prog u tab1 [] [] Try.f38 (.optr 0 0 :: [.int .i64 n, .el 53 s]) d.own (.int .i64 (writeE d n)) (d.write n s).own3 := by
  constructor
  have eqn : bodyH Try.prog u tab1 [] (drawW Try.prog u tab1) (loopsBy u []) Try.f38 (.optr 0 0 :: [.int .i64 n, .el 53 s]) d.own (.int .i64 (writeE d n)) (d.write n s).own3 = vcWrite d n s := by kernel_rfl
  rw [eqn]
  unfold vcWrite
  refine ⟨fun hd => ?_, fun hd => ⟨fun hb => ?_, fun hb => ?_⟩⟩
  · refine ⟨?_, same_own3 ?_ (by rw [write_kept])⟩
    · unfold writeE; rw [if_pos hd]
    · unfold Dk.write; rw [if_pos hd]
  · have hin : inD d n = false := by unfold inD; rw [hb]; rfl
    refine ⟨?_, same_own3 ?_ (by rw [write_kept])⟩
    · unfold writeE; rw [if_neg (by simp [hd]), if_neg (by simp [hin])]
    · unfold Dk.write; rw [if_neg (by simp [hd]), if_neg (by simp [hin])]
  · have hin : inD d n = true := by unfold inD; rw [hb]; rfl
    have hE : callE d = writeE d n := by unfold writeE; rw [if_neg (by simp [hd]), if_pos hin]
    refine ⟨fun he => ?_, fun he => ?_⟩
    · rw [put_get]
      refine ⟨Nat.le_of_eq (Sec.h s).symm, h.2.1, hE, same_own3 (X := { d.call with wait := d.call.wait ++ [⟨n, s⟩] }) ?_ (by rw [write_kept])⟩
      unfold Dk.write
      rw [if_neg (by simp [hd]), if_pos hin, if_pos he]
      rfl
    · refine ⟨hE, same_own3 ?_ (by rw [write_kept])⟩
      unfold Dk.write
      rw [if_neg (by simp [hd]), if_pos hin, if_neg (by rw [he]; decide)]
theorem okWrite : FnOkH Try.prog u 38 hWrite := by
  refine fn_okH Try.prog u tab1 mo laws1 Try.func38 ?_
  intro xs os c y os2 h hc
  obtain ⟨l, d, rfl, rfl, hh⟩ := dkH_eq h
  split at hh
  · cases hh
    exact ⟨_, _, bodyWrite d _ _ hc⟩
  · cases hh
theorem bodyFlush (d : Dk)  (h : DkOk d) : BodyOkH Try.prog u tab1 [] [(0, .inv (annFlush d))] Try.f39 (.optr 0 0 :: []) d.own (.int .i64 (flushE d)) d.flush.own3 := by
  constructor
  have eqn : bodyH Try.prog u tab1 [] (drawW Try.prog u tab1) (loopsBy u [(0, .inv (annFlush d))]) Try.f39 (.optr 0 0 :: []) d.own (.int .i64 (flushE d)) d.flush.own3 = vcFlush d := by kernel_rfl
  rw [eqn]
  unfold vcFlush
  have hwl : d.wait.length < 9223372036854775808 := by have := h.2.1; omega
  refine ⟨fun hd => ?_, fun hd => ⟨fun hb => ?_, fun hb => ?_⟩⟩
  · have hF : d.flush = d := by unfold Dk.flush; rw [if_pos hd]
    refine ⟨?_, same_own3 hF.symm (by rw [hF])⟩
    unfold flushE; rw [if_pos hd]
  · have hF : d.flush = d.call := by unfold Dk.flush; rw [if_neg (by simp [hd]), if_pos hb]
    refine ⟨?_, same_own3 hF.symm (by rw [hF]; rfl)⟩
    unfold flushE; rw [if_neg (by simp [hd])]
  · have hF : d.flush = { d.call with kept := keptAt d d.wait.length, wait := [] } := by unfold Dk.flush; rw [if_neg (by simp [hd]), if_neg (by rw [hb]; decide)]
    have hz : callE d = 0 := by simpa using hb
    refine ⟨⟨0, Nat.zero_le _, ⟨rfl, trivial, trivial, rfl⟩, ⟨trivial, trivial, rfl, rfl, rfl, rfl⟩, rfl, rfl⟩, fun g hg => ⟨fun hlt => ?_, fun hge => ?_⟩⟩
    · have hlt : (g : Int) < (d.wait.length : Int) := of_decide_eq_true hlt
      rw [one_wr]
      have hk := h.2.2 g (by omega)
      refine ⟨⟨by omega, hlt⟩, ⟨hk.1, by rw [keptAt_len]; exact hk.2⟩, g + 1, show g + 1 ≤ d.wait.length by omega, by show d.wait.length - (g + 1) < d.wait.length - g; omega, ⟨rfl, trivial, trivial, wrap_next hlt hwl⟩, ⟨trivial, trivial, rfl, rfl, rfl, rfl⟩, rfl, rfl⟩
    · have hge : ¬ (g : Int) < (d.wait.length : Int) := of_decide_eq_false hge
      obtain rfl : g = d.wait.length := by have hg : g ≤ d.wait.length := hg; omega
      refine ⟨?_, ⟨⟨trivial, trivial, ?_, ?_, ?_, ?_⟩, ?_, trivial, ?_⟩, ?_, trivial⟩
      · unfold flushE; rw [if_neg (by simp [hd]), hz]
      all_goals rw [hF]
      exact keptAt_len d _
theorem okFlush : FnOkH Try.prog u 39 hFlush := by
  refine fn_okH Try.prog u tab1 mo laws1 Try.func39 ?_
  intro xs os c y os2 h hc
  obtain ⟨l, d, rfl, rfl, hh⟩ := dkH_eq h
  split at hh
  · cases hh
    exact ⟨_, _, bodyFlush d hc⟩
  · cases hh
theorem bodyRestart (d : Dk) (m : Int) (t : Int) (b : Int) (h : DkOk d) : BodyOkH Try.prog u tab1 [] [(0, .inv (annRestart d m t b))] Try.f19 (.optr 0 0 :: [.int .u64 m, .int .i64 t, .int .i64 b]) d.own (.tup []) (d.restart m t b).own3 := by
  constructor
  have eqn : bodyH Try.prog u tab1 [] (drawW Try.prog u tab1) (loopsBy u [(0, .inv (annRestart d m t b))]) Try.f19 (.optr 0 0 :: [.int .u64 m, .int .i64 t, .int .i64 b]) d.own (.tup []) (d.restart m t b).own3 = vcRestart d m t b := by kernel_rfl
  rw [eqn]
  unfold vcRestart
  have hwl : d.wait.length < 9223372036854775808 := by have := h.2.1; omega
  refine ⟨⟨0, Nat.zero_le _, ⟨rfl, rfl, rfl, rfl, trivial, trivial, rfl⟩, ⟨trivial, trivial, rfl, rfl, rfl, rfl⟩, rfl, rfl⟩, fun g hg => ⟨fun hlt => ?_, fun hge => ?_⟩⟩
  · have hlt := of_decide_eq_true hlt
    rw [one_wr]
    have hk := h.2.2 g (by omega)
    have hk2 : (getW d.wait g).at_ < ((keptR d m t b g).length : Int) := by rw [keptR_len]; exact hk.2
    have hmu : (annRestart d m t b).μ (g + 1) < (annRestart d m t b).μ g := by show d.wait.length - (g + 1) < d.wait.length - g; omega
    have hb := mx_in b
    refine ⟨⟨by omega, hlt⟩, fun he => ⟨⟨hk.1, hk2⟩, ⟨by omega, hb.1, hb.2, by omega⟩, ⟨by omega, by omega, by omega, by omega⟩, g + 1, show g + 1 ≤ d.wait.length by omega, hmu, ⟨rfl, rfl, rfl, rfl, trivial, trivial, wrap_next hlt hwl⟩, ⟨trivial, trivial, rfl, rfl, rfl, rfl⟩, ?_, rfl⟩, fun he => ⟨by decide, ?_, fun hm => ⟨⟨hk.1, hk2⟩, g + 1, show g + 1 ≤ d.wait.length by omega, hmu, ⟨rfl, rfl, rfl, rfl, trivial, trivial, wrap_next hlt hwl⟩, ⟨trivial, trivial, rfl, rfl, rfl, rfl⟩, ?_, rfl⟩, fun hm => ⟨g + 1, show g + 1 ≤ d.wait.length by omega, hmu, ⟨rfl, rfl, rfl, rfl, trivial, trivial, wrap_next hlt hwl⟩, ⟨trivial, trivial, rfl, rfl, rfl, rfl⟩, ?_, rfl⟩⟩⟩
    · rw [keptR_next, if_pos he]
      exact congrArg (fun z => (keptR d m t b g).set (getW d.wait g).at_.toNat z) (tear_eq _ _ _)
    · have : (0 : Int) ≤ (g : Int).tmod 64 := Int.tmod_nonneg _ (by omega)
      exact this
    · rw [keptR_next, if_neg (by rw [he]; decide), if_pos (show bitM m g = true from hm)]
    · rw [keptR_next, if_neg (by rw [he]; decide), if_neg (by show ¬ (bitsI _ _ _ _ == 1) = true; rw [hm]; decide)]
  · have hge := of_decide_eq_false hge
    obtain rfl : g = d.wait.length := by have hg : g ≤ d.wait.length := hg; omega
    exact ⟨trivial, ⟨⟨trivial, trivial, rfl, rfl, rfl, rfl⟩, rfl, trivial, rfl⟩, keptR_len d m t b _, trivial⟩
theorem okRestart : FnOkH Try.prog u 19 hRestart := by
  refine fn_okH Try.prog u tab1 mo laws1 Try.func19 ?_
  intro xs os c y os2 h hc
  obtain ⟨l, d, rfl, rfl, hh⟩ := dkH_eq h
  split at hh
  · cases hh
    exact ⟨_, _, bodyRestart d _ _ _ hc⟩
  · cases hh
theorem laws2 : Laws Try.prog u tab2 := by
  refine ⟨law, clean, fun p hp => ?_⟩
  rcases List.mem_cons.1 hp with rfl | hp
  · exact okWrite
  rcases List.mem_cons.1 hp with rfl | hp
  · exact okFlush
  rcases List.mem_cons.1 hp with rfl | hp
  · exact okRestart
  exact laws1.tab p hp

end Go.Proofs.Ytgimkldaeobhnaa.Dsk
