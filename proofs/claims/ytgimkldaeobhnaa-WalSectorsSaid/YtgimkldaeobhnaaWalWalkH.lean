/- The log: the contracts of the law's small functions. -/
import Derived.Test.YtgimkldaeobhnaaWalVcI
import Derived.Test.YtgimkldaeobhnaaWalWalkF
import Derived.Test.YtgimkldaeobhnaaWalMathM
namespace Go.Proofs.Ytgimkldaeobhnaa.Dsk
open Go Go.Proofs.Ytgimkldaeobhnaa.Sx

theorem shows_not {l : Lg} {ns : List ByteArray} {t : Int} (h : ((l.recs.length : Int) != (ns.length : Int) || l.turn != t) = true) : showsB l ns t = false := by
  unfold showsB
  have : (l.recs.length == ns.length && l.turn == t) = false := by
    cases hq : (l.recs.length == ns.length && l.turn == t) with
    | false => rfl
    | true =>
      rw [Bool.and_eq_true] at hq
      rw [eq_of_beq hq.1, eq_of_beq hq.2] at h
      simp at h
  rw [this, Bool.false_and]
theorem shows_len {l : Lg} {ns : List ByteArray} {t : Int} (h : ((l.recs.length : Int) != (ns.length : Int) || l.turn != t) = false) : l.recs.length = ns.length := by
  rw [Bool.or_eq_false_iff] at h
  have h1 : ((l.recs.length : Int) == (ns.length : Int)) = true := by simpa [bne] using h.1
  have := eq_of_beq h1
  omega
theorem shows_turn {l : Lg} {ns : List ByteArray} {t : Int} (h : ((l.recs.length : Int) != (ns.length : Int) || l.turn != t) = false) : l.turn = t := by
  rw [Bool.or_eq_false_iff] at h
  simpa [bne] using h.2
theorem shows_at {l : Lg} {ns : List ByteArray} {t : Int} {k : Nat} (hk : k < l.recs.length) (h : (!(bytesOf (l.recs.getD k [])).toList == (ns.getD k ByteArray.empty).toList) = true) : showsB l ns t = false := by
  cases hs : showsB l ns t with
  | false => rfl
  | true =>
    unfold showsB at hs
    rw [Bool.and_eq_true] at hs
    have := List.all_eq_true.1 hs.2 k (List.mem_range.2 hk)
    unfold eqAt at this
    rw [this] at h
    cases h
theorem shows_all {l : Lg} {ns : List ByteArray} {t : Int} (h : ((l.recs.length : Int) != (ns.length : Int) || l.turn != t) = false) (hk : ∀ j, j < l.recs.length → eqAt l.recs ns j = true) : showsB l ns t = true := by
  unfold showsB
  rw [shows_len h, shows_turn h, beq_self_eq_true, beq_self_eq_true, Bool.and_self, Bool.true_and]
  rw [List.all_eq_true]
  intro k hkm
  exact hk k (by rw [shows_len h]; exact List.mem_range.1 hkm)
theorem shows_rfl {l : Lg} : showsB l (l.recs.map bytesOf) l.turn = true := by
  unfold showsB
  rw [List.length_map, beq_self_eq_true, beq_self_eq_true, Bool.and_self, Bool.true_and, List.all_eq_true]
  intro k hk
  have hk := List.mem_range.1 hk
  unfold eqAt
  rw [List.getD_eq_getElem?_getD, List.getD_eq_getElem?_getD, List.getElem?_map, List.getElem?_eq_getElem hk]
  exact beq_self_eq_true _
theorem crc_in (b : List Int) : 0 ≤ crc b ∧ crc b < 4294967296 := by
  have : ∀ x : Int, 0 ≤ IntKind.u32.wrap x ∧ IntKind.u32.wrap x < 4294967296 := fun x => by rw [IntKind.wrap_u32]; omega
  exact this _
theorem shr_8 (n : Int) : IntKind.u8.wrap (shr .i64 n 8) = n / 256 % 256 := by
  have := shr_i64 n 8 (by omega)
  rw [wrap8]
  rw [show shr .i64 n 8 = n / 256 by simpa using this]
theorem shr_16 (n : Int) : IntKind.u8.wrap (shr .i64 n 16) = n / 65536 % 256 := by
  have := shr_i64 n 16 (by omega)
  rw [wrap8]
  rw [show shr .i64 n 16 = n / 65536 by simpa using this]
theorem shr_24 (n : Int) : IntKind.u8.wrap (shr .i64 n 24) = n / 16777216 % 256 := by
  have := shr_i64 n 24 (by omega)
  rw [wrap8]
  rw [show shr .i64 n 24 = n / 16777216 by simpa using this]
theorem shr_u32 (n : Int) (k : Nat) (hk : k ≤ 32) : shr .u32 n (k : Int) = n / (2 ^ k : Nat) := by
  unfold shr
  rw [show min (k : Int).toNat IntKind.u32.bits = k by show min (k : Int).toNat 32 = k; omega, Int.fdiv_eq_ediv_of_nonneg _ (by exact Int.pow_nonneg (by omega))]
  norm_cast
theorem shu_8 (n : Int) : IntKind.u8.wrap (shr .u32 n 8) = n / 256 % 256 := by
  have := shr_u32 n 8 (by omega)
  rw [wrap8]
  rw [show shr .u32 n 8 = n / 256 by simpa using this]
theorem shu_16 (n : Int) : IntKind.u8.wrap (shr .u32 n 16) = n / 65536 % 256 := by
  have := shr_u32 n 16 (by omega)
  rw [wrap8]
  rw [show shr .u32 n 16 = n / 65536 by simpa using this]
theorem shu_24 (n : Int) : IntKind.u8.wrap (shr .u32 n 24) = n / 16777216 % 256 := by
  have := shr_u32 n 24 (by omega)
  rw [wrap8]
  rw [show shr .u32 n 24 = n / 16777216 by simpa using this]
theorem head_bytes (k n : Int) (b : List Int) : List.take 0 (secL zeroS) ++ List.take 64 [IntKind.u8.wrap (shr IntKind.i64 (b.length : Int) 8), IntKind.u8.wrap (b.length : Int), IntKind.u8.wrap (shr IntKind.i64 n 24), IntKind.u8.wrap (shr IntKind.i64 n 16), IntKind.u8.wrap (shr IntKind.i64 n 8), IntKind.u8.wrap n, IntKind.u8.wrap (shr IntKind.u32 (crc b) 24), IntKind.u8.wrap (shr IntKind.u32 (crc b) 16), IntKind.u8.wrap (shr IntKind.u32 (crc b) 8), IntKind.u8.wrap (crc b), IntKind.u8.wrap k, 197] ++ List.drop (0 + min [IntKind.u8.wrap (shr IntKind.i64 (b.length : Int) 8), IntKind.u8.wrap (b.length : Int), IntKind.u8.wrap (shr IntKind.i64 n 24), IntKind.u8.wrap (shr IntKind.i64 n 16), IntKind.u8.wrap (shr IntKind.i64 n 8), IntKind.u8.wrap n, IntKind.u8.wrap (shr IntKind.u32 (crc b) 24), IntKind.u8.wrap (shr IntKind.u32 (crc b) 16), IntKind.u8.wrap (shr IntKind.u32 (crc b) 8), IntKind.u8.wrap (crc b), IntKind.u8.wrap k, 197].length 64) (secL zeroS) = headL k n b := by
  have hc := crc_in b
  rw [headL_eq, wrap_i64_id (n := crc b) (by omega), shr_8, shr_8, shr_16, shr_24, shu_8, shu_16, shu_24, wrap8 (b.length : Int), wrap8 n, wrap8 (crc b)]
  rfl
theorem bodyShowsW (l : Lg) (ns : List ByteArray) (t : Int) (h : showOk l ns) : BodyOkH Try.prog u tab8 [] [(0, .inv (annShows l ns))] Try.f14 (.optr 0 0 :: [.csl 9 ns, .int .i64 t]) l.own (.bool (showsB l ns t)) l.own := by
  constructor
  have eqn : bodyH Try.prog u tab8 [] (drawW Try.prog u tab8) (loopsBy u [(0, .inv (annShows l ns))]) Try.f14 (.optr 0 0 :: [.csl 9 ns, .int .i64 t]) l.own (.bool (showsB l ns t)) l.own = vcShowsW l ns t := by kernel_rfl
  rw [eqn]
  unfold vcShowsW
  have hl1 := h.1.1
  have hn1 := h.2
  refine ⟨h.1, fun hx => ⟨(shows_not hx).symm, ⟨⟨⟨trivial, rfl, rfl, rfl, trivial, rfl⟩, ⟨trivial, trivial, rfl, rfl, rfl, rfl⟩, rfl, rfl, rfl⟩, rfl, rfl, rfl, trivial⟩⟩, fun hx => ?_⟩
  have hlen : l.recs.length = ns.length := shows_len hx
  refine ⟨⟨0, ⟨Nat.zero_le _, fun j hj => absurd hj (Nat.not_lt_zero j)⟩, ⟨rfl, rfl, rfl, trivial, rfl⟩, ⟨trivial, rfl, rfl, rfl, trivial, rfl⟩, ⟨trivial, trivial, rfl, rfl, rfl, rfl⟩, rfl, rfl, rfl⟩, fun g hg => ⟨fun hlt => ?_, fun hge => ?_⟩⟩
  · have hlt : (g : Int) < (l.recs.length : Int) := of_decide_eq_true hlt
    refine ⟨⟨by omega, hlt⟩, ⟨by omega, (show (g : Int) < (ns.length : Int) by omega)⟩, fun he => ⟨(shows_at (k := g) (by omega) he).symm, ⟨⟨⟨trivial, rfl, rfl, rfl, trivial, rfl⟩, ⟨trivial, trivial, rfl, rfl, rfl, rfl⟩, rfl, rfl, rfl⟩, rfl, rfl, rfl, trivial⟩⟩, fun he => ⟨g + 1, ⟨by omega, fun j hj => ?_⟩, (show l.recs.length - (g + 1) < l.recs.length - g by omega), ⟨rfl, rfl, rfl, trivial, wrap_next hlt (by omega)⟩, ⟨trivial, rfl, rfl, rfl, trivial, rfl⟩, ⟨trivial, trivial, rfl, rfl, rfl, rfl⟩, rfl, rfl, rfl⟩⟩
    by_cases hjg : j = g
    · subst hjg
      have he : (!(bytesOf (l.recs.getD j [])).toList == (ns.getD j ByteArray.empty).toList) = false := he
      unfold eqAt
      simpa using he
    · exact hg.2 j (by omega)
  · have hge : ¬ (g : Int) < (l.recs.length : Int) := of_decide_eq_false hge
    obtain rfl : g = l.recs.length := by have := hg.1; omega
    exact ⟨(shows_all hx hg.2).symm, ⟨⟨⟨trivial, rfl, rfl, rfl, trivial, rfl⟩, ⟨trivial, trivial, rfl, rfl, rfl, rfl⟩, rfl, rfl, rfl⟩, rfl, rfl, rfl, trivial⟩⟩
theorem bodyShowsM (l : Lg) (ns : List ByteArray) (t : Int) (h : showOk l ns) : BodyOkH Try.prog u tab8 [] [(0, .inv (annShowsM l ns))] Try.f14 (.optr 0 0 :: [.orow 1, .int .i64 t]) (l.ownM ns) (.bool (showsB l ns t)) (l.ownM ns) := by
  constructor
  have eqn : bodyH Try.prog u tab8 [] (drawW Try.prog u tab8) (loopsBy u [(0, .inv (annShowsM l ns))]) Try.f14 (.optr 0 0 :: [.orow 1, .int .i64 t]) (l.ownM ns) (.bool (showsB l ns t)) (l.ownM ns) = vcShowsM l ns t := by kernel_rfl
  rw [eqn]
  unfold vcShowsM
  have hl1 := h.1.1
  have hn1 := h.2
  refine ⟨h.1, fun hx => ⟨(shows_not hx).symm, ⟨⟨⟨trivial, rfl, rfl, rfl, trivial, rfl⟩, rfl, ⟨trivial, trivial, rfl, rfl, rfl, rfl⟩, rfl, rfl, rfl⟩, rfl, rfl, rfl, rfl, trivial⟩⟩, fun hx => ?_⟩
  have hlen : l.recs.length = ns.length := shows_len hx
  refine ⟨⟨0, ⟨Nat.zero_le _, fun j hj => absurd hj (Nat.not_lt_zero j)⟩, ⟨rfl, rfl, trivial, trivial, rfl⟩, ⟨trivial, rfl, rfl, rfl, trivial, rfl⟩, rfl, ⟨trivial, trivial, rfl, rfl, rfl, rfl⟩, rfl, rfl, rfl⟩, fun g hg => ⟨fun hlt => ?_, fun hge => ?_⟩⟩
  · have hlt : (g : Int) < (l.recs.length : Int) := of_decide_eq_true hlt
    refine ⟨⟨by omega, hlt⟩, ⟨by omega, (show (g : Int) < (ns.length : Int) by omega)⟩, fun he => ⟨(shows_at (k := g) (by omega) he).symm, ⟨⟨⟨trivial, rfl, rfl, rfl, trivial, rfl⟩, rfl, ⟨trivial, trivial, rfl, rfl, rfl, rfl⟩, rfl, rfl, rfl⟩, rfl, rfl, rfl, rfl, trivial⟩⟩, fun he => ⟨g + 1, ⟨by omega, fun j hj => ?_⟩, (show l.recs.length - (g + 1) < l.recs.length - g by omega), ⟨rfl, rfl, trivial, trivial, wrap_next hlt (by omega)⟩, ⟨trivial, rfl, rfl, rfl, trivial, rfl⟩, rfl, ⟨trivial, trivial, rfl, rfl, rfl, rfl⟩, rfl, rfl, rfl⟩⟩
    by_cases hjg : j = g
    · subst hjg
      have he : (!(bytesOf (l.recs.getD j [])).toList == (ns.getD j ByteArray.empty).toList) = false := he
      unfold eqAt
      simpa using he
    · exact hg.2 j (by omega)
  · have hge : ¬ (g : Int) < (l.recs.length : Int) := of_decide_eq_false hge
    obtain rfl : g = l.recs.length := by have := hg.1; omega
    exact ⟨(shows_all hx hg.2).symm, ⟨⟨⟨trivial, rfl, rfl, rfl, trivial, rfl⟩, rfl, ⟨trivial, trivial, rfl, rfl, rfl, rfl⟩, rfl, rfl, rfl⟩, rfl, rfl, rfl, rfl, trivial⟩⟩
theorem okShowsW : FnOkH Try.prog u 14 (lookH lShows) := by
  refine fn_okH Try.prog u tab8 mo laws8 Try.func14 ?_
  intro xs os c y os2 h hc
  unfold lookH at h
  split at h
  case h_2 => cases h
  rename_i c' y' h'
  cases h
  unfold lShows at h'
  split at h'
  · rename_i ns tt r t n br a b dn c' rs ks ws
    cases h'
    exact ⟨_, _, bodyShowsW ⟨⟨ks, ws, a, b, dn, c'⟩, r, t, n, rs, br⟩ ns tt hc⟩
  · rename_i tt r t n br ns a b dn c' rs ks ws
    cases h'
    exact ⟨_, _, bodyShowsM ⟨⟨ks, ws, a, b, dn, c'⟩, r, t, n, rs, br⟩ ns tt hc⟩
  · cases h'
theorem bodyNamesW (rs : List (List Int)) (h : rs.length ≤ 1000000 ∧ ∀ b : List Int, b ∈ rs → b.length ≤ 1000000) : BodyOk Try.prog u tab8 [] [(0, .inv (annNames rs))] Try.f21 [.csl 22 rs] (.csl 9 (rs.map bytesOf)) := by
  constructor
  have eqn : bodyW Try.prog u tab8 [] (drawW Try.prog u tab8) (loopsBy u [(0, .inv (annNames rs))]) Try.f21 [.csl 22 rs] (.csl 9 (rs.map bytesOf)) = vcNamesW rs := by kernel_rfl
  rw [eqn]
  unfold vcNamesW
  have hl := h.1
  refine ⟨⟨0, Nat.zero_le _, ⟨rfl, rfl, trivial, rfl⟩, rfl⟩, fun g hg => ⟨fun hlt => ?_, fun hge => ?_⟩⟩
  · have hlt : (g : Int) < (rs.length : Int) := of_decide_eq_true hlt
    have hgl : g < rs.length := by omega
    refine ⟨⟨by omega, hlt⟩, ?_, g + 1, (show g + 1 ≤ rs.length by omega), (show rs.length - (g + 1) < rs.length - g by omega), ⟨rfl, rfl, trivial, wrap_next hlt (by omega)⟩, ?_⟩
    · rw [List.length_map, List.length_take, List.length_singleton]
      omega
    · show List.map bytesOf (List.take g rs) ++ [bytesOf (rs.getD g [])] = List.map bytesOf (List.take (g + 1) rs)
      rw [List.take_add_one, List.getElem?_eq_getElem hgl, List.getD_eq_getElem?_getD, List.getElem?_eq_getElem hgl, List.map_append]
      rfl
  · have hge : ¬ (g : Int) < (rs.length : Int) := of_decide_eq_false hge
    obtain rfl : g = rs.length := by have hg : g ≤ rs.length := hg; omega
    rw [List.take_length]
theorem okNamesW : FnOk Try.prog u 21 spNamesW := by
  refine fn_ok Try.prog u tab8 mo laws8 Try.func21 ?_
  intro xs c y h hc
  unfold spNamesW at h
  split at h
  · cases h
    exact ⟨by kernel_rfl, _, _, bodyNamesW _ hc⟩
  · cases h
theorem bodyBytesW (o : Int) (b : List Int) (n : Int) (h : actOk ⟨o, b, n⟩) : BodyOk Try.prog u tab8 [] [] Try.f15 [.agg [.int .u8 o, .csl 5 b, .int .u16 n]] (.csl 5 (bytesA ⟨o, b, n⟩)) := by
  constructor
  have eqn : bodyW Try.prog u tab8 [] (drawW Try.prog u tab8) (loopsBy u []) Try.f15 [.agg [.int .u8 o, .csl 5 b, .int .u16 n]] (.csl 5 (bytesA ⟨o, b, n⟩)) = vcBytesW o b n := by kernel_rfl
  rw [eqn]
  unfold vcBytesW
  obtain ⟨ho, hl, hb, hn⟩ := h
  have hl : b.length < 9223372036854775808 := hl
  have ho : 0 ≤ o ∧ o < 256 := ho
  have hn : 0 ≤ n ∧ n < 65536 := hn
  have h1 := Int.tmod_nonneg 17000 hn.1
  have h2 := Int.tmod_lt_of_pos n (by decide : (0 : Int) < 17000)
  have hw : IntKind.i64.wrap (n.tmod 17000) = n.tmod 17000 := wrap_i64_id (by omega)
  have hm : 0 ≤ mn (b.length : Int) 300 ∧ mn (b.length : Int) 300 ≤ (b.length : Int) := by unfold mn; split <;> omega
  refine ⟨fun h1 => ⟨by decide, by rw [hw]; omega, ?_⟩, fun h1 => ⟨⟨by omega, hm.1, hm.2⟩, ?_⟩⟩
  · unfold bytesA
    rw [if_pos (show (⟨o, b, n⟩ : Act).op ≥ 200 from of_decide_eq_true h1), hw]
  · unfold bytesA
    rw [if_neg (show ¬ (⟨o, b, n⟩ : Act).op ≥ 200 from of_decide_eq_false h1)]
theorem okBytesW : FnOk Try.prog u 15 spBytesW := by
  refine fn_ok Try.prog u tab8 mo laws8 Try.func15 ?_
  intro xs c y h hc
  unfold spBytesW at h
  split at h
  · cases h
    exact ⟨by kernel_rfl, _, _, bodyBytesW _ _ _ hc⟩
  · cases h
theorem bodyNeedW (n : Int) (h : 0 ≤ n ∧ n ≤ 1000000) : BodyOk Try.prog u tab8 [] [] Try.f17 [.int .i64 n] (.int .i64 (secsOf n)) := by
  constructor
  have eqn : bodyW Try.prog u tab8 [] (drawW Try.prog u tab8) (loopsBy u []) Try.f17 [.int .i64 n] (.int .i64 (secsOf n)) = vcNeedW n := by kernel_rfl
  rw [eqn]
  unfold vcNeedW
  refine ⟨by decide, ?_⟩
  unfold secsOf
  rw [wrap_i64_id (n := n + 63) (by omega), wrap_i64_id (n := n + 64) (by omega), show n + 64 - 1 = n + 63 by omega, wrap_i64_id (n := n + 63) (by omega)]
theorem okNeedW : FnOk Try.prog u 17 spNeedW := by
  refine fn_ok Try.prog u tab8 mo laws8 Try.func17 ?_
  intro xs c y h hc
  unfold spNeedW at h
  split at h
  · cases h
    exact ⟨by kernel_rfl, _, _, bodyNeedW _ hc⟩
  · cases h
theorem bodyHeadW (k n : Int) (b : List Int) (h : lenOk (α := Int) b) : BodyOk Try.prog u tab8 [] [] Try.f23 [.int .i64 k, .int .i64 n, .csl 5 b] (.el 53 (headS k n b)) := by
  constructor
  have eqn : bodyW Try.prog u tab8 [] (drawW Try.prog u tab8) (loopsBy u []) Try.f23 [.int .i64 k, .int .i64 n, .csl 5 b] (.el 53 (headS k n b)) = vcHeadW k n b := by kernel_rfl
  rw [eqn]
  unfold vcHeadW
  refine ⟨h, ⟨by decide, by decide, by decide, rfl⟩, by decide, by decide, by decide, by decide, by decide, by decide, by decide, ?_, rfl, ?_, ?_⟩
  · rw [head_bytes]; exact Nat.le_of_eq (headL_len k n b).symm
  · exact Nat.le_of_eq (secP.put (u.dflt 53) _ : Sec).h.symm
  · refine (put_self _).trans ?_
    rw [head_bytes]
    exact put_row (headL_len k n b)
theorem okHeadW : FnOk Try.prog u 23 spHeadW := by
  refine fn_ok Try.prog u tab8 mo laws8 Try.func23 ?_
  intro xs c y h hc
  unfold spHeadW at h
  split at h
  · cases h
    exact ⟨by kernel_rfl, _, _, bodyHeadW _ _ _ hc⟩
  · cases h
theorem laws9 : Laws Try.prog u tab9 := by
  refine ⟨law, clean, fun p hp => ?_⟩
  rcases List.mem_cons.1 hp with rfl | hp
  · exact (nilH_ok okAppend)
  rcases List.mem_cons.1 hp with rfl | hp
  · exact okShowsW
  rcases List.mem_cons.1 hp with rfl | hp
  · exact okNamesW
  rcases List.mem_cons.1 hp with rfl | hp
  · exact okBytesW
  rcases List.mem_cons.1 hp with rfl | hp
  · exact okNeedW
  rcases List.mem_cons.1 hp with rfl | hp
  · exact (nilP_ok okHeadW)
  exact laws8.tab p hp

end Go.Proofs.Ytgimkldaeobhnaa.Dsk
