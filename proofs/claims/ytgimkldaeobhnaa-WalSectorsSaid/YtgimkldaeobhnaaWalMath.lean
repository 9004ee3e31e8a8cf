/- The disk, in plain terms: what its calls come to when it neither stops nor fails, what waits, what is kept. -/
import Derived.Test.YtgimkldaeobhnaaWalSpec
namespace Go.Proofs.Ytgimkldaeobhnaa.Dsk
open Go Go.Proofs.Ytgimkldaeobhnaa.Sx

theorem wrap_i64_id {n : Int} (h : -9223372036854775808 ≤ n ∧ n < 9223372036854775808) : IntKind.i64.wrap n = n := by rw [IntKind.wrap_i64]; omega
theorem wrap_next {g n : Nat} (h : (g : Int) < n) (hn : n < 9223372036854775808) : IntKind.i64.wrap ((g : Int) + 1) = ((g + 1 : Nat) : Int) := by
  rw [IntKind.wrap_i64]
  omega
theorem Dk.eta (d : Dk) : (⟨d.kept, d.wait, d.left, d.fail, d.down, d.calls⟩ : Dk) = d := rfl
/-- A disk that is told cell by cell. -/
theorem nm {Q : Int → Int → Bool → Int → List Sec → List Wr → Prop} (X : Dk) (h : Q X.left X.fail X.down X.calls X.kept X.wait) : ∀ v, v = X.left → ∀ v1, v1 = X.fail → ∀ v2, v2 = X.down → ∀ v3, v3 = X.calls → ∀ v4, v4 = X.kept → ∀ v5, v5 = X.wait → Q v v1 v2 v3 v4 v5 := by
  intro _ h1 _ h2 _ h3 _ h4 _ h5 _ h6
  subst h1 h2 h3 h4 h5 h6
  exact h
theorem same_own {X Y : Dk} (h : X = Y) : (True ∧ True ∧ X.left = Y.left ∧ X.fail = Y.fail ∧ X.down = Y.down ∧ X.calls = Y.calls) ∧ X.kept = Y.kept ∧ X.wait = Y.wait := by
  subst h
  exact ⟨⟨trivial, trivial, rfl, rfl, rfl, rfl⟩, rfl, rfl⟩

theorem same_own3 {X Y : Dk} {n : Nat} (h : X = Y) (hk : Y.kept.length = n) : ((True ∧ True ∧ X.left = Y.left ∧ X.fail = Y.fail ∧ X.down = Y.down ∧ X.calls = Y.calls) ∧ X.kept = Y.kept ∧ True ∧ X.wait = Y.wait) ∧ Y.kept.length = n ∧ True := by
  subst h
  exact ⟨⟨⟨trivial, trivial, rfl, rfl, rfl, rfl⟩, rfl, trivial, rfl⟩, hk, trivial⟩
/-! ### sectors -/
theorem put_self (x : Sec) : secP.put (u.dflt 53) (List.take 64 (List.drop 0 x.l)) = x := by
  show Sec.of (List.take 64 (List.drop 0 x.l)) = x
  rw [List.drop_zero, List.take_of_length_le (by rw [x.h]; exact Nat.le_refl _), Sec.of_self]
theorem put_get (x : Sec) : secP.put (u.dflt 53) (List.take 64 (List.drop 0 (secP.get x))) = x := put_self x
theorem put_row {l : List Int} (h : l.length = 64) : secP.put (u.dflt 53) (List.take 64 (List.drop 0 l)) = ⟨l, h⟩ := put_self ⟨l, h⟩
theorem zero_one {w : Wr} : (([zeroW].set 0 w).getD 0 (u.dflt 68) : Wr) = w := rfl
theorem one_wr (d : Dk) (g : Nat) : (([zeroW].set (0 : Nat) (d.wait.getD (↑g : Int).toNat (u.dflt (68 : Nat)))).getD (0 : Nat) (u.dflt (68 : Nat))) = getW d.wait g := rfl
theorem mx_in (n : Int) : 0 ≤ mx 0 (mn n 64) ∧ mx 0 (mn n 64) ≤ 64 := by unfold mx mn; split <;> split <;> omega
theorem tear_len (a b : Sec) (n : Int) : (tearL a.l b.l n).length = 64 := by
  have := mx_in n
  unfold tearL
  rw [List.length_append, List.length_take, List.length_drop, a.h, b.h]
  omega

/-- What is copied into a sector's first bytes. -/
theorem tear_eq (a : Sec) (w : Wr) (n : Int) : secP.put a (List.take 0 (secP.get a) ++ List.take (min (List.take 64 (List.drop 0 (wrP.get w))).length ((mx 0 (mn n 64)).toNat - 0)) (List.take 64 (List.drop 0 (wrP.get w))) ++ List.drop (0 + min (List.take 64 (List.drop 0 (wrP.get w))).length ((mx 0 (mn n 64)).toNat - 0)) (secP.get a)) = tearS a w.data n := by
  have hn := mx_in n
  have key : ∀ x y : List Int, y.length = 64 → List.take 0 x ++ List.take (min (List.take 64 (List.drop 0 y)).length ((mx 0 (mn n 64)).toNat - 0)) (List.take 64 (List.drop 0 y)) ++ List.drop (0 + min (List.take 64 (List.drop 0 y)).length ((mx 0 (mn n 64)).toNat - 0)) x = tearL x y n := by
    intro x y hy
    have hw : List.take 64 (List.drop 0 y) = y := by rw [List.drop_zero, List.take_of_length_le (by omega)]
    rw [hw, hy, Nat.sub_zero, Nat.zero_add, List.take_zero, List.nil_append, Nat.min_eq_right (by omega)]
    rfl
  exact congrArg Sec.of (key a.l w.data.l w.data.h)
/-! ### what waits, and what is kept -/
/-- There are no more sectors than may be, and of so many writes each one waits for one that is. -/
theorem DkB.ok {d : Dk} {m : Nat} (h : DkB d m) (hm : m ≤ 1000000000) : DkOk d := ⟨h.1, by have := h.2.1; omega, h.2.2⟩
theorem DkB.mono {d : Dk} {m n : Nat} (h : DkB d m) (hm : m ≤ n) : DkB d n := ⟨h.1, Nat.le_trans h.2.1 hm, h.2.2⟩
theorem size_in (n : Int) : (mx 0 (mn n 512)).toNat ≤ 512 := by unfold mx mn; split <;> split <;> omega
theorem DkB.of (n : Int) : DkB (spOf n) 0 := ⟨by simpa [spOf] using size_in n, Nat.le_refl _, fun k hk => absurd hk (Nat.not_lt_zero _)⟩
theorem getW_app {ws : List Wr} {w : Wr} {k : Nat} : getW (ws ++ [w]) k = if k < ws.length then getW ws k else if k = ws.length then w else zeroW := by
  unfold getW
  by_cases h : k < ws.length
  · rw [if_pos h]; simp [List.getD, List.getElem?_append_left h]
  · rw [if_neg h]
    by_cases h2 : k = ws.length
    · subst h2; simp [List.getD]
    · rw [if_neg h2]; simp [List.getD, List.getElem?_eq_none (show (ws ++ [w]).length ≤ k by simp; omega)]
theorem inD_iff {d : Dk} {n : Int} : inD d n = true ↔ 0 ≤ n ∧ n < d.kept.length := by
  unfold inD
  simp only [Bool.not_eq_true', Bool.or_eq_false_iff, decide_eq_false_iff_not]
  omega
theorem write_kept (d : Dk) (n : Int) (x : Sec) : (d.write n x).kept = d.kept := by 
  unfold Dk.write
  split
  · rfl
  · split
    · split <;> rfl
    · rfl
theorem DkB.call {d : Dk} {m : Nat} (h : DkB d m) : DkB d.call m := h
theorem DkB.app {d : Dk} {m : Nat} (h : DkB d m) {n : Int} {x : Sec} (hn : 0 ≤ n ∧ n < d.kept.length) : DkB { d with wait := d.wait ++ [⟨n, x⟩] } (m + 1) := by
  refine ⟨h.1, by have := h.2.1; simp; exact this, fun k hk => ?_⟩
  have hk : k < d.wait.length + 1 := by simpa using hk
  show 0 ≤ (getW (d.wait ++ [⟨n, x⟩]) k).at_ ∧ (getW (d.wait ++ [⟨n, x⟩]) k).at_ < d.kept.length
  rw [getW_app]
  split
  · exact h.2.2 k ‹_›
  · rw [if_pos (by omega)]; exact hn
theorem DkB.write {d : Dk} {m : Nat} (h : DkB d m) (n : Int) (x : Sec) : DkB (d.write n x) (m + 1) := by
  unfold Dk.write
  split
  · exact h.mono (Nat.le_succ _)
  · split
    · rename_i hin
      split
      · exact DkB.app (d := d.call) h.call (inD_iff.1 hin)
      · exact h.call.mono (Nat.le_succ _)
    · exact h.mono (Nat.le_succ _)
theorem readAt_next (d : Dk) (n : Int) (g : Nat) : readAt d n (g + 1) = if ((getW d.wait g).at_ == n) = true then (getW d.wait g).data else readAt d n g := rfl
theorem keptR_next (d : Dk) (m t b : Int) (g : Nat) : keptR d m t b (g + 1) = if ((g : Int) == t) = true then (keptR d m t b g).set (getW d.wait g).at_.toNat (tearS (getS (keptR d m t b g) (getW d.wait g).at_.toNat) (getW d.wait g).data b) else if bitM m g = true then (keptR d m t b g).set (getW d.wait g).at_.toNat (getW d.wait g).data else keptR d m t b g := rfl
theorem keptAt_len (d : Dk) : ∀ k, (keptAt d k).length = d.kept.length
  | 0 => rfl
  | k + 1 => by unfold keptAt; rw [List.length_set, keptAt_len d k]
theorem keptR_len (d : Dk) (a b c : Int) : ∀ k, (keptR d a b c k).length = d.kept.length
  | 0 => rfl
  | k + 1 => by
    unfold keptR
    split
    · rw [List.length_set, keptR_len d a b c k]
    · split
      · rw [List.length_set, keptR_len d a b c k]
      · exact keptR_len d a b c k
theorem DkB.flush {d : Dk} {m : Nat} (h : DkB d m) : DkB d.flush m := by
  unfold Dk.flush
  split
  · exact h
  · split
    · exact h
    · exact ⟨by show (keptAt d d.wait.length).length ≤ 512; rw [keptAt_len]; exact h.1, Nat.zero_le _, fun k hk => absurd hk (Nat.not_lt_zero _)⟩
theorem DkB.restart {d : Dk} {m : Nat} (h : DkB d m) (a b c : Int) : DkB (d.restart a b c) 0 :=
  ⟨by show (keptR d a b c d.wait.length).length ≤ 512; rw [keptR_len]; exact h.1, Nat.zero_le _, fun k hk => absurd hk (Nat.not_lt_zero _)⟩
theorem keptAt_call (d : Dk) : ∀ k, keptAt d.call k = keptAt d k
  | 0 => rfl
  | k + 1 => by unfold keptAt; rw [keptAt_call d k]; rfl

/-! ### a disk that neither stops nor fails -/
structure Calm (d : Dk) : Prop where
  down : d.down = false
  left : d.left = -1
  fail : d.fail = -1
theorem Calm.of (n : Int) : Calm (spOf n) := ⟨rfl, rfl, rfl⟩
theorem Calm.e {d : Dk} (h : Calm d) : callE d = 0 := by unfold callE; simp [h.down, h.left, h.fail]
theorem Calm.call {d : Dk} (h : Calm d) : Calm d.call := by
  refine ⟨?_, ?_, ?_⟩
  · simp [Dk.call, h.down, h.left]
  · simp only [Dk.call, h.left]; decide
  · simp only [Dk.call, h.fail]; decide
theorem Calm.writeE {d : Dk} (h : Calm d) {n : Int} (hn : 0 ≤ n ∧ n < d.kept.length) : writeE d n = 0 := by
  unfold Dsk.writeE
  rw [if_neg (by simp [h.down]), if_pos (inD_iff.2 hn), h.e]
theorem Calm.write {d : Dk} (h : Calm d) {n : Int} {x : Sec} (hn : 0 ≤ n ∧ n < d.kept.length) : d.write n x = { d.call with wait := d.wait ++ [⟨n, x⟩] } := by
  unfold Dk.write
  rw [if_neg (by simp [h.down]), if_pos (inD_iff.2 hn), if_pos (by rw [h.e]; rfl)]
theorem Calm.write_wait {d : Dk} (h : Calm d) {n : Int} {x : Sec} (hn : 0 ≤ n ∧ n < d.kept.length) : (d.write n x).wait = d.wait ++ [⟨n, x⟩] := by rw [h.write hn]
theorem Calm.write_calm {d : Dk} (h : Calm d) {n : Int} {x : Sec} (hn : 0 ≤ n ∧ n < d.kept.length) : Calm (d.write n x) := by rw [h.write hn]; exact ⟨h.call.down, h.call.left, h.call.fail⟩
theorem Calm.flushE {d : Dk} (h : Calm d) : flushE d = 0 := by unfold Dsk.flushE; rw [if_neg (by simp [h.down]), h.e]
theorem Calm.flush {d : Dk} (h : Calm d) : d.flush = { d.call with kept := keptAt d d.wait.length, wait := [] } := by
  unfold Dk.flush
  rw [if_neg (by simp [h.down]), if_neg (by rw [h.e]; decide)]
theorem Calm.flush_calm {d : Dk} (h : Calm d) : Calm d.flush := by rw [h.flush]; exact ⟨h.call.down, h.call.left, h.call.fail⟩
theorem Calm.restart (d : Dk) (a b c : Int) : Calm (d.restart a b c) := ⟨rfl, rfl, rfl⟩
theorem Calm.readE {d : Dk} (h : Calm d) {n : Int} (hn : 0 ≤ n ∧ n < d.kept.length) : readE d n = 0 := by
  unfold Dsk.readE
  rw [if_neg (by simp [h.down]), if_pos (inD_iff.2 hn)]
theorem Calm.readS {d : Dk} (h : Calm d) {n : Int} (hn : 0 ≤ n ∧ n < d.kept.length) : readS d n = readAt d n d.wait.length := by
  unfold Dsk.readS
  rw [if_neg (by simp [h.down]), if_pos (inD_iff.2 hn)]
theorem getS_set {ks : List Sec} {i j : Nat} {x : Sec} (hi : i < ks.length) : getS (ks.set i x) j = if i = j then x else getS ks j := by
  unfold getS
  by_cases h : i = j
  · subst h; rw [if_pos rfl]; simp [List.getD, List.getElem?_set, hi]
  · rw [if_neg h]; simp [List.getD, List.getElem?_set, h]
end Go.Proofs.Ytgimkldaeobhnaa.Dsk
