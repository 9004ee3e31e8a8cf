/- The log: the law's example, reckoned. -/
import Derived.Test.YtgimkldaeobhnaaWalMathE
import Derived.KernelRfl
namespace Go.Proofs.Ytgimkldaeobhnaa.Dsk
open Go Go.Proofs.Ytgimkldaeobhnaa.Sx

theorem nmL {Q : Int → Int → Int → Bool → List (List Int) → Int → Int → Bool → Int → List Sec → List Wr → Prop} (X : Lg) (h : Q X.region X.turn X.next X.broken X.recs X.d.left X.d.fail X.d.down X.d.calls X.d.kept X.d.wait) :
    ∀ v, v = X.region → ∀ v1, v1 = X.turn → ∀ v2, v2 = X.next → ∀ v3, v3 = X.broken → ∀ v4, v4 = X.recs → ∀ v5, v5 = X.d.left → ∀ v6, v6 = X.d.fail → ∀ v7, v7 = X.d.down → ∀ v8, v8 = X.d.calls → ∀ v9, v9 = X.d.kept → ∀ v10, v10 = X.d.wait → Q v v1 v2 v3 v4 v5 v6 v7 v8 v9 v10 := by
  intro _ h0 _ h1 _ h2 _ h3 _ h4 _ h5 _ h6 _ h7 _ h8 _ h9 _ h10
  subst h0 h1 h2 h3 h4 h5 h6 h7 h8 h9 h10
  exact h
theorem Lg.eta (X : Lg) : (⟨X.d, X.region, X.turn, X.next, X.recs, X.broken⟩ : Lg) = X := rfl
def aw1 : Lg := (openM (spOf 40)).1
def aw2 : Lg := (beginM aw1 [120]).1
def aw3 : Lg := (appendM aw2 [121]).1
def aw4 : Dk := { aw3.d with left := 5 }
def aw4l : Lg := { aw3 with d := aw4 }
def aw5 : Lg := (beginM aw4l [122]).1
def aw6 : Dk := aw5.d.restart 6 1 30
def aw7 : Lg := (openM aw6).1
theorem aw_e1 : ((openM (spOf 40)).2 == 0) = true := by kernel_rfl
theorem aw_e7 : ((openM aw6).2 == 0) = true := by kernel_rfl
def inB (x lo hi : Int) : Bool := decide (lo ≤ x) && decide (x ≤ hi)
theorem inB_of {x lo hi : Int} (h : inB x lo hi = true) : lo ≤ x ∧ x ≤ hi := by
  unfold inB at h
  rw [Bool.and_eq_true] at h
  exact ⟨of_decide_eq_true h.1, of_decide_eq_true h.2⟩
theorem aw_r1 : inB aw1.region 0 1 = true := by kernel_rfl
theorem aw_r2 : inB aw2.region 0 1 = true := by kernel_rfl
theorem aw_n2 : inB aw2.next 0 (halfOf aw2.d) = true := by kernel_rfl
theorem aw_l2 : Nat.ble aw2.recs.length 1000 = true := by kernel_rfl
theorem aw_r4 : inB aw4l.region 0 1 = true := by kernel_rfl
theorem aw_l7 : (aw7.recs.length == 2 && Nat.ble (aw7.recs.getD 0 []).length 1000 && Nat.ble (aw7.recs.getD 1 []).length 1000) = true := by kernel_rfl
theorem tear_ok {a b : Sec} (ha : secOk a) (hb : secOk b) (n : Int) : secOk (tearS a b n) := by
  refine of_ok fun x hx => ?_
  unfold tearL at hx
  rcases List.mem_append.1 hx with hx | hx
  · exact hb x (List.mem_of_mem_take hx)
  · exact ha x (List.mem_of_mem_drop hx)
theorem getW_ok {d : Dk} (h : DkY d) (k : Nat) : secOk (getW d.wait k).data := by
  show secOk (d.wait.getD k zeroW).data
  rw [List.getD_eq_getElem?_getD]
  cases hk : d.wait[k]? with
  | none => exact zero_ok
  | some w => exact h.2 w (List.mem_of_getElem? hk)
theorem keptR_ok {d : Dk} (h : DkY d) (m t b : Int) : ∀ k, ∀ s ∈ keptR d m t b k, secOk s
  | 0 => h.1
  | k + 1 => by
    intro s hs
    have ih := keptR_ok h m t b k
    rw [keptR_next] at hs
    split at hs
    · rcases List.mem_or_eq_of_mem_set hs with hs | rfl
      · exact ih s hs
      · refine tear_ok ?_ (getW_ok h k) b
        show secOk ((keptR d m t b k).getD _ zeroS)
        rw [List.getD_eq_getElem?_getD]
        cases hk : (keptR d m t b k)[(getW d.wait k).at_.toNat]? with
        | none => exact zero_ok
        | some s => exact ih s (List.mem_of_getElem? hk)
    · split at hs
      · rcases List.mem_or_eq_of_mem_set hs with hs | rfl
        · exact ih s hs
        · exact getW_ok h k
      · exact ih s hs
theorem DkY.restart {d : Dk} (h : DkY d) (m t b : Int) : DkY (d.restart m t b) := ⟨keptR_ok h m t b _, fun w hw => by cases hw⟩
theorem one_byte {n : Int} (h : 0 ≤ n ∧ n < 256) : bytesOk [n] := by
  intro x hx
  rw [List.mem_singleton.1 hx]
  exact h
theorem aw_b1 : DkB aw1.d 1000 ∧ DkY aw1.d := by
  unfold aw1
  exact ⟨(open_b (DkB.of 40) (DkY.of 40)).mono (by decide), open_y (DkY.of 40)⟩
theorem aw_b2 : DkB aw2.d 2000 ∧ DkY aw2.d := by
  unfold aw2
  exact ⟨(begin_b (l := aw1) aw_b1.1 (by decide)).mono (by decide), begin_y (l := aw1) aw_b1.2 (one_byte (by decide))⟩
theorem aw_b3 : DkB aw3.d 3000 ∧ DkY aw3.d := by
  unfold aw3
  exact ⟨(append_b (l := aw2) aw_b2.1 (by decide)).mono (by decide), append_y (l := aw2) aw_b2.2 (one_byte (by decide))⟩
theorem arm_b {d : Dk} {n : Nat} (h : DkB d n ∧ DkY d) (x : Int) : DkB { d with left := x } n ∧ DkY { d with left := x } := h
theorem aw_b4 : DkB aw4l.d 3000 ∧ DkY aw4l.d := by
  unfold aw4l aw4
  exact arm_b aw_b3 5
theorem aw_b5 : DkB aw5.d 4000 ∧ DkY aw5.d := by
  unfold aw5
  exact ⟨(begin_b (l := aw4l) aw_b4.1 (by decide)).mono (by decide), begin_y (l := aw4l) aw_b4.2 (one_byte (by decide))⟩
theorem aw_b6 : DkB aw6 0 ∧ DkY aw6 := by
  unfold aw6
  exact ⟨aw_b5.1.restart 6 1 30, aw_b5.2.restart 6 1 30⟩
theorem two_recs {rs : List (List Int)} (h : (rs.length == 2 && Nat.ble (rs.getD 0 []).length 1000 && Nat.ble (rs.getD 1 []).length 1000) = true) : rs.length = 2 ∧ ∀ b ∈ rs, b.length ≤ 1000 := by
  rw [Bool.and_eq_true, Bool.and_eq_true] at h
  obtain ⟨⟨h1, h2⟩, h3⟩ := h
  have h1 : rs.length = 2 := eq_of_beq h1
  match rs, h1 with
  | [x, y], _ =>
    refine ⟨rfl, fun b hb => ?_⟩
    rcases List.mem_cons.1 hb with rfl | hb
    · exact Nat.le_of_ble_eq_true h2
    · rw [List.mem_singleton.1 hb]
      exact Nat.le_of_ble_eq_true h3
theorem aw_recs : aw7.recs.length = 2 ∧ ∀ b ∈ aw7.recs, b.length ≤ 1000 := two_recs aw_l7
end Go.Proofs.Ytgimkldaeobhnaa.Dsk
