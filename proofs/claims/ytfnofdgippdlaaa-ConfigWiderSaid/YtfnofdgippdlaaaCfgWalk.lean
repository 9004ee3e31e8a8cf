/- The choices of an operator: each function's contract. -/
import Derived.Test.YtfnofdgippdlaaaCfgVc
namespace Go.Proofs.Ytfnofdgippdlaaa.Cfg
open Go Go.Proofs.Ytfnofdgippdlaaa.Sx

theorem dec_eq {T : Nat} {l : List (SV A)} {x : A T} (h : dec T l = some x) : l = enc T x ∧ l.length = Try.prog.cellsOf T := by
  unfold dec at h
  split at h
  · cases h
    exact ⟨by kernel_rfl, by kernel_rfl⟩
  · cases h
theorem law : Law Try.prog u := ⟨fun e T l vs x h hr => by rw [(dec_eq h).1] at hr; exact hr, fun T l x h => (dec_eq h).2⟩
theorem clean : ∀ (T : Nat) (x : A T), noOwn.go (u.enc T x) = true := by
  intro T x
  show noOwn.go (enc T x) = true
  unfold enc
  split <;> rfl
theorem mo : Try.prog.follows .mixedOrders = true := by kernel_rfl
theorem laws_nil : Laws Try.prog u [] := { toLaw := law, clean := clean, tab := fun p hp => by cases hp }
theorem body26 (n l h : Int) : BodyOk Try.prog u [] [] Try.f26 [.int .i64 n, .int .i64 l, .int .i64 h] (.int .i64 (clamp n l h)) := by
  constructor
  have e : bodyW Try.prog u [] (drawW Try.prog u []) (loopsBy []) Try.f26 [.int .i64 n, .int .i64 l, .int .i64 h] (.int .i64 (clamp n l h)) = (clamp n l h = clamp n l h) := by kernel_rfl
  rw [e]
theorem ok26 : FnOk Try.prog u 26 sp26 := by
  refine fn_ok Try.prog u [] mo laws_nil Try.func26 ?_
  intro xs c y h hc
  unfold sp26 at h
  split at h
  · cases h
    exact ⟨by kernel_rfl, [], body26 _ _ _⟩
  · cases h
theorem laws0 : Laws Try.prog u tab0 := { toLaw := law, clean := clean, tab := fun p hp => by
                                            rcases List.mem_cons.1 hp with rfl | hp
                                            · exact ok26
                                            · cases hp }
theorem body25 (c0 c1 c2 c3 c4 c5 c6 c7 c8 : Int) : BodyOk Try.prog u tab0 [] Try.f25 [.agg (cfg c0 c1 c2 c3 c4 c5 c6 c7 c8)] (.agg (cfg (clamp c0 1 1000) (clamp c1 (clamp c0 1 1000) 10000) (clamp c2 1 6) (clamp c3 1 1000) (clamp c4 1 64) (clamp c5 1 100) (clamp c6 0 8) (clamp c7 1 1000) (clamp c8 0 1000))) := by
  constructor
  have e : bodyW Try.prog u tab0 (drawW Try.prog u tab0) (loopsBy []) Try.f25 [.agg (cfg c0 c1 c2 c3 c4 c5 c6 c7 c8)] (.agg (cfg (clamp c0 1 1000) (clamp c1 (clamp c0 1 1000) 10000) (clamp c2 1 6) (clamp c3 1 1000) (clamp c4 1 64) (clamp c5 1 100) (clamp c6 0 8) (clamp c7 1 1000) (clamp c8 0 1000))) = vc25 c0 c1 c2 c3 c4 c5 c6 c7 c8 := by kernel_rfl
  rw [e]
  unfold vc25
  simp only [and_self]
theorem ok25 : FnOk Try.prog u 25 sp25 := by
  refine fn_ok Try.prog u tab0 mo laws0 Try.func25 ?_
  intro xs c y h hc
  unfold sp25 at h
  split at h
  · cases h
    rename_i c0 c1 c2 c3 c4 c5 c6 c7 c8
    exact ⟨by kernel_rfl, [], body25 c0 c1 c2 c3 c4 c5 c6 c7 c8⟩
  · cases h
theorem body24 : BodyOk Try.prog u tab0 [] Try.f24 [] (.agg (cfg 20 60 2 10 4 3 1 30 40)) := by
  constructor
  have e : bodyW Try.prog u tab0 (drawW Try.prog u tab0) (loopsBy []) Try.f24 [] (.agg (cfg 20 60 2 10 4 3 1 30 40)) = vc24 := by kernel_rfl
  rw [e]
  unfold vc24
  simp only [and_self]
theorem ok24 : FnOk Try.prog u 24 sp24 := by
  refine fn_ok Try.prog u tab0 mo laws0 Try.func24 ?_
  intro xs c y h hc
  unfold sp24 at h
  split at h
  · cases h
    exact ⟨by kernel_rfl, [], body24⟩
  · cases h
theorem body21 (c0 c1 c2 c3 c4 c5 c6 c7 c8 : Int) : BodyOk Try.prog u tab0 [] Try.f21 [.agg (cfg c0 c1 c2 c3 c4 c5 c6 c7 c8)] (.agg (rowL c0 c1 c2 c3 c4 c5 c6 c7 c8)) := by
  constructor
  have e : bodyW Try.prog u tab0 (drawW Try.prog u tab0) (loopsBy []) Try.f21 [.agg (cfg c0 c1 c2 c3 c4 c5 c6 c7 c8)] (.agg (rowL c0 c1 c2 c3 c4 c5 c6 c7 c8)) = vc21 c0 c1 c2 c3 c4 c5 c6 c7 c8 := by kernel_rfl
  rw [e]
  unfold vc21
  simp only [and_self]
theorem ok21 : FnOk Try.prog u 21 sp21 := by
  refine fn_ok Try.prog u tab0 mo laws0 Try.func21 ?_
  intro xs c y h hc
  unfold sp21 at h
  split at h
  · cases h
    rename_i c0 c1 c2 c3 c4 c5 c6 c7 c8
    exact ⟨by kernel_rfl, [], body21 c0 c1 c2 c3 c4 c5 c6 c7 c8⟩
  · cases h
theorem body23 (c0 c1 c2 c3 c4 c5 c6 c7 c8 : Int) : BodyOk Try.prog u tab0 [] Try.f23 [.agg (cho c0 c1 c2 c3 c4 c5 c6 c7 c8)] (.agg (cfg (fc 30 c0) (IntKind.i64.wrap (fc 30 c0 + fz 60 c1)) (fc 6 c2) (fc 20 c3) (fc 9 c4) (fc 6 c5) (fz 4 c6) (fc 40 c7) (fz 50 c8))) := by
  constructor
  have e : bodyW Try.prog u tab0 (drawW Try.prog u tab0) (loopsBy []) Try.f23 [.agg (cho c0 c1 c2 c3 c4 c5 c6 c7 c8)] (.agg (cfg (fc 30 c0) (IntKind.i64.wrap (fc 30 c0 + fz 60 c1)) (fc 6 c2) (fc 20 c3) (fc 9 c4) (fc 6 c5) (fz 4 c6) (fc 40 c7) (fz 50 c8))) = vc23 c0 c1 c2 c3 c4 c5 c6 c7 c8 := by kernel_rfl
  rw [e]
  unfold vc23
  refine ⟨by decide, by decide, by decide, by decide, by decide, by decide, by decide, by decide, by decide, rfl, rfl, rfl, rfl, rfl, rfl, rfl, rfl, rfl⟩
theorem ok23 : FnOk Try.prog u 23 sp23 := by
  refine fn_ok Try.prog u tab0 mo laws0 Try.func23 ?_
  intro xs c y h hc
  unfold sp23 at h
  split at h
  · cases h
    rename_i c0 c1 c2 c3 c4 c5 c6 c7 c8
    exact ⟨by kernel_rfl, [], body23 c0 c1 c2 c3 c4 c5 c6 c7 c8⟩
  · cases h
theorem wrap_small (n : Int) (h : 0 ≤ n) (h2 : n < 1000000) : IntKind.i64.wrap n = n := by
  rw [IntKind.wrap_i64]
  omega
theorem body22 (c0 c1 c2 c3 c4 c5 c6 c7 c8 : Int) : BodyOk Try.prog u tab0 [(0, .inv (ann22 c0 c1 c2 c3 c4 c5 c6 c7 c8))] Try.f22 [.agg (cfg c0 c1 c2 c3 c4 c5 c6 c7 c8)] (.int .i64 (right c0 c1 c2 c3 c4 c5 c6 c7 c8)) := by
  constructor
  have e : bodyW Try.prog u tab0 (drawW Try.prog u tab0) (loopsBy [(0, .inv (ann22 c0 c1 c2 c3 c4 c5 c6 c7 c8))]) Try.f22 [.agg (cfg c0 c1 c2 c3 c4 c5 c6 c7 c8)] (.int .i64 (right c0 c1 c2 c3 c4 c5 c6 c7 c8)) = vc22 c0 c1 c2 c3 c4 c5 c6 c7 c8 (right c0 c1 c2 c3 c4 c5 c6 c7 c8) := by kernel_rfl
  rw [e]
  have key : ∀ g, g < 9 → (∀ j, j < g → bad ((rows c0 c1 c2 c3 c4 c5 c6 c7 c8).getD j ⟨0, 0, 0⟩) = false) → bad ((rows c0 c1 c2 c3 c4 c5 c6 c7 c8).getD g ⟨0, 0, 0⟩) = true → (g : Int) = right c0 c1 c2 c3 c4 c5 c6 c7 c8 := by
    intro g hg hlow hb
    have h0 := fun h => hlow 0 h
    have h1 := fun h => hlow 1 h
    have h2 := fun h => hlow 2 h
    have h3 := fun h => hlow 3 h
    have h4 := fun h => hlow 4 h
    have h5 := fun h => hlow 5 h
    have h6 := fun h => hlow 6 h
    have h7 := fun h => hlow 7 h
    clear hlow
    unfold right
    match g, hg with
    | 0, _ => simp [rows, bad] at hb; simp [hb]
    | 1, _ => simp [rows, bad] at *; (repeat rw [if_neg (by omega)]); rw [if_pos (by omega)]
    | 2, _ => simp [rows, bad] at *; (repeat rw [if_neg (by omega)]); rw [if_pos (by omega)]
    | 3, _ => simp [rows, bad] at *; (repeat rw [if_neg (by omega)]); rw [if_pos (by omega)]
    | 4, _ => simp [rows, bad] at *; (repeat rw [if_neg (by omega)]); rw [if_pos (by omega)]
    | 5, _ => simp [rows, bad] at *; (repeat rw [if_neg (by omega)]); rw [if_pos (by omega)]
    | 6, _ => simp [rows, bad] at *; (repeat rw [if_neg (by omega)]); rw [if_pos (by omega)]
    | 7, _ => simp [rows, bad] at *; (repeat rw [if_neg (by omega)]); rw [if_pos (by omega)]
    | 8, _ => simp [rows, bad] at *; (repeat rw [if_neg (by omega)]); rw [if_pos (by omega)]
  have last : (∀ j, j < 9 → bad ((rows c0 c1 c2 c3 c4 c5 c6 c7 c8).getD j ⟨0, 0, 0⟩) = false) → -1 = right c0 c1 c2 c3 c4 c5 c6 c7 c8 := by
    intro hlow
    have h0 := hlow 0 (by omega)
    have h1 := hlow 1 (by omega)
    have h2 := hlow 2 (by omega)
    have h3 := hlow 3 (by omega)
    have h4 := hlow 4 (by omega)
    have h5 := hlow 5 (by omega)
    have h6 := hlow 6 (by omega)
    have h7 := hlow 7 (by omega)
    have h8 := hlow 8 (by omega)
    clear hlow
    unfold right
    simp [rows, bad] at *
    (repeat rw [if_neg (by omega)])
  unfold vc22
  refine ⟨⟨0, ⟨by omega, fun j h => by omega⟩, ⟨⟨rfl, rfl⟩, rfl, rfl⟩, rfl⟩, ?_⟩
  rintro g ⟨h1, h2⟩
  refine ⟨fun hlt => ?_, fun hge => ?_⟩
  · have hlt : (g : Int) < 9 := of_decide_eq_true hlt
    have hn : 0 + (g : Int).toNat = g := by omega
    refine ⟨⟨by omega, hlt⟩, ?_⟩
    rw [hn]
    refine ⟨fun hb => key g (by omega) h2 hb, fun hb => ⟨g + 1, ⟨by omega, fun j hj => ?_⟩, ?_, ⟨⟨rfl, rfl⟩, rfl, ?_⟩, rfl⟩⟩
    · by_cases hjg : j = g
      · subst hjg; exact hb
      · exact h2 j (by omega)
    · show 9 - (g + 1) < 9 - g
      omega
    · rw [wrap_small _ (by omega) (by omega)]; omega
  · have hge : ¬ (g : Int) < 9 := of_decide_eq_false hge
    exact last fun j hj => h2 j (by omega)
theorem ok22 : FnOk Try.prog u 22 sp22 := by
  refine fn_ok Try.prog u tab0 mo laws0 Try.func22 ?_
  intro xs c y h hc
  unfold sp22 at h
  split at h
  · cases h
    rename_i c0 c1 c2 c3 c4 c5 c6 c7 c8
    exact ⟨by kernel_rfl, [(0, .inv (ann22 c0 c1 c2 c3 c4 c5 c6 c7 c8))], body22 c0 c1 c2 c3 c4 c5 c6 c7 c8⟩
  · cases h
theorem laws1 : Laws Try.prog u tab1 := { toLaw := law, clean := clean, tab := fun p hp => by
                                            rcases List.mem_cons.1 hp with rfl | hp
                                            · exact ok25
                                            rcases List.mem_cons.1 hp with rfl | hp
                                            · exact ok22
                                            rcases List.mem_cons.1 hp with rfl | hp
                                            · exact ok24
                                            rcases List.mem_cons.1 hp with rfl | hp
                                            · exact ok21
                                            rcases List.mem_cons.1 hp with rfl | hp
                                            · exact ok23
                                            exact laws0.tab p hp }
theorem body20 : BodyOk Try.prog u tab1 [] Try.f20 [] (.bool true) := by
  constructor
  have e : bodyW Try.prog u tab1 (drawW Try.prog u tab1) (loopsBy []) Try.f20 [] (.bool true) = vc20 := by kernel_rfl
  rw [e]
  unfold vc20
  decide
theorem ok20 : FnOk Try.prog u 20 sp20 := by
  refine fn_ok Try.prog u tab1 mo laws1 Try.func20 ?_
  intro xs c y h hc
  unfold sp20 at h
  split at h
  · cases h
    exact ⟨by kernel_rfl, [], body20⟩
  · cases h
theorem laws2 : Laws Try.prog u tab2 := { toLaw := law, clean := clean, tab := fun p hp => by
                                            rcases List.mem_cons.1 hp with rfl | hp
                                            · exact ok20
                                            exact laws1.tab p hp }
end Go.Proofs.Ytfnofdgippdlaaa.Cfg
