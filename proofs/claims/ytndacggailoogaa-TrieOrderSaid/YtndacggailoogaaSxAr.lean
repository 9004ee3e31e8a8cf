/- An abstract machine over values by content: what may be done to the nodes of an arena. -/
import Derived.Test.YtndacggailoogaaSxY
namespace Go.Proofs.Ytndacggailoogaa.Sx
open Go Go.RowKit

section
variable {A : Nat → Type} (P : Program) (u : U A)

def nd0 : Nd := ⟨false, none, none⟩
def kidN (x : Nd) (k : Nat) : Option Nat := match k with
  | 0 => x.k0
  | _ + 1 => x.k1
def setK (x : Nd) (k : Nat) (v : Option Nat) : Nd := match k with
  | 0 => ⟨x.is, v, x.k1⟩
  | _ + 1 => ⟨x.is, x.k0, v⟩
def setIs (x : Nd) (b : Bool) : Nd := ⟨b, x.k0, x.k1⟩

/-! ### memory -/
theorem ar_step {own : Nat → Own A} (hlk : Lk own) {id j : Nat} {n n' : Int} {ns ns' : List Nd} (hid : id < 1073741824) (ho : own id = .ar n ns ∨ (own id = .free ∧ ns = [])) (hs : ∀ i, i ≠ j → nodOf (A := A) id n' ns' i = nodOf id n ns i) :
    updO own id (.ar n' ns') id = .ar n' ns' ∧ updO own id (.ar n' ns') (nodeNo id j) = nodOf id n' ns' j ∧ ∀ k, k ≠ id → k ≠ nodeNo id j → updO own id (.ar n' ns') k = own k := by
  refine ⟨updO_same (by omega), ?_, fun k h1 h2 => ?_⟩
  · rw [updO_ge (nodeNo_ge id j), nodeNo_mod j hid, nodeNo_div j hid, if_pos rfl]
  · rcases Nat.lt_or_ge k 1152921504606846976 with hlt | hge
    · exact updO_ne hlt h1
    · rw [updO_ge hge]
      split
      · rename_i hq
        have hk := nodeNo_of hge
        rw [hq] at hk
        have hij : ndIx k ≠ j := fun h => h2 (by rw [← hk, h])
        rw [hs _ hij]
        rcases ho with ho | ⟨ho, rfl⟩
        · rw [← hlk.node (ndIx k) hid ho, hk]
        · have := hlk.noNode (ndIx k) hid (by rw [ho]; rfl)
          rw [hk] at this
          rw [this]
          rfl
      · rfl
theorem nod_live {o : Own A} (h : o.isNod = true) : o ≠ .free ∧ o ≠ .dead ∧ o.isAr = false := by cases o <;> first | (cases h; done) | simp [Own.isAr]
theorem nod_mutA {o : Own A} (h : o.isNod = true) : o.mut = true := by cases o <;> first | rfl | cases h
theorem lk_own' {own : Nat → Own A} (h : Lk own) {id : Nat} {n : Int} {ns : List Nd} (hid : id < 1073741824) : Lk (updO own id (.ar n ns)) := h.updO (by omega) (fun _ => rfl)
/-- A node's cells turn. -/
theorem HR.setN {w0 : W0} {O0 : Nat → Prop} {e : E A} (hr : HR P u w0 O0 e) {id j b c : Nat} {n n' : Int} {ns : List Nd} {x' : Nd} {cs : Array Value} (hid : id < 1073741824) (ho : e.own id = .ar n ns) (hj : j < ns.length) (hβ : e.β (nodeNo id j) = some (b, c)) (hn : n' = n ∨ j = 0) :
    Ext e (mkE O0 (e.w.setRow b cs) (updO e.own id (.ar n' (ns.set j x'))) e.β) ∧ (EntOk P u (mkE O0 (e.w.setRow b cs) (updO e.own id (.ar n' (ns.set j x'))) e.β) w0.fr (nodeNo id j) (.nod (ndCells id n' j x')) → HR P u w0 O0 (mkE O0 (e.w.setRow b cs) (updO e.own id (.ar n' (ns.set j x'))) e.β)) := by
  have hs : ∀ i, i ≠ j → nodOf (A := A) id n' (ns.set j x') i = nodOf id n ns i := by
    intro i hi
    unfold nodOf
    rw [List.getElem?_set_ne (Ne.symm hi)]
    cases ns[i]? with
    | none => rfl
    | some y =>
      cases i with
      | zero =>
        rcases hn with rfl | rfl
        · rfl
        · exact absurd rfl hi
      | succ i => rfl
  obtain ⟨f1, f2, f3⟩ := ar_step hr.lk hid (.inl ho) hs
  have hlk' := lk_own' hr.lk (n := n') (ns := ns.set j x') hid
  generalize updO e.own id (.ar n' (ns.set j x')) = own' at *
  have f2 : own' (nodeNo id j) = .nod (ndCells id n' j x') := by rw [f2]; unfold nodOf; rw [List.getElem?_set_self hj]
  have g2 : (e.own (nodeNo id j)).isNod = true := by
    rw [hr.lk.node j hid ho]; unfold nodOf; rw [List.getElem?_eq_getElem hj]; rfl
  have gl := nod_live g2
  have hbO : e.O b := hr.ownO P u (nod_mutA g2) hβ
  have hfr := hr.frb P u gl.1 gl.2.1 hβ
  have hna : id ≠ nodeNo id j := by have := nodeNo_ge id j; omega
  have hβi : e.β id = none := by have := hr.ent id; rw [ho] at this; exact this
  have hext : Ext e (mkE O0 (e.w.setRow b cs) own' e.β) := by
    refine hr.extOf P u (by simp) (fun b' hb' hO => setRow_other _ _ _ _ (by rintro rfl; exact hO hbO)) (fun q hq => ?_) (fun q b' c' h1 h2 _ => ?_)
    · by_cases h1 : q = id
      · subst h1; rw [f1, ho]; exact ⟨.ar _ _ _ _, fun _ => rfl⟩
      · by_cases h2 : q = nodeNo id j
        · subst h2
          rw [f2]
          refine ⟨?_, fun _ => rfl⟩
          generalize e.own (nodeNo id j) = o at g2
          cases o <;> first | (cases g2; done) | exact .nod _ _
        · rw [f3 q h1 h2]; exact ⟨.refl hq, fun _ => rfl⟩
    · by_cases e1 : q = id
      · subst e1; rw [hβi] at h2; cases h2
      · by_cases e2 : q = nodeNo id j
        · subst e2; exact hr.ownO P u (nod_mutA g2) h2
        · rw [f3 q e1 e2] at h1; exact hr.ownO P u h1 h2
  have hlive : ∀ q, own' q ≠ .free → own' q ≠ .dead → e.own q ≠ .free ∧ e.own q ≠ .dead := by
    intro q h1 h2
    by_cases e1 : q = id
    · subst e1; rw [ho]; simp
    · by_cases e2 : q = nodeNo id j
      · subst e2; exact ⟨gl.1, gl.2.1⟩
      · rw [f3 q e1 e2] at h1 h2; exact ⟨h1, h2⟩
  refine ⟨hext, fun hent => hr.of P u hext (hr.below.step rfl rfl rfl (by simp) (fun k' hk' hnf => setRow_other _ _ _ _ (by rintro rfl; exact hnf hfr))) ?_ ?_ hlk'⟩
  · intro q q' b' c1 c2 g1 g2 g3 g4 g5 g6
    exact hr.inj q q' b' c1 c2 (hlive q g1 g2).1 (hlive q g1 g2).2 (hlive q' g3 g4).1 (hlive q' g3 g4).2 g5 g6
  · intro q
    by_cases e2 : q = nodeNo id j
    · subst e2; rw [f2]; exact hent
    · by_cases e1 : q = id
      · subst e1; rw [f1]; exact hβi
      · rw [f3 q e1 e2]
        by_cases hf : e.own q = .free
        · rw [hf]; trivial
        · by_cases hd : e.own q = .dead
          · rw [hd]; trivial
          · refine (hr.ent q).later P u hext rfl (fun b' c' hβ' => setRow_other _ _ _ _ ?_)
            rintro rfl
            exact e2 (hr.inj q (nodeNo id j) b' c' c hf hd gl.1 gl.2.1 hβ' hβ)
/-- A new node, in an arena that is there or in a new one. -/
theorem HR.newN {w0 : W0} {O0 : Nat → Prop} {e : E A} (hr : HR P u w0 O0 e) {id : Nat} {n n' : Int} {ns : List Nd} {x' : Nd} {ob : Obj} (hid : id < 1073741824) (ho : (e.own id = .ar n ns ∧ n' = n) ∨ (e.own id = .free ∧ ns = [])) :
    Ext e (mkE O0 (e.w.alloc ob) (updO e.own id (.ar n' (ns ++ [x']))) (upd (upd e.β id none) (nodeNo id ns.length) (some (e.w.heap.size, 0)))) ∧
    (EntOk P u (mkE O0 (e.w.alloc ob) (updO e.own id (.ar n' (ns ++ [x']))) (upd (upd e.β id none) (nodeNo id ns.length) (some (e.w.heap.size, 0)))) w0.fr (nodeNo id ns.length) (.nod (ndCells id n' ns.length x')) →
      HR P u w0 O0 (mkE O0 (e.w.alloc ob) (updO e.own id (.ar n' (ns ++ [x']))) (upd (upd e.β id none) (nodeNo id ns.length) (some (e.w.heap.size, 0))))) := by
  have hs : ∀ i, i ≠ ns.length → nodOf (A := A) id n' (ns ++ [x']) i = nodOf id n ns i := by
    intro i hi
    unfold nodOf
    rcases Nat.lt_or_ge i ns.length with hl | hl
    · rw [List.getElem?_append_left hl, List.getElem?_eq_getElem hl]
      rcases ho with ⟨_, rfl⟩ | ⟨_, rfl⟩
      · rfl
      · exact absurd hl (Nat.not_lt_zero _)
    · rw [List.getElem?_eq_none (by simp; omega), List.getElem?_eq_none hl]
  have ho1 : e.own id = .ar n ns ∨ (e.own id = .free ∧ ns = []) := ho.imp (fun h => h.1) (fun h => h)
  obtain ⟨f1, f2, f3⟩ := ar_step hr.lk hid ho1 hs
  have hlk' := lk_own' hr.lk (n := n') (ns := ns ++ [x']) hid
  generalize updO e.own id (.ar n' (ns ++ [x'])) = own' at *
  have f2 : own' (nodeNo id ns.length) = .nod (ndCells id n' ns.length x') := by rw [f2]; unfold nodOf; rw [List.getElem?_append_right (Nat.le_refl _), Nat.sub_self]; rfl
  have g2 : e.own (nodeNo id ns.length) = .free := by
    rcases ho1 with h | ⟨h, rfl⟩
    · rw [hr.lk.node _ hid h]; unfold nodOf; rw [List.getElem?_eq_none (Nat.le_refl _)]
    · exact hr.lk.noNode _ hid (by rw [h]; rfl)
  generalize hN : nodeNo id ns.length = N at *
  have hna : id ≠ N := by have := nodeNo_ge id ns.length; omega
  have hold : ∀ b, b < e.w.heap.size → (e.w.alloc ob).heap[b]? = e.w.heap[b]? := fun b hb => Below.heap_alloc _ _ _ hb
  have b1 : upd (upd e.β id none) N (some (e.w.heap.size, 0)) N = some (e.w.heap.size, 0) := upd_same ..
  have b2 : upd (upd e.β id none) N (some (e.w.heap.size, 0)) id = none := by rw [upd_ne _ _ hna, upd_same]
  have b3 : ∀ q, q ≠ id → q ≠ N → upd (upd e.β id none) N (some (e.w.heap.size, 0)) q = e.β q := fun q h1 h2 => by rw [upd_ne _ _ h2, upd_ne _ _ h1]
  generalize upd (upd e.β id none) N (some (e.w.heap.size, 0)) = β' at *
  have hβi : e.own id ≠ .free → e.β id = none := by
    intro hf
    rcases ho1 with h | ⟨h, _⟩
    · have := hr.ent id; rw [h] at this; exact this
    · exact absurd h hf
  have hext : Ext e (mkE O0 (e.w.alloc ob) own' β') := by
    refine hr.extOf P u (by rw [alloc_size]; omega) (fun b hb _ => hold b hb) (fun q hq => ?_) (fun q b c hm hβ hb => ?_)
    · have h2 : q ≠ N := by rintro rfl; exact hq g2
      by_cases h1 : q = id
      · subst h1
        rw [f1, b2, hβi hq]
        refine ⟨?_, fun _ => rfl⟩
        rcases ho1 with h | ⟨h, _⟩
        · rw [h]; exact .ar _ _ _ _
        · exact absurd h hq
      · rw [f3 q h1 h2, b3 q h1 h2]
        exact ⟨.refl hq, fun _ => rfl⟩
    · by_cases h2 : q = N
      · subst h2; rw [b1] at hβ; cases hβ; omega
      · by_cases h1 : q = id
        · subst h1; rw [b2] at hβ; cases hβ
        · rw [f3 q h1 h2] at hm
          rw [b3 q h1 h2] at hβ
          exact hr.ownO P u hm hβ
  refine ⟨hext, fun hent => hr.of P u hext (hr.below.step rfl rfl rfl (by rw [alloc_size]; omega) (fun b hb _ => hold b hb)) ?_ ?_ hlk'⟩
  · intro q q' b c1 c2 g1 g2' g3 g4 g5 g6
    by_cases e1 : q = N <;> by_cases e2 : q' = N
    · rw [e1, e2]
    · subst e1
      rw [b1] at g5; cases g5
      by_cases e3 : q' = id
      · subst e3; rw [b2] at g6; cases g6
      · rw [f3 q' e3 e2] at g3 g4
        rw [b3 q' e3 e2] at g6
        have := hr.lt P u g3 g4 g6
        omega
    · subst e2
      rw [b1] at g6; cases g6
      by_cases e3 : q = id
      · subst e3; rw [b2] at g5; cases g5
      · rw [f3 q e3 e1] at g1 g2'
        rw [b3 q e3 e1] at g5
        have := hr.lt P u g1 g2' g5
        omega
    · by_cases e3 : q = id
      · subst e3; rw [b2] at g5; cases g5
      · by_cases e4 : q' = id
        · subst e4; rw [b2] at g6; cases g6
        · rw [f3 q e3 e1] at g1 g2'
          rw [b3 q e3 e1] at g5
          rw [f3 q' e4 e2] at g3 g4
          rw [b3 q' e4 e2] at g6
          exact hr.inj q q' b c1 c2 g1 g2' g3 g4 g5 g6
  · intro q
    by_cases e2 : q = N
    · subst e2; rw [f2]; exact hent
    · by_cases e1 : q = id
      · subst e1; rw [f1]; exact b2
      · rw [f3 q e1 e2]
        by_cases hf : e.own q = .free
        · rw [hf]; trivial
        · by_cases hd : e.own q = .dead
          · rw [hd]; trivial
          · exact (hr.ent q).later P u hext (b3 q e1 e2) (fun b c hβ => hold b (hr.lt P u hf hd hβ))
end
end Go.Proofs.Ytndacggailoogaa.Sx
