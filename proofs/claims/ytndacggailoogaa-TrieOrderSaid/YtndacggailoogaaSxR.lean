/- Arguments, opened: what the cells of a value are by its type; and a law's row out of a contract. -/
import Derived.Test.YtndacggailoogaaSxQ
import Derived.OpenShut
import Derived.Carry
import Derived.WideShapes
import Derived.Deep.Slices
import Derived.SizedLaws
namespace Go.Proofs.Ytndacggailoogaa.Sx
open Go Go.RowKit

/-- A cell of a value that a caller may hand in. -/
inductive Leaf | int (k : IntKind) | bool | str | sl (e : TypeId)
section
variable {H : Type} {enc : TypeId × Value → H} {P : Program} {w : World}
def fieldsL (sh : TypeId → Option (List Leaf)) (cells : TypeId → Nat) (total : Nat) : Nat → List Field → Option (List Leaf)
  | off, [] => if Nat.beq off total then some [] else none
  | off, f :: r => if Nat.beq f.offset off then (match sh f.type with
    | some l => (match fieldsL sh cells total (off + cells f.type) r with
      | some l2 => if Nat.beq l.length (cells f.type) then some (l ++ l2) else none
      | none => none)
    | none => none) else none
def repL (l : List Leaf) : Nat → List Leaf
  | 0 => []
  | n + 1 => l ++ repL l n
/-- The cells of a type, one by one. -/
def shape (P : Program) : Nat → TypeId → Option (List Leaf)
  | 0, _ => none
  | n + 1, t => match P.underlying t with
    | some .bool => some [.bool]
    | some (.int k) => some [.int k]
    | some .string => some [.str]
    | some (.slice e) => some [.sl e]
    | some (.struct fs) => fieldsL (shape P n) P.cellsOf (P.cellsOf t) 0 fs.toList
    | some (.array m e) => match shape P n e with
      | some l => if Nat.beq l.length (P.cellsOf e) && Nat.beq (m * P.cellsOf e) (P.cellsOf t) then some (repL l m) else none
      | none => none
    | _ => none
def leafOk (enc : TypeId × Value → H) (P : Program) (w : World) (sp : Nat → Bool) : Leaf → Value → Prop
  | .int k, v => ∃ n, v = .int k n ∧ (Lit.int k n).wf = true
  | .bool, v => ∃ b, v = .bool b
  | .str, v => ∃ s : ByteArray, v = .string s ∧ s.size ≤ maxLen
  | .sl e, v => v = .slice none 0 0 ∨ ∃ a len cap n, v = .slice (some a) len cap ∧ len ≤ cap ∧ cap ≤ maxLen ∧
    ∀ i, i < len → ∃ cs x, w.cells? 0 (a.add (i * P.cellsOf e)) (P.cellsOf e) = some cs ∧ DataW.trod enc P w 0 sp true n e cs = some x
inductive Leaves (enc : TypeId × Value → H) (P : Program) (w : World) (sp : Nat → Bool) : List Leaf → List Value → Prop
  | nil : Leaves enc P w sp [] []
  | cons {l v ls vs} : leafOk enc P w sp l v → Leaves enc P w sp ls vs → Leaves enc P w sp (l :: ls) (v :: vs)
theorem Leaves.append {sp : Nat → Bool} {a b : List Leaf} {vs us : List Value} (h : Leaves enc P w sp a vs) (k : Leaves enc P w sp b us) : Leaves enc P w sp (a ++ b) (vs ++ us) := by
  induction h with
  | nil => exact k
  | cons h1 _ ih => exact .cons h1 ih
theorem Leaves.one {sp : Nat → Bool} {l : Leaf} {v : Value} (h : leafOk enc P w sp l v) : Leaves enc P w sp [l] [v] := .cons h .nil
theorem shape_sound {sp : Nat → Bool} : ∀ (n : Nat) {t : TypeId} {fuel : Nat} {cs : List Value} {x : DataW H × List MemPlace} {L : List Leaf}, shape P n t = some L → DataW.trod enc P w 0 sp true fuel t cs = some x → Leaves enc P w sp L cs := by
  intro n
  induction n with
  | zero => intro t fuel cs x L h _; cases h
  | succ n ih =>
    intro t fuel cs x L h hx
    unfold shape at h
    split at h
    · rename_i hu
      cases h
      obtain ⟨b, rfl, _⟩ := DataW.trod_bool hu hx
      exact .one ⟨b, rfl⟩
    · rename_i k hu
      cases h
      obtain ⟨m, rfl, _, hw⟩ := DataW.trod_int hu hx
      exact .one ⟨m, rfl, hw⟩
    · rename_i hu
      cases h
      obtain ⟨s, rfl, _, hs⟩ := DataW.trod_string hu hx
      exact .one ⟨s, rfl, hs⟩
    · rename_i e hu
      cases h
      rcases DataW.trod_slice hu hx with ⟨rfl, _⟩ | ⟨a, len, cap, elems, rest, m, _, rfl, _, _, hl, hc, hlen, hel, _⟩
      · exact .one (.inl rfl)
      · refine .one (.inr ⟨a, len, cap, m, rfl, hl, hc, fun i hi => ?_⟩)
        have h1 := hel i hi
        have hi' : i < elems.length := by omega
        rw [List.getElem?_eq_getElem hi'] at h1
        obtain ⟨cs, h2, h3⟩ := Option.bind_eq_some_iff.1 h1
        exact ⟨cs, _, h2, h3⟩
    · rename_i fs hu
      obtain ⟨xs, m, _, _, hl, hlen, hf⟩ := DataW.trod_struct hu hx
      have key : ∀ (r : List Field) (off i : Nat) (L : List Leaf), (∀ j f, r[j]? = some f → fs[i + j]? = some f) → i + r.length = fs.size → fieldsL (shape P n) P.cellsOf (P.cellsOf t) off r = some L → Leaves enc P w sp L (cs.drop off) := by
        intro r
        induction r with
        | nil =>
          intro off i L _ _ h
          unfold fieldsL at h
          split at h
          · rename_i hb
            cases h
            rw [Nat.eq_of_beq_eq_true hb, ← hl]
            simp
            exact .nil
          · cases h
        | cons f r ihr =>
          intro off i L hr hsz h
          unfold fieldsL at h
          split at h
          · rename_i hb
            have hoff := Nat.eq_of_beq_eq_true hb
            split at h
            · rename_i l hsl
              split at h
              · rename_i l2 hl2
                split at h
                · cases h
                  have hfi := hr 0 f rfl
                  have h1 := hf (i + 0) f hfi
                  have hi' : i + 0 < xs.length := by simp at hsz; omega
                  rw [List.getElem?_eq_getElem hi', hoff] at h1
                  have h2 := ih hsl h1
                  have h3 := ihr (off + P.cellsOf f.type) (i + 1) l2 (fun j g hj => by have := hr (j + 1) g (by simpa using hj); rw [show i + 1 + j = i + (j + 1) by omega]; exact this) (by simp at hsz; omega) hl2
                  have := h2.append h3
                  rw [← List.drop_drop, List.take_append_drop] at this
                  exact this
                · cases h
              · cases h
            · cases h
          · cases h
      have := key fs.toList 0 0 L (by intro j f hj; simpa using hj) (by simp) h
      simpa using this
    · rename_i m e hu
      split at h
      · rename_i l hsl
        split at h
        · rename_i hb
          cases h
          simp only [Bool.and_eq_true] at hb
          have hb2 := Nat.eq_of_beq_eq_true hb.2
          obtain ⟨xs, q, _, _, hl, hlen, hf⟩ := DataW.trod_array hu hx
          have key : ∀ (r i : Nat), i + r = m → Leaves enc P w sp (repL l r) (cs.drop (i * P.cellsOf e)) := by
            intro r
            induction r with
            | zero =>
              intro i hi
              have : cs.drop (i * P.cellsOf e) = [] := by
                apply List.drop_eq_nil_of_le
                rw [hl, ← hb2, ← hi]
                simp
              rw [this]
              exact .nil
            | succ r ihr =>
              intro i hi
              have h1 := hf i (by omega)
              have hi' : i < xs.length := by omega
              rw [List.getElem?_eq_getElem hi'] at h1
              have h2 := ih hsl h1
              have h3 := ihr (i + 1) (by omega)
              have := h2.append h3
              rw [Nat.add_mul, Nat.one_mul, ← List.drop_drop, List.take_append_drop] at this
              exact this
          have := key m 0 (by omega)
          simpa using this
        · cases h
      · cases h
    · cases h
/-- A struct that is handed in. -/
theorem open_cells {base : Nat} {sp : Nat → Bool} {t : TypeId} {fs : Array Field} {v : Value} {d : DataW H} {ps : List MemPlace} {L : List Leaf} (ht : P.underlying t = some (.struct fs)) (hs : shape P 8 t = some L) (hval : Value.okWide P w .any base t v) (hd : DataW.Trod enc P w 0 sp true t v d ps) :
    ∃ cs : List Value, v = .agg ⟨cs⟩ ∧ Leaves enc P w sp L cs := by
  obtain ⟨cs, rfl, _⟩ := WideShapes.okWide_struct ht hval
  obtain ⟨fuel, hf⟩ := hd
  exact ⟨cs.toList, rfl, shape_sound 8 hs hf⟩
theorem Leaves.split {sp : Nat → Bool} {l : Leaf} {ls : List Leaf} {cs : List Value} (h : Leaves enc P w sp (l :: ls) cs) : ∃ v vs, cs = v :: vs ∧ leafOk enc P w sp l v ∧ Leaves enc P w sp ls vs := by
  cases h with
  | cons h1 h2 => exact ⟨_, _, rfl, h1, h2⟩
theorem Leaves.int {sp : Nat → Bool} {k : IntKind} {ls : List Leaf} {cs : List Value} (h : Leaves enc P w sp (.int k :: ls) cs) : ∃ n vs, cs = .int k n :: vs ∧ (Lit.int k n).wf = true ∧ Leaves enc P w sp ls vs := by
  obtain ⟨v, vs, rfl, ⟨n, rfl, hw⟩, h2⟩ := h.split
  exact ⟨n, vs, rfl, hw, h2⟩
theorem Leaves.bool {sp : Nat → Bool} {ls : List Leaf} {cs : List Value} (h : Leaves enc P w sp (.bool :: ls) cs) : ∃ b vs, cs = .bool b :: vs ∧ Leaves enc P w sp ls vs := by
  obtain ⟨v, vs, rfl, ⟨b, rfl⟩, h2⟩ := h.split
  exact ⟨b, vs, rfl, h2⟩
theorem Leaves.str {sp : Nat → Bool} {ls : List Leaf} {cs : List Value} (h : Leaves enc P w sp (.str :: ls) cs) : ∃ (s : ByteArray) (vs : List Value), cs = .string s :: vs ∧ s.size ≤ maxLen ∧ Leaves enc P w sp ls vs := by
  obtain ⟨v, vs, rfl, ⟨s, rfl, hs⟩, h2⟩ := h.split
  exact ⟨s, vs, rfl, hs, h2⟩
theorem Leaves.done {sp : Nat → Bool} {cs : List Value} (h : Leaves enc P w sp [] cs) : cs = [] := by cases h; rfl
theorem u8_wf {n : Int} (h : (Lit.int .u8 n).wf = true) : 0 ≤ n ∧ n < 256 := by
  have h : IntKind.u8.min ≤ n ∧ n ≤ IntKind.u8.max := by simpa [Lit.wf] using h
  have h1 : IntKind.u8.min = 0 := by decide
  have h2 : IntKind.u8.max = 255 := by decide
  rw [h1, h2] at h
  omega
theorem u16_wf {n : Int} (h : (Lit.int .u16 n).wf = true) : 0 ≤ n ∧ n < 65536 := by
  have h : IntKind.u16.min ≤ n ∧ n ≤ IntKind.u16.max := by simpa [Lit.wf] using h
  have h1 : IntKind.u16.min = 0 := by decide
  have h2 : IntKind.u16.max = 65535 := by decide
  rw [h1, h2] at h
  omega
theorem u32_wf {n : Int} (h : (Lit.int .u32 n).wf = true) : 0 ≤ n ∧ n < 4294967296 := by
  have h : IntKind.u32.min ≤ n ∧ n ≤ IntKind.u32.max := by simpa [Lit.wf] using h
  have h1 : IntKind.u32.min = 0 := by decide
  have h2 : IntKind.u32.max = 4294967295 := by decide
  rw [h1, h2] at h
  omega
theorem u64_wf {n : Int} (h : (Lit.int .u64 n).wf = true) : 0 ≤ n ∧ n < 18446744073709551616 := by
  have h : IntKind.u64.min ≤ n ∧ n ≤ IntKind.u64.max := by simpa [Lit.wf] using h
  have h1 : IntKind.u64.min = 0 := by decide
  have h2 : IntKind.u64.max = 18446744073709551615 := by decide
  rw [h1, h2] at h
  omega
theorem i64_wf {n : Int} (h : (Lit.int .i64 n).wf = true) : -9223372036854775808 ≤ n ∧ n < 9223372036854775808 := by
  have h : IntKind.i64.min ≤ n ∧ n ≤ IntKind.i64.max := by simpa [Lit.wf] using h
  have h1 : IntKind.i64.min = -9223372036854775808 := by decide
  have h2 : IntKind.i64.max = 9223372036854775807 := by decide
  rw [h1, h2] at h
  omega
/-- What was read ahead of a call reads so behind it. -/
theorem stays {t : TypeId} (hl : laidOutB P = true) (hr : P.readableRec t = true) (hrow : t < P.types.size) {w' : World} {v : Value} {d : DataW H} {ps : List MemPlace}
    (h : DataW.Trod enc P w 0 (fun _ => true) true t v d ps) (hb : Below w.heap.size w w') : DataW.Trod enc P w' 0 (fun b => decide (b < w.heap.size)) true t v d ps :=
  Below.trod hl hr hrow h hb fun x hx => by
    obtain ⟨fuel, hf⟩ := h
    exact DataW.trod_lt fuel _ _ _ hf x hx
end
section
variable {A : Nat → Type} (P : Program) (u : U A)
theorem no_spot {w : World} {a : Addr} {v : Value} (h : w.cell? a = some v) : a.spot = none := by
  cases hs : a.spot with
  | none => rfl
  | some s =>
    exfalso
    obtain ⟨b, o, sp⟩ := a
    subst hs
    unfold World.cell? at h
    split at h <;> simp at h
/-- A slice that is handed in takes no more than the reach. -/
theorem slice_reach {H : Type} {enc : TypeId × Value → H} {w : World} {sp : Nat → Bool} {t e : TypeId} {a : Option Addr} {len cap : Nat} {d : DataW H} {ps : List MemPlace} (ht : P.underlying t = some (.slice e)) (hd : DataW.Trod enc P w 0 sp true t (.slice a len cap) d ps)
    (hw : (d.weights P t).all (· ≤ reachBytes) = true) : len * P.bytesOf e ≤ reachBytes := by
  obtain ⟨fuel, hx⟩ := hd
  have hcs : (Value.slice a len cap).cells.toList = [.slice a len cap] := rfl
  rw [hcs] at hx
  rcases DataW.trod_slice ht hx with ⟨h0, _⟩ | ⟨a', len', cap', elems, rest, m, _, h0, hxx, _, hl, hc, hlen, hel, _⟩
  · cases h0; omega
  · cases h0
    have hd : d = .slice (elems.map (·.1)) (rest.map (·.1)) := congrArg Prod.fst hxx
    rw [hd] at hw
    have := List.all_eq_true.1 hw ((len + rest.length) * P.bytesOf e) (by simp [DataW.weights, ht, hlen])
    have h2 : (len + rest.length) * P.bytesOf e ≤ reachBytes := by simpa using this
    exact Nat.le_trans (Nat.mul_le_mul_right _ (by omega)) h2
/-- The reach of one argument. -/
theorem reach_of {H : Type} {ts : List TypeId} {ds : List (DataW H)} (h : (DataW.weightsEach P ts ds).all (· ≤ reachBytes) = true) {j : Nat} {t : TypeId} {d : DataW H} (ht : ts[j]? = some t) (hd : ds[j]? = some d) : (d.weights P t).all (· ≤ reachBytes) = true :=
  List.all_eq_true.2 fun n hn => List.all_eq_true.1 h n (DataW.weights_mem_each ht hd n hn)
/-- A row of bytes that is handed in. -/
theorem open_bytes {H : Type} {enc : TypeId × Value → H} {w : World} {sp : Nat → Bool} {t T : TypeId} {v : Value} {d : DataW H} {ps : List MemPlace} (ht : P.underlying t = some (.slice T)) (he : P.underlying T = some (.int .u8)) (hc : P.cellsOf T = 1)
    (f : Int → A T) (hf : ∀ n, u.enc T (f n) = [.int .u8 n]) (hval : Value.okWide P w .any 0 t v) (hd : DataW.Trod enc P w 0 sp true t v d ps) :
    ∃ ns : List Int, (∀ c ∈ ns, 0 ≤ c ∧ c < 256) ∧ (ns.length ≤ maxLen ∧ ((d.weights P t).all (· ≤ reachBytes) = true → P.bytesOf T = 1 → ns.length ≤ reachBytes)) ∧ RepL P u (outer w fun _ => False) [.csl T (ns.map f)] [v] := by
  obtain ⟨a, len, cap, rfl⟩ := WideShapes.okWide_slice ht hval
  have hreach : (d.weights P t).all (· ≤ reachBytes) = true → P.bytesOf T = 1 → len ≤ reachBytes := fun hw h1 => by have := slice_reach P ht hd hw; rw [h1] at this; omega
  obtain ⟨fuel, hx⟩ := hd
  have hcs : (Value.slice a len cap).cells.toList = [.slice a len cap] := rfl
  rw [hcs] at hx
  rcases Deep.open_slice1 ht hc hx with ⟨h0, _⟩ | ⟨a', len', cap', m, n, V, D, Pl, h0, _, hl, hm, hmm, _, hV⟩
  · cases h0
    exact ⟨[], by simp, ⟨Nat.zero_le _, fun _ _ => Nat.zero_le _⟩, .csl _ _ none 0 0 (fun _ => []) rfl (Nat.le_refl _) (.inl rfl) (fun i hi => by simp at hi) (fun i x hi => by simp at hi) .nil⟩
  · cases h0
    have hle : len ≤ m := by rw [hmm]; split <;> omega
    have hint : ∀ i, ∃ k : Int, i < m → V i = .int .u8 k ∧ (0 ≤ k ∧ k < 256) := by
      intro i
      by_cases hi : i < m
      · obtain ⟨k, h1, _, hw⟩ := DataW.trod_int he (hV i hi).2
        have hv : V i = .int .u8 k := by simpa using h1
        exact ⟨k, fun _ => ⟨hv, u8_wf hw⟩⟩
      · exact ⟨0, fun h => absurd h hi⟩
    obtain ⟨K, hK⟩ := Classical.axiomOfChoice hint
    have hlen : ((List.range len).map K).length = len := by simp
    refine ⟨(List.range len).map K, ?_, ⟨by rw [hlen]; omega, by rw [hlen]; exact hreach⟩, ?_⟩
    · intro c hcm
      obtain ⟨i, hi, rfl⟩ := List.mem_map.1 hcm
      exact (hK i (by have := List.mem_range.1 hi; omega)).2
    · refine .csl _ _ (some a') len cap (fun i => [.int .u8 (K i)]) (by simp) hl ?_ (fun i _ => hc.symm) ?_ .nil
      · by_cases h0 : len = 0
        · left
          subst h0
          rfl
        · right
          have hs := no_spot (hV 0 (by omega)).1
          obtain ⟨b, o, s⟩ := a'
          have hs' : s = none := by
            unfold Addr.add at hs
            simpa using hs
          subst hs'
          have hlt : b < w.heap.size := by
            have h1 := (hV 0 (by omega)).1
            rw [add_add'] at h1
            rcases Nat.lt_or_ge b w.heap.size with h' | h'
            · exact h'
            · simp [World.cell?, Array.getElem?_eq_none h'] at h1
          refine ⟨b, o, rfl, hlt, fun h => h, fun i hi => ?_⟩
          have hi' : i < len := by simpa using hi
          intro j x hj
          cases j with
          | zero =>
            cases hj
            have h1 := (hV i (by omega)).1
            rw [add_add', (hK i (by omega)).1] at h1
            rw [hc, Nat.mul_one]
            exact h1
          | succ j => simp at hj
      · intro i x hi
        simp only [List.map_map, List.getElem?_map, Option.map_eq_some_iff] at hi
        obtain ⟨j, hj, rfl⟩ := hi
        have hji : j = i := by
          rw [List.getElem?_range] at hj
          · cases hj; rfl
          · rcases Nat.lt_or_ge i len with h' | h'
            · exact h'
            · rw [List.getElem?_eq_none (by simpa using h')] at hj; cases hj
        subst hji
        show RepL P u _ (u.enc T (f (K j))) _
        rw [hf]
        exact .int _ _ .nil
/-- A row of values that is handed in. -/
theorem open_rows {H : Type} {enc : TypeId × Value → H} {w : World} {sp : Nat → Bool} {t T : TypeId} {v : Value} {d : DataW H} {ps : List MemPlace} {L : List Leaf} {good : A T → Prop} (ht : P.underlying t = some (.slice T)) (hc0 : 0 < P.cellsOf T) (hs : shape P 8 T = some L)
    (f : ∀ cs : List Value, Leaves enc P w sp L cs → ∃ x : A T, good x ∧ RepL P u (outer w fun _ => False) (u.enc T x) cs) (hval : Value.okWide P w .any 0 t v) (hd : DataW.Trod enc P w 0 sp true t v d ps) :
    ∃ xs : List (A T), (∀ x ∈ xs, good x) ∧ (xs.length ≤ maxLen ∧ ((d.weights P t).all (· ≤ reachBytes) = true → xs.length * P.bytesOf T ≤ reachBytes)) ∧ RepL P u (outer w fun _ => False) [.csl T xs] [v] := by
  obtain ⟨a, len, cap, rfl⟩ := WideShapes.okWide_slice ht hval
  have hreach : (d.weights P t).all (· ≤ reachBytes) = true → len * P.bytesOf T ≤ reachBytes := fun hw => slice_reach P ht hd hw
  obtain ⟨fuel, hx⟩ := hd
  have hcs : (Value.slice a len cap).cells.toList = [.slice a len cap] := rfl
  rw [hcs] at hx
  rcases DataW.trod_slice ht hx with ⟨h0, _⟩ | ⟨a', len', cap', elems, rest, m, _, h0, hxx, _, hl, hcap, hlen, hel, _⟩
  · cases h0
    exact ⟨[], by simp, ⟨Nat.zero_le _, hreach⟩, .csl _ _ none 0 0 (fun _ => []) rfl (Nat.le_refl _) (.inl rfl) (fun i hi => by simp at hi) (fun i x hi => by simp at hi) .nil⟩
  · cases h0
    have hpick : ∀ i, ∃ p : List Value × A T, i < len → w.cells? 0 (a'.add (i * P.cellsOf T)) (P.cellsOf T) = some p.1 ∧ good p.2 ∧ RepL P u (outer w fun _ => False) (u.enc T p.2) p.1 := by
      intro i
      by_cases hi : i < len
      · have h1 := hel i hi
        have hi' : i < elems.length := by omega
        rw [List.getElem?_eq_getElem hi'] at h1
        obtain ⟨cs, h2, h3⟩ := Option.bind_eq_some_iff.1 h1
        obtain ⟨x, h4, h5⟩ := f cs (shape_sound 8 hs h3)
        exact ⟨(cs, x), fun _ => ⟨h2, h4, h5⟩⟩
      · exact ⟨([], u.dflt T), fun h => absurd h hi⟩
    obtain ⟨K, hK⟩ := Classical.axiomOfChoice hpick
    have hlen' : ((List.range len).map fun i => (K i).2).length = len := by simp
    refine ⟨(List.range len).map fun i => (K i).2, ?_, ⟨by rw [hlen']; omega, by rw [hlen']; exact hreach⟩, ?_⟩
    · intro c hcm
      obtain ⟨i, hi, rfl⟩ := List.mem_map.1 hcm
      exact (hK i (List.mem_range.1 hi)).2.1
    · refine .csl _ _ (some a') len cap (fun i => (K i).1) hlen' hl ?_ ?_ ?_ .nil
      · by_cases h0 : len = 0
        · left
          subst h0
          rfl
        · right
          have hb := World.cells?_block (hK 0 (by omega)).1 hc0
          obtain ⟨_, hcl, hcell⟩ := World.cells?_some (hK 0 (by omega)).1
          have hspot : (a'.add (0 * P.cellsOf T)).spot = none := by
            have h1 := hcell 0 hc0
            have hg : ∃ v, (K 0).1[0]? = some v := ⟨(K 0).1[0]'(by omega), List.getElem?_eq_getElem _⟩
            obtain ⟨v, hv⟩ := hg
            rw [hv] at h1
            have := no_spot h1
            simpa [Addr.add] using this
          obtain ⟨b, o, s⟩ := a'
          have hs' : s = none := by
            unfold Addr.add at hspot
            simpa using hspot
          subst hs'
          refine ⟨b, o, rfl, ?_, fun h => h, fun i hi => ?_⟩
          · show b < w.heap.size
            simpa [Addr.add] using hb
          · have hi' : i < len := by rw [hlen'] at hi; exact hi
            intro j x hj
            obtain ⟨_, hcl, hcell⟩ := World.cells?_some (hK i hi').1
            have hjlt : j < P.cellsOf T := by have := (List.getElem?_eq_some_iff.1 hj).1; omega
            have h1 := hcell j hjlt
            rw [hj, add_add', add_add'] at h1
            exact h1
      · intro i hi
        have hi' : i < len := by rw [hlen'] at hi; exact hi
        exact (World.cells?_some (hK i hi').1).2.1
      · intro i x hi
        simp only [List.getElem?_map, Option.map_eq_some_iff] at hi
        obtain ⟨j, hj, rfl⟩ := hi
        have hjlen : i < len := by
          rcases Nat.lt_or_ge i len with h' | h'
          · exact h'
          · rw [List.getElem?_eq_none (by simpa using h')] at hj; cases hj
        have hji : j = i := by rw [List.getElem?_range hjlen] at hj; cases hj; rfl
        subst hji
        exact (hK j hjlen).2.2
theorem said {f : Nat} {sp : Spec A} (h : FnOk P u f sp) {xs : List (SV A)} {c : Option Prop} (hs : sp xs = some (c, .bool true)) (hc : holds c) {w : World} {vs : List Value} (hx : RepL P u (outer w fun _ => False) xs vs) :
    Calls P f vs.toArray w fun r w' => r = .returned (.bool true) ∧ Below w.heap.size w w' := by
  refine (h xs c _ hs hc w (fun _ => False) vs (fun _ h => h.elim) hx).mono ?_
  rintro r w' ⟨v, rfl, hb, hv⟩
  cases hv
  exact ⟨rfl, hb⟩
end
end Go.Proofs.Ytndacggailoogaa.Sx
