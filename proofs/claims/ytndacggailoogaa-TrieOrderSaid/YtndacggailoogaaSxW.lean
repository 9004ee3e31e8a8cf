/- An abstract machine over values by content, eighth part, f: the operations that lay or write, one by one. -/
import Derived.Test.YtndacggailoogaaSxV
import Derived.MapKept
namespace Go.Proofs.Ytndacggailoogaa.Sx
open Go Go.RowKit

section
variable {A : Nat → Type} (P : Program) (u : U A)

/-- What an operation gives that lays or writes. -/
abbrev HRes (A : Nat → Type) := Option (Option Prop × SV A × Eff A)
def sameId (x : SV A) (id : Nat) : Bool := match x with
  | .osl i _ _ => Nat.beq i id
  | .orow i => Nat.beq i id
  | _ => false
def appendS (k : Nat) (own : Nat → Own A) (t1 t2 : TypeId) (x y : SV A) : HRes A := match P.underlying t1 with
  | some (.slice T) => if Nat.beq t2 t1 && okRow P T then (match contT P u own T y with
    | some ys => (match own k with
      | .free => (match x with
        | .nils => some (some (ys.length * bytesT P T ≤ 140737488355328), .orow k, [(k, .row T ys)])
        | .zsl => some (some (ys.length * bytesT P T ≤ 140737488355328), .orow k, [(k, .row T ys)])
        | .orow id => (match own id with
          | .row S xs => if h : S = T then some (some ((xs.length + ys.length) * bytesT P T ≤ 140737488355328), .orow k, [(id, .dead), (k, .row T ((h ▸ xs) ++ ys))]) else none
          | _ => none)
        | .osl id lo len => (match own id with
          | .row S xs => if h : S = T then (if Nat.beq lo 0 then (if sameId y id
              then some (some (len + ys.length ≤ xs.length), .osl id 0 (len + ys.length), [(id, .row T ((h ▸ xs).take len ++ ys ++ (h ▸ xs).drop (len + ys.length)))])
              else some (some ((len + ys.length) * bytesT P T ≤ 140737488355328), .orow k, [(id, .dead), (k, .row T ((h ▸ xs).take len ++ ys))])) else none) else none
          | _ => none)
        | _ => none)
      | _ => none)
    | none => none) else none
  | _ => none
def encN (T : Nat) (ys : List (A T)) : Nat → List (SV A)
  | 0 => []
  | n + 1 => encN T ys n ++ u.enc T (ys.getD n (u.dflt T))
/-- A copy into a part of an element. -/
def copyE {R S : Nat} (p : Option (PartU A R S)) (id idx lo len : Nat) (xs : List (A R)) (d : A R) (ys : List (A S)) : HRes A := match p with
  | some p => some (none, .int .i64 (min ys.length len : Nat), [(id, .row R (xs.set idx (p.put (xs.getD idx d) ((p.get (xs.getD idx d)).take lo ++ ys.take (min ys.length len) ++ (p.get (xs.getD idx d)).drop (lo + min ys.length len)))))])
  | none => none
def copyS (own : Nat → Own A) (t : TypeId) (x y : SV A) : HRes A := match P.underlying t with
  | some (.slice T) => if okRow P T then (match contT P u own T y with
    | some ys => (match x with
      | .orow id => (match own id with
        | .row S xs => if h : S = T then some (none, .int .i64 (min ys.length xs.length : Nat), [(id, .row T (ys.take xs.length ++ (h ▸ xs).drop (min ys.length xs.length)))]) else none
        | _ => none)
      | .osl id lo len => (match own id with
        | .row S xs => if h : S = T then some (none, .int .i64 (min ys.length len : Nat), [(id, .row T ((h ▸ xs).take lo ++ ys.take len ++ (h ▸ xs).drop (lo + min ys.length len)))]) else none
        | _ => none)
      | .esl id idx off S lo len => (match own id with
        | .row R xs => if h : S = T then copyE (h ▸ u.part R off S) id idx lo len xs (u.dflt R) ys else none
        | _ => none)
      | .vsl id off len => (match own id with
        | .var cs => if P.cellsOf T = 1 ∧ off + len ≤ cs.length ∧ (encN u T ys len).length = len then some (some (len ≤ ys.length), .int .i64 (min ys.length len : Nat), [(id, .var (setAt cs off (encN u T ys len)))]) else none
        | _ => none)
      | _ => none)
    | none => none) else none
  | _ => none
def clearS (own : Nat → Own A) (t : TypeId) (x : SV A) : HRes A := match P.underlying t with
  | some (.slice T) => if okRow P T then (match zeroEl P u T with
    | some z => (match x with
      | .osl id lo len => (match own id with
        | .row S xs => if h : S = T then some (none, .tup [], [(id, .row T ((h ▸ xs).take lo ++ List.replicate len z ++ (h ▸ xs).drop (lo + len)))]) else none
        | _ => none)
      | _ => none)
    | none => none) else none
  | _ => none
def makeS (k : Nat) (own : Nat → Own A) (t : TypeId) (l c : SV A) : HRes A := match P.underlying t with
  | some (.slice T) => if okRow P T then (match zeroEl P u T with
    | some z => (match own k with
      | .free => (match l with
        | .int _ l => (match c with
          | .int _ c => some (some (0 ≤ l ∧ l ≤ c ∧ (bytesT P T : Int) * c ≤ 281474976710656 ∧ c ≤ 9223372036854775807), .orow k, [(k, .row T (List.replicate l.toNat z))])
          | _ => none)
        | _ => none)
      | _ => none)
    | none => none) else none
  | _ => none
/-! ### maps -/
def idxM {α : Type} : List (Int × α) → Int → Option Nat
  | [], _ => none
  | p :: r, k => if (k == p.1) = true then some 0 else (idxM r k).map (· + 1)
def hasM {α : Type} (kvs : List (Int × α)) (k : Int) : Bool := (idxM kvs k).isSome
def getM {α : Type} (kvs : List (Int × α)) (k : Int) (d : α) : α := match idxM kvs k with
  | some j => (kvs.getD j (k, d)).2
  | none => d
def setM {α : Type} (kvs : List (Int × α)) (k : Int) (y : α) : List (Int × α) := match idxM kvs k with
  | some j => kvs.set j (k, y)
  | none => kvs ++ [(k, y)]
def delM {α : Type} (kvs : List (Int × α)) (k : Int) : List (Int × α) := match idxM kvs k with
  | some j => kvs.eraseIdx j
  | none => kvs
def aggX : SV A → Bool
  | .agg _ => true
  | .el _ _ => true
  | _ => false
/-- The zero of a type is a value of its make. -/
def zOk (V : Nat) : Bool := match (P.info? V).bind (·.zero) with
  | some (.agg _) => isAggB P V
  | some v => !isAggB P V && v.oneCell'
  | none => false
/-- The kind of a map's keys, and the type of its elements. -/
def mapT (t : TypeId) : Option (IntKind × Nat) := match P.underlying t with
  | some (.map kt vt) => (match P.underlying kt with
    | some (.int K) => some (K, vt)
    | _ => none)
  | _ => none
def pairM (ok : Bool) (v : SV A) (b : Bool) : SV A := if ok then .tup [v, .bool b] else v
def mlookS (own : Nat → Own A) (t : TypeId) (x i : SV A) (ok : Bool) : HRes A := match mapT P t with
  | some (K, vt) => (match x with
    | .omap id => (match own id with
      | .mp K' V kvs => if h : V = vt then (if kindEq K K' && zOk P vt then (match i with
        | .int K2 n => if kindEq K2 K then (match zeroEl P u vt with
          | some z => some (none, pairM ok (valS P u vt (getM (h ▸ kvs) n z)) (hasM kvs n), [])
          | none => none) else none
        | _ => none) else none) else none
      | _ => none)
    | _ => none)
  | none => none
def mupdS (own : Nat → Own A) (t : TypeId) (x i y : SV A) : HRes A := match mapT P t with
  | some (K, vt) => (match x with
    | .omap id => (match i with
      | .int K2 n => (match elemS P u own vt y with
        | some (z, f) => (match updL own f id with
          | .mp K' V kvs => if h : V = vt then (if kindEq K K' && (kindEq K2 K && (isAggB P vt == aggX y)) then some (none, .undef, f ++ [(id, .mp K' V (setM kvs n (h ▸ z)))]) else none) else none
          | _ => none)
        | none => none)
      | _ => none)
    | _ => none)
  | none => none
def mdelS (own : Nat → Own A) (t : TypeId) (x i : SV A) : HRes A := match mapT P t with
  | some (K, vt) => (match x with
    | .omap id => (match own id with
      | .mp K' V kvs => (match i with
        | .int K2 n => if kindEq K K' && (kindEq K2 K && Nat.beq V vt) then some (none, .tup [], [(id, .mp K' V (delM kvs n))]) else none
        | _ => none)
      | _ => none)
    | _ => none)
  | none => none
def mlenS (own : Nat → Own A) (t : TypeId) (x : SV A) : HRes A := match mapT P t with
  | some _ => (match x with
    | .omap id => (match own id with
      | .mp _ _ kvs => some (none, .int .i64 kvs.length, [])
      | _ => none)
    | _ => none)
  | none => none
def mmakeS (k : Nat) (own : Nat → Own A) (t : TypeId) : HRes A := match mapT P t with
  | some (K, vt) => (match own k with
    | .free => some (none, .omap k, [(k, .mp K vt [])])
    | _ => none)
  | none => none
theorem mapT_eq {t : TypeId} {K : IntKind} {vt : Nat} (h : mapT P t = some (K, vt)) : ∃ kt, P.underlying t = some (.map kt vt) ∧ P.underlying kt = some (.int K) := by
  unfold mapT at h
  split at h
  · rename_i kt vt' ht
    split at h
    · rename_i K' hk
      cases h
      exact ⟨kt, ht, hk⟩
    · cases h
  · cases h
theorem find_idx {α : Type} {K : IntKind} {k : Int} : ∀ (l : List MapEntry) (kvs : List (Int × α)) (i : Nat), l.length = kvs.length → (∀ (j : Nat) (p : Int × α), kvs[j]? = some p → ∃ en, l[j]? = some en ∧ en.key = .int K p.1) →
    Instr.findNow (.int K) (.int K k) l i = some (match idxM kvs k with
      | none => none
      | some j => (l[j]?).map fun en => (i + j, en.val))
  | [], [], i, _, _ => rfl
  | [], _ :: _, i, h, _ => by simp at h
  | _ :: _, [], i, h, _ => by simp at h
  | e :: l, p :: r, i, h, hk => by
    obtain ⟨en, h1, h2⟩ := hk 0 p rfl
    cases h1
    have hs : Instr.sameNow (.int K) (.int K k) e.key = some (k == p.1) := by rw [h2]; simp [Instr.sameNow]
    have ih := find_idx (K := K) (k := k) l r (i + 1) (by simpa using h) (fun j q hq => by
      obtain ⟨en, g1, g2⟩ := hk (j + 1) q (by simpa using hq)
      exact ⟨en, by simpa using g1, g2⟩)
    unfold Instr.findNow idxM
    rw [hs]
    cases hb : (k == p.1) with
    | true => simp
    | false =>
      simp only [ih, Bool.false_eq_true, if_false]
      cases idxM r k with
      | none => rfl
      | some j => simp only [Option.map_some, List.getElem?_cons_succ]; rw [show i + 1 + j = i + (j + 1) by omega]
theorem idxM_lt {α : Type} : ∀ {kvs : List (Int × α)} {k : Int} {j : Nat}, idxM kvs k = some j → ∃ p, kvs[j]? = some p ∧ p.1 = k
  | [], k, j, h => by cases h
  | p :: r, k, j, h => by
    unfold idxM at h
    split at h
    · rename_i hb
      cases h
      exact ⟨p, rfl, (eq_of_beq hb).symm⟩
    · simp only [Option.map_eq_some_iff] at h
      obtain ⟨j', h1, rfl⟩ := h
      obtain ⟨q, g1, g2⟩ := idxM_lt h1
      exact ⟨q, by simpa using g1, g2⟩
theorem isKeyI (K : IntKind) (n : Int) : MapKept.IsKey (.int K) (.int K n) := by simp [MapKept.IsKey]
/-- The map behind a number, and its entries. -/
theorem map_open {w0 : W0} {O0 : Nat → Prop} {e : E A} (hr : HR P u w0 O0 e) {id : Nat} {K : IntKind} {V : Nat} {kvs : List (Int × A V)} {v : Value} (ho : e.own id = .mp K V kvs) (hx : RepL P u e [.omap id] [v]) :
    ∃ (b c clock : Nat) (es : Array MapEntry), v = .map (some b) ∧ e.β id = some (b, c) ∧ w0.fr b ∧ e.w.heap[b]? = some (.map es clock) ∧ es.toList.length = kvs.length ∧
      ∀ (i : Nat) (p : Int × A V), kvs[i]? = some p → ∃ en, es.toList[i]? = some en ∧ en.key = .int K p.1 ∧ RepL P u e [valS P u V p.2] [en.val] := by
  have hent := hr.ent id
  rw [ho] at hent
  obtain ⟨b, c, clock, es, h1, h2, h3, h4, h5⟩ := hent
  cases hx with
  | omapD _ _ hd _ _ => rw [ho] at hd; cases hd
  | omap _ b' c' K2 V2 kvs2 hv hβ _ =>
    rw [h1] at hβ; cases hβ
    exact ⟨b, c, clock, es, rfl, h1, h2, h3, by simpa using h4, fun i p hp => by
      obtain ⟨en, g1, g2, g3⟩ := h5 i p hp
      exact ⟨en, by simpa using g1, g2, g3⟩⟩
theorem valS_zero (hu : Law P u) {e : E A} {V : Nat} {z : A V} (hz : zOk P V = true) (h : zeroEl P u V = some z) (w : World) : ∃ zv, (zeroValue V).run P w = .ok zv w ∧ RepL P u e [valS P u V z] [zv] := by
  obtain ⟨i, zv, h1, h2, h3⟩ := zeroEl_rep P u hu (e := e) h
  refine ⟨zv, by simp [zeroValue, typeInfo, h1, h2], ?_⟩
  unfold zOk at hz
  simp only [h1, h2, Option.bind_some] at hz
  unfold valS
  split at hz
  · rename_i cs hcs
    cases hcs
    rw [if_pos hz]
    exact .el _ _ _ (by simpa [Value.cells] using h3) .nil
  · rename_i v hne hv
    cases hv
    simp only [Bool.and_eq_true, Bool.not_eq_true'] at hz
    rw [if_neg (by rw [hz.1]; decide)]
    have hc : zv.cells = #[zv] := by
      have := hz.2
      cases zv <;> first | rfl | cases this
    rw [hc] at h3
    generalize u.enc V z = l at h3
    match l, h3.length, h3 with
    | [c], _, h3 => exact h3
  · cases hz
theorem elemV_sound (hu : Law P u) (hclean : ∀ T x, noOwn.go (u.enc T x) = true) {w0 : W0} {O0 : Nat → Prop} {e : E A} (hr : HR P u w0 O0 e) {V : Nat} {x : SV A} {y : A V} {v : Value} {f : Eff A} (hx : RepL P u e [x] [v]) (h : elemS P u e.own V x = some (y, f)) (ha : isAggB P V = aggX x) :
    ∃ e', e'.w = e.w ∧ HR P u w0 O0 e' ∧ Ext e e' ∧ e'.own = updL e.own f ∧ RepL P u e' [valS P u V y] [v] := by
  obtain ⟨e', a1, a2, a3, a4, a5, a6⟩ := elemS_sound P u hu hclean hr hx h
  refine ⟨e', a1, a2, a3, a4, ?_⟩
  unfold valS
  cases hq : aggX x with
  | true =>
    rw [if_pos (by rw [ha, hq])]
    cases hx <;> first | cases hq | skip
    · exact .el _ _ _ (by simpa [Value.cells] using a5) .nil
    · exact .el _ _ _ (by simpa [Value.cells] using a5) .nil
  | false =>
    rw [if_neg (by rw [ha, hq]; decide)]
    have hc : v.cells = #[v] := by
      unfold elemS at h
      split at h
      · rename_i y' hy
        split at hy
        · cases hq
        · cases hy
      · split at h
        · rename_i l0 hl0
          unfold cellsV at hl0
          split at hl0
          · cases hq
          · cases hq
          · split at hl0
            · rename_i hk
              exact (cellOk_one P u hx hk).2
            · cases hl0
        · cases h
    rw [hc] at a5
    generalize u.enc V y = l at a5
    match l, a5.length, a5 with
    | [c], _, h3 => exact h3
theorem mlook_sound (hu : Law P u) {w0 : W0} {O0 : Nat → Prop} {e : E A} (hr : HR P u w0 O0 e) {t : Nat} {ok : Bool} {x i r : SV A} {vx vi : Value} {c : Option Prop} {f : Eff A} (hx : RepL P u e [x] [vx]) (hi : RepL P u e [i] [vi]) (h : mlookS P u e.own t x i ok = some (c, r, f)) :
    ∃ v, (Instr.lookup t vx vi ok).run P e.w = .ok v e.w ∧ RepL P u e [r] [v] ∧ f = [] := by
  unfold mlookS at h
  split at h
  case h_2 => cases h
  rename_i K vt hmt
  obtain ⟨kt, ht, hkt⟩ := mapT_eq P hmt
  split at h
  case h_2 => cases h
  rename_i id
  split at h
  case h_2 => cases h
  rename_i K' V kvs ho
  split at h
  case isFalse => cases h
  rename_i hV
  subst hV
  split at h
  case isFalse => cases h
  rename_i hc
  simp only [Bool.and_eq_true] at hc
  have hK := of_decide_eq_true hc.1
  subst hK
  split at h
  case h_2 => cases h
  rename_i K2 n
  split at h
  case isFalse => cases h
  rename_i hK2
  have hK2 := of_decide_eq_true hK2
  subst hK2
  split at h
  case h_2 => cases h
  rename_i z hz
  cases h
  cases hi
  obtain ⟨b, c, clock, es, rfl, h1, h2, h3, h4, h5⟩ := map_open P u hr ho hx
  obtain ⟨zv, hzr, hzv⟩ := valS_zero P u hu (e := e) hc.2 hz e.w
  have hfind := find_idx (K := K2) (k := n) es.toList kvs 0 h4 (fun j p hp => by obtain ⟨en, g1, g2, _⟩ := h5 j p hp; exact ⟨en, g1, g2⟩)
  have hpair : ∀ {q : SV A} {v : Value} {bb : Bool}, RepL P u e [q] [v] → RepL P u e [pairM ok q bb] [if ok then .tuple #[v, .bool bb] else v] := by
    intro q v bb hq
    unfold pairM
    cases ok with
    | true => exact .tup _ _ (hq.cons P u (.bool _ .nil)) .nil
    | false => exact hq
  cases hid : idxM kvs n with
  | none =>
    rw [hid] at hfind
    refine ⟨if ok then .tuple #[zv, .bool false] else zv, ?_, ?_, rfl⟩
    · simp [Instr.lookup, run_underlying ht, MapKept.run_getObj_map h3, MapKept.run_checkKey hkt (isKeyI K2 n), MapKept.run_findKey hkt hfind, hzr, Result.andThen]
    · show RepL P u e [pairM ok (valS P u V (getM kvs n z)) (hasM kvs n)] _
      have e1 : getM kvs n z = z := by unfold getM; rw [hid]
      have e2 : hasM kvs n = false := by unfold hasM; rw [hid]; rfl
      rw [e1, e2]
      exact hpair hzv
  | some j =>
    rw [hid] at hfind
    obtain ⟨p, hp, hpk⟩ := idxM_lt hid
    obtain ⟨en, g1, g2, g3⟩ := h5 j p hp
    simp only [g1, Option.map_some, Nat.zero_add] at hfind
    refine ⟨if ok then .tuple #[en.val, .bool true] else en.val, ?_, ?_, rfl⟩
    · simp [Instr.lookup, run_underlying ht, MapKept.run_getObj_map h3, MapKept.run_checkKey hkt (isKeyI K2 n), MapKept.run_findKey hkt hfind, Result.andThen]
    · show RepL P u e [pairM ok (valS P u V (getM kvs n z)) (hasM kvs n)] _
      have e1 : getM kvs n z = p.2 := by unfold getM; rw [hid]; simp [List.getD, hp]
      have e2 : hasM kvs n = true := by unfold hasM; rw [hid]; rfl
      rw [e1, e2]
      exact hpair g3
theorem mlen_sound {w0 : W0} {O0 : Nat → Prop} {e : E A} (hr : HR P u w0 O0 e) {t ty : Nat} {x r : SV A} {vx : Value} {c : Option Prop} {f : Eff A} (hx : RepL P u e [x] [vx]) (h : mlenS P e.own t x = some (c, r, f)) :
    ∃ v, (Builtin.len_ #[t] ty #[vx]).run P e.w = .ok v e.w ∧ RepL P u e [r] [v] ∧ f = [] := by
  unfold mlenS at h
  split at h
  case h_2 => cases h
  rename_i q hmt
  obtain ⟨K, vt⟩ := q
  obtain ⟨kt, ht, hkt⟩ := mapT_eq P hmt
  split at h
  case h_2 => cases h
  rename_i id
  split at h
  case h_2 => cases h
  rename_i K' V kvs ho
  cases h
  obtain ⟨b, c, clock, es, rfl, h1, h2, h3, h4, h5⟩ := map_open P u hr ho hx
  refine ⟨.int .i64 (kvs.length : Nat), ?_, .int _ _ .nil, rfl⟩
  have h4' : es.size = kvs.length := by simpa using h4
  simp [Builtin.len_, run_underlying ht, MapKept.run_getObj_map h3, Result.andThen, goInt, h4']
theorem mmake_sound {w0 : W0} {O0 : Nat → Prop} {e : E A} {k : Nat} (hr : HR P u w0 O0 e) (hkH : k < 1152921504606846976) {t : Nat} {r : SV A} {c : Option Prop} {f : Eff A} (h : mmakeS P k e.own t = some (c, r, f)) :
    ∃ v e', (Instr.makeMap t none).run P e.w = .ok v e'.w ∧ HR P u w0 O0 e' ∧ Ext e e' ∧ e'.own = updL e.own f ∧ RepL P u e' [r] [v] := by
  unfold mmakeS at h
  split at h
  case h_2 => cases h
  rename_i K vt hmt
  split at h
  case h_2 => cases h
  rename_i hk0
  have hk := And.intro hk0 hkH
  cases h
  obtain ⟨hext, hmk⟩ := hr.new P u (k := k) (c := 0) (o := .mp K vt []) (w' := e.w.alloc (.map #[] 0)) hk0 hkH (by simp) (by simp) rfl rfl rfl (by rw [alloc_size]; omega) (fun b hb => Below.heap_alloc _ _ _ hb)
  refine ⟨.map (some e.w.heap.size), _, ?_, hmk ?_, hext, rfl, .omap k _ 0 K vt [] (by show upd e.own k _ k = _; rw [upd_same]) (by show upd e.β k _ k = _; rw [upd_same]) .nil⟩
  · simp [Instr.makeMap, newObj, Sem.run, Result.andThen]
    rfl
  · exact ⟨e.w.heap.size, 0, 0, #[], by show upd e.β k _ k = _; rw [upd_same], .inl hr.below.size, alloc_get _ _, rfl, fun i p hp => by simp at hp⟩
theorem mupd_sound (hu : Law P u) (hclean : ∀ T x, noOwn.go (u.enc T x) = true) {w0 : W0} {O0 : Nat → Prop} {e : E A} (hr : HR P u w0 O0 e) {t : Nat} {x i y r : SV A} {vx vi vy : Value} {c : Option Prop} {f : Eff A} (hx : RepL P u e [x] [vx]) (hi : RepL P u e [i] [vi]) (hy : RepL P u e [y] [vy]) (h : mupdS P u e.own t x i y = some (c, r, f)) :
    ∃ e', (Instr.mapUpdate t vx vi vy).run P e.w = .ok () e'.w ∧ HR P u w0 O0 e' ∧ Ext e e' ∧ e'.own = updL e.own f ∧ r = .undef := by
  unfold mupdS at h
  split at h
  case h_2 => cases h
  rename_i K vt hmt
  obtain ⟨kt, ht, hkt⟩ := mapT_eq P hmt
  split at h
  case h_2 => cases h
  rename_i id
  split at h
  case h_2 => cases h
  rename_i K2 n
  split at h
  case h_2 => cases h
  rename_i z f1 hel
  split at h
  case h_2 => cases h
  rename_i K' V kvs ho
  split at h
  case isFalse => cases h
  rename_i hV
  subst hV
  split at h
  case isFalse => cases h
  rename_i hc
  simp only [Bool.and_eq_true] at hc
  obtain ⟨hc1, hc2, hc3⟩ := hc
  have hK := of_decide_eq_true hc1
  subst hK
  have hK2 := of_decide_eq_true hc2
  subst hK2
  cases h
  cases hi
  obtain ⟨e1, a1, a2, a3, a4, a5⟩ := elemV_sound P u hu hclean hr hy hel (eq_of_beq hc3)
  rw [← a4] at ho
  have hx1 := hx.ext P u a3
  obtain ⟨b, c, clock, es, rfl, h1, h2, h3, h4, h5⟩ := map_open P u a2 ho hx1
  have hfind := find_idx (K := K2) (k := n) es.toList kvs 0 h4 (fun j p hp => by obtain ⟨en, g1, g2, _⟩ := h5 j p hp; exact ⟨en, g1, g2⟩)
  have hm0 : (e1.own id).mut = true := by rw [ho]; rfl
  have hlt : b < e1.w.heap.size := lt_of_get h3
  have key : ∀ (es' : Array MapEntry) (clock' : Nat), es'.size = (setM kvs n z).length → (∀ (j : Nat) (p : Int × A V), (setM kvs n z)[j]? = some p → ∃ en, es'[j]? = some en ∧ en.key = .int K2 p.1 ∧ RepL P u e1 [valS P u V p.2] [en.val]) →
      (Instr.mapUpdate t (.map (some b)) (.int K2 n) vy).run P e1.w = .ok () { e1.w with heap := e1.w.heap.setIfInBounds b (.map es' clock') } →
      ∃ e', (Instr.mapUpdate t (.map (some b)) (.int K2 n) vy).run P e.w = .ok () e'.w ∧ HR P u w0 O0 e' ∧ Ext e e' ∧ e'.own = updL e.own (f1 ++ [(id, .mp K2 V (setM kvs n z))]) ∧ (SV.undef : SV A) = .undef := by
    intro es' clock' hl he hrun
    obtain ⟨hext, hmk⟩ := a2.setM P u (k := id) (o := .mp K2 V (setM kvs n z)) (ob := .map es' clock') hm0 h1 (by rw [ho]; exact .mp _ _ _ _)
    refine ⟨_, ?_, hmk ⟨b, c, clock', es', h1, h2, ?_, hl, fun j p hp => ?_⟩, a3.trans hext, by rw [updL_app, ← a4]; rfl, rfl⟩
    · rw [← a1]; exact hrun
    · show (e1.w.heap.setIfInBounds b (.map es' clock'))[b]? = _
      simp [hlt]
    · obtain ⟨en, q1, q2, q3⟩ := he j p hp
      exact ⟨en, q1, q2, q3.ext P u hext⟩
  cases hid : idxM kvs n with
  | none =>
    rw [hid] at hfind
    have hset : setM kvs n z = kvs ++ [(n, z)] := by unfold setM; rw [hid]
    have := key (es.push { key := .int K2 n, val := vy, born := clock }) (clock + 1) (by rw [hset]; simp; simpa using h4) (fun j p hp => by
      rw [hset] at hp
      have hes : es.size = kvs.length := by simpa using h4
      by_cases hj : j < kvs.length
      · rw [List.getElem?_append_left hj] at hp
        obtain ⟨en, g1, g2, g3⟩ := h5 j p hp
        refine ⟨en, ?_, g2, g3⟩
        rw [Array.getElem?_push, if_neg (by omega)]
        simpa using g1
      · rw [List.getElem?_append_right (by omega)] at hp
        have hj0 : j - kvs.length = 0 := by
          have := (List.getElem?_eq_some_iff.1 hp).1
          simp at this
          omega
        rw [hj0] at hp
        cases hp
        exact ⟨_, by rw [Array.getElem?_push, if_pos (by omega)], rfl, a5⟩)
      (by simp [Instr.mapUpdate, run_underlying ht, MapKept.run_getObj_map h3, MapKept.run_checkKey hkt (isKeyI K2 n), MapKept.run_findKey hkt hfind, MapKept.run_setObj_map _ h3, Result.andThen])
    exact this
  | some j =>
    rw [hid] at hfind
    obtain ⟨p, hp, hpk⟩ := idxM_lt hid
    obtain ⟨en, g1, g2, g3⟩ := h5 j p hp
    simp only [g1, Option.map_some, Nat.zero_add] at hfind
    have hset : setM kvs n z = kvs.set j (n, z) := by unfold setM; rw [hid]
    have g1' : es[j]? = some en := by simpa using g1
    have hkk : en.key = .int K2 n := by rw [g2, hpk]
    have := key (es.modify j fun e => { e with key := .int K2 n, val := vy }) clock (by rw [hset]; simp; simpa using h4) (fun i q hq => by
      rw [hset] at hq
      by_cases hij : j = i
      · subst hij
        have hjl : j < kvs.length := (List.getElem?_eq_some_iff.1 hp).1
        rw [List.getElem?_set_self hjl] at hq
        cases hq
        refine ⟨{ en with key := .int K2 n, val := vy }, ?_, rfl, a5⟩
        rw [Array.getElem?_modify, if_pos rfl, g1']
        rfl
      · rw [List.getElem?_set_ne hij] at hq
        obtain ⟨en', q1, q2, q3⟩ := h5 i q hq
        refine ⟨en', ?_, q2, q3⟩
        rw [Array.getElem?_modify, if_neg hij]
        simpa using q1)
      (by
        have hstay := MapKept.run_keyThatStays (P := P) (w := e1.w) (isKeyI K2 n)
        simp [Instr.mapUpdate, run_underlying ht, MapKept.run_getObj_map h3, MapKept.run_checkKey hkt (isKeyI K2 n), MapKept.run_findKey hkt hfind, g1', hkk, hstay, MapKept.run_setObj_map _ h3, Result.andThen])
    exact this
theorem mdel_sound {w0 : W0} {O0 : Nat → Prop} {e : E A} (hr : HR P u w0 O0 e) {t t2 ty : Nat} {x i r : SV A} {vx vi : Value} {c : Option Prop} {f : Eff A} (hx : RepL P u e [x] [vx]) (hi : RepL P u e [i] [vi]) (h : mdelS P e.own t x i = some (c, r, f)) :
    ∃ v' e', (Builtin.delete_ #[t, t2] ty #[vx, vi]).run P e.w = .ok v' e'.w ∧ HR P u w0 O0 e' ∧ Ext e e' ∧ e'.own = updL e.own f ∧ RepL P u e' [r] [v'] := by
  unfold mdelS at h
  split at h
  case h_2 => cases h
  rename_i K vt hmt
  obtain ⟨kt, ht, hkt⟩ := mapT_eq P hmt
  split at h
  case h_2 => cases h
  rename_i id
  split at h
  case h_2 => cases h
  rename_i K' V kvs ho
  split at h
  case h_2 => cases h
  rename_i K2 n
  split at h
  case isFalse => cases h
  rename_i hc
  simp only [Bool.and_eq_true] at hc
  obtain ⟨hc1, hc2, hc3⟩ := hc
  have hK := of_decide_eq_true hc1
  subst hK
  have hK2 := of_decide_eq_true hc2
  subst hK2
  cases h
  cases hi
  obtain ⟨b, c, clock, es, rfl, h1, h2, h3, h4, h5⟩ := map_open P u hr ho hx
  have hfind := find_idx (K := K2) (k := n) es.toList kvs 0 h4 (fun j p hp => by obtain ⟨en, g1, g2, _⟩ := h5 j p hp; exact ⟨en, g1, g2⟩)
  have hm0 : (e.own id).mut = true := by rw [ho]; rfl
  have hlt : b < e.w.heap.size := lt_of_get h3
  have key : ∀ (es' : Array MapEntry), es'.toList.length = (delM kvs n).length → (∀ (j : Nat) (p : Int × A V), (delM kvs n)[j]? = some p → ∃ en, es'.toList[j]? = some en ∧ en.key = .int K2 p.1 ∧ RepL P u e [valS P u V p.2] [en.val]) →
      (Builtin.delete_ #[t, t2] ty #[.map (some b), .int K2 n]).run P e.w = .ok (.tuple #[]) { e.w with heap := e.w.heap.setIfInBounds b (.map es' clock) } →
      ∃ v' e', (Builtin.delete_ #[t, t2] ty #[.map (some b), .int K2 n]).run P e.w = .ok v' e'.w ∧ HR P u w0 O0 e' ∧ Ext e e' ∧ e'.own = updL e.own [(id, .mp K2 V (delM kvs n))] ∧ RepL P u e' [.tup []] [v'] := by
    intro es' hl he hrun
    obtain ⟨hext, hmk⟩ := hr.setM P u (k := id) (o := .mp K2 V (delM kvs n)) (ob := .map es' clock) hm0 h1 (by rw [ho]; exact .mp _ _ _ _)
    refine ⟨_, _, hrun, hmk ⟨b, c, clock, es', h1, h2, ?_, by simpa using hl, fun j p hp => ?_⟩, hext, rfl, .tup _ _ .nil .nil⟩
    · show (e.w.heap.setIfInBounds b (.map es' clock))[b]? = _
      simp [hlt]
    · obtain ⟨en, q1, q2, q3⟩ := he j p hp
      exact ⟨en, by simpa using q1, q2, q3.ext P u hext⟩
  cases hid : idxM kvs n with
  | none =>
    rw [hid] at hfind
    have hdel : delM kvs n = kvs := by unfold delM; rw [hid]
    refine key es (by rw [hdel]; exact h4) (fun j p hp => h5 j p (by rw [← hdel]; exact hp)) ?_
    simp [Builtin.delete_, run_underlying ht, MapKept.run_getObj_map h3, MapKept.run_checkKey hkt (isKeyI K2 n), MapKept.run_findKey hkt hfind, MapKept.run_setObj_map _ h3, Result.andThen]
  | some j =>
    rw [hid] at hfind
    obtain ⟨p, hp, hpk⟩ := idxM_lt hid
    obtain ⟨en, g1, g2, g3⟩ := h5 j p hp
    simp only [g1, Option.map_some, Nat.zero_add] at hfind
    have hdel : delM kvs n = kvs.eraseIdx j := by unfold delM; rw [hid]
    have hjl : j < kvs.length := (List.getElem?_eq_some_iff.1 hp).1
    have hes : (es.eraseIdxIfInBounds j).toList = es.toList.eraseIdx j := by
      unfold Array.eraseIdxIfInBounds
      rw [dif_pos (by rw [← Array.length_toList, h4]; exact hjl)]
      simp
    refine key (es.eraseIdxIfInBounds j) ?_ (fun i q hq => ?_) ?_
    · rw [hdel, hes, List.length_eraseIdx, List.length_eraseIdx, h4]
    · rw [hdel, List.getElem?_eraseIdx] at hq
      rw [hes, List.getElem?_eraseIdx]
      split at hq
      · rename_i hlt'; rw [if_pos hlt']; exact h5 i q hq
      · rename_i hlt'; rw [if_neg hlt']; exact h5 (i + 1) q hq
    · simp [Builtin.delete_, run_underlying ht, MapKept.run_getObj_map h3, MapKept.run_checkKey hkt (isKeyI K2 n), MapKept.run_findKey hkt hfind, MapKept.run_setObj_map _ h3, Result.andThen]
def isStrT (t : TypeId) : Bool := match P.underlying t with | some .string => true | _ => false
def strNums (s : ByteArray) : List Int := s.data.toList.map fun b => (b.toNat : Int)
def convH (k : Nat) (own : Nat → Own A) (s d : TypeId) (x : SV A) : HRes A := match P.underlying d with
  | some (.slice T) => match P.underlying T with
    | some (.int .u8) => (match x with
      | .str b => if u.isByte T ∧ P.cellsOf T = 1 ∧ isStrT P s then (match own k with
        | .free => some (none, .orow k, [(k, .row T (u.ofNums T (strNums b)))])
        | _ => none) else none
      | .orow id => if Nat.beq s d then (match own id with
        | .row _ xs => some (some (0 < xs.length), .orow id, [])
        | _ => none) else none
      | _ => none)
    | _ => none
  | _ => none

theorem append_sound (hu : Law P u) {w0 : W0} {O0 : Nat → Prop} {e : E A} {k : Nat} (hr : HR P u w0 O0 e) (hkH : k < 1152921504606846976) {t1 t2 ty : Nat} {x y r : SV A} {vx vy : Value} {c : Option Prop} {f : Eff A} (hx : RepL P u e [x] [vx]) (hy : RepL P u e [y] [vy])
    (h : appendS P u k e.own t1 t2 x y = some (c, r, f)) (hc : holds c) :
    ∃ v' e', (Builtin.append_ #[t1, t2] ty #[vx, vy]).run P e.w = .ok v' e'.w ∧ HR P u w0 O0 e' ∧ Ext e e' ∧ e'.own = updL e.own f ∧ RepL P u e' [r] [v'] := by
  unfold appendS at h
  split at h
  case h_2 => cases h
  rename_i T ht
  split at h
  case isFalse => cases h
  rename_i hT
  simp only [Bool.and_eq_true] at hT
  obtain ⟨h12, hT⟩ := hT
  have h12 := Nat.eq_of_beq_eq_true h12
  subst h12
  split at h
  case h_2 => cases h
  rename_i ys hys
  have hyi := cont_is P u hu hr hy hys
  split at h
  case h_2 => cases h
  rename_i hk0
  have hk := And.intro hk0 hkH
  split at h
  · cases h; cases hx
    exact append_nil P u hr ht hT hk hyi hc
  · cases h; cases hx
    exact append_nil P u hr ht hT hk hyi hc
  · rename_i id
    split at h
    case h_2 => cases h
    rename_i S xs ho
    split at h
    case isFalse => cases h
    rename_i hST
    subst hST
    cases h
    have := append_own P u hu hr (ty := ty) ht hT hk ho (orow_osl P u (.inl ho) hx) hyi hc
    simpa [updL] using this
  · rename_i id lo len
    split at h
    case h_2 => cases h
    rename_i S xs ho
    split at h
    case isFalse => cases h
    rename_i hST
    subst hST
    split at h
    case isFalse => cases h
    rename_i hlo
    have hlo := Nat.eq_of_beq_eq_true hlo
    subst hlo
    split at h
    · cases h
      have h1 : len + ys.length ≤ xs.length := hc
      have := append_in P u hu hr (ty := ty) ht hT ho hx hyi (by omega)
      simpa [updL] using this
    · cases h
      have := append_own P u hu hr (ty := ty) ht hT hk ho hx hyi hc
      simpa [updL] using this
  · cases h
theorem osl_le {e : E A} {id lo len T : Nat} {xs : List (A T)} {v : Value} (ho : e.own id = .row T xs) (hx : RepL P u e [.osl id lo len] [v]) : lo + len ≤ xs.length := by
  have hsame : ∀ {T2 : Nat} {zs : List (A T2)}, (e.own id = .row T2 zs ∨ e.own id = .fro T2 zs) → T2 = T ∧ HEq zs xs := by
    intro T2 zs hv
    rw [ho] at hv
    rcases hv with hv | hv <;> cases hv
    exact ⟨rfl, HEq.rfl⟩
  cases hx with
  | oslD _ _ _ _ hd _ _ => rw [ho] at hd; cases hd
  | oslZ _ _ T2 zs a hv hlo _ => obtain ⟨rfl, hh⟩ := hsame hv; cases hh; omega
  | osl _ _ _ b c cap T2 zs hv hβ hle hcc _ => obtain ⟨rfl, hh⟩ := hsame hv; cases hh; omega
theorem encN_get (hu : Law P u) {T n : Nat} {ys : List (A T)} (h : (encN u T ys n).length = n) (hc : P.cellsOf T = 1) {e : E A} {vss : Nat → List Value} (hz : ∀ i, i < n → (vss i).length = 1) (hn : n ≤ ys.length) (hx : ∀ (i : Nat) (x : A T), ys[i]? = some x → RepL P u e (u.enc T x) (vss i)) :
    ∀ m, m ≤ n → RepL P u e (encN u T ys m) (blk vss m)
  | 0, _ => .nil
  | m + 1, hm => by
    have h1 := encN_get hu h hc hz hn hx m (by omega)
    have hg : ys[m]? = some (ys.getD m (u.dflt T)) := by simp [List.getD, List.getElem?_eq_getElem (show m < ys.length by omega)]
    exact h1.append P u (hx m _ hg)
theorem copy_sound (hu : Law P u) {w0 : W0} {O0 : Nat → Prop} {e : E A} (hr : HR P u w0 O0 e) {t t2 ty : Nat} {x y r : SV A} {vx vy : Value} {c : Option Prop} {f : Eff A} (hx : RepL P u e [x] [vx]) (hy : RepL P u e [y] [vy])
    (h : copyS P u e.own t x y = some (c, r, f)) (hc : holds c) :
    ∃ v' e', (Builtin.copy_ #[t, t2] ty #[vx, vy]).run P e.w = .ok v' e'.w ∧ HR P u w0 O0 e' ∧ Ext e e' ∧ e'.own = updL e.own f ∧ RepL P u e' [r] [v'] := by
  unfold copyS at h
  split at h
  case h_2 => cases h
  rename_i T ht
  split at h
  case isFalse => cases h
  rename_i hT
  split at h
  case h_2 => cases h
  rename_i ys hys
  have hyi := cont_is P u hu hr hy hys
  split at h
  · rename_i id
    split at h
    case h_2 => cases h
    rename_i S xs ho
    split at h
    case isFalse => cases h
    rename_i hST
    subst hST
    cases h
    obtain ⟨e', h1, h2, h3, h4⟩ := copy_row P u hu hr (t2 := t2) (ty := ty) ht hT ho (orow_osl P u (.inl ho) hx) (by omega) hyi
    refine ⟨_, e', h1, h2, h3, ?_, .int _ _ .nil⟩
    rw [h4]
    simp [updL]
  · rename_i id lo len
    split at h
    case h_2 => cases h
    rename_i S xs ho
    split at h
    case isFalse => cases h
    rename_i hST
    subst hST
    cases h
    obtain ⟨e', h1, h2, h3, h4⟩ := copy_row P u hu hr (t2 := t2) (ty := ty) ht hT ho hx (osl_le P u ho hx) hyi
    exact ⟨_, e', h1, h2, h3, h4, .int _ _ .nil⟩
  · rename_i id idx off S lo len
    split at h
    case h_2 => cases h
    rename_i R xs ho
    split at h
    case isFalse => cases h
    rename_i hST
    subst hST
    unfold copyE at h
    split at h
    case h_2 => cases h
    rename_i p hp0
    cases h
    have hp := hu.part _ _ _ _ hp0
    obtain ⟨i, z, hi, hz, hzs, hs, hbt, hcs, hbs, _⟩ := okRow_spec P hT
    obtain ⟨a, m, cp, rfl, hl, vss, hzv, hxv, hfirst⟩ := take_is P u (n := 0) hyi (by rw [hcs]; exact hs)
    subst hl
    cases hx with
    | eslD _ _ _ _ _ _ _ hd _ _ => rw [ho] at hd; cases hd
    | esl _ _ _ _ _ _ b c cap T2 zs hv hβ hidx hcap hpn _ =>
      have hsame : T2 = R ∧ HEq zs xs := by
        rw [ho] at hv; rcases hv with hv | hv <;> cases hv; exact ⟨rfl, HEq.rfl⟩
      obtain ⟨rfl, hh⟩ := hsame
      cases hh
      have hpn := hpn p hp0
      have hmn : min ys.length len ≤ ys.length := Nat.min_le_left _ _
      have hml : min ys.length len ≤ len := Nat.min_le_right _ _
      have hfit := hp.fits
      have hf := hfirst (min ys.length len) hmn
      rw [hcs] at hf
      generalize hnn : min ys.length len = n at *
      have hzv1 : ∀ i, i < n → (vss i).length = 1 := fun i hi => by rw [hzv i (by omega), hp.one]
      have hbl : (blk vss n).length = n := by rw [blk_length hzv1, Nat.mul_one]
      obtain ⟨e', h1, h2, h3, h4, _⟩ := hr.putEl P u (idx := idx) (off := off + lo) (ns := blk vss n) (y := p.put (zs.getD idx (u.dflt T2)) ((p.get (zs.getD idx (u.dflt T2))).take lo ++ ys.take n ++ (p.get (zs.getD idx (u.dflt T2))).drop (lo + n))) ho hβ hidx (blk_one P u hu hxv hmn) (by omega) (fun vs hvs _ => part_put P u hp hvs hbl hmn (by omega) (fun i z v hi hz hv => by
        have hb := blk_get hzv1 i 0 hi Nat.one_pos
        rw [Nat.mul_one, Nat.add_zero] at hb
        rw [hb] at hv
        have hr1 := hxv i z hz
        have hl1 := hzv1 i hi
        generalize vss i = l at hv hr1 hl1
        match l, hl1 with
        | [w], _ => cases hv; exact hr1))
      refine ⟨.int .i64 (n : Nat), e', ?_, h2, h3, h4, .int _ _ .nil⟩
      have hmin : Nat.min ys.length len = n := hnn
      rw [← Nat.add_assoc] at h1
      have hone : i.size = 1 := by rw [← hcs, hp.one]
      rw [hone] at hf
      simp [Builtin.copy_, run_underlying ht, sizeOf, typeInfo, hi, Builtin.lenOf, hmin, hf, goInt, h1, hone]
  · rename_i id off len
    split at h
    case h_2 => cases h
    rename_i cs ho
    split at h
    case isFalse => cases h
    rename_i hcond
    obtain ⟨hone, hfit, henc⟩ := hcond
    cases h
    have hle : len ≤ ys.length := hc
    obtain ⟨i, z, hi, hz, hzs, hs, hbt, hcs, hbs, _⟩ := okRow_spec P hT
    obtain ⟨a, m, cp, rfl, hl, vss, hzv, hxv, hfirst⟩ := take_is P u (n := 0) hyi (by rw [hcs]; exact hs)
    subst hl
    have hent := hr.ent id
    rw [ho] at hent
    obtain ⟨b, c', vs, T', hβ, hfr, hheap, hrep⟩ := hent
    cases hx with
    | vslD _ _ _ _ hd _ _ => rw [ho] at hd; cases hd
    | vsl _ _ _ b2 c2 cap hv hβ2 hcap _ =>
      rw [hβ] at hβ2; cases hβ2
      have hf := hfirst len hle
      have hzv1 : ∀ i, i < len → (vss i).length = 1 := fun i hi => by rw [hzv i (by omega), hone]
      have hbl : (blk vss len).length = len := by rw [blk_length hzv1, Nat.mul_one]
      have hvs : cs.length = vs.length := hrep.length
      have hen := encN_get P u hu henc hone hzv1 hle hxv len (Nat.le_refl _)
      have hst := run_storeCells_fz P b off T' (0, 0) (blk vss len) 0 ⟨vs⟩ e.w hheap (.inl rfl) (by simp only [List.size_toArray]; omega) (blk_one P u hu hxv hle)
      simp only [Nat.add_zero] at hst
      obtain ⟨hext, hmk⟩ := hr.set P u (k := id) (o := .var (setAt cs off (encN u T ys len))) (cs := (vs.take off ++ blk vss len ++ vs.drop (off + (blk vss len).length)).toArray) (by rw [ho]; rfl) hβ rfl (by rw [ho]; exact .var _ _)
      refine ⟨.int .i64 (min ys.length len : Nat), _, ?_, hmk ?_, hext, rfl, .int _ _ .nil⟩
      · have hmin : Nat.min ys.length len = len := Nat.min_eq_right hle
        have hmin2 : min ys.length len = len := Nat.min_eq_right hle
        rw [hcs] at hf
        simp [Builtin.copy_, run_underlying ht, sizeOf, typeInfo, hi, Builtin.lenOf, hmin, hf, goInt, hst, hmin2]
        rfl
      · refine ⟨b, c', _, T', hβ, hfr, setRow_heap _ _ _ _ _ _ hheap, ?_⟩
        have h5 := ((hrep.take P u off).append P u hen).append P u (hrep.drop P u (off + (encN u T ys len).length))
        rw [show (encN u T ys len).length = (blk vss len).length by rw [hbl, henc]] at h5
        have h6 : RepL P u e (setAt cs off (encN u T ys len)) (vs.take off ++ blk vss len ++ vs.drop (off + (blk vss len).length)) := by
          unfold setAt
          rw [show (encN u T ys len).length = (blk vss len).length by rw [hbl, henc]]
          exact h5
        exact h6.ext P u hext
  · cases h
theorem clear_sound (hu : Law P u) {w0 : W0} {O0 : Nat → Prop} {e : E A} (hr : HR P u w0 O0 e) {t ty : Nat} {x r : SV A} {vx : Value} {c : Option Prop} {f : Eff A} (hx : RepL P u e [x] [vx]) (h : clearS P u e.own t x = some (c, r, f)) :
    ∃ v' e', (Builtin.clear_ #[t] ty #[vx]).run P e.w = .ok v' e'.w ∧ HR P u w0 O0 e' ∧ Ext e e' ∧ e'.own = updL e.own f ∧ RepL P u e' [r] [v'] := by
  unfold clearS at h
  split at h
  case h_2 => cases h
  rename_i T ht
  split at h
  case isFalse => cases h
  rename_i hT
  split at h
  case h_2 => cases h
  rename_i z hz
  split at h
  case h_2 => cases h
  rename_i id lo len
  split at h
  case h_2 => cases h
  rename_i S xs ho
  split at h
  case isFalse => cases h
  rename_i hST
  subst hST
  cases h
  have hle := osl_le P u ho hx
  obtain ⟨i, zv, hi, hzv, hrep⟩ := zeroEl_rep P u hu (e := e) hz
  obtain ⟨i', z', hi', hz', hzs, hs, hbt, hcs, hbs, _⟩ := okRow_spec P hT
  rw [hi] at hi'; cases hi'
  rw [hzv] at hz'; cases hz'
  have hsame : ∀ {T2 : Nat} {zs : List (A T2)}, (e.own id = .row T2 zs ∨ e.own id = .fro T2 zs) → T2 = S ∧ HEq zs xs := by
    intro T2 zs hv
    rw [ho] at hv
    rcases hv with hv | hv <;> cases hv
    exact ⟨rfl, HEq.rfl⟩
  have hz0 : ∀ {w : World}, (zeroValue S).run P w = .ok zv w := by intro w; simp [zeroValue, typeInfo, hi, hzv]
  cases hx with
  | oslD _ _ _ _ hd _ _ => rw [ho] at hd; cases hd
  | oslZ _ _ T2 zs ab hv hlo _ =>
    obtain ⟨rfl, hh⟩ := hsame hv
    cases hh
    have hupd : upd e.own id (.row T2 (zs.take lo ++ List.replicate 0 z ++ zs.drop (lo + 0))) = e.own := by
      funext q
      by_cases hq : q = id
      · subst hq; rw [upd_same, ho]; simp
      · rw [upd_ne _ _ hq]
    refine ⟨.tuple #[], e, ?_, hr, .refl e, hupd.symm, .tup [] [] .nil .nil⟩
    cases ab with
    | none => simp [Builtin.clear_, run_underlying ht]
    | some ad => simp [Builtin.clear_, run_underlying ht]
  | osl _ _ _ b c cap T2 zs hv hβ hle2 hcc _ =>
    obtain ⟨rfl, hh⟩ := hsame hv
    cases hh
    obtain ⟨e', h1, h2, h3, h4, h5⟩ := hr.splice P u hu (lo := lo) (ys := List.replicate len z) (vss := fun _ => zv.cells.toList) (by rw [hcs]; exact hs) ho hβ (by simpa using hle) (fun i x hi => by
      rw [List.getElem?_replicate] at hi
      split at hi
      · cases hi; exact hrep
      · cases hi) (fun i hi => by simp [hzs, hcs])
    simp only [List.length_replicate] at h1 h4
    refine ⟨.tuple #[], e', ?_, h2, h3, h4, .tup [] [] .nil .nil⟩
    have hzb := zero_blk (z := zv.cells) (by omega) len
    cases len with
    | zero =>
      have : e'.w = e.w := by
        simp [blk, storeCells] at h1
        exact h1.symm
      rw [this]
      simp [Builtin.clear_, run_underlying ht]
    | succ len =>
      simp only [Builtin.clear_]
      simp [run_underlying ht, hz0, hzb, h1]
theorem make_sound (hu : Law P u) {w0 : W0} {O0 : Nat → Prop} {e : E A} {k : Nat} (hr : HR P u w0 O0 e) (hkH : k < 1152921504606846976) {t : Nat} {x y r : SV A} {vx vy : Value} {c : Option Prop} {f : Eff A} (hx : RepL P u e [x] [vx]) (hy : RepL P u e [y] [vy])
    (h : makeS P u k e.own t x y = some (c, r, f)) (hc : holds c) :
    ∃ v' e', (Instr.makeSlice t vx vy).run P e.w = .ok v' e'.w ∧ HR P u w0 O0 e' ∧ Ext e e' ∧ e'.own = updL e.own f ∧ RepL P u e' [r] [v'] := by
  unfold makeS at h
  split at h
  case h_2 => cases h
  rename_i T ht
  split at h
  case isFalse => cases h
  rename_i hT
  split at h
  case h_2 => cases h
  rename_i z hz
  split at h
  case h_2 => cases h
  rename_i hk0
  have hk := And.intro hk0 hkH
  split at h
  case h_2 => cases h
  rename_i kl l
  split at h
  case h_2 => cases h
  rename_i kc cc
  cases h
  cases hx; cases hy
  obtain ⟨i, zv, hi, hzv, hrep⟩ := zeroEl_rep P u hu (e := e) hz
  obtain ⟨i', z', hi', hz', hzs, hs, hbt, hcs, hbs, _⟩ := okRow_spec P hT
  rw [hi] at hi'; cases hi'
  rw [hzv] at hz'; cases hz'
  obtain ⟨c0, c1, c2, c3⟩ : 0 ≤ l ∧ l ≤ cc ∧ (bytesT P T : Int) * cc ≤ 281474976710656 ∧ cc ≤ 9223372036854775807 := hc
  rw [hbs] at c2
  have hrun := run_make (P := P) e.w t T i zv ht hi hzv kl kc l cc c0 c1 c2 c3
  have hmz : (madeCells zv.cells (cc.toNat * i.size)).toList = blk (fun _ => zv.cells.toList) cc.toNat := by
    rw [← zero_blk (by omega) cc.toNat]
    simp [madeCells, Builtin.zeroCells, hzs]
  obtain ⟨e', h1, h2, h3, h4, h5⟩ := hr.newRow P u (k := k) (T := T) (c := cc.toNat) (xs := List.replicate l.toNat z) (arr := (madeCells zv.cells (cc.toNat * i.size)).toList) (T' := T) (fz := (0, 0)) (vss := fun _ => zv.cells.toList) hk
    (w' := e.w.alloc (.cells (madeCells zv.cells (cc.toNat * i.size)) T)) rfl rfl rfl rfl (.inl rfl) (by rw [hcs]; simp [size_madeCells]) (by simp; omega) (fun i x hi => by
      rw [List.getElem?_replicate] at hi
      split at hi
      · cases hi; exact hrep
      · cases hi) (fun i hi => by simp [hzs, hcs]) (by
      intro i' j hi' hj
      rw [hmz]
      have := blk_get (vss := fun _ => zv.cells.toList) (s := P.cellsOf T) (m := cc.toNat) (fun i _ => by simp [hzs, hcs]) i' j (by simp at hi'; omega) hj
      exact this)
  refine ⟨_, e', ?_, h2, h3, h4, h5⟩
  rw [hrun, h1]
  simp
end
end Go.Proofs.Ytndacggailoogaa.Sx
