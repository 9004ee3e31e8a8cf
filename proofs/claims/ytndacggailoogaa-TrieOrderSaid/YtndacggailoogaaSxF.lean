/- An abstract machine over values by content, sixth part: all operations that leave memory as it is, together. -/
import Derived.Test.YtndacggailoogaaSxE
import Derived.Laws.BytesString
namespace Go.Proofs.Ytndacggailoogaa.Sx
open Go Go.RowKit

section
variable {A : Nat → Type} (P : Program) (u : U A)

def mn (a b : Int) : Int := if b < a then b else a
def mx (a b : Int) : Int := if b > a then b else a
def unS (op : UnOp) (x : SV A) : Option (SV A) := match op with
  | .not => match x with
    | .lit b => some (.lit (!b))
    | .bool b => some (.bool (!b))
    | _ => none
  | .neg => match x with
    | .int k n => some (.int k (k.wrap (0 - n)))
    | _ => none
  | .xor => match x with
    | .int k n => some (.int k (bitsI .xor k (if k.signed then -1 else k.max) n))
    | _ => none
  | _ => none
theorem un_sound {e : E A} {op : UnOp} {x y : SV A} {v : Value} (hx : RepL P u e [x] [v]) (h : unS op x = some y) : ∃ r, (Op.unary op v).run P e.w = .ok r e.w ∧ RepL P u e [y] [r] := by
  unfold unS at h
  split at h
  · split at h <;> cases h <;> cases hx
    · exact ⟨_, rfl, .lit _ .nil⟩
    · exact ⟨_, rfl, .bool _ .nil⟩
  · split at h <;> cases h
    cases hx
    exact ⟨_, rfl, .int _ _ .nil⟩
  · split at h <;> cases h
    cases hx
    exact ⟨_, rfl, .int _ _ .nil⟩
  · cases h

/-- The number in one cell; numbers as bytes. -/
def num1 : List (SV A) → Int
  | [.int _ n] => n
  | _ => 0
def bytesOf (l : List Int) : ByteArray := ⟨(l.map fun n => UInt8.ofNat n.toNat).toArray⟩
theorem push_all (l : List Int) : ∀ s : ByteArray, l.foldl (fun r n => r.push (UInt8.ofNat n.toNat)) s = ⟨(s.data.toList ++ l.map fun n => UInt8.ofNat n.toNat).toArray⟩ := by
  induction l with
  | nil => intro s; simp
  | cons n l ih =>
    intro s
    rw [List.foldl_cons, ih]
    congr 1
    simp [ByteArray.push]
/-- What is read back is what was put together. -/
structure Law : Prop where
  dec : ∀ (e : E A) T l vs x, u.dec T l = some x → RepL P u e l vs → RepL P u e (u.enc T x) vs
  len : ∀ T l x, u.dec T l = some x → l.length = P.cellsOf T
  eqv : EqvOk P u
  cells : ∀ T (x : A T), (u.enc T x).all cellOk = true
  nums : ∀ T (xs : List (A T)), u.isByte T = true → (u.nums T xs).length = xs.length ∧ ∀ (i : Nat) (x : A T), xs[i]? = some x → ∃ n, (u.nums T xs)[i]? = some n ∧ u.enc T x = [.int .u8 n]
  ofNums : ∀ T (ns : List Int), u.isByte T = true → (u.ofNums T ns).length = ns.length ∧ ∀ (i : Nat) (n : Int), ns[i]? = some n → ∃ x : A T, (u.ofNums T ns)[i]? = some x ∧ u.enc T x = [.int .u8 n]
  proj : ProjOk P u
  part : PartOk P u
  arr : ArrOk P u
  bld : BldOk P u
  zeroLen : ∀ T (x : A T), u.bld T [] = some x → (u.enc T x).length = P.cellsOf T
/-- A value is a slice of these elements. -/
def SliceIs (e : E A) (T : Nat) (xs : List (A T)) (v : Value) : Prop :=
  ∃ (a : Option Addr) (len cap : Nat) (vss : Nat → List Value), v = .slice a len cap ∧ xs.length = len ∧ len ≤ cap ∧ (xs = [] ∨ ∃ b o, a = some ⟨b, o, none⟩ ∧ b < e.w.heap.size ∧ ∀ i, i < xs.length → cellsAt e.w b (o + i * P.cellsOf T) (vss i)) ∧
    (∀ i, i < xs.length → (vss i).length = P.cellsOf T) ∧ ∀ (i : Nat) (x : A T), xs[i]? = some x → RepL P u e (u.enc T x) (vss i)
def decL (T : Nat) : List (SV A) → Option (List (A T))
  | [] => some []
  | c :: r => match u.dec T [c], decL T r with
    | some x, some l => some (x :: l)
    | _, _ => none
/-- A part of an element, as elements. -/
def partL {R S : Nat} (p : Option (PartU A R S)) (x : A R) (lo len : Nat) : Option (List (A S)) := match p with
  | some p => some (((p.get x).drop lo).take len)
  | none => none
/-- The elements of a slice, by its content. -/
def contT (own : Nat → Own A) (T : Nat) (x : SV A) : Option (List (A T)) := match x with
  | .nils => some []
  | .zsl => some []
  | .csl S xs => if h : S = T then some (h ▸ xs) else none
  | .nsl _ S xs => if h : S = T then some (h ▸ xs) else none
  | .osl id lo len => match own id with
    | .row S xs => if h : S = T then some (h ▸ ((xs.drop lo).take len)) else none
    | .fro S xs => if h : S = T then some (h ▸ ((xs.drop lo).take len)) else none
    | _ => none
  | .orow id => match own id with
    | .row S xs => if h : S = T then some (h ▸ xs) else none
    | .fro S xs => if h : S = T then some (h ▸ xs) else none
    | _ => none
  | .esl id idx off S lo len => match own id with
    | .row R xs => if h : S = T then partL (h ▸ u.part R off S) (xs.getD idx (u.dflt R)) lo len else none
    | .fro R xs => if h : S = T then partL (h ▸ u.part R off S) (xs.getD idx (u.dflt R)) lo len else none
    | _ => none
  | .vsl id off len => match own id with
    | .var cs => if P.cellsOf T = 1 ∧ off + len ≤ cs.length then decL u T ((cs.drop off).take len) else none
    | _ => none
  | _ => none
theorem decL_spec (hu : Law P u) {e : E A} {T : Nat} : ∀ {l : List (SV A)} {vs : List Value} {xs : List (A T)}, decL u T l = some xs → RepL P u e l vs → xs.length = l.length ∧ ∀ (i : Nat) (x : A T), xs[i]? = some x → ∃ v, vs[i]? = some v ∧ RepL P u e (u.enc T x) [v]
  | [], vs, xs, h, hr => by cases h; exact ⟨rfl, fun i x hx => by simp at hx⟩
  | c :: r, vs, xs, h, hr => by
    unfold decL at h
    split at h
    · rename_i x l hx hl
      cases h
      obtain ⟨v, ws, rfl, h1, h2⟩ := hr.split P u
      obtain ⟨h3, h4⟩ := decL_spec hu hl h2
      refine ⟨by simp [h3], fun i z hz => ?_⟩
      cases i with
      | zero => cases hz; exact ⟨v, rfl, hu.dec _ _ _ _ _ hx h1⟩
      | succ i => exact h4 i z hz
    · cases h
theorem row_slice {w0 : W0} {O0 : Nat → Prop} {e : E A} (hr : HR P u w0 O0 e) {id lo len T : Nat} {xs : List (A T)} {v : Value} (ho : e.own id = .row T xs ∨ e.own id = .fro T xs) (hx : RepL P u e [.osl id lo len] [v]) : SliceIs P u e T ((xs.drop lo).take len) v := by
  have hent : EntOk P u e w0.fr id (.row T xs) := by
    have := hr.ent id
    rcases ho with ho | ho <;> rw [ho] at this <;> exact this
  have hsame : ∀ {T2 : Nat} {zs : List (A T2)}, (e.own id = .row T2 zs ∨ e.own id = .fro T2 zs) → T2 = T ∧ HEq zs xs := by
    intro T2 zs hv
    rcases ho with ho | ho <;> rw [ho] at hv <;> rcases hv with hv | hv <;> cases hv <;> exact ⟨rfl, HEq.rfl⟩
  cases hx with
  | osl _ _ _ b' c' cap T2 ys hv hβ' hle _ _ =>
    obtain ⟨rfl, hh⟩ := hsame hv
    cases hh
    rcases hent with ⟨_, hn⟩ | ⟨b, c, arr, T', fz, vss, hβ, _, hheap, _, hlen, hc, hel⟩
    · rw [hn] at hβ'; cases hβ'
    rw [hβ] at hβ'; cases hβ'
    refine ⟨_, _, _, fun i => vss (lo + i), rfl, by simp; omega, by omega, .inr ⟨b', lo * P.cellsOf T2, rfl, (Array.getElem?_eq_some_iff.1 hheap).1, fun i hi => ?_⟩, fun i hi => ?_, fun i x hi => ?_⟩
    · have hi' : i < len := by simp at hi; omega
      intro j v hj
      have hlt : lo + i < ys.length := by omega
      obtain ⟨_, _, h3⟩ := hel (lo + i) _ (List.getElem?_eq_getElem hlt)
      have hcell := cellsAt_heap hheap _ v (h3 j v hj)
      rw [Nat.zero_add, Nat.add_mul, Nat.add_assoc] at hcell
      rw [Nat.add_assoc]
      exact hcell
    · have hi' : i < len := by simp at hi; omega
      have hlt : lo + i < ys.length := by omega
      exact (hel (lo + i) _ (List.getElem?_eq_getElem hlt)).2.1
    · rw [List.getElem?_take] at hi
      split at hi
      · rw [List.getElem?_drop] at hi
        exact (hel (lo + i) x hi).1
      · cases hi
  | oslD _ _ _ _ hd _ _ => rcases ho with ho | ho <;> rw [ho] at hd <;> cases hd
  | oslZ _ _ T2 ys a hv hlo _ => exact ⟨_, _, _, fun _ => [], rfl, by simp, Nat.le_refl _, .inl (by simp), fun i hi => by simp at hi, fun i x hi => by simp at hi⟩
theorem orow_slice {w0 : W0} {O0 : Nat → Prop} {e : E A} (hr : HR P u w0 O0 e) {id T : Nat} {xs : List (A T)} {v : Value} (ho : e.own id = .row T xs ∨ e.own id = .fro T xs) (hx : RepL P u e [.orow id] [v]) : SliceIs P u e T xs v := by
  have hsame : ∀ {T2 : Nat} {zs : List (A T2)}, (e.own id = .row T2 zs ∨ e.own id = .fro T2 zs) → T2 = T ∧ HEq zs xs := by
    intro T2 zs hv
    rcases ho with ho | ho <;> rw [ho] at hv <;> rcases hv with hv | hv <;> cases hv <;> exact ⟨rfl, HEq.rfl⟩
  cases hx with
  | orow _ b c cap T2 ys hv hβ hc _ =>
    obtain ⟨rfl, hh⟩ := hsame hv
    cases hh
    have := row_slice P u hr (lo := 0) (len := ys.length) ho (v := .slice (some ⟨b, 0, none⟩) ys.length cap) (by
      have := RepL.osl (P := P) (u := u) (e := e) (xs := []) (vs := []) id 0 ys.length b c cap T2 ys hv hβ (by omega) ⟨by omega, by omega⟩ .nil
      simpa using this)
    simpa using this
  | orowN _ T2 a hv _ =>
    obtain ⟨rfl, hh⟩ := hsame hv
    cases hh
    exact ⟨_, _, _, fun _ => [], rfl, rfl, Nat.le_refl _, .inl rfl, fun i hi => by simp at hi, fun i x hi => by simp at hi⟩
  | orowD _ _ hd _ _ => rcases ho with ho | ho <;> rw [ho] at hd <;> cases hd
theorem esl_slice (hu : Law P u) {w0 : W0} {O0 : Nat → Prop} {e : E A} (hr : HR P u w0 O0 e) {id idx off S lo len T : Nat} {xs : List (A T)} {v : Value} {p : PartU A T S} (ho : e.own id = .row T xs ∨ e.own id = .fro T xs) (hp0 : u.part T off S = some p) (hx : RepL P u e [.esl id idx off S lo len] [v]) : SliceIs P u e S (((p.get (xs.getD idx (u.dflt T))).drop lo).take len) v := by
  have hent : EntOk P u e w0.fr id (.row T xs) := by
    have := hr.ent id
    rcases ho with ho | ho <;> rw [ho] at this <;> exact this
  have hsame : ∀ {T2 : Nat} {zs : List (A T2)}, (e.own id = .row T2 zs ∨ e.own id = .fro T2 zs) → T2 = T ∧ HEq zs xs := by
    intro T2 zs hv
    rcases ho with ho | ho <;> rw [ho] at hv <;> rcases hv with hv | hv <;> cases hv <;> exact ⟨rfl, HEq.rfl⟩
  have hp := hu.part _ _ _ _ hp0
  cases hx with
  | eslD _ _ _ _ _ _ _ hd _ _ => rcases ho with ho | ho <;> rw [ho] at hd <;> cases hd
  | esl _ _ _ _ _ _ b' c' cap T2 ys hv hβ' hi hcap hpn _ =>
    obtain ⟨rfl, hh⟩ := hsame hv
    cases hh
    have hpn := hpn p hp0
    rcases hent with ⟨_, hn⟩ | ⟨b, c, arr, T', fz, vss, hβ, _, hheap, _, hlen, hc, hel⟩
    · rw [hn] at hβ'; cases hβ'
    rw [hβ] at hβ'; cases hβ'
    have hget : ys[idx]? = some (ys.getD idx (u.dflt T2)) := by simp [List.getD, List.getElem?_eq_getElem hi]
    obtain ⟨k1, k2, k3⟩ := hel idx _ hget
    have hgl := hp.getLen (ys.getD idx (u.dflt T2))
    have hfit := hp.fits
    refine ⟨_, len, cap, fun i => [(vss idx).getD (off + (lo + i)) Go.undef], rfl, by rw [List.length_take, List.length_drop, hgl]; omega, hcap, .inr ⟨b', idx * P.cellsOf T2 + off + lo, rfl, (Array.getElem?_eq_some_iff.1 hheap).1, fun i hi => ?_⟩, fun i hi => by simp [hp.one], fun i x hi => ?_⟩
    · have hi' : i < len := by simp at hi; omega
      intro j v hj
      cases j with
      | succ j => simp at hj
      | zero =>
        simp only [List.getElem?_cons_zero, Option.some.injEq] at hj
        subst hj
        have hlt : off + (lo + i) < (vss idx).length := by omega
        have h1 := cellsAt_heap hheap _ _ (k3 (off + (lo + i)) ((vss idx).getD (off + (lo + i)) Go.undef) (by simp [List.getD, List.getElem?_eq_getElem hlt]))
        rw [Nat.zero_add] at h1
        rw [hp.one, Nat.mul_one, Nat.add_zero, Nat.add_assoc, Nat.add_assoc, ← Nat.add_assoc (idx * P.cellsOf T2)]
        rw [Nat.add_assoc]
        exact h1
    · rw [List.getElem?_take] at hi
      split at hi
      case isFalse => cases hi
      rename_i hil
      rw [List.getElem?_drop] at hi
      obtain ⟨d, g1, g2⟩ := hp.get _ _ _ hi
      rw [g2]
      have hlt : off + (lo + i) < (vss idx).length := by omega
      exact repL_at P u k1 g1 (by simp [List.getD, List.getElem?_eq_getElem hlt])
theorem cont_is (hu : Law P u) {w0 : W0} {O0 : Nat → Prop} {e : E A} (hr : HR P u w0 O0 e) {T : Nat} {x : SV A} {v : Value} {xs : List (A T)} (hx : RepL P u e [x] [v]) (h : contT P u e.own T x = some xs) : SliceIs P u e T xs v := by
  have h0 : ∀ a : Option Addr, SliceIs P u e T [] (.slice a 0 0) := fun a => ⟨_, _, _, fun _ => [], rfl, rfl, Nat.le_refl _, .inl rfl, fun i hi => by simp at hi, fun i x hi => by simp at hi⟩
  unfold contT at h
  split at h
  · cases h; cases hx; exact h0 _
  · cases h; cases hx; exact h0 _
  · split at h
    · rename_i hh
      subst hh
      cases h
      cases hx with
      | csl _ _ a len cap vss hl hc hm hz hx _ => exact ⟨a, len, cap, vss, rfl, hl, hc, hm.imp id (fun ⟨b, o, h1, h2, _, h4⟩ => ⟨b, o, h1, h2, h4⟩), hz, hx⟩
    · cases h
  · split at h
    · rename_i hh
      subst hh
      cases h
      cases hx with
      | nsl _ _ _ a len cap vss hl hc hm hz hx hq _ => exact ⟨a, len, cap, vss, rfl, hl, hc, hm.imp id (fun ⟨b, o, h1, h2, _, h4⟩ => ⟨b, o, h1, h2, h4⟩), hz, hx⟩
    · cases h
  · split at h
    · rename_i ho
      split at h
      · rename_i hh
        subst hh
        cases h
        exact row_slice P u hr (.inl ho) hx
      · cases h
    · rename_i ho
      split at h
      · rename_i hh
        subst hh
        cases h
        exact row_slice P u hr (.inr ho) hx
      · cases h
    · cases h
  · split at h
    · rename_i ho
      split at h
      · rename_i hh
        subst hh
        cases h
        exact orow_slice P u hr (.inl ho) hx
      · cases h
    · rename_i ho
      split at h
      · rename_i hh
        subst hh
        cases h
        exact orow_slice P u hr (.inr ho) hx
      · cases h
    · cases h
  · rename_i id idx off S lo len
    split at h
    · rename_i R ys ho
      split at h
      · rename_i hh
        subst hh
        unfold partL at h
        split at h
        · rename_i p hp
          cases h
          exact esl_slice P u hu hr (.inl ho) hp hx
        · cases h
      · cases h
    · rename_i R ys ho
      split at h
      · rename_i hh
        subst hh
        unfold partL at h
        split at h
        · rename_i p hp
          cases h
          exact esl_slice P u hu hr (.inr ho) hp hx
        · cases h
      · cases h
    · cases h
  · rename_i id off len
    split at h
    · rename_i cs ho
      split at h
      · rename_i hc
        obtain ⟨hc1, hc2⟩ := hc
        have hent := hr.ent id
        rw [ho] at hent
        obtain ⟨b, c, vs, T', hβ, _, hheap, hrep⟩ := hent
        cases hx with
        | vsl _ _ _ b' c' cap hv hβ' hcap _ =>
          rw [hβ] at hβ'; cases hβ'
          have hsub := (hrep.drop P u off).take P u len
          obtain ⟨h1, h2⟩ := decL_spec P u hu h hsub
          have hlen : xs.length = len := by rw [h1]; simp; omega
          refine ⟨_, len, cap, fun i => [vs.getD (off + i) Go.undef], rfl, hlen, hcap, .inr ⟨b, off, rfl, (Array.getElem?_eq_some_iff.1 hheap).1, fun i hi => ?_⟩, fun i hi => by simp [hc1], fun i x hi => ?_⟩
          · intro j v hj
            have hvl : off + i < vs.length := by rw [← hrep.length]; omega
            cases j with
            | zero =>
              simp only [List.getElem?_cons_zero, Option.some.injEq] at hj
              subst hj
              have := cellsAt_heap hheap (off + i) (vs.getD (off + i) Go.undef) (by simp [List.getD, List.getElem?_eq_getElem hvl])
              simpa [hc1, Nat.add_comm, Nat.add_left_comm] using this
            | succ j => simp at hj
          · obtain ⟨v, hv1, hv2⟩ := h2 i x hi
            rw [List.getElem?_take] at hv1
            split at hv1
            · rw [List.getElem?_drop] at hv1
              simpa [List.getD, hv1] using hv2
            · cases hv1
        | vslD _ _ _ _ hd _ _ => rw [ho] at hd; cases hd
      · cases h
    · cases h
  · cases h
/-- Numbers out of bytes as elements. -/
def convS (own : Nat → Own A) (src dst : TypeId) (x : SV A) : Option (Option Prop × SV A) := match P.underlying src, P.underlying dst with
  | some (.int _), some (.int k) => match x with
    | .int _ n => some (none, .int k (k.wrap n))
    | _ => none
  | some .string, some .string => match x with
    | .str s => some (none, .str s)
    | _ => none
  | some (.slice e), some .string => match P.underlying e with
    | some (.int .u8) => if u.isByte e ∧ P.cellsOf e = 1 then (match contT P u own e x with
      | some xs => some (none, .str (bytesOf (u.nums e xs)))
      | none => none) else none
    | _ => none
  | _, _ => none
theorem conv_sound (hu : Law P u) {w0 : W0} {O0 : Nat → Prop} {e : E A} (hr : HR P u w0 O0 e) {src dst : TypeId} {x y : SV A} {c : Option Prop} {v : Value} (hx : RepL P u e [x] [v]) (h : convS P u e.own src dst x = some (c, y)) (hc : holds c) :
    ∃ r, (convert src dst v).run P e.w = .ok r e.w ∧ RepL P u e [y] [r] := by
  unfold convS at h
  split at h
  · rename_i k0 k hs hd
    split at h
    · cases h
      cases hx
      exact ⟨_, by simp [convert, run_underlying hs, run_underlying hd, Conv.intToInt], .int _ _ .nil⟩
    · cases h
  · rename_i hs hd
    split at h
    · cases h
      cases hx
      exact ⟨_, by simp [convert, run_underlying hs, run_underlying hd], .str _ .nil⟩
    · cases h
  · rename_i el hs hd
    split at h
    · rename_i hel'
      split at h
      · rename_i hb
        obtain ⟨hb, hsz⟩ := hb
        split at h
        · rename_i xs hxs
          simp only [Option.some.injEq, Prod.mk.injEq] at h
          obtain ⟨rfl, rfl⟩ := h
          obtain ⟨ad, len, cap, vss, rfl, hlen, hcap, hm, hz, hel⟩ := cont_is P u hu hr hx hxs
          obtain ⟨hnl, hn⟩ := hu.nums el xs hb
          subst hlen
          refine ⟨.string (bytesOf (u.nums el xs)), ?_, .str _ .nil⟩
          rw [run_convert_bytes_string e.w src dst el ad _ cap hs hel' hd]
          cases ad with
          | none =>
            rcases hm with rfl | ⟨b, o, h1, _⟩
            · have : u.nums el [] = [] := List.eq_nil_of_length_eq_zero (by rw [hnl]; rfl)
              rw [this]
              rfl
            · cases h1
          | some a =>
            have hl : (loadCells a xs.length).run P e.w = .ok ((u.nums el xs).map (Value.int .u8)).toArray e.w := by
              rcases hm with rfl | ⟨b, o, h1, hb, hm⟩
              · have : u.nums el [] = [] := List.eq_nil_of_length_eq_zero (by rw [hnl]; rfl)
                rw [this]
                simp [loadCells, loadCellsFrom]
              · cases h1
                have := run_loadCells_list (P := P) e.w ⟨b, o, none⟩ ((u.nums el xs).map (Value.int .u8)) (fun j v hj => by
                  rw [add_add']
                  simp only [List.getElem?_map, Option.map_eq_some_iff] at hj
                  obtain ⟨n, hnj, rfl⟩ := hj
                  have hlt : j < xs.length := by rw [← hnl]; exact (List.getElem?_eq_some_iff.1 hnj).1
                  obtain ⟨n', hn1, hn2⟩ := hn j _ (List.getElem?_eq_getElem hlt)
                  rw [hn1] at hnj; cases hnj
                  have hrep := hel j _ (List.getElem?_eq_getElem hlt)
                  rw [hn2] at hrep
                  have hcell := hm j hlt 0
                  rw [hsz] at hcell
                  generalize vss j = vj at hrep hcell
                  cases hrep with
                  | int _ _ h => cases h; simpa using hcell _ rfl)
                simpa [hnl] using this
            rw [run_bytesToString e.w a _ cap _ hl, push_all]
            rfl
        · cases h
      · cases h
    · cases h
  · cases h

/-- How many elements a slice has. -/
def lenO (own : Nat → Own A) (x : SV A) : Option Int := match x with
  | .csl _ xs => some xs.length
  | .nsl _ _ xs => some xs.length
  | .nils => some 0
  | .zsl => some 0
  | .osl id lo n => if live own (.osl id lo n) then some n else none
  | .vsl id off n => if live own (.vsl id off n) then some n else none
  | .esl id idx off S lo n => if live own (.esl id idx off S lo n) then some n else none
  | .orow id => match own id with
    | .row _ xs => some xs.length
    | .fro _ xs => some xs.length
    | _ => none
  | _ => none
def lenS (own : Nat → Own A) (t : TypeId) (x : SV A) : Option (SV A) := match P.underlying t with
  | some .string => match x with
    | .str s => some (.int .i64 s.size)
    | _ => none
  | some (.slice _) => match lenO own x with
    | some n => some (.int .i64 n)
    | none => none
  | some (.array n _) => some (.int .i64 n)
  | _ => none
theorem lenO_is {e : E A} {x : SV A} {v : Value} {n : Int} (hx : RepL P u e [x] [v]) (h : lenO e.own x = some n) : ∃ (a : Option Addr) (m : Nat) (cap : Nat), v = .slice a m cap ∧ n = (m : Int) ∧ m ≤ cap := by
  unfold lenO at h
  split at h
  · cases h; cases hx with
    | csl _ _ a len cap vss hlen hcap => exact ⟨a, len, cap, rfl, by rw [hlen], hcap⟩
  · cases h; cases hx with
    | nsl _ _ _ a len cap vss hlen hcap => exact ⟨a, len, cap, rfl, by rw [hlen], hcap⟩
  · cases h; cases hx; exact ⟨_, _, _, rfl, rfl, Nat.le_refl _⟩
  · cases h; cases hx; exact ⟨_, _, _, rfl, rfl, Nat.le_refl _⟩
  · split at h
    · rename_i hl
      cases h
      cases hx with
      | osl _ _ _ b c cap T ys _ _ h1 h2 => exact ⟨_, _, _, rfl, rfl, by omega⟩
      | oslD _ _ _ _ hd => simp [live, hd] at hl
      | oslZ => exact ⟨_, _, _, rfl, rfl, Nat.le_refl _⟩
    · cases h
  · split at h
    · rename_i hl
      cases h
      cases hx with
      | vsl _ _ _ b c cap _ _ hc => exact ⟨_, _, _, rfl, rfl, hc⟩
      | vslD _ _ _ _ hd => simp [live, hd, Own.isVar] at hl
    · cases h
  · split at h
    · rename_i hl
      cases h
      cases hx with
      | esl _ _ _ _ _ _ b c cap T ys _ _ _ h2 => exact ⟨_, _, _, rfl, rfl, h2⟩
      | eslD _ _ _ _ _ _ _ hd => simp [live, hd] at hl
    · cases h
  · rename_i id
    have key : ∀ T (xs : List (A T)), (e.own id = .row T xs ∨ e.own id = .fro T xs) → n = xs.length → ∃ (a : Option Addr) (m : Nat) (cap : Nat), v = .slice a m cap ∧ n = (m : Int) ∧ m ≤ cap := by
      intro T xs ho hn
      have hsame : ∀ {T2 : Nat} {zs : List (A T2)}, (e.own id = .row T2 zs ∨ e.own id = .fro T2 zs) → T2 = T ∧ HEq zs xs := by
        intro T2 zs hv
        rcases ho with ho | ho <;> rw [ho] at hv <;> rcases hv with hv | hv <;> cases hv <;> exact ⟨rfl, HEq.rfl⟩
      cases hx with
      | orow _ b c cap T2 ys hv hβ hc _ =>
        obtain ⟨rfl, hh⟩ := hsame hv
        cases hh
        exact ⟨_, _, _, rfl, hn, hc.1⟩
      | orowN _ T2 a hv _ =>
        obtain ⟨rfl, hh⟩ := hsame hv
        cases hh
        exact ⟨_, _, _, rfl, hn, Nat.le_refl _⟩
      | orowD _ _ hd _ _ => rcases ho with ho | ho <;> rw [ho] at hd <;> cases hd
    split at h
    · rename_i T xs ho; cases h; exact key T xs (.inl ho) rfl
    · rename_i T xs ho; cases h; exact key T xs (.inr ho) rfl
    · cases h
  · cases h
theorem len_sound {e : E A} {t ty : TypeId} {x y : SV A} {v : Value} (hx : RepL P u e [x] [v]) (h : lenS P e.own t x = some y) :
    ∃ r, (Builtin.len_ #[t] ty #[v]).run P e.w = .ok r e.w ∧ RepL P u e [y] [r] := by
  unfold lenS at h
  split at h
  · rename_i hu
    split at h
    · cases h; cases hx; exact ⟨_, by simp [Builtin.len_, run_underlying hu]; rfl, .int _ _ .nil⟩
    · cases h
  · rename_i hu
    split at h
    · rename_i n hn
      cases h
      obtain ⟨a, m, cap, rfl, rfl, _⟩ := lenO_is P u hx hn
      exact ⟨_, by simp [Builtin.len_, run_underlying hu]; rfl, .int _ _ .nil⟩
    · cases h
  · rename_i hu; cases h; exact ⟨_, by simp [Builtin.len_, run_underlying hu]; rfl, .int _ _ .nil⟩
  · cases h

def bound (d : Int) : Option (SV A) → Option Int
  | none => some d
  | some (.int _ n) => some n
  | _ => none
/-- A part of an own row: from lo0 on len0 elements are what is cut. -/
def sliceO (id lo0 : Nat) (len0 lim : Int) (lo hi : Option (SV A)) : Option (Option Prop × SV A) := match bound 0 lo, bound len0 hi with
  | some l, some h => some (some (0 ≤ l ∧ l ≤ h ∧ h ≤ lim), .osl id (lo0 + l.toNat) (h.toNat - l.toNat))
  | _, _ => none
/-- A part of an array that lies as a row, or in an element. -/
def sliceA (own : Nat → Own A) (n el : Nat) (lo hi : Option (SV A)) : SV A → Option (Option Prop × SV A)
  | .rptr id idx off => match bound 0 lo, bound n hi with
    | some l, some h => match own id with
      | .row T xs => sliceB id idx off n el l h T xs
      | .fro T xs => sliceB id idx off n el l h T xs
      | _ => none
    | _, _ => none
  | _ => none
where sliceB (id idx off n el : Nat) (l h : Int) (T : Nat) (xs : List (A T)) : Option (Option Prop × SV A) :=
  if Nat.beq T el && Nat.beq off 0 then some (some (0 ≤ l ∧ l ≤ h ∧ h ≤ n ∧ xs.length = idx + n), .osl id (idx + l.toNat) (h.toNat - l.toNat))
  else match u.part T off el with
    | some p => if Nat.beq p.n n then some (some (0 ≤ l ∧ l ≤ h ∧ h ≤ n ∧ l < n), .esl id idx off el l.toNat (h.toNat - l.toNat)) else none
    | none => none
def sliceS (own : Nat → Own A) (t : TypeId) (x : SV A) (lo hi : Option (SV A)) : Option (Option Prop × SV A) := match P.underlying t with
  | some .string => match x with
    | .str s => match bound 0 lo, bound s.size hi with
      | some l, some h => some (some (0 ≤ l ∧ l ≤ h ∧ h ≤ s.size), .str (s.extract l.toNat h.toNat))
      | _, _ => none
    | _ => none
  | some (.slice el) => match aggT P el with
    | some _ => match x with
      | .csl T xs => match bound 0 lo, bound xs.length hi with
        | some l, some h => if T = el then some (some (0 ≤ l ∧ l ≤ h ∧ h ≤ xs.length), .csl T ((xs.take h.toNat).drop l.toNat)) else none
        | _, _ => none
      | .nils => match bound 0 lo, bound 0 hi with
        | some l, some h => some (some (l = 0 ∧ h = 0), .nils)
        | _, _ => none
      | .osl id lo0 len0 => match own id with
        | .row T xs => if T = el then sliceO id lo0 len0 (xs.length - lo0 : Nat) lo hi else none
        | .fro T xs => if T = el then sliceO id lo0 len0 (xs.length - lo0 : Nat) lo hi else none
        | _ => none
      | .orow id => match own id with
        | .row T xs => if T = el then sliceO id 0 xs.length xs.length lo hi else none
        | .fro T xs => if T = el then sliceO id 0 xs.length xs.length lo hi else none
        | _ => none
      | _ => none
    | none => none
  | some (.array n el) => match aggT P el with
   | none => none
   | some _ => match sliceA u own n el lo hi x with
   | some r => some r
   | none => match x with
    | .optr id off => if live own (.optr id off) ∧ P.cellsOf el = 1 then (match bound 0 lo, bound n hi, aggT P el with
      | some l, some h, some _ => match natLit l, natLit h with
        | some l, some h => if l ≤ h ∧ h ≤ n ∧ l < n then some (none, .vsl id (off + l) (h - l)) else none
        | _, _ => none
      | _, _, _ => none) else none
    | _ => none
  | _ => none
/-- With a third number: nothing, without room; or a part of which nothing is known. -/
def slice3S (t : TypeId) (x : SV A) (lo hi : Option (SV A)) (mx : SV A) (n : Option Int) : Option (Option Prop × SV A) := match P.underlying t with
  | some (.slice el) => match aggT P el with
    | some _ => match n with
      | some n => match bound 0 lo, hi, mx with
        | some l, some (.int _ h), .int _ m => some (some (0 ≤ l ∧ l ≤ h ∧ h ≤ m ∧ m ≤ n), .top)
        | _, _, _ => none
      | none => none
    | none => none
  | _ => none
def cloneS (t : TypeId) (lo : Option (SV A)) (hi mx : SV A) : Bool := match P.underlying t with
  | some (.slice el) => match aggT P el with
    | some _ => match lo, hi, mx with
      | none, .int _ (.ofNat 0), .int _ (.ofNat 0) => true
      | _, _, _ => false
    | none => false
  | _ => false
/-- A bound as it stands among the operands. -/
inductive BoundV : Option (SV A) → Option Value → Prop
  | none : BoundV none none
  | some (k : IntKind) (n : Int) : BoundV (some (.int k n)) (some (.int k n))
theorem bounds_run {w : World} {isS : Bool} {lo hi : Option (SV A)} {vl vh : Option Value} {len cap : Nat} {l h : Int} (hl : BoundV lo vl) (hh : BoundV hi vh) (bl : bound 0 lo = some l) (bh : bound (len : Int) hi = some h) (h0 : 0 ≤ l) (h1 : l ≤ h) (h2 : h ≤ cap) :
    (Instr.sliceBounds isS len cap vl vh none).run P w = .ok (l.toNat, h.toNat, cap) w := by
  have hn : (h.toNat : Int) = h := Int.toNat_of_nonneg (by omega)
  have h3 : 0 ≤ h := by omega
  cases hl <;> cases hh <;> simp only [bound, Option.some.injEq] at bl bh <;> subst bl <;> subst bh
  · simp [Instr.sliceBounds]
  · simp [Instr.sliceBounds, run_sliceBound, h2, h3]
  · simp [Instr.sliceBounds, run_sliceBound, h0, h1]
  · simp [Instr.sliceBounds, run_sliceBound, h2, h3, h0, hn, h1]
theorem sliceO_sound {w0 : W0} {O0 : Nat → Prop} {e : E A} (hr : HR P u w0 O0 e) {t el : TypeId} {id lo0 T : Nat} {len0 lim : Nat} {xs : List (A T)} {y : SV A} {lo hi : Option (SV A)} {vl vh : Option Value} {c : Option Prop} {v : Value}
    (hu : P.underlying t = some (.slice el)) (ha : aggT P el ≠ none) (hT : T = el) (ho : e.own id = .row T xs ∨ e.own id = .fro T xs) (hx : RepL P u e [.osl id lo0 len0] [v])
    (hlim : lim = xs.length - lo0) (hl : BoundV lo vl) (hh : BoundV hi vh) (h : sliceO id lo0 len0 lim lo hi = some (c, y)) (hc : holds c) :
    ∃ r, (Instr.sliceAt t v vl vh none).run P e.w = .ok r e.w ∧ RepL P u e [y] [r] := by
  subst hT
  unfold sliceO at h
  split at h
  · rename_i l hh' bl bh
    cases h
    obtain ⟨c0, c1, c2⟩ : 0 ≤ l ∧ l ≤ hh' ∧ hh' ≤ (lim : Int) := hc
    have hsz := run_sizeOf P (t := T) ha e.w
    have hsame : ∀ {T2 : Nat} {zs : List (A T2)}, (e.own id = .row T2 zs ∨ e.own id = .fro T2 zs) → T2 = T ∧ HEq zs xs := by
      intro T2 zs hv
      rcases ho with ho | ho <;> rw [ho] at hv <;> rcases hv with hv | hv <;> cases hv <;> exact ⟨rfl, HEq.rfl⟩
    cases hx with
    | osl _ _ _ b cc cap T2 ys hv hβ hle hcc _ =>
      obtain ⟨rfl, hys⟩ := hsame hv
      cases hys
      have hrun := bounds_run P (w := e.w) (isS := true) (len := len0) (cap := cap) hl hh bl bh c0 c1 (by omega)
      refine ⟨.slice (if cap = l.toNat then some ⟨b, lo0 * P.cellsOf T2, none⟩ else some ⟨b, (lo0 + l.toNat) * P.cellsOf T2, none⟩) (hh'.toNat - l.toNat) (cap - l.toNat), ?_, ?_⟩
      · simp only [Instr.sliceAt, Sem.run_bind, run_underlying hu, Result.andThen, Instr.slice, hrun, hsz, Sem.run_pure, Option.map, add_add', Nat.add_mul, Nat.sub_sub]
      · by_cases hz : hh'.toNat - l.toNat = 0
        · rw [hz]
          by_cases hq : cap - l.toNat = 0
          · rw [hq]
            exact .oslZ id _ T2 ys _ hv (by omega) .nil
          · rw [if_neg (by omega)]
            exact .osl id _ 0 b cc _ T2 ys hv hβ (by omega) (by omega) .nil
        · rw [if_neg (by omega)]
          exact .osl id _ _ b cc _ T2 ys hv hβ (by omega) (by omega) .nil
    | oslD _ _ _ _ hd _ _ => rcases ho with ho | ho <;> rw [ho] at hd <;> cases hd
    | oslZ _ _ T2 ys a hv hlo _ =>
      obtain ⟨rfl, hys⟩ := hsame hv
      cases hys
      have hrun := bounds_run P (w := e.w) (isS := true) (len := 0) (cap := 0) hl hh bl bh c0 c1 (by omega)
      have hl0 : l.toNat = 0 := by omega
      have hh0 : hh'.toNat = 0 := by omega
      refine ⟨.slice a 0 0, ?_, ?_⟩
      · simp only [Instr.sliceAt, Sem.run_bind, run_underlying hu, Result.andThen, Instr.slice, hrun, hsz, Sem.run_pure, hl0, hh0]
        simp
      · rw [hl0, hh0]
        exact .oslZ id _ T2 ys _ hv (by omega) .nil
  · cases h
theorem orow_osl {e : E A} {id T : Nat} {xs : List (A T)} {v : Value} (ho : e.own id = .row T xs ∨ e.own id = .fro T xs) (hx : RepL P u e [.orow id] [v]) : RepL P u e [.osl id 0 xs.length] [v] := by
  have hsame : ∀ {T2 : Nat} {zs : List (A T2)}, (e.own id = .row T2 zs ∨ e.own id = .fro T2 zs) → T2 = T ∧ HEq zs xs := by
    intro T2 zs hv
    rcases ho with ho | ho <;> rw [ho] at hv <;> rcases hv with hv | hv <;> cases hv <;> exact ⟨rfl, HEq.rfl⟩
  cases hx with
  | orow _ b c cap T2 ys hv hβ hc _ =>
    obtain ⟨rfl, hh⟩ := hsame hv
    cases hh
    have := RepL.osl (P := P) (u := u) (e := e) (xs := []) (vs := []) id 0 ys.length b c cap T2 ys hv hβ (by omega) ⟨by omega, by omega⟩ .nil
    simpa using this
  | orowN _ T2 a hv _ =>
    obtain ⟨rfl, hh⟩ := hsame hv
    cases hh
    exact .oslZ id 0 T2 [] a hv (by simp) .nil
  | orowD _ _ hd _ _ => rcases ho with ho | ho <;> rw [ho] at hd <;> cases hd
theorem sliceA_sound {w0 : W0} {O0 : Nat → Prop} {e : E A} (hr : HR P u w0 O0 e) {t n el : Nat} {x y : SV A} {lo hi : Option (SV A)} {vl vh : Option Value} {c : Option Prop} {v : Value} (hu : P.underlying t = some (.array n el)) (ha : aggT P el ≠ none) (hpart : PartOk P u)
    (hx : RepL P u e [x] [v]) (hl : BoundV lo vl) (hh : BoundV hi vh) (h : sliceA u e.own n el lo hi x = some (c, y)) (hc : holds c) : ∃ r, (Instr.sliceAt t v vl vh none).run P e.w = .ok r e.w ∧ RepL P u e [y] [r] := by
  unfold sliceA at h
  split at h
  case h_2 => cases h
  rename_i id idx off
  split at h
  case h_2 => cases h
  rename_i l hh' bl bh
  have hsz := run_sizeOf P (t := el) ha e.w
  have key : ∀ T (xs : List (A T)), (e.own id = .row T xs ∨ e.own id = .fro T xs) → sliceA.sliceB u id idx off n el l hh' T xs = some (c, y) → ∃ r, (Instr.sliceAt t v vl vh none).run P e.w = .ok r e.w ∧ RepL P u e [y] [r] := by
    intro T xs ho hb
    have hent : EntOk P u e w0.fr id (.row T xs) := by
      have := hr.ent id
      rcases ho with ho | ho <;> rw [ho] at this <;> exact this
    have hsame : ∀ {T2 : Nat} {zs : List (A T2)}, (e.own id = .row T2 zs ∨ e.own id = .fro T2 zs) → T2 = T ∧ HEq zs xs := by
      intro T2 zs hv
      rcases ho with ho | ho <;> rw [ho] at hv <;> rcases hv with hv | hv <;> cases hv <;> exact ⟨rfl, HEq.rfl⟩
    cases hx with
    | rptrD _ _ _ _ hd _ _ => rcases ho with ho | ho <;> rw [ho] at hd <;> cases hd
    | rptr _ _ _ b cc T2 ys hv hβ hi _ =>
      obtain ⟨rfl, hys⟩ := hsame hv
      cases hys
      have hcc : ys.length ≤ cc := by
        rcases hent with ⟨_, hn⟩ | ⟨b2, c2, arr, T', fz, vss, hβ2, _, hheap, _, hlen, hc2, hel⟩
        · rw [hn] at hβ; cases hβ
        rw [hβ] at hβ2; cases hβ2
        exact hc2
      unfold sliceA.sliceB at hb
      split at hb
      · rename_i hcond
        simp only [Bool.and_eq_true] at hcond
        obtain ⟨hT, hoff⟩ := hcond
        have hT := Nat.eq_of_beq_eq_true hT
        have hoff := Nat.eq_of_beq_eq_true hoff
        subst hT; subst hoff
        cases hb
        obtain ⟨c0, c1, c2, c3⟩ : 0 ≤ l ∧ l ≤ hh' ∧ hh' ≤ (n : Int) ∧ ys.length = idx + n := hc
        have hrun := bounds_run P (w := e.w) (isS := false) (len := n) (cap := n) hl hh bl bh c0 c1 (by omega)
        refine ⟨.slice (some (if n = l.toNat then ⟨b, idx * P.cellsOf T2, none⟩ else ⟨b, (idx + l.toNat) * P.cellsOf T2, none⟩)) (hh'.toNat - l.toNat) (n - l.toNat), ?_, ?_⟩
        · simp only [Instr.sliceAt, Sem.run_bind, run_underlying hu, Result.andThen, Instr.sureAddr, hrun, hsz, Sem.run_pure, add_add', Nat.add_mul, Nat.add_zero]
        · by_cases hq : n = l.toNat
          · have e1 : hh'.toNat - l.toNat = 0 := by omega
            have e2 : n - l.toNat = 0 := by omega
            rw [e1, e2]
            exact .oslZ id _ T2 ys _ hv (by omega) .nil
          · rw [if_neg hq]
            exact .osl id _ _ b cc _ T2 ys hv hβ (by omega) (by omega) .nil
      · split at hb
        case h_2 => cases hb
        rename_i p hp
        split at hb
        case isFalse => cases hb
        rename_i hpn
        have hpn := Nat.eq_of_beq_eq_true hpn
        cases hb
        obtain ⟨c0, c1, c2, c3⟩ : 0 ≤ l ∧ l ≤ hh' ∧ hh' ≤ (n : Int) ∧ l < n := hc
        have hone := (hpart _ _ _ _ hp).one
        have hrun := bounds_run P (w := e.w) (isS := false) (len := n) (cap := n) hl hh bl bh c0 c1 (by omega)
        refine ⟨.slice (some (if n = l.toNat then ⟨b, idx * P.cellsOf T2 + off, none⟩ else ⟨b, idx * P.cellsOf T2 + off + l.toNat, none⟩)) (hh'.toNat - l.toNat) (n - l.toNat), ?_, ?_⟩
        · simp only [Instr.sliceAt, Sem.run_bind, run_underlying hu, Result.andThen, Instr.sureAddr, hrun, hsz, Sem.run_pure, add_add', hone, Nat.mul_one]
        · have hq : ¬ n = l.toNat := by omega
          · rw [if_neg hq]
            refine .esl id _ _ _ _ _ b cc _ T2 ys hv hβ hi (by omega) (fun p' hp' => ?_) .nil
            rw [hp] at hp'; cases hp'
            omega
  split at h
  · rename_i T xs ho; exact key T xs (.inl ho) h
  · rename_i T xs ho; exact key T xs (.inr ho) h
  · cases h
theorem slice_sound (hpart : PartOk P u) {w0 : W0} {O0 : Nat → Prop} {e : E A} (hr : HR P u w0 O0 e) {t : TypeId} {x y : SV A} {lo hi : Option (SV A)} {vl vh : Option Value} {c : Option Prop} {v : Value} (hx : RepL P u e [x] [v]) (hl : BoundV lo vl) (hh : BoundV hi vh) (h : sliceS P u e.own t x lo hi = some (c, y)) (hc : holds c) :
    ∃ r, (Instr.sliceAt t v vl vh none).run P e.w = .ok r e.w ∧ RepL P u e [y] [r] := by
  unfold sliceS at h
  split at h
  · rename_i hu
    split at h
    · rename_i s
      split at h
      · rename_i l hh' bl bh
        cases h
        obtain ⟨c0, c1, c2⟩ : 0 ≤ l ∧ l ≤ hh' ∧ hh' ≤ (s.size : Int) := hc
        cases hx
        refine ⟨_, ?_, .str _ .nil⟩
        rw [run_sliceAt_string e.w t _ _ _ _ hu]
        simp only [Instr.slice, Sem.run_bind, run_underlying hu, Result.andThen]
        simp [bounds_run P (w := e.w) (isS := false) hl hh bl bh c0 c1 c2]
      · cases h
    · cases h
  · rename_i el hu
    split at h
    · rename_i a ha
      have hsz := run_sizeOf P (t := el) (by rw [ha]; simp) e.w
      split at h
      · rename_i T xs
        split at h
        · rename_i l hh' bl bh
          split at h
          · rename_i hT
            subst hT
            cases h
            obtain ⟨c0, c1, c2⟩ : 0 ≤ l ∧ l ≤ hh' ∧ hh' ≤ (xs.length : Int) := hc
            cases hx with
            | csl _ _ ad len cap vss hlen hcap hm hz hel _ =>
              subst hlen
              have hrun := bounds_run P (w := e.w) (isS := true) (cap := cap) hl hh bl bh c0 c1 (by omega)
              have hlen2 : ((xs.take hh'.toNat).drop l.toNat).length = hh'.toNat - l.toNat := by simp; omega
              refine ⟨_, ?_, .csl T _ (if cap = l.toNat then ad else ad.map (·.add (l.toNat * P.cellsOf T))) (hh'.toNat - l.toNat) (cap - l.toNat) (fun i => vss (l.toNat + i)) hlen2 (by omega) ?_ (fun i hi => hz _ (by omega)) ?_ .nil⟩
              · simp only [Instr.sliceAt, Sem.run_bind, run_underlying hu, Result.andThen, Instr.slice, hrun, hsz, Sem.run_pure]
              · by_cases hem : (xs.take hh'.toNat).drop l.toNat = []
                · exact .inl hem
                · right
                  have hpos : 0 < ((xs.take hh'.toNat).drop l.toNat).length := List.length_pos_iff.2 hem
                  rcases hm with rfl | ⟨b, o, rfl, hb, hO, hm⟩
                  · simp at hpos
                  · refine ⟨b, o + l.toNat * P.cellsOf T, ?_, hb, hO, fun i hi => ?_⟩
                    · rw [if_neg (by omega)]
                      simp [add_add']
                    · have := hm (l.toNat + i) (by omega)
                      rw [Nat.add_mul, ← Nat.add_assoc] at this
                      exact this
              · intro i x hix
                rw [List.getElem?_drop, List.getElem?_take] at hix
                split at hix
                · exact hel _ _ hix
                · cases hix
          · cases h
        · cases h
      · split at h
        · rename_i l hh' bl bh
          cases h
          obtain ⟨rfl, rfl⟩ : l = 0 ∧ hh' = 0 := hc
          cases hx
          refine ⟨.slice none 0 0, ?_, .nils .nil⟩
          have hrun := bounds_run P (w := e.w) (isS := true) (len := 0) (cap := 0) hl hh bl (by simpa using bh) (by omega) (by omega) (by omega)
          simp only [Instr.sliceAt, Sem.run_bind, run_underlying hu, Result.andThen, Instr.slice, hrun, hsz]
          simp
        · cases h
      · rename_i id lo0 len0
        split at h
        · rename_i T xs ho
          split at h
          · rename_i hT; exact sliceO_sound P u hr hu (by rw [ha]; simp) hT (.inl ho) hx rfl hl hh h hc
          · cases h
        · rename_i T xs ho
          split at h
          · rename_i hT; exact sliceO_sound P u hr hu (by rw [ha]; simp) hT (.inr ho) hx rfl hl hh h hc
          · cases h
        · cases h
      · rename_i id
        split at h
        · rename_i T xs ho
          split at h
          · rename_i hT; exact sliceO_sound P u hr hu (by rw [ha]; simp) hT (.inl ho) (orow_osl P u (.inl ho) hx) (Nat.sub_zero _).symm hl hh h hc
          · cases h
        · rename_i T xs ho
          split at h
          · rename_i hT; exact sliceO_sound P u hr hu (by rw [ha]; simp) hT (.inr ho) (orow_osl P u (.inr ho) hx) (Nat.sub_zero _).symm hl hh h hc
          · cases h
        · cases h
      · cases h
    · cases h
  · rename_i n el hu
    split at h
    case h_1 => cases h
    rename_i ag hag
    split at h
    · rename_i r hsa
      cases h
      exact sliceA_sound P u hr hu (by rw [hag]; simp) hpart hx hl hh hsa hc
    split at h
    · rename_i id off _
      split at h
      · rename_i hlv
        obtain ⟨hlv, hone⟩ := hlv
        split at h
        · rename_i l hh' a bl bh ha
          split at h
          · rename_i l' h' hl' hh2
            split at h
            · rename_i hle
              cases h
              obtain rfl := natLit_eq hl'
              obtain rfl := natLit_eq hh2
              have hrun := bounds_run P (w := e.w) (isS := false) (len := n) (cap := n) hl hh bl bh (by omega) (by omega) (by omega)
              have hsz := run_sizeOf P (t := el) (by rw [ha]; simp) e.w
              cases hx with
              | optr _ _ b cc hv hβ _ =>
                refine ⟨.slice (some ⟨b, off + l', none⟩) (h' - l') (n - l'), ?_, .vsl id (off + l') (h' - l') b cc (n - l') hv hβ (by omega) .nil⟩
                simp only [Instr.sliceAt, Sem.run_bind, run_underlying hu, Result.andThen, Instr.sureAddr, hrun, hsz, Sem.run_pure, hone, Int.toNat_natCast, add_add', Nat.mul_one]
                rw [if_neg (show ¬ n = l' by omega)]
              | optrD _ _ _ hd _ _ => simp [live, hd, Own.isVar] at hlv
            · cases h
          · cases h
        · cases h
      · cases h
    · cases h
  · cases h
theorem clone_sound {e : E A} {t : TypeId} {lo : Option (SV A)} {hi mx : SV A} {vl : Option Value} {vh vm v : Value} {a : Option Addr} {len cap : Nat} (hv : v = .slice a len cap) (hl : BoundV lo vl) (hh : RepL P u e [hi] [vh]) (hm : RepL P u e [mx] [vm]) (h : cloneS P t lo hi mx = true) :
    ∃ r, (Instr.sliceAt t v vl (some vh) (some vm)).run P e.w = .ok r e.w ∧ RepL P u e [.zsl] [r] := by
  subst hv
  unfold cloneS at h
  split at h
  · rename_i el hu
    split at h
    · rename_i ag ha
      split at h
      · cases hl
        cases hh
        cases hm
        have hsz := run_sizeOf P (t := el) (by rw [ha]; simp) e.w
        refine ⟨.slice a 0 0, ?_, .zsl _ .nil⟩
        simp [Instr.sliceAt, run_underlying hu, Instr.slice, Instr.sliceBounds, run_sliceBound, hsz]
      · cases h
    · cases h
  · cases h
theorem sb {w : World} (k : IntKind) (i : Int) (y : Nat) (code : BoundsCode) (h : 0 ≤ i ∧ i ≤ (y : Int)) : (Instr.sliceBound (.int k i) y code).run P w = .ok i.toNat w := by
  simp [Instr.sliceBound, asIntOf, h]
theorem slice3_sound {e : E A} {t : TypeId} {x y : SV A} {lo hi : Option (SV A)} {mx : SV A} {vl vh : Option Value} {vm v : Value} {c : Option Prop} {n : Int} {a : Option Addr} {len cap : Nat} (hv : v = .slice a len cap) (hcap : n ≤ cap) (hl : BoundV lo vl) (hh : BoundV hi vh) (hm : RepL P u e [mx] [vm])
    (h : slice3S P t x lo hi mx (some n) = some (c, y)) (hc : holds c) : ∃ r, (Instr.sliceAt t v vl vh (some vm)).run P e.w = .ok r e.w ∧ RepL P u e [y] [r] := by
  subst hv
  unfold slice3S at h
  split at h
  · rename_i el hu
    split at h
    · rename_i ag ha
      simp only at h
      split at h
      · rename_i l k hi' k2 m' bl
        cases h
        obtain ⟨c0, c1, c2, c3⟩ : 0 ≤ l ∧ l ≤ hi' ∧ hi' ≤ m' ∧ m' ≤ n := hc
        have hsz := run_sizeOf P (t := el) (by rw [ha]; simp) e.w
        cases hm
        cases hh
        have hm0 : (m'.toNat : Int) = m' := Int.toNat_of_nonneg (by omega)
        have hh0 : (hi'.toNat : Int) = hi' := Int.toNat_of_nonneg (by omega)
        have b1 : 0 ≤ m' ∧ m' ≤ (cap : Int) := by omega
        have b2 : 0 ≤ hi' ∧ hi' ≤ (m'.toNat : Int) := by omega
        have b3 : 0 ≤ l ∧ l ≤ (hi'.toNat : Int) := by omega
        cases hl <;> simp only [bound, Option.some.injEq] at bl <;> subst bl
        · refine ⟨.slice (if m'.toNat = 0 then a else a.map (·.add (0 * P.cellsOf el))) (hi'.toNat - 0) (m'.toNat - 0), ?_, .top _ .nil⟩
          simp only [Instr.sliceAt, Sem.run_bind, run_underlying hu, Result.andThen, Instr.slice, Instr.sliceBounds, sb P _ _ _ _ b1, sb P _ _ _ _ b2, Sem.run_pure, hsz]
        · rename_i k3 l3
          refine ⟨.slice (if m'.toNat = l3.toNat then a else a.map (·.add (l3.toNat * P.cellsOf el))) (hi'.toNat - l3.toNat) (m'.toNat - l3.toNat), ?_, .top _ .nil⟩
          simp only [Instr.sliceAt, Sem.run_bind, run_underlying hu, Result.andThen, Instr.slice, Instr.sliceBounds, sb P _ _ _ _ b1, sb P _ _ _ _ b2, sb P _ _ _ _ b3, Sem.run_pure, hsz]
      · cases h
    · cases h
  · cases h
end
end Go.Proofs.Ytndacggailoogaa.Sx
