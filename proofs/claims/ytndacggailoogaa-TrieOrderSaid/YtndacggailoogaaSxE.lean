/- An abstract machine over values by content, fifth part: values that are built, taken apart, sliced; all operations that leave memory as it is, together. -/
import Derived.Test.YtndacggailoogaaSxD
import Derived.Great.FillDense
namespace Go.Proofs.Ytndacggailoogaa.Sx
open Go Go.RowKit

section
variable {A : Nat → Type} (P : Program) (u : U A)

/-- The cells of a value, each of which stands for one cell that may be stored. -/
def cellOk : SV A → Bool
  | .int _ _ | .bool _ | .lit _ | .str _ | .nilp | .nils | .fn _ _ | .optr _ _ | .cptr _ _ | .rptr _ _ _ | .osl _ _ _ | .esl _ _ _ _ _ _ | .bptr _ _ _ _ _ | .omap _ | .orow _ | .zsl | .vsl _ _ _ | .csl _ _ | .nsl _ _ _ => true
  | _ => false
def cellsV : SV A → Option (List (SV A))
  | .agg l => if l.all cellOk then some l else none
  | .el T x => if (u.enc T x).all cellOk then some (u.enc T x) else none
  | x => if cellOk x then some [x] else none
theorem cellOk_one {e : E A} {x : SV A} {v : Value} (hx : RepL P u e [x] [v]) (h : cellOk x = true) : v.oneCell' = true ∧ v.cells = #[v] := by
  have key : ∀ v : Value, v.oneCell' = true → v.cells = #[v] := by intro v hv; cases v <;> first | rfl | cases hv
  cases hx <;> first | exact ⟨rfl, rfl⟩ | (rename_i h1 _; exact ⟨h1, key _ h1⟩) | cases h
theorem cellOk_all {e : E A} : ∀ {l : List (SV A)} {vs : List Value}, RepL P u e l vs → l.all cellOk = true → ∀ v ∈ vs, v.oneCell' = true
  | [], vs, h, _ => by cases h; simp
  | x :: l, vs, h, ha => by
    obtain ⟨v, ws, rfl, h1, h2⟩ := h.split P u
    simp only [List.all_cons, Bool.and_eq_true] at ha
    intro v' hv'
    rcases List.mem_cons.1 hv' with rfl | hv'
    · exact (cellOk_one P u h1 ha.1).1
    · exact cellOk_all h2 ha.2 v' hv'
theorem cellsV_rep {e : E A} {x : SV A} {v : Value} {l : List (SV A)} (hx : RepL P u e [x] [v]) (h : cellsV u x = some l) : RepL P u e l v.cells.toList ∧ ∀ c ∈ v.cells.toList, c.oneCell' = true := by
  unfold cellsV at h
  split at h
  · split at h
    · rename_i ha
      cases h
      cases hx with
      | agg _ cs hr _ => exact ⟨hr, cellOk_all P u hr ha⟩
    · cases h
  · split at h
    · rename_i ha
      cases h
      cases hx with
      | el _ _ cs hr _ => exact ⟨hr, cellOk_all P u hr ha⟩
    · cases h
  · split at h
    · rename_i hk
      cases h
      obtain ⟨h1, h2⟩ := cellOk_one P u hx hk
      rw [h2]
      exact ⟨hx, by simpa using h1⟩
    · cases h

def setAt (l : List (SV A)) (off : Nat) (v : List (SV A)) : List (SV A) := l.take off ++ v ++ l.drop (off + v.length)
theorem fold_set (off : Nat) (l : List Value) (cs : Array Value) (h : off + l.length ≤ cs.size) :
    ((l.toArray.zipIdx).foldl (fun cs (x : Value × Nat) => cs.setIfInBounds (off + x.2) x.1) cs) = (cs.toList.take off ++ l ++ cs.toList.drop (off + l.length)).toArray := by
  have e : (l.toArray.zipIdx).foldl (fun cs (x : Value × Nat) => cs.setIfInBounds (off + x.2) x.1) cs = (l.zipIdx 0).foldl (fun cs (x : Value × Nat) => cs.setIfInBounds (off + x.2) x.1) cs := by
    rw [← Array.foldl_toList]; simp
  rw [e]
  obtain ⟨h1, h2⟩ := Great.foldl_set off l 0 cs
  apply Array.ext_getElem?
  intro k
  rw [h2 k]
  simp only [Nat.add_zero, List.getElem?_toArray]
  by_cases hk : k < off
  · rw [if_neg (by omega), List.append_assoc, List.getElem?_append_left (by simp; omega), List.getElem?_take, if_pos hk]; simp
  · by_cases hk2 : k < off + l.length
    · rw [if_pos ⟨by omega, hk2, by omega⟩, List.append_assoc, List.getElem?_append_right (by simp; omega), List.getElem?_append_left (by simp; omega)]
      congr 1
      simp; omega
    · rw [if_neg (by omega), List.getElem?_append_right (by simp; omega), List.getElem?_drop]
      simp only [List.length_append, List.length_take, Array.length_toList]
      rw [show off + l.length + (k - (min off cs.size + l.length)) = k by omega]
      simp
def fillS (place : Nat → Option (Nat × Nat)) : List (SV A) → List (Nat × SV A) → Option (List (SV A))
  | cells, [] => some cells
  | cells, (i, x) :: rest => match place i, cellsV u x with
    | some (off, size), some l => if l.length = size ∧ off + l.length ≤ cells.length then fillS place (setAt cells off l) rest else none
    | _, _ => none
inductive Parts (e : E A) : List (Nat × SV A) → List (Nat × Value) → Prop
  | nil : Parts e [] []
  | cons {xs vs} (i : Nat) (x : SV A) (v : Value) : RepL P u e [x] [v] → Parts e xs vs → Parts e ((i, x) :: xs) ((i, v) :: vs)
theorem fill_sound {e : E A} {place : Nat → Option (Nat × Nat)} : ∀ {ps : List (Nat × SV A)} {vs : List (Nat × Value)} {cells : List (SV A)} {cv : List Value} {r : List (SV A)}, Parts P u e ps vs → RepL P u e cells cv →
    fillS u place cells ps = some r → ∃ rv, Instr.fill place ⟨cv⟩ vs = some ⟨rv⟩ ∧ RepL P u e r rv
  | [], vs, cells, cv, r, hp, hc, h => by
    cases hp; cases h
    exact ⟨cv, rfl, hc⟩
  | (i, x) :: ps, vs, cells, cv, r, hp, hc, h => by
    cases hp with
    | cons _ _ v hx hps =>
      simp only [fillS] at h
      split at h
      · rename_i off size l hpl hl
        split at h
        · rename_i hh
          obtain ⟨hsz, hle⟩ := hh
          obtain ⟨h1, _⟩ := cellsV_rep P u hx hl
          have hlen : v.cells.toList.length = l.length := h1.length.symm
          have hcl := hc.length
          have hset : RepL P u e (setAt cells off l) (cv.take off ++ v.cells.toList ++ cv.drop (off + v.cells.toList.length)) := by
            unfold setAt
            rw [hlen]
            exact ((hc.take P u off).append P u h1).append P u (hc.drop P u _)
          obtain ⟨rv, h2, h3⟩ := fill_sound hps hset h
          refine ⟨rv, ?_, h3⟩
          have hs1 : v.cells.size = size := by rw [← hsz, ← hlen]; simp
          have hno : ¬ (v.cells.size ≠ size || off + v.cells.size > (Array.mk cv).size) := by
            have : off + v.cells.size ≤ cv.length := by rw [hs1, ← hsz, ← hcl]; exact hle
            simp [hs1]; rw [← hs1]; exact this
          simp only [Instr.fill, hpl]
          rw [if_neg (by simpa using hno)]
          have hf := fold_set off v.cells.toList ⟨cv⟩ (by simp only [List.size_toArray]; rw [hlen, ← hcl]; exact hle)
          simp only [Array.toArray_toList] at hf
          rw [hf]
          exact h2
        · cases h
      · cases h

def zeroS (t : TypeId) : Option (List (SV A)) := match (P.info? t).bind (·.zero) with
  | some z => cellsS z.cells.toList
  | none => none
def placesT (t : TypeId) : Option (Nat → Option (Nat × Nat)) := match P.underlying t with
  | some (.array _ el) => match P.info? el with
    | some ie => some fun i => some (i * ie.size, ie.size)
    | none => none
  | some (.struct fs) => match fs.toList.mapM (fun f => (P.info? f.type).map fun i => (f.offset, i.size)) with
    | some places => some fun i => places.toArray[i]?
    | none => none
  | _ => none
def buildO (t : TypeId) (ps : List (Nat × SV A)) : Option (SV A) := match zeroS (A := A) P t, placesT P t with
  | some z, some pl => (fillS u pl z ps).map .agg
  | _, _ => none
theorem buildO_sound {e : E A} {t : TypeId} {ps : List (Nat × SV A)} {vs : Array (Nat × Value)} {y : SV A} (hp : Parts P u e ps vs.toList) (h : buildO P u t ps = some y) :
    ∃ r, (Instr.build t vs).run P e.w = .ok r e.w ∧ RepL P u e [y] [r] := by
  unfold buildO at h
  split at h
  · rename_i z pl hz hpl
    simp only [Option.map_eq_some_iff] at h
    obtain ⟨l, hl, rfl⟩ := h
    unfold zeroS at hz
    cases hi : P.info? t with
    | none => simp [hi] at hz
    | some it =>
      cases hzz : it.zero with
      | none => simp [hi, hzz] at hz
      | some zv =>
        simp only [hi, hzz, Option.bind_some] at hz
        obtain ⟨rv, h1, h2⟩ := fill_sound P u hp (cellsS_rep P u hz) hl
        refine ⟨.agg ⟨rv⟩, ?_, .agg _ _ h2 .nil⟩
        apply run_build
        unfold Program.built
        unfold placesT at hpl
        simp only [hi]
        cases hu : P.underlying t with
        | none => simp [hu] at hpl
        | some d =>
          cases d <;> simp only [hu, reduceCtorEq] at hpl ⊢
          case array n el =>
            cases hie : P.info? el with
            | none => simp [hie] at hpl
            | some ie =>
              simp only [hie, Option.some.injEq] at hpl
              subst hpl
              simpa [hzz] using h1
          case struct fs =>
            cases hm : fs.toList.mapM (fun f => (P.info? f.type).map fun i => (f.offset, i.size)) with
            | none => simp [hm] at hpl
            | some places =>
              simp only [hm, Option.some.injEq] at hpl
              subst hpl
              simpa [hzz] using h1
  · cases h

/-- What is built as an element. -/
def BldOk : Prop := ∀ t ps (x : A t), u.bld t ps = some x → buildO P u t ps = some (.agg (u.enc t x))
def buildS (t : TypeId) (ps : List (Nat × SV A)) : Option (SV A) := match u.bld t ps with
  | some x => some (.el t x)
  | none => buildO P u t ps
theorem build_sound (hbld : BldOk P u) {e : E A} {t : TypeId} {ps : List (Nat × SV A)} {vs : Array (Nat × Value)} {y : SV A} (hp : Parts P u e ps vs.toList) (h : buildS P u t ps = some y) :
    ∃ r, (Instr.build t vs).run P e.w = .ok r e.w ∧ RepL P u e [y] [r] := by
  unfold buildS at h
  split at h
  · rename_i x hx
    cases h
    obtain ⟨r, h1, h2⟩ := buildO_sound P u hp (hbld _ _ _ hx)
    refine ⟨r, h1, ?_⟩
    cases h2 with
    | agg _ cs hr _ => exact .el _ _ cs hr .nil
  · exact buildO_sound P u hp h

/-! ### parts of values -/
def packP (t : TypeId) (l : List (SV A)) : Option (SV A) := match aggT P t with
  | some true => some (.agg l)
  | some false => match l with | [x] => some x | _ => none
  | none => none
def partS (t : TypeId) (xs : List (SV A)) (o : Nat) : Option (SV A) := match subT P t xs o with
  | some l => packP P t l
  | none => none
theorem part_sound {e : E A} {t : TypeId} {xs : List (SV A)} {vs : List Value} {o : Nat} {y : SV A} (hr : RepL P u e xs vs) (h : partS P t xs o = some y) :
    ∃ v, (part t ⟨vs⟩ o).run P e.w = .ok v e.w ∧ RepL P u e [y] [v] := by
  unfold partS at h
  split at h
  · rename_i l hl
    obtain ⟨v, ws, h1, h2, h3⟩ := run_part P u o hr hl
    refine ⟨v, h1, ?_⟩
    unfold packP at h
    rcases h2 with ⟨ha, rfl⟩ | ⟨ha, rfl⟩
    · rw [ha] at h; cases h; exact .agg _ _ h3 .nil
    · rw [ha] at h
      split at h
      · cases ‹some false = some true›
      · split at h
        · cases h; exact h3
        · cases h
      · cases ‹some false = none›
  · cases h
def indexS (t : TypeId) (x i : SV A) : Option (Option Prop × SV A) :=
  match i with
  | .int _ n => match P.underlying t with
    | some (.array len el) => match aggC u x, natLit n, aggT P el with
      | some cs, some m, some _ => if m < len then (partS P el cs (m * P.cellsOf el)).map fun y => (none, y) else none
      | _, _, _ => none
    | some .string => match x with
      | .str s => some (some (0 ≤ n ∧ n < s.size), .int .u8 (s.data.toList.getD n.toNat 0).toNat)
      | _ => none
    | _ => none
  | _ => none
theorem index_sound {e : E A} {t : TypeId} {x i y : SV A} {c : Option Prop} {v vi : Value} (hx : RepL P u e [x] [v]) (hi : RepL P u e [i] [vi]) (h : indexS P u t x i = some (c, y)) (hc : holds c) :
    ∃ r, (Instr.index t v vi).run P e.w = .ok r e.w ∧ RepL P u e [y] [r] := by
  unfold indexS at h
  split at h
  · rename_i k n
    cases hi
    split at h
    · rename_i len el hu
      split at h
      · rename_i cs m a hcs hm ha
        split at h
        · rename_i hlt
          simp only [Option.map_eq_some_iff, Prod.mk.injEq] at h
          obtain ⟨z, hz, rfl, rfl⟩ := h
          obtain ⟨vs, rfl, hr⟩ := aggC_rep P u hx hcs
          obtain ⟨r, h1, h2⟩ := part_sound P u hr hz
          have hn := natLit_eq hm
          refine ⟨r, ?_, h2⟩
          have hcond : 0 ≤ n ∧ n < (len : Int) := by omega
          have hto : n.toNat = m := by omega
          simp [Instr.index, asIntOf, run_underlying hu, hcond, run_sizeOf P (t := el) (by rw [ha]; simp), hto, h1]
        · cases h
      · cases h
    · rename_i hu
      split at h
      · rename_i s
        simp only [Option.some.injEq, Prod.mk.injEq] at h
        obtain ⟨rfl, rfl⟩ := h
        cases hx
        have hb : 0 ≤ n ∧ n < (s.size : Int) := hc
        refine ⟨_, by rw [run_index_string e.w t s k n hu, dif_pos hb], ?_⟩
        have hlt : n.toNat < s.size := by omega
        have hv : (s.data.toList.getD n.toNat 0).toNat = (s[n.toNat]'hlt).toNat := by
          have : s.data.toList.getD n.toNat 0 = s[n.toNat]'hlt := by
            have h2 : n.toNat < s.data.toList.length := by simpa using hlt
            simp [List.getD, List.getElem?_eq_getElem h2]; rfl
          rw [this]
        rw [hv]
        exact .int _ _ .nil
      · cases h
    · cases h
  · cases h
end
end Go.Proofs.Ytndacggailoogaa.Sx
