/- An abstract machine over values by content, sixth part: all operations that leave memory as it is, together. -/
import Derived.Test.YtacafjapnppacaaSxE
import Derived.Laws.BytesString
namespace Go.Proofs.Ytacafjapnppacaa.Sx
open Go Go.RowKit

section
variable {A : Nat → Type} (P : Program) (u : U A)

def mn (a b : Int) : Int := if b < a then b else a
def mx (a b : Int) : Int := if b > a then b else a
def unS (op : UnOp) (x : SV A) : Option (SV A) := match op with
  | .not => match x with
    | .lit b => some (.lit (!b))
    | .bool b => some (.bool (!b))
    | _ => none
  | .neg => match x with
    | .int k n => some (.int k (k.wrap (0 - n)))
    | _ => none
  | .xor => match x with
    | .int k n => some (.int k (bitsI .xor k (if k.signed then -1 else k.max) n))
    | _ => none
  | _ => none
theorem un_sound {e : E A} {op : UnOp} {x y : SV A} {v : Value} (hx : RepL P u e [x] [v]) (h : unS op x = some y) : ∃ r, (Op.unary op v).run P e.w = .ok r e.w ∧ RepL P u e [y] [r] := by
  unfold unS at h
  split at h
  · split at h <;> cases h <;> cases hx
    · exact ⟨_, rfl, .lit _ .nil⟩
    · exact ⟨_, rfl, .bool _ .nil⟩
  · split at h <;> cases h
    cases hx
    exact ⟨_, rfl, .int _ _ .nil⟩
  · split at h <;> cases h
    cases hx
    exact ⟨_, rfl, .int _ _ .nil⟩
  · cases h

/-- The number in one cell; numbers as bytes. -/
def num1 : List (SV A) → Int
  | [.int _ n] => n
  | _ => 0
def bytesOf (l : List Int) : ByteArray := ⟨(l.map fun n => UInt8.ofNat n.toNat).toArray⟩
theorem push_all (l : List Int) : ∀ s : ByteArray, l.foldl (fun r n => r.push (UInt8.ofNat n.toNat)) s = ⟨(s.data.toList ++ l.map fun n => UInt8.ofNat n.toNat).toArray⟩ := by
  induction l with
  | nil => intro s; simp
  | cons n l ih =>
    intro s
    rw [List.foldl_cons, ih]
    congr 1
    simp [ByteArray.push]
def convS (src dst : TypeId) (x : SV A) : Option (Option Prop × SV A) := match P.underlying src, P.underlying dst, x with
  | some (.int _), some (.int k), .int _ n => some (none, .int k (k.wrap n))
  | some .string, some .string, .str s => some (none, .str s)
  | some (.slice e), some .string, .csl T xs => match P.underlying e with
    | some (.int .u8) => if T = e then (if P.cellsOf e = 1 then some (some (∀ y ∈ xs, ∃ n, u.enc T y = [.int .u8 n]), .str (bytesOf (xs.map fun y => num1 (u.enc T y)))) else none) else none
    | _ => none
  | _, _, _ => none
theorem conv_sound {e : E A} {src dst : TypeId} {x y : SV A} {c : Option Prop} {v : Value} (hx : RepL P u e [x] [v]) (h : convS P u src dst x = some (c, y)) (hc : holds c) :
    ∃ r, (convert src dst v).run P e.w = .ok r e.w ∧ RepL P u e [y] [r] := by
  unfold convS at h
  split at h
  · rename_i k0 k k1 n hs hd
    cases h
    cases hx
    exact ⟨_, by simp [convert, run_underlying hs, run_underlying hd, Conv.intToInt], .int _ _ .nil⟩
  · rename_i s hs hd
    cases h
    cases hx
    exact ⟨_, by simp [convert, run_underlying hs, run_underlying hd], .str _ .nil⟩
  · rename_i el T xs hs hd
    split at h
    · rename_i hel'
      split at h
      · rename_i hT
        subst hT
        split at h
        · rename_i hsz
          simp only [Option.some.injEq, Prod.mk.injEq] at h
          obtain ⟨rfl, rfl⟩ := h
          have hall : ∀ y ∈ xs, ∃ n, u.enc T y = [.int .u8 n] := hc
          cases hx with
          | csl _ _ ad len cap vss hlen hcap hm hel _ =>
            subst hlen
            refine ⟨.string (bytesOf (xs.map fun y => num1 (u.enc T y))), ?_, .str _ .nil⟩
            rw [run_convert_bytes_string e.w src dst T ad _ cap hs hel' hd]
            cases ad with
            | none =>
              rcases hm with rfl | ⟨b, o, h1, _⟩
              · rfl
              · cases h1
            | some a =>
              have hl : (loadCells a xs.length).run P e.w = .ok ((xs.map fun y => num1 (u.enc T y)).map (Value.int .u8)).toArray e.w := by
                rcases hm with rfl | ⟨b, o, h1, hb, hO, hm⟩
                · simp [loadCells, loadCellsFrom]
                · cases h1
                  have := run_loadCells_list (P := P) e.w ⟨b, o, none⟩ ((xs.map fun y => num1 (u.enc T y)).map (Value.int .u8)) (fun j v hj => by
                    rw [add_add']
                    simp only [List.map_map, List.getElem?_map, Option.map_eq_some_iff, Function.comp] at hj
                    obtain ⟨x, hxj, rfl⟩ := hj
                    obtain ⟨n, hn⟩ := hall x (List.mem_of_getElem? hxj)
                    have hrep := hel j x hxj
                    rw [hn] at hrep ⊢
                    have hlt : j < xs.length := (List.getElem?_eq_some_iff.1 hxj).1
                    have hcell := hm j hlt 0
                    rw [hsz] at hcell
                    generalize vss j = vj at hrep hcell
                    cases hrep with
                    | int _ _ h => cases h; simpa [num1] using hcell _ rfl)
                  simpa using this
              rw [run_bytesToString e.w a _ cap _ hl, push_all]
              rfl
        · cases h
      · cases h
    · cases h
  · cases h

def lenS (t : TypeId) (x : SV A) : Option (SV A) := match P.underlying t, x with
  | some .string, .str s => some (.int .i64 s.size)
  | some (.slice _), .csl _ xs => some (.int .i64 xs.length)
  | some (.slice _), .nils => some (.int .i64 0)
  | some (.slice _), .osl _ _ n => some (.int .i64 n)
  | some (.array n _), _ => some (.int .i64 n)
  | _, _ => none
theorem len_sound {e : E A} {t ty : TypeId} {x y : SV A} {v : Value} (hx : RepL P u e [x] [v]) (hl : ∀ id lo n, x = .osl id lo n → live e.own x = true) (h : lenS P t x = some y) :
    ∃ r, (Builtin.len_ #[t] ty #[v]).run P e.w = .ok r e.w ∧ RepL P u e [y] [r] := by
  unfold lenS at h
  split at h <;> cases h
  · rename_i hu; cases hx; exact ⟨_, by simp [Builtin.len_, run_underlying hu]; rfl, .int _ _ .nil⟩
  · rename_i T xs hu
    cases hx with
    | csl _ _ a len cap vss hlen => exact ⟨_, by simp [Builtin.len_, run_underlying hu]; rfl, by rw [hlen]; exact .int _ _ .nil⟩
  · rename_i hu; cases hx; exact ⟨_, by simp [Builtin.len_, run_underlying hu]; rfl, .int _ _ .nil⟩
  · rename_i id lo n hu
    cases hx with
    | osl => exact ⟨_, by simp [Builtin.len_, run_underlying hu]; rfl, .int _ _ .nil⟩
    | oslD _ _ _ _ hd => have := hl _ _ _ rfl; simp [live, hd] at this
  · rename_i hu; exact ⟨_, by simp [Builtin.len_, run_underlying hu]; rfl, .int _ _ .nil⟩

def bound (d : Int) : Option (SV A) → Option Int
  | none => some d
  | some (.int _ n) => some n
  | _ => none
def sliceS (t : TypeId) (x : SV A) (lo hi : Option (SV A)) : Option (Option Prop × SV A) := match P.underlying t, x with
  | some .string, .str s => match bound 0 lo, bound s.size hi with
    | some l, some h => some (some (0 ≤ l ∧ l ≤ h ∧ h ≤ s.size), .str (s.extract l.toNat h.toNat))
    | _, _ => none
  | some (.slice el), .csl T xs => match bound 0 lo, bound xs.length hi, aggT P el with
    | some l, some h, some _ => if T = el then some (some (0 ≤ l ∧ l ≤ h ∧ h ≤ xs.length), .csl T ((xs.take h.toNat).drop l.toNat)) else none
    | _, _, _ => none
  | some (.slice el), .nils => match bound 0 lo, bound 0 hi, aggT P el with
    | some l, some h, some _ => some (some (l = 0 ∧ h = 0), .nils)
    | _, _, _ => none
  | _, _ => none
/-- A bound as it stands among the operands. -/
inductive BoundV : Option (SV A) → Option Value → Prop
  | none : BoundV none none
  | some (k : IntKind) (n : Int) : BoundV (some (.int k n)) (some (.int k n))
theorem bounds_run {w : World} {isS : Bool} {lo hi : Option (SV A)} {vl vh : Option Value} {len cap : Nat} {l h : Int} (hl : BoundV lo vl) (hh : BoundV hi vh) (bl : bound 0 lo = some l) (bh : bound (len : Int) hi = some h) (h0 : 0 ≤ l) (h1 : l ≤ h) (h2 : h ≤ cap) :
    (Instr.sliceBounds isS len cap vl vh none).run P w = .ok (l.toNat, h.toNat, cap) w := by
  have hn : (h.toNat : Int) = h := Int.toNat_of_nonneg (by omega)
  have h3 : 0 ≤ h := by omega
  cases hl <;> cases hh <;> simp only [bound, Option.some.injEq] at bl bh <;> subst bl <;> subst bh
  · simp [Instr.sliceBounds]
  · simp [Instr.sliceBounds, run_sliceBound, h2, h3]
  · simp [Instr.sliceBounds, run_sliceBound, h0, h1]
  · simp [Instr.sliceBounds, run_sliceBound, h2, h3, h0, hn, h1]
theorem slice_sound {e : E A} {t : TypeId} {x y : SV A} {lo hi : Option (SV A)} {vl vh : Option Value} {c : Option Prop} {v : Value} (hx : RepL P u e [x] [v]) (hl : BoundV lo vl) (hh : BoundV hi vh) (h : sliceS P t x lo hi = some (c, y)) (hc : holds c) :
    ∃ r, (Instr.sliceAt t v vl vh none).run P e.w = .ok r e.w ∧ RepL P u e [y] [r] := by
  unfold sliceS at h
  split at h
  · rename_i s hu
    split at h
    · rename_i l hh' bl bh
      cases h
      obtain ⟨c0, c1, c2⟩ : 0 ≤ l ∧ l ≤ hh' ∧ hh' ≤ (s.size : Int) := hc
      cases hx
      refine ⟨_, ?_, .str _ .nil⟩
      rw [run_sliceAt_string e.w t _ _ _ _ hu]
      simp only [Instr.slice, Sem.run_bind, run_underlying hu, Result.andThen]
      simp [bounds_run P (w := e.w) (isS := false) hl hh bl bh c0 c1 c2]
    · cases h
  · rename_i el T xs hu
    split at h
    · rename_i l hh' a bl bh ha
      split at h
      · rename_i hT
        subst hT
        cases h
        obtain ⟨c0, c1, c2⟩ : 0 ≤ l ∧ l ≤ hh' ∧ hh' ≤ (xs.length : Int) := hc
        cases hx with
        | csl _ _ ad len cap vss hlen hcap hm hel _ =>
          subst hlen
          have hrun := bounds_run P (w := e.w) (isS := true) (cap := cap) hl hh bl bh c0 c1 (by omega)
          have hsz := run_sizeOf P (t := T) (by rw [ha]; simp) e.w
          have hlen2 : ((xs.take hh'.toNat).drop l.toNat).length = hh'.toNat - l.toNat := by simp; omega
          refine ⟨_, ?_, .csl T _ (if cap = l.toNat then ad else ad.map (·.add (l.toNat * P.cellsOf T))) (hh'.toNat - l.toNat) (cap - l.toNat) (fun i => vss (l.toNat + i)) hlen2 (by omega) ?_ ?_ .nil⟩
          · simp only [Instr.sliceAt, Sem.run_bind, run_underlying hu, Result.andThen, Instr.slice, hrun, hsz, Sem.run_pure]
          · by_cases hem : (xs.take hh'.toNat).drop l.toNat = []
            · exact .inl hem
            · right
              have hpos : 0 < ((xs.take hh'.toNat).drop l.toNat).length := List.length_pos_iff.2 hem
              rcases hm with rfl | ⟨b, o, rfl, hb, hO, hm⟩
              · simp at hpos
              · refine ⟨b, o + l.toNat * P.cellsOf T, ?_, hb, hO, fun i hi => ?_⟩
                · rw [if_neg (by omega)]
                  simp [add_add']
                · have := hm (l.toNat + i) (by omega)
                  rw [Nat.add_mul, ← Nat.add_assoc] at this
                  exact this
          · intro i x hix
            rw [List.getElem?_drop, List.getElem?_take] at hix
            split at hix
            · exact hel _ _ hix
            · cases hix
      · cases h
    · cases h
  · rename_i el hu
    split at h
    · rename_i l hh' a bl bh ha
      cases h
      obtain ⟨rfl, rfl⟩ : l = 0 ∧ hh' = 0 := hc
      cases hx
      refine ⟨.slice none 0 0, ?_, .nils .nil⟩
      have hrun := bounds_run P (w := e.w) (isS := true) (len := 0) (cap := 0) hl hh bl (by simpa using bh) (by omega) (by omega) (by omega)
      simp only [Instr.sliceAt, Sem.run_bind, run_underlying hu, Result.andThen, Instr.slice, hrun, run_sizeOf P (t := el) (by rw [ha]; simp) e.w]
      simp
    · cases h
  · cases h
end
end Go.Proofs.Ytacafjapnppacaa.Sx
