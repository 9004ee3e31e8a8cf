/- An abstract machine over values by content, fourth part: the operations that leave memory as it is, one by one. -/
import Derived.Test.YtndacggailoogaaSxC
import Derived.Laws.Strings
import Derived.Laws.Slices
namespace Go.Proofs.Ytndacggailoogaa.Sx
open Go Go.RowKit

section
variable {A : Nat → Type} (P : Program) (u : U A)

/-- A number written as a numeral. -/
def natLit : Int → Option Nat
  | .ofNat n => some n
  | .negSucc _ => none
theorem natLit_eq {n : Int} {m : Nat} (h : natLit n = some m) : n = m := by
  cases n <;> simp [natLit] at h
  simp [h]

def cell1 : Value → Option (SV A)
  | .int k n => some (.int k n)
  | .bool b => some (.lit b)
  | .string s => some (.str s)
  | .slice none 0 0 => some .nils
  | .pointer none => some .nilp
  | .nilFunc => some .top
  | _ => none
def cellsS : List Value → Option (List (SV A))
  | [] => some []
  | v :: r => match cell1 v, cellsS r with
    | some x, some l => some (x :: l)
    | _, _ => none
def constS : Value → SV A
  | .agg cs => match cellsS cs.toList with
    | some l => .agg l
    | none => .top
  | v => match cell1 v with
    | some x => x
    | none => .top
theorem cell1_rep {e : E A} {v : Value} {x : SV A} (h : cell1 v = some x) : RepL P u e [x] [v] := by
  unfold cell1 at h
  split at h <;> cases h
  · exact .int _ _ .nil
  · exact .lit _ .nil
  · exact .str _ .nil
  · exact .nils .nil
  · exact .nilp .nil
  · exact .top _ .nil
theorem cellsS_rep {e : E A} : ∀ {vs : List Value} {l : List (SV A)}, cellsS vs = some l → RepL P u e l vs
  | [], l, h => by cases h; exact .nil
  | v :: r, l, h => by
    unfold cellsS at h
    split at h
    · rename_i h1 h2
      cases h
      exact (cell1_rep P u h1).cons P u (cellsS_rep h2)
    · cases h
theorem constS_rep {e : E A} (v : Value) : RepL P u e [constS v] [v] := by
  unfold constS
  split
  · split
    · rename_i h
      exact .agg _ _ (cellsS_rep P u h) .nil
    · exact .top _ .nil
  · split
    · rename_i h
      exact cell1_rep P u h
    · exact .top _ .nil

def fieldsT (t : TypeId) : Option (Array Field) := match P.underlying t with | some (.struct fs) => some fs | _ => none
def fieldT (t : TypeId) (i : Nat) : Option Field := match fieldsT P t with | some fs => fs[i]? | none => none
theorem fieldT_eq {t : TypeId} {i : Nat} {f : Field} (h : fieldT P t i = some f) : ∃ fs, P.underlying t = some (.struct fs) ∧ fs[i]? = some f := by
  unfold fieldT fieldsT at h
  cases hu : P.underlying t with
  | none => simp [hu] at h
  | some d => cases d <;> simp [hu] at h; exact ⟨_, rfl, h⟩
def addOff (x : SV A) (n : Nat) : Option (SV A) := match x with
  | .optr id off => some (.optr id (off + n))
  | .cptr cs off => some (.cptr cs (off + n))
  | .rptr id idx off => some (.rptr id idx (off + n))
  | .cx id true off => some (.cx id true (off + n))
  | _ => none
theorem addOff_live {e : E A} {x y : SV A} {v : Value} {n : Nat} (hl : live e.own x = true) (hx : RepL P u e [x] [v]) (h : addOff x n = some y) : ∃ b o, v = .pointer (some ⟨b, o, none⟩) ∧ RepL P u e [y] [.pointer (some ⟨b, o + n, none⟩)] := by
  unfold addOff at h
  split at h <;> cases h
  · cases hx with
    | optr _ _ b c hv hβ _ => exact ⟨b, _, rfl, .optr _ _ b c hv hβ .nil⟩
    | optrD _ _ _ hv _ _ => simp [live, hv, Own.isVar] at hl
  · cases hx with
    | cptr cs off b o cv hb ho hm hr _ => exact ⟨b, _, rfl, by rw [Nat.add_assoc]; exact .cptr _ _ b o cv hb ho hm hr .nil⟩
  · cases hx with
    | rptr _ idx off b c T ys hv hβ hi _ => exact ⟨b, _, rfl, by rw [Nat.add_assoc]; exact .rptr _ _ _ b c T ys hv hβ hi .nil⟩
    | rptrD _ _ _ _ hv _ _ => simp [live, hv] at hl
  · cases hx with
    | cx _ _ off b c cap k T ys cs v hv hβ hc hq _ =>
      exact ⟨b, _, hq.trans (if_pos rfl), .cx _ true _ b c cap k T ys cs _ hv hβ hc (by rw [Nat.add_assoc]; rfl) .nil⟩
    | cxD _ _ _ _ hv _ _ => simp [live, hv] at hl
theorem add_add' (b o n : Nat) : (Addr.add ⟨b, o, none⟩ n) = ⟨b, o + n, none⟩ := by
  unfold Addr.add
  split
  · subst_vars; simp
  · rfl

def fieldAddrS (own : Nat → Own A) (t : TypeId) (i : Nat) (x : SV A) : Option (SV A) :=
  if live own x then (match fieldT P t i with
    | some f => if P.cellsOf f.type = 0 then none else match aggT P f.type with
      | some _ => addOff x f.offset
      | none => none
    | none => none) else none
theorem fieldAddr_sound {e : E A} {t : TypeId} {i : Nat} {x y : SV A} {v : Value} (hx : RepL P u e [x] [v]) (h : fieldAddrS P e.own t i x = some y) :
    ∃ r, (Instr.fieldAt t v i).run P e.w = .ok r e.w ∧ RepL P u e [y] [r] := by
  unfold fieldAddrS at h
  split at h
  · rename_i hl
    split at h
    · rename_i f hf
      split at h
      · cases h
      · rename_i hz
        split at h
        · rename_i a ha
          obtain ⟨fs, hu, hfi⟩ := fieldT_eq P hf
          obtain ⟨b, o, rfl, hr⟩ := addOff_live P u hl hx h
          refine ⟨_, ?_, hr⟩
          simp [Instr.fieldAt, run_underlying hu, hfi, Instr.sureAddr, fieldPlace, run_sizeOf P (t := f.type) (by rw [ha]; simp), hz, add_add']
        · cases h
    · cases h
  · cases h

/-- A place in an array that lies as a row. -/
def arrAddr (own : Nat → Own A) (len el : Nat) (n : Int) : SV A → Option (Option Prop × SV A)
  | .rptr id idx off => match own id with
    | .row T xs => if Nat.beq T el && Nat.beq off 0 then some (some (0 ≤ n ∧ n < len ∧ idx + n.toNat < xs.length), .rptr id (idx + n.toNat) 0) else none
    | .fro T xs => if Nat.beq T el && Nat.beq off 0 then some (some (0 ≤ n ∧ n < len ∧ idx + n.toNat < xs.length), .rptr id (idx + n.toNat) 0) else none
    | _ => none
  | _ => none
/-- A place in an array that is a part of an element. -/
def partAddr (own : Nat → Own A) (len el : Nat) (n : Int) : SV A → Option (Option Prop × SV A)
  | .rptr id idx off => match own id with
    | .row T _ => (match u.part T off el with
      | some p => if Nat.beq p.n len then some (some (0 ≤ n ∧ n < len), .bptr id idx off el n.toNat) else none
      | none => none)
    | .fro T _ => (match u.part T off el with
      | some p => if Nat.beq p.n len then some (some (0 ≤ n ∧ n < len), .bptr id idx off el n.toNat) else none
      | none => none)
    | _ => none
  | _ => none
def indexAddrS (own : Nat → Own A) (t : TypeId) (x i : SV A) : Option (Option Prop × SV A) :=
  match i with
  | .int _ n => match P.underlying t with
    | some (.array len el) => match aggT P el with
      | some _ => (match arrAddr own len el n x with
        | some r => some r
        | none => match partAddr u own len el n x with
        | some r => some r
        | none => if live own x then (match natLit n with
          | some m => if m < len then (addOff x (m * P.cellsOf el)).map fun y => (none, y) else none
          | none => none) else none)
      | none => none
    | some (.slice el) => match aggT P el with
      | some _ => match x with
        | .csl T xs => if T = el then some (some (0 ≤ n ∧ n < xs.length), .cptr (u.enc T (xs.getD n.toNat (u.dflt T))) 0) else none
        | .osl id lo len => match own id with
          | .row T _ => if T = el then some (some (0 ≤ n ∧ n < len), .rptr id (lo + n.toNat) 0) else none
          | .fro T _ => if T = el then some (some (0 ≤ n ∧ n < len), .rptr id (lo + n.toNat) 0) else none
          | _ => none
        | .orow id => match own id with
          | .row T xs => if T = el then some (some (0 ≤ n ∧ n < xs.length), .rptr id n.toNat 0) else none
          | .fro T xs => if T = el then some (some (0 ≤ n ∧ n < xs.length), .rptr id n.toNat 0) else none
          | _ => none
        | .vsl id off len => if live own (.vsl id off len) then (match natLit n with
          | some m => if m < len ∧ P.cellsOf el = 1 then some (none, .optr id (off + m)) else none
          | none => none) else none
        | .cx id false _ => match own id with
          | .rowC T xs q _ => if T = el then some (some (n = (q : Int) ∧ q < xs.length), .cx id true 0) else none
          | _ => none
        | _ => none
      | none => none
    | _ => none
  | _ => none
theorem indexAddr_sound (hpart : PartOk P u) {e : E A} {t : TypeId} {x i y : SV A} {c : Option Prop} {v vi : Value} (hx : RepL P u e [x] [v]) (hi : RepL P u e [i] [vi]) (h : indexAddrS P u e.own t x i = some (c, y)) (hc : holds c) :
    ∃ r, (Instr.indexAt t v vi).run P e.w = .ok r e.w ∧ RepL P u e [y] [r] := by
  unfold indexAddrS at h
  split at h
  · rename_i k n
    cases hi
    split at h
    · rename_i len el hu
      split at h
      case h_2 => cases h
      rename_i a ha
      split at h
      · rename_i r hra
        cases h
        unfold arrAddr at hra
        split at hra
        case h_2 => cases hra
        rename_i id idx off
        have key : ∀ T (ys : List (A T)), (e.own id = .row T ys ∨ e.own id = .fro T ys) → (Nat.beq T el && Nat.beq off 0) = true → (some (0 ≤ n ∧ n < (len : Int) ∧ idx + n.toNat < ys.length), SV.rptr (A := A) id (idx + n.toNat) 0) = (c, y) → ∃ r, (Instr.indexAt t v (.int k n)).run P e.w = .ok r e.w ∧ RepL P u e [y] [r] := by
          intro T ys ho hb heq
          simp only [Bool.and_eq_true] at hb
          obtain ⟨hT, hoff⟩ := hb
          have hT := Nat.eq_of_beq_eq_true hT
          have hoff := Nat.eq_of_beq_eq_true hoff
          subst hT; subst hoff
          simp only [Prod.mk.injEq] at heq
          obtain ⟨rfl, rfl⟩ := heq
          obtain ⟨c0, c1, c2⟩ : 0 ≤ n ∧ n < (len : Int) ∧ idx + n.toNat < ys.length := hc
          have hsame : ∀ {T2 : Nat} {zs : List (A T2)}, (e.own id = .row T2 zs ∨ e.own id = .fro T2 zs) → T2 = T ∧ HEq zs ys := by
            intro T2 zs hv
            rcases ho with ho | ho <;> rw [ho] at hv <;> rcases hv with hv | hv <;> cases hv <;> exact ⟨rfl, HEq.rfl⟩
          cases hx with
          | rptr _ _ _ b cc T2 zs hv hβ hi _ =>
            obtain ⟨rfl, hh⟩ := hsame hv
            cases hh
            refine ⟨.pointer (some ⟨b, (idx + n.toNat) * P.cellsOf T2 + 0, none⟩), ?_, .rptr id _ 0 b cc T2 zs hv hβ c2 .nil⟩
            have hcond : 0 ≤ n ∧ n < (len : Int) := ⟨c0, c1⟩
            simp [Instr.indexAt, asIntOf, run_underlying hu, Instr.sureAddr, hcond, run_sizeOf P (t := T2) (by rw [ha]; simp), add_add', Nat.add_mul]
          | rptrD _ _ _ _ hd _ _ => rcases ho with ho | ho <;> rw [ho] at hd <;> cases hd
        split at hra
        · rename_i T ys ho
          split at hra
          · rename_i hb; cases hra; exact key T ys (.inl ho) hb rfl
          · cases hra
        · rename_i T ys ho
          split at hra
          · rename_i hb; cases hra; exact key T ys (.inr ho) hb rfl
          · cases hra
        · cases hra
      · split at h
        · rename_i r hra
          cases h
          unfold partAddr at hra
          split at hra
          case h_2 => cases hra
          rename_i id idx off _
          have key : ∀ T (ys : List (A T)) (p : PartU A T el), (e.own id = .row T ys ∨ e.own id = .fro T ys) → u.part T off el = some p → Nat.beq p.n len = true → (some (0 ≤ n ∧ n < (len : Int)), SV.bptr (A := A) id idx off el n.toNat) = (c, y) → ∃ r, (Instr.indexAt t v (.int k n)).run P e.w = .ok r e.w ∧ RepL P u e [y] [r] := by
            intro T ys p ho hp0 hpn heq
            have hpn := Nat.eq_of_beq_eq_true hpn
            simp only [Prod.mk.injEq] at heq
            obtain ⟨rfl, rfl⟩ := heq
            obtain ⟨c0, c1⟩ : 0 ≤ n ∧ n < (len : Int) := hc
            have hone := (hpart _ _ _ _ hp0).one
            have hsame : ∀ {T2 : Nat} {zs : List (A T2)}, (e.own id = .row T2 zs ∨ e.own id = .fro T2 zs) → T2 = T ∧ HEq zs ys := by
              intro T2 zs hv
              rcases ho with ho | ho <;> rw [ho] at hv <;> rcases hv with hv | hv <;> cases hv <;> exact ⟨rfl, HEq.rfl⟩
            cases hx with
            | rptr _ _ _ b cc T2 zs hv hβ hi _ =>
              obtain ⟨rfl, hh⟩ := hsame hv
              cases hh
              refine ⟨.pointer (some ⟨b, idx * P.cellsOf T2 + off + n.toNat, none⟩), ?_, .bptr id idx off el n.toNat b cc T2 zs hv hβ hi (fun p' hp' => by rw [hp0] at hp'; cases hp'; omega) .nil⟩
              have hcond : 0 ≤ n ∧ n < (len : Int) := ⟨c0, c1⟩
              simp [Instr.indexAt, asIntOf, run_underlying hu, Instr.sureAddr, hcond, run_sizeOf P (t := el) (by rw [ha]; simp), add_add', hone]
            | rptrD _ _ _ _ hd _ _ => rcases ho with ho | ho <;> rw [ho] at hd <;> cases hd
          split at hra
          · rename_i T ys ho
            split at hra
            case h_2 => cases hra
            rename_i p hp0
            split at hra
            · rename_i hb; cases hra; exact key T ys p (.inl ho) hp0 hb rfl
            · cases hra
          · rename_i T ys ho
            split at hra
            case h_2 => cases hra
            rename_i p hp0
            split at hra
            · rename_i hb; cases hra; exact key T ys p (.inr ho) hp0 hb rfl
            · cases hra
          · cases hra
        split at h
        · rename_i hl
          split at h
          · rename_i m hm
            split at h
            · rename_i hlt
              simp only [Option.map_eq_some_iff, Prod.mk.injEq] at h
              obtain ⟨z, hz, rfl, rfl⟩ := h
              obtain ⟨b, o, rfl, hr⟩ := addOff_live P u hl hx hz
              have hn := natLit_eq hm
              refine ⟨_, ?_, hr⟩
              have hcond : 0 ≤ n ∧ n < (len : Int) := by omega
              have hto : n.toNat = m := by omega
              simp [Instr.indexAt, asIntOf, run_underlying hu, Instr.sureAddr, hcond, run_sizeOf P (t := el) (by rw [ha]; simp), hto, add_add']
            · cases h
          · cases h
        · cases h
    · rename_i el hu
      split at h
      · rename_i a ha
        have hsz := run_sizeOf P (t := el) (by rw [ha]; simp) e.w
        split at h
        · rename_i T xs
          split at h
          · rename_i hT
            subst hT
            simp only [Option.some.injEq, Prod.mk.injEq] at h
            obtain ⟨rfl, rfl⟩ := h
            have hb : 0 ≤ n ∧ n < (xs.length : Int) := hc
            cases hx with
            | csl _ _ ad len cap vss hl hcap hm _ hel _ =>
              have hlt : n.toNat < xs.length := by omega
              rcases hm with rfl | ⟨b, o, rfl, hbs, hO, hm⟩
              · simp at hlt
              · have hget : xs[n.toNat]? = some (xs.getD n.toNat (u.dflt T)) := by simp [List.getD, List.getElem?_eq_getElem hlt]
                refine ⟨.pointer (some ⟨b, o + n.toNat * P.cellsOf T, none⟩), ?_, by simpa using RepL.cptr _ 0 b _ _ hbs hO (hm _ hlt) (hel _ _ hget) .nil⟩
                have hcond : 0 ≤ n ∧ n < (len : Int) := by omega
                simp [Instr.indexAt, asIntOf, run_underlying hu, hcond, hsz, add_add']
          · cases h
        · rename_i id lo len
          have hrow : ∀ T ys, (e.own id = .row T ys ∨ e.own id = .fro T ys) → T = el → (some (0 ≤ n ∧ n < (len : Int)), SV.rptr (A := A) id (lo + n.toNat) 0) = (c, y) → ∃ r, (Instr.indexAt t v (.int k n)).run P e.w = .ok r e.w ∧ RepL P u e [y] [r] := by
            intro T ys ho hT heq
            subst hT
            simp only [Prod.mk.injEq] at heq
            obtain ⟨rfl, rfl⟩ := heq
            have hb : 0 ≤ n ∧ n < (len : Int) := hc
            cases hx with
            | osl _ _ _ b cc _ T2 ys2 hv hβ hle _ _ =>
              have hsame : T2 = T := by
                rcases ho with ho | ho <;> rw [ho] at hv <;> rcases hv with hv | hv <;> cases hv <;> rfl
              subst hsame
              refine ⟨.pointer (some ⟨b, (lo + n.toNat) * P.cellsOf T2 + 0, none⟩), ?_, .rptr id _ 0 b cc T2 ys2 hv hβ (by omega) .nil⟩
              simp [Instr.indexAt, asIntOf, run_underlying hu, hb, hsz, add_add', Nat.add_mul]
            | oslD _ _ _ _ hd _ _ => rcases ho with ho | ho <;> rw [ho] at hd <;> cases hd
            | oslZ => omega
          split at h
          · rename_i T ys ho
            split at h
            · rename_i hT; exact hrow T ys (.inl ho) hT (by simpa using h)
            · cases h
          · rename_i T ys ho
            split at h
            · rename_i hT; exact hrow T ys (.inr ho) hT (by simpa using h)
            · cases h
          · cases h
        · rename_i id
          have hrow : ∀ T (ys : List (A T)), (e.own id = .row T ys ∨ e.own id = .fro T ys) → T = el → (some (0 ≤ n ∧ n < (ys.length : Int)), SV.rptr (A := A) id n.toNat 0) = (c, y) → ∃ r, (Instr.indexAt t v (.int k n)).run P e.w = .ok r e.w ∧ RepL P u e [y] [r] := by
            intro T ys ho hT heq
            subst hT
            simp only [Prod.mk.injEq] at heq
            obtain ⟨rfl, rfl⟩ := heq
            have hb : 0 ≤ n ∧ n < (ys.length : Int) := hc
            have hsame : ∀ {T2 : Nat} {zs : List (A T2)}, (e.own id = .row T2 zs ∨ e.own id = .fro T2 zs) → T2 = T ∧ HEq zs ys := by
              intro T2 zs hv
              rcases ho with ho | ho <;> rw [ho] at hv <;> rcases hv with hv | hv <;> cases hv <;> exact ⟨rfl, HEq.rfl⟩
            cases hx with
            | orow _ b cc _ T2 ys2 hv hβ hcc _ =>
              obtain ⟨rfl, hh⟩ := hsame hv
              cases hh
              refine ⟨.pointer (some ⟨b, n.toNat * P.cellsOf T2 + 0, none⟩), ?_, .rptr id _ 0 b cc T2 ys2 hv hβ (by omega) .nil⟩
              simp [Instr.indexAt, asIntOf, run_underlying hu, hb, hsz, add_add']
            | orowN _ T2 _ hv _ =>
              obtain ⟨rfl, hh⟩ := hsame hv
              cases hh
              simp at hb
              omega
            | orowD _ _ hd _ _ => rcases ho with ho | ho <;> rw [ho] at hd <;> cases hd
          split at h
          · rename_i T ys ho
            split at h
            · rename_i hT; exact hrow T ys (.inl ho) hT (by simpa using h)
            · cases h
          · rename_i T ys ho
            split at h
            · rename_i hT; exact hrow T ys (.inr ho) hT (by simpa using h)
            · cases h
          · cases h
        · rename_i id off len
          split at h
          · rename_i hlv
            split at h
            · rename_i m hm
              split at h
              · rename_i hlt
                cases h
                have hn := natLit_eq hm
                cases hx with
                | vsl _ _ _ b cc cap hv hβ _ _ =>
                  refine ⟨.pointer (some ⟨b, off + m, none⟩), ?_, .optr id _ b cc hv hβ .nil⟩
                  have hcond : 0 ≤ n ∧ n < (len : Int) := by omega
                  have hto : n.toNat = m := by omega
                  simp [Instr.indexAt, asIntOf, run_underlying hu, hcond, hsz, add_add', hlt.2, hto]
                | vslD _ _ _ _ hd _ _ => simp [live, hd, Own.isVar] at hlv
              · cases h
            · cases h
          · cases h
        · rename_i id off
          split at h
          · rename_i T xs q cs ho
            split at h
            · rename_i hT
              subst hT
              simp only [Option.some.injEq, Prod.mk.injEq] at h
              obtain ⟨rfl, rfl⟩ := h
              have hb : n = (q : Int) ∧ q < xs.length := hc
              cases hx with
              | cx _ _ _ b cc cap q2 T2 ys2 cs2 v hv hβ hcc hq _ =>
                rw [ho] at hv
                cases hv
                have hq : v = .slice (some ⟨b, 0, none⟩) xs.length cap := hq
                subst hq
                refine ⟨.pointer (some ⟨b, n.toNat * P.cellsOf T + 0, none⟩), ?_, .cx id true 0 b cc cap q T xs cs _ ho hβ hcc (by rw [show n.toNat = q by omega]; rfl) .nil⟩
                have hbb : 0 ≤ n ∧ n < (xs.length : Int) := by omega
                simp [Instr.indexAt, asIntOf, run_underlying hu, hbb, hsz, add_add']
              | cxD _ _ _ _ hd _ _ => rw [ho] at hd; cases hd
            · cases h
          · cases h
        · cases h
      · cases h
    · cases h
  · cases h
end
end Go.Proofs.Ytndacggailoogaa.Sx
