/- An abstract machine over values by content, seventh part: one operation that leaves memory as it is. -/
import Derived.Test.YtndacggailoogaaSxF
import Derived.Laws.Cover1
import Derived.Laws.Cover3
namespace Go.Proofs.Ytndacggailoogaa.Sx
open Go Go.RowKit

section
variable {A : Nat → Type} (P : Program) (u : U A)

def intOf : SV A → Option Int
  | .int _ n => some n
  | _ => none
def fnOf : Fn → Option Nat
  | .func f => some f
  | _ => none
def pure1 (x : Option (SV A)) : Option (Option Prop × SV A) := match x with
  | some x => some (none, x)
  | none => none
def builtinS (own : Nat → Own A) (b : Builtin) (ts : List TypeId) (xs : List (SV A)) : Option (SV A) := match b, ts, xs with
  | .len, [t], [x] => lenS P own t x
  | .min, _, [x, y] => match x, y with
    | .int k a, .int _ b => some (.int k (mn a b))
    | _, _ => none
  | .max, _, [x, y] => match x, y with
    | .int k a, .int _ b => some (.int k (mx a b))
    | _, _ => none
  | .min, _, [x, y, z] => match x, y, z with
    | .int k a, .int _ b, .int _ c => some (.int k (mn (mn a b) c))
    | _, _, _ => none
  | .max, _, [x, y, z] => match x, y, z with
    | .int k a, .int _ b, .int _ c => some (.int k (mx (mx a b) c))
    | _, _, _ => none
  | _, _, _ => none
/-- The first n elements' cells. -/
def encM (T : Nat) (ys : List (A T)) : Nat → List (SV A)
  | 0 => []
  | n + 1 => encM T ys n ++ u.enc T (ys.getD n (u.dflt T))
/-- A slice as a pointer to an array. -/
def arrPtr (t : TypeId) (x : SV A) : Option (Option Prop × SV A) := match P.underlying t with
  | some (.array n el) => match x with
    | .csl T xs => if T = el ∧ 0 < n then some (some (n ≤ xs.length), .cptr (encM u T xs n) 0) else none
    | _ => none
  | _ => none
def flatM (vss : Nat → List Value) : Nat → List Value
  | 0 => []
  | n + 1 => flatM vss n ++ vss n
theorem flatM_len {vss : Nat → List Value} {c : Nat} : ∀ n, (∀ i, i < n → (vss i).length = c) → (flatM vss n).length = n * c
  | 0, _ => by simp [flatM]
  | n + 1, h => by rw [flatM, List.length_append, flatM_len n fun i hi => h i (by omega), h n (by omega), Nat.add_mul, Nat.one_mul]
theorem flatM_at {w : World} {b o c : Nat} {vss : Nat → List Value} : ∀ n, (∀ i, i < n → (vss i).length = c) → (∀ i, i < n → cellsAt w b (o + i * c) (vss i)) → cellsAt w b o (flatM vss n)
  | 0, _, _ => fun j v h => by simp [flatM] at h
  | n + 1, hl, ha => fun j v h => by
    have hln := flatM_len (vss := vss) n fun i hi => hl i (by omega)
    rw [flatM] at h
    by_cases hj : j < n * c
    · rw [List.getElem?_append_left (by omega)] at h
      exact flatM_at n (fun i hi => hl i (by omega)) (fun i hi => ha i (by omega)) j v h
    · rw [List.getElem?_append_right (by omega), hln] at h
      have := ha n (by omega) (j - n * c) v h
      rw [show o + n * c + (j - n * c) = o + j by omega] at this
      exact this
theorem encM_rep {e : E A} {T : Nat} {ys : List (A T)} {vss : Nat → List Value} (hx : ∀ (i : Nat) (x : A T), ys[i]? = some x → RepL P u e (u.enc T x) (vss i)) : ∀ n, n ≤ ys.length → RepL P u e (encM u T ys n) (flatM vss n)
  | 0, _ => .nil
  | n + 1, hn => by
    have hg : ys[n]? = some (ys.getD n (u.dflt T)) := by simp [List.getD, List.getElem?_eq_getElem (show n < ys.length by omega)]
    exact (encM_rep hx n (by omega)).append P u (hx n _ hg)
theorem arrPtr_sound {e : E A} {t : TypeId} {x y : SV A} {c : Option Prop} {v : Value} (hx : RepL P u e [x] [v]) (h : arrPtr P u t x = some (c, y)) (hc : holds c) : ∃ r, (Instr.arrayAt t v).run P e.w = .ok r e.w ∧ RepL P u e [y] [r] := by
  unfold arrPtr at h
  split at h
  · rename_i n el hu
    split at h
    · split at h
      · rename_i T xs hif
        cases h
        have hn : n ≤ xs.length := hc
        cases hx with
        | csl _ _ a len cap vss hl hcap hm hz hel _ =>
          rcases hm with rfl | ⟨b, o, rfl, hb, ho, hcells⟩
          · simp at hn; omega
          · refine ⟨_, run_arrayAt e.w t el n _ len cap hu (by omega), ?_⟩
            have := RepL.cptr (P := P) (u := u) (e := e) (xs := []) (vs := []) (encM u T xs n) 0 b o (flatM vss n) hb ho (flatM_at n (fun i hi => hz i (by omega)) (fun i hi => hcells i (by omega))) (encM_rep P u hel n hn) .nil
            exact this
      · cases h
    · cases h
  · cases h
/-- What one operation gives that leaves memory as it is. -/
def pureS (own : Nat → Own A) (o : Oper) (ev : Operand → SV A) : Option (Option Prop × SV A) :=
  match o.op with
  | .move x => some (none, ev x)
  | .assign x => some (none, ev x)
  | .unOp op _ x => pure1 (unS op (ev x))
  | .binOp op t x y _ => bin1 P u own op t (ev x) (ev y)
  | .convert s d x => convS P u own s d (ev x)
  | .load t a => match loadA P u own t (ev a) with
    | some r => some r
    | none => pure1 (loadS P u own t (ev a))
  | .fieldAddr t x i => pure1 (fieldAddrS P own t i (ev x))
  | .indexAddr t x i => indexAddrS P u own t (ev x) (ev i)
  | .index t x i => indexS P u t (ev x) (ev i)
  | .field t x i => match aggC u (ev x), fieldT P t i with
    | some cs, some f => pure1 (partS P f.type cs f.offset)
    | _, _ => none
  | .build t ps => pure1 (buildS P u t (ps.toList.map fun p => (p.1, ev p.2)))
  | .slice t x lo hi none => sliceS P u own t (ev x) (lo.map ev) (hi.map ev)
  | .slice t x lo hi (some m) => match hi with
    | some hi => (match lenO own (ev x) with
      | some n => if cloneS P t (lo.map ev) (ev hi) (ev m) then some (none, .zsl) else slice3S P t (ev x) (lo.map ev) (some (ev hi)) (ev m) (some n)
      | none => none)
    | none => none
  | .extract x i => match ev x with
    | .tup l => pure1 (l[i]?)
    | _ => none
  | .makeFunc fn first cap => match fnOf fn, first.toList with
    | some f, [] => some (none, .fn f (cap.toList.map ev))
    | _, _ => none
  | .nilCheck x => match ev x with
    | .optr id off => if live own (.optr id off) then some (none, .optr id off) else none
    | .cptr cs off => some (none, .cptr cs off)
    | .rptr id i off => if live own (.rptr id i off) then some (none, .rptr id i off) else none
    | _ => none
  | .sliceToArrayPointer t x => arrPtr P u t (ev x)
  | .call c => match c.callee with
    | .builtin b => pure1 (builtinS P own b c.argTypes.toList (c.args.toList.map ev))
    | _ => none
  | _ => none

theorem pure1_eq {x : Option (SV A)} {c : Option Prop} {y : SV A} (h : pure1 x = some (c, y)) : x = some y := by
  unfold pure1 at h
  split at h <;> cases h
  rfl
theorem reps {e : E A} {ρ : Operand → Value} {ev : Operand → SV A} (hev : ∀ x, RepL P u e [ev x] [ρ x]) : ∀ l : List Operand, RepL P u e (l.map ev) (l.map ρ)
  | [] => .nil
  | x :: l => (hev x).cons P u (reps hev l)
theorem partsR {e : E A} {ρ : Operand → Value} {ev : Operand → SV A} (hev : ∀ x, RepL P u e [ev x] [ρ x]) : ∀ l : List (Nat × Operand), Parts P u e (l.map fun p => (p.1, ev p.2)) (l.map fun p => (p.1, ρ p.2))
  | [] => .nil
  | p :: l => .cons _ _ _ (hev p.2) (partsR hev l)
theorem get_rep {e : E A} {i : Nat} {y : SV A} : ∀ {i : Nat} {l : List (SV A)} {vs : List Value}, RepL P u e l vs → l[i]? = some y → ∃ v, vs[i]? = some v ∧ RepL P u e [y] [v] := by
  intro i
  induction i with
  | zero =>
    intro l vs h hy
    cases l with
    | nil => cases hy
    | cons x l =>
      obtain ⟨v, ws, rfl, h1, _⟩ := h.split P u
      cases hy
      exact ⟨v, rfl, h1⟩
  | succ i ih =>
    intro l vs h hy
    cases l with
    | nil => cases hy
    | cons x l =>
      obtain ⟨v, ws, rfl, _, h2⟩ := h.split P u
      exact ih h2 hy
theorem boundV {e : E A} {ρ : Operand → Value} {ev : Operand → SV A} (hev : ∀ x, RepL P u e [ev x] [ρ x]) {d : Int} {l : Int} : ∀ o : Option Operand, bound d (o.map ev) = some l → BoundV (o.map ev) (o.map ρ)
  | none, _ => .none
  | some x, h => by
    have := hev x
    have h : bound d (some (ev x)) = some l := h
    show BoundV (some (ev x)) (some (ρ x))
    generalize ev x = y at *
    generalize ρ x = v at *
    cases this <;> first | exact .some _ _ | cases h

theorem builtin_sound {e : E A} {ρ : Operand → Value} {ev : Operand → SV A} (hev : ∀ x, RepL P u e [ev x] [ρ x]) {b : Builtin} {ts : Array TypeId} {args : Array Operand} {ty : TypeId} {cs : Array Bool} {y : SV A}
    (h : builtinS P e.own b ts.toList (args.toList.map ev) = some y) : ∃ r, (builtin b ts ty cs (args.map ρ)).run P e.w = .ok (.value r) e.w ∧ RepL P u e [y] [r] := by
  have hreps := reps P u hev args.toList
  have hmap : args.map ρ = (args.toList.map ρ).toArray := by apply Array.ext'; simp
  unfold builtinS at h
  split at h
  · rename_i t x hts hxs
    rw [hxs] at hreps
    obtain ⟨v, ws, hv, h1, h2⟩ := hreps.split P u
    cases h2
    have hts' : ts = #[t] := by cases ts; simp_all
    rw [hmap, hv, hts']
    obtain ⟨r, h3, h4⟩ := len_sound P u (ty := ty) h1 h
    exact ⟨r, by simp [builtin, h3], h4⟩
  · rename_i x z _ hxs
    rw [hxs] at hreps
    obtain ⟨v, ws, hv, h1, h2⟩ := hreps.split P u
    obtain ⟨v2, ws2, rfl, h3, h4⟩ := h2.split P u
    cases h4
    rw [hmap, hv]
    split at h
    · cases h
      cases h1; cases h3
      refine ⟨_, ?_, .int _ _ .nil⟩
      simp [builtin, run_min_int2, mn]
    · cases h
  · rename_i x z _ hxs
    rw [hxs] at hreps
    obtain ⟨v, ws, hv, h1, h2⟩ := hreps.split P u
    obtain ⟨v2, ws2, rfl, h3, h4⟩ := h2.split P u
    cases h4
    rw [hmap, hv]
    split at h
    · cases h
      cases h1; cases h3
      refine ⟨_, ?_, .int _ _ .nil⟩
      simp [builtin, run_max_int2, mx]
    · cases h
  · rename_i x z y' _ hxs
    rw [hxs] at hreps
    obtain ⟨v, ws, hv, h1, h2⟩ := hreps.split P u
    obtain ⟨v2, ws2, rfl, h3, h4⟩ := h2.split P u
    obtain ⟨v3, ws3, rfl, h5, h6⟩ := h4.split P u
    cases h6
    rw [hmap, hv]
    split at h
    · cases h
      cases h1; cases h3; cases h5
      refine ⟨_, ?_, .int _ _ .nil⟩
      simp only [builtin, Sem.run_bind, Sem.run_map, Result.andThen, Sem.run_pure]
      rw [run_min_int3]
      rfl
    · cases h
  · rename_i x z y' _ hxs
    rw [hxs] at hreps
    obtain ⟨v, ws, hv, h1, h2⟩ := hreps.split P u
    obtain ⟨v2, ws2, rfl, h3, h4⟩ := h2.split P u
    obtain ⟨v3, ws3, rfl, h5, h6⟩ := h4.split P u
    cases h6
    rw [hmap, hv]
    split at h
    · cases h
      cases h1; cases h3; cases h5
      refine ⟨_, ?_, .int _ _ .nil⟩
      simp only [builtin, Sem.run_bind, Sem.run_map, Result.andThen, Sem.run_pure]
      rw [run_max_int3]
      rfl
    · cases h
  · cases h

theorem pure_sound (hu0 : Law P u) {w0 : W0} {O0 : Nat → Prop} {e : E A} {o : Oper} {ρ : Operand → Value} {ev : Operand → SV A} {c : Option Prop} {y : SV A} (hr : HR P u w0 O0 e) (hev : ∀ x, RepL P u e [ev x] [ρ x])
    (h : pureS P u e.own o ev = some (c, y)) (hc : holds c) : ∃ r, (execOp ρ o).run P e.w = .ok (.value r) e.w ∧ RepL P u e [y] [r] := by
  unfold pureS at h
  unfold execOp
  split at h <;> (first | (rename_i hop; rw [hop]) | skip)
  · cases h; exact ⟨_, rfl, hev _⟩
  · cases h; exact ⟨_, rfl, hev _⟩
  · obtain ⟨r, h1, h2⟩ := un_sound P u (hev _) (pure1_eq h); exact ⟨r, by simp [h1], h2⟩
  · rename_i op t x y' yt
    obtain ⟨r, h1, h2⟩ := bin1_sound P u hu0.eqv x y' (hev _) (hev _) h hc
    exact ⟨r, by rw [Sem.run_bind, h1]; rfl, h2⟩
  · obtain ⟨r, h1, h2⟩ := conv_sound P u hu0 hr (hev _) h hc; exact ⟨r, by simp [h1], h2⟩
  · split at h
    · rename_i r hr'
      cases h
      obtain ⟨r, h1, h2⟩ := loadA_sound P u hu0.part hu0.arr hr (hev _) hr' hc; exact ⟨r, by simp [h1], h2⟩
    · obtain ⟨r, h1, h2⟩ := load_sound P u hu0.proj hr (hev _) (pure1_eq h); exact ⟨r, by simp [h1], h2⟩
  · obtain ⟨r, h1, h2⟩ := fieldAddr_sound P u (hev _) (pure1_eq h); exact ⟨r, by simp [h1], h2⟩
  · obtain ⟨r, h1, h2⟩ := indexAddr_sound P u hu0.part (hev _) (hev _) h hc; exact ⟨r, by simp [h1], h2⟩
  · obtain ⟨r, h1, h2⟩ := index_sound P u (hev _) (hev _) h hc; exact ⟨r, by simp [h1], h2⟩
  · rename_i t x i
    split at h
    · rename_i cs f hx hf
      obtain ⟨fs, hu, hfi⟩ := fieldT_eq P hf
      obtain ⟨vs, hv, hl⟩ := aggC_rep P u (hev x) hx
      obtain ⟨r, h1, h2⟩ := part_sound P u hl (pure1_eq h)
      exact ⟨r, by simp [Instr.field, run_underlying hu, hfi, asAgg, hv, h1], h2⟩
    · cases h
  · rename_i t ps
    obtain ⟨r, h1, h2⟩ := build_sound P u hu0.bld (vs := ps.map fun (i, x) => (i, ρ x)) (by simpa using partsR P u hev ps.toList) (pure1_eq h)
    exact ⟨r, by simp only [Sem.run_bind, h1]; rfl, h2⟩
  · rename_i t x lo hi
    have hb : (∃ l d, bound d (lo.map ev) = some l) ∧ (∃ l d, bound d (hi.map ev) = some l) := by
      have hO : ∀ {id lo0 : Nat} {len0 lim : Int}, sliceO id lo0 len0 lim (lo.map ev) (hi.map ev) = some (c, y) → (∃ l d, bound d (lo.map ev) = some l) ∧ (∃ l d, bound d (hi.map ev) = some l) := by
        intro id lo0 len0 lim h
        unfold sliceO at h
        split at h
        · rename_i h1 h2; exact ⟨⟨_, _, h1⟩, ⟨_, _, h2⟩⟩
        · cases h
      unfold sliceS at h
      split at h
      · split at h
        · split at h
          · rename_i h1 h2; exact ⟨⟨_, _, h1⟩, ⟨_, _, h2⟩⟩
          · cases h
        · cases h
      · split at h
        · split at h
          · split at h
            · rename_i h1 h2; exact ⟨⟨_, _, h1⟩, ⟨_, _, h2⟩⟩
            · cases h
          · split at h
            · rename_i h1 h2; exact ⟨⟨_, _, h1⟩, ⟨_, _, h2⟩⟩
            · cases h
          · split at h
            · split at h
              · exact hO h
              · cases h
            · split at h
              · exact hO h
              · cases h
            · cases h
          · split at h
            · split at h
              · exact hO h
              · cases h
            · split at h
              · exact hO h
              · cases h
            · cases h
          · cases h
        · cases h
      · split at h
        case h_1 => cases h
        split at h
        · rename_i r hsa
          unfold sliceA at hsa
          split at hsa
          · split at hsa
            · rename_i h1 h2; exact ⟨⟨_, _, h1⟩, ⟨_, _, h2⟩⟩
            · cases hsa
          · cases hsa
        split at h
        · split at h
          · split at h
            · rename_i h1 h2 _; exact ⟨⟨_, _, h1⟩, ⟨_, _, h2⟩⟩
            · cases h
          · cases h
        · cases h
      · cases h
    obtain ⟨⟨l, d, h1⟩, ⟨l', d', h2⟩⟩ := hb
    obtain ⟨r, h3, h4⟩ := slice_sound P u hu0.part hr (hev x) (boundV P u hev lo h1) (boundV P u hev hi h2) h hc
    exact ⟨r, by simp [h3], h4⟩
  · rename_i t x lo hi m
    split at h
    · rename_i hi'
      split at h
      · rename_i n hn
        obtain ⟨a, len, cap, hv, hn2, hle⟩ := lenO_is P u (hev x) hn
        split at h
        · rename_i hcl
          cases h
          have hlo : BoundV (lo.map ev) (lo.map ρ) := by
            unfold cloneS at hcl
            split at hcl
            · split at hcl
              · split at hcl
                · rename_i h0 _ _
                  cases lo with
                  | none => exact .none
                  | some l => cases h0
                · cases hcl
              · cases hcl
            · cases hcl
          obtain ⟨r, h3, h4⟩ := clone_sound P u hv hlo (hev hi') (hev m) hcl
          exact ⟨r, by simp [h3], h4⟩
        · have hb : (∃ l d, bound d (lo.map ev) = some l) ∧ ∃ l d, bound d ((some hi').map ev) = some l := by
            unfold slice3S at h
            split at h
            · split at h
              · simp only at h
                split at h
                · rename_i h1 h2 h3
                  refine ⟨⟨_, _, h1⟩, ?_⟩
                  simp only [Option.some.injEq] at h2
                  exact ⟨_, 0, by simp only [Option.map, bound, h2]; rfl⟩
                · cases h
              · cases h
            · cases h
          obtain ⟨⟨l, d, h1⟩, ⟨l', d', h2⟩⟩ := hb
          obtain ⟨r, h3, h4⟩ := slice3_sound P u hv (n := n) (by omega) (boundV P u hev lo h1) (boundV P u hev (some hi') h2) (hev m) h hc
          have h3' : (Instr.sliceAt t (ρ x) (lo.map ρ) (some (ρ hi')) (some (ρ m))).run P e.w = .ok r e.w := h3
          exact ⟨r, by simp [h3'], h4⟩
      · cases h
    · cases h
  · rename_i x i
    split at h
    · rename_i l hx
      have hxr := hev x
      rw [hx] at hxr
      generalize hv : ρ x = vx at *
      cases hxr with
      | tup _ vs hl _ =>
        obtain ⟨r, h1, h2⟩ := get_rep P u (i := 0) hl (pure1_eq h)
        exact ⟨r, by simp [Instr.extract, hv, h1], h2⟩
    · cases h
  · rename_i fn first cap
    split at h
    · rename_i f hf hfirst
      cases h
      have hfn : fn = .func f := by unfold fnOf at hf; split at hf <;> cases hf; rfl
      have hfi : first = #[] := by cases first; simp_all
      subst hfn; subst hfi
      refine ⟨.func (.func f) #[] (cap.map ρ), by simp [Instr.makeFunc], ?_⟩
      have := reps P u hev cap.toList
      have hm : cap.map ρ = ⟨cap.toList.map ρ⟩ := by apply Array.ext'; simp
      rw [hm]
      exact .fn f _ _ this .nil
    · cases h
  · rename_i x
    have hxr := hev x
    split at h
    · rename_i id off hx
      rw [hx] at hxr
      split at h
      · rename_i hl
        cases h
        generalize hv : ρ x = vx at *
        cases hxr with
        | optr _ _ b cc h1 h2 h3 => exact ⟨_, by simp [hv], .optr _ _ b cc h1 h2 .nil⟩
        | optrD _ _ _ hd _ _ => simp [live, hd, Own.isVar] at hl
      · cases h
    · rename_i cs off hx
      rw [hx] at hxr
      cases h
      generalize hv : ρ x = vx at *
      cases hxr with
      | cptr _ _ b o cv h1 h2 h3 h4 _ => exact ⟨_, by simp [hv], .cptr _ _ b o cv h1 h2 h3 h4 .nil⟩
    · rename_i id i off hx
      rw [hx] at hxr
      split at h
      · rename_i hl
        cases h
        generalize hv : ρ x = vx at *
        cases hxr with
        | rptr _ _ _ b cc T ys h1 h2 h3 _ => exact ⟨_, by simp [hv], .rptr _ _ _ b cc T ys h1 h2 h3 .nil⟩
        | rptrD _ _ _ _ hd _ _ => simp [live, hd] at hl
      · cases h
    · cases h
  · obtain ⟨r, h1, h2⟩ := arrPtr_sound P u (hev _) h hc; exact ⟨r, by simp [h1], h2⟩
  · rename_i cc
    split at h
    · rename_i b hb
      obtain ⟨r, h1, h2⟩ := builtin_sound P u (ty := o.type) (cs := cc.args.map fun | .const _ => true | _ => false) hev (pure1_eq h)
      exact ⟨r, by simp only [resolve, hb, Sem.run_bind, Sem.run_pure, Result.andThen, invoke]; exact h1, h2⟩
    · cases h
  · cases h
end
end Go.Proofs.Ytndacggailoogaa.Sx
