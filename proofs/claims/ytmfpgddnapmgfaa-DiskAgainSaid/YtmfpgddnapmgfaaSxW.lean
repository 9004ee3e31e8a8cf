/- An abstract machine over values by content, eighth part, f: the operations that lay or write, one by one. -/
import Derived.Test.YtmfpgddnapmgfaaSxV
namespace Go.Proofs.Ytmfpgddnapmgfaa.Sx
open Go Go.RowKit

section
variable {A : Nat → Type} (P : Program) (u : U A)

/-- What an operation gives that lays or writes. -/
abbrev HRes (A : Nat → Type) := Option (Option Prop × SV A × Eff A)
def sameId (x : SV A) (id : Nat) : Bool := match x with
  | .osl i _ _ => Nat.beq i id
  | .orow i => Nat.beq i id
  | _ => false
def appendS (k : Nat) (own : Nat → Own A) (t1 t2 : TypeId) (x y : SV A) : HRes A := match P.underlying t1 with
  | some (.slice T) => if Nat.beq t2 t1 && okRow P T then (match contT P u own T y with
    | some ys => (match own k with
      | .free => (match x with
        | .nils => some (some (ys.length * bytesT P T ≤ 140737488355328), .orow k, [(k, .row T ys)])
        | .zsl => some (some (ys.length * bytesT P T ≤ 140737488355328), .orow k, [(k, .row T ys)])
        | .orow id => (match own id with
          | .row S xs => if h : S = T then some (some ((xs.length + ys.length) * bytesT P T ≤ 140737488355328), .orow k, [(id, .dead), (k, .row T ((h ▸ xs) ++ ys))]) else none
          | _ => none)
        | .osl id lo len => (match own id with
          | .row S xs => if h : S = T then (if Nat.beq lo 0 then (if sameId y id
              then some (some (len + ys.length ≤ xs.length), .osl id 0 (len + ys.length), [(id, .row T ((h ▸ xs).take len ++ ys ++ (h ▸ xs).drop (len + ys.length)))])
              else some (some ((len + ys.length) * bytesT P T ≤ 140737488355328), .orow k, [(id, .dead), (k, .row T ((h ▸ xs).take len ++ ys))])) else none) else none
          | _ => none)
        | _ => none)
      | _ => none)
    | none => none) else none
  | _ => none
def encN (T : Nat) (ys : List (A T)) : Nat → List (SV A)
  | 0 => []
  | n + 1 => encN T ys n ++ u.enc T (ys.getD n (u.dflt T))
/-- A copy into a part of an element. -/
def copyE {R S : Nat} (p : Option (PartU A R S)) (id idx lo len : Nat) (xs : List (A R)) (d : A R) (ys : List (A S)) : HRes A := match p with
  | some p => some (none, .int .i64 (min ys.length len : Nat), [(id, .row R (xs.set idx (p.put (xs.getD idx d) ((p.get (xs.getD idx d)).take lo ++ ys.take (min ys.length len) ++ (p.get (xs.getD idx d)).drop (lo + min ys.length len)))))])
  | none => none
def copyS (own : Nat → Own A) (t : TypeId) (x y : SV A) : HRes A := match P.underlying t with
  | some (.slice T) => if okRow P T then (match contT P u own T y with
    | some ys => (match x with
      | .orow id => (match own id with
        | .row S xs => if h : S = T then some (none, .int .i64 (min ys.length xs.length : Nat), [(id, .row T (ys.take xs.length ++ (h ▸ xs).drop (min ys.length xs.length)))]) else none
        | _ => none)
      | .osl id lo len => (match own id with
        | .row S xs => if h : S = T then some (none, .int .i64 (min ys.length len : Nat), [(id, .row T ((h ▸ xs).take lo ++ ys.take len ++ (h ▸ xs).drop (lo + min ys.length len)))]) else none
        | _ => none)
      | .esl id idx off S lo len => (match own id with
        | .row R xs => if h : S = T then copyE (h ▸ u.part R off S) id idx lo len xs (u.dflt R) ys else none
        | _ => none)
      | .vsl id off len => (match own id with
        | .var cs => if P.cellsOf T = 1 ∧ off + len ≤ cs.length ∧ (encN u T ys len).length = len then some (some (len ≤ ys.length), .int .i64 (min ys.length len : Nat), [(id, .var (setAt cs off (encN u T ys len)))]) else none
        | _ => none)
      | _ => none)
    | none => none) else none
  | _ => none
def clearS (own : Nat → Own A) (t : TypeId) (x : SV A) : HRes A := match P.underlying t with
  | some (.slice T) => if okRow P T then (match zeroEl P u T with
    | some z => (match x with
      | .osl id lo len => (match own id with
        | .row S xs => if h : S = T then some (none, .tup [], [(id, .row T ((h ▸ xs).take lo ++ List.replicate len z ++ (h ▸ xs).drop (lo + len)))]) else none
        | _ => none)
      | _ => none)
    | none => none) else none
  | _ => none
def makeS (k : Nat) (own : Nat → Own A) (t : TypeId) (l c : SV A) : HRes A := match P.underlying t with
  | some (.slice T) => if okRow P T then (match zeroEl P u T with
    | some z => (match own k with
      | .free => (match l with
        | .int _ l => (match c with
          | .int _ c => some (some (0 ≤ l ∧ l ≤ c ∧ (bytesT P T : Int) * c ≤ 281474976710656 ∧ c ≤ 9223372036854775807), .orow k, [(k, .row T (List.replicate l.toNat z))])
          | _ => none)
        | _ => none)
      | _ => none)
    | none => none) else none
  | _ => none
def isStrT (t : TypeId) : Bool := match P.underlying t with | some .string => true | _ => false
def strNums (s : ByteArray) : List Int := s.data.toList.map fun b => (b.toNat : Int)
def convH (k : Nat) (own : Nat → Own A) (s d : TypeId) (x : SV A) : HRes A := match P.underlying d with
  | some (.slice T) => match P.underlying T with
    | some (.int .u8) => (match x with
      | .str b => if u.isByte T ∧ P.cellsOf T = 1 ∧ isStrT P s then (match own k with
        | .free => some (none, .orow k, [(k, .row T (u.ofNums T (strNums b)))])
        | _ => none) else none
      | .orow id => if Nat.beq s d then (match own id with
        | .row _ xs => some (some (0 < xs.length), .orow id, [])
        | _ => none) else none
      | _ => none)
    | _ => none
  | _ => none

theorem append_sound (hu : Law P u) {w0 : W0} {O0 : Nat → Prop} {e : E A} (hr : HR P u w0 O0 e) {k t1 t2 ty : Nat} {x y r : SV A} {vx vy : Value} {c : Option Prop} {f : Eff A} (hx : RepL P u e [x] [vx]) (hy : RepL P u e [y] [vy])
    (h : appendS P u k e.own t1 t2 x y = some (c, r, f)) (hc : holds c) :
    ∃ v' e', (Builtin.append_ #[t1, t2] ty #[vx, vy]).run P e.w = .ok v' e'.w ∧ HR P u w0 O0 e' ∧ Ext e e' ∧ e'.own = updL e.own f ∧ RepL P u e' [r] [v'] := by
  unfold appendS at h
  split at h
  case h_2 => cases h
  rename_i T ht
  split at h
  case isFalse => cases h
  rename_i hT
  simp only [Bool.and_eq_true] at hT
  obtain ⟨h12, hT⟩ := hT
  have h12 := Nat.eq_of_beq_eq_true h12
  subst h12
  split at h
  case h_2 => cases h
  rename_i ys hys
  have hyi := cont_is P u hu hr hy hys
  split at h
  case h_2 => cases h
  rename_i hk
  split at h
  · cases h; cases hx
    exact append_nil P u hr ht hT hk hyi hc
  · cases h; cases hx
    exact append_nil P u hr ht hT hk hyi hc
  · rename_i id
    split at h
    case h_2 => cases h
    rename_i S xs ho
    split at h
    case isFalse => cases h
    rename_i hST
    subst hST
    cases h
    have := append_own P u hu hr (ty := ty) ht hT hk ho (orow_osl P u (.inl ho) hx) hyi hc
    simpa [updL] using this
  · rename_i id lo len
    split at h
    case h_2 => cases h
    rename_i S xs ho
    split at h
    case isFalse => cases h
    rename_i hST
    subst hST
    split at h
    case isFalse => cases h
    rename_i hlo
    have hlo := Nat.eq_of_beq_eq_true hlo
    subst hlo
    split at h
    · cases h
      have h1 : len + ys.length ≤ xs.length := hc
      have := append_in P u hu hr (ty := ty) ht hT ho hx hyi (by omega)
      simpa [updL] using this
    · cases h
      have := append_own P u hu hr (ty := ty) ht hT hk ho hx hyi hc
      simpa [updL] using this
  · cases h
theorem osl_le {e : E A} {id lo len T : Nat} {xs : List (A T)} {v : Value} (ho : e.own id = .row T xs) (hx : RepL P u e [.osl id lo len] [v]) : lo + len ≤ xs.length := by
  have hsame : ∀ {T2 : Nat} {zs : List (A T2)}, (e.own id = .row T2 zs ∨ e.own id = .fro T2 zs) → T2 = T ∧ HEq zs xs := by
    intro T2 zs hv
    rw [ho] at hv
    rcases hv with hv | hv <;> cases hv
    exact ⟨rfl, HEq.rfl⟩
  cases hx with
  | oslD _ _ _ _ hd _ _ => rw [ho] at hd; cases hd
  | oslZ _ _ T2 zs a hv hlo _ => obtain ⟨rfl, hh⟩ := hsame hv; cases hh; omega
  | osl _ _ _ b c cap T2 zs hv hβ hle hcc _ => obtain ⟨rfl, hh⟩ := hsame hv; cases hh; omega
theorem encN_get (hu : Law P u) {T n : Nat} {ys : List (A T)} (h : (encN u T ys n).length = n) (hc : P.cellsOf T = 1) {e : E A} {vss : Nat → List Value} (hz : ∀ i, i < n → (vss i).length = 1) (hn : n ≤ ys.length) (hx : ∀ (i : Nat) (x : A T), ys[i]? = some x → RepL P u e (u.enc T x) (vss i)) :
    ∀ m, m ≤ n → RepL P u e (encN u T ys m) (blk vss m)
  | 0, _ => .nil
  | m + 1, hm => by
    have h1 := encN_get hu h hc hz hn hx m (by omega)
    have hg : ys[m]? = some (ys.getD m (u.dflt T)) := by simp [List.getD, List.getElem?_eq_getElem (show m < ys.length by omega)]
    exact h1.append P u (hx m _ hg)
theorem copy_sound (hu : Law P u) {w0 : W0} {O0 : Nat → Prop} {e : E A} (hr : HR P u w0 O0 e) {t t2 ty : Nat} {x y r : SV A} {vx vy : Value} {c : Option Prop} {f : Eff A} (hx : RepL P u e [x] [vx]) (hy : RepL P u e [y] [vy])
    (h : copyS P u e.own t x y = some (c, r, f)) (hc : holds c) :
    ∃ v' e', (Builtin.copy_ #[t, t2] ty #[vx, vy]).run P e.w = .ok v' e'.w ∧ HR P u w0 O0 e' ∧ Ext e e' ∧ e'.own = updL e.own f ∧ RepL P u e' [r] [v'] := by
  unfold copyS at h
  split at h
  case h_2 => cases h
  rename_i T ht
  split at h
  case isFalse => cases h
  rename_i hT
  split at h
  case h_2 => cases h
  rename_i ys hys
  have hyi := cont_is P u hu hr hy hys
  split at h
  · rename_i id
    split at h
    case h_2 => cases h
    rename_i S xs ho
    split at h
    case isFalse => cases h
    rename_i hST
    subst hST
    cases h
    obtain ⟨e', h1, h2, h3, h4⟩ := copy_row P u hu hr (t2 := t2) (ty := ty) ht hT ho (orow_osl P u (.inl ho) hx) (by omega) hyi
    refine ⟨_, e', h1, h2, h3, ?_, .int _ _ .nil⟩
    rw [h4]
    simp [updL]
  · rename_i id lo len
    split at h
    case h_2 => cases h
    rename_i S xs ho
    split at h
    case isFalse => cases h
    rename_i hST
    subst hST
    cases h
    obtain ⟨e', h1, h2, h3, h4⟩ := copy_row P u hu hr (t2 := t2) (ty := ty) ht hT ho hx (osl_le P u ho hx) hyi
    exact ⟨_, e', h1, h2, h3, h4, .int _ _ .nil⟩
  · rename_i id idx off S lo len
    split at h
    case h_2 => cases h
    rename_i R xs ho
    split at h
    case isFalse => cases h
    rename_i hST
    subst hST
    unfold copyE at h
    split at h
    case h_2 => cases h
    rename_i p hp0
    cases h
    have hp := hu.part _ _ _ _ hp0
    obtain ⟨i, z, hi, hz, hzs, hs, hbt, hcs, hbs, _⟩ := okRow_spec P hT
    obtain ⟨a, m, cp, rfl, hl, vss, hzv, hxv, hfirst⟩ := take_is P u (n := 0) hyi (by rw [hcs]; exact hs)
    subst hl
    cases hx with
    | eslD _ _ _ _ _ _ _ hd _ _ => rw [ho] at hd; cases hd
    | esl _ _ _ _ _ _ b c cap T2 zs hv hβ hidx hcap hpn _ =>
      have hsame : T2 = R ∧ HEq zs xs := by
        rw [ho] at hv; rcases hv with hv | hv <;> cases hv; exact ⟨rfl, HEq.rfl⟩
      obtain ⟨rfl, hh⟩ := hsame
      cases hh
      have hpn := hpn p hp0
      have hmn : min ys.length len ≤ ys.length := Nat.min_le_left _ _
      have hml : min ys.length len ≤ len := Nat.min_le_right _ _
      have hfit := hp.fits
      have hf := hfirst (min ys.length len) hmn
      rw [hcs] at hf
      generalize hnn : min ys.length len = n at *
      have hzv1 : ∀ i, i < n → (vss i).length = 1 := fun i hi => by rw [hzv i (by omega), hp.one]
      have hbl : (blk vss n).length = n := by rw [blk_length hzv1, Nat.mul_one]
      obtain ⟨e', h1, h2, h3, h4, _⟩ := hr.putEl P u (idx := idx) (off := off + lo) (ns := blk vss n) (y := p.put (zs.getD idx (u.dflt T2)) ((p.get (zs.getD idx (u.dflt T2))).take lo ++ ys.take n ++ (p.get (zs.getD idx (u.dflt T2))).drop (lo + n))) ho hβ hidx (blk_one P u hu hxv hmn) (by omega) (fun vs hvs _ => part_put P u hp hvs hbl hmn (by omega) (fun i z v hi hz hv => by
        have hb := blk_get hzv1 i 0 hi Nat.one_pos
        rw [Nat.mul_one, Nat.add_zero] at hb
        rw [hb] at hv
        have hr1 := hxv i z hz
        have hl1 := hzv1 i hi
        generalize vss i = l at hv hr1 hl1
        match l, hl1 with
        | [w], _ => cases hv; exact hr1))
      refine ⟨.int .i64 (n : Nat), e', ?_, h2, h3, h4, .int _ _ .nil⟩
      have hmin : Nat.min ys.length len = n := hnn
      rw [← Nat.add_assoc] at h1
      have hone : i.size = 1 := by rw [← hcs, hp.one]
      rw [hone] at hf
      simp [Builtin.copy_, run_underlying ht, sizeOf, typeInfo, hi, Builtin.lenOf, hmin, hf, goInt, h1, hone]
  · rename_i id off len
    split at h
    case h_2 => cases h
    rename_i cs ho
    split at h
    case isFalse => cases h
    rename_i hcond
    obtain ⟨hone, hfit, henc⟩ := hcond
    cases h
    have hle : len ≤ ys.length := hc
    obtain ⟨i, z, hi, hz, hzs, hs, hbt, hcs, hbs, _⟩ := okRow_spec P hT
    obtain ⟨a, m, cp, rfl, hl, vss, hzv, hxv, hfirst⟩ := take_is P u (n := 0) hyi (by rw [hcs]; exact hs)
    subst hl
    have hent := hr.ent id
    rw [ho] at hent
    obtain ⟨b, c', vs, T', hβ, hfr, hheap, hrep⟩ := hent
    cases hx with
    | vslD _ _ _ _ hd _ _ => rw [ho] at hd; cases hd
    | vsl _ _ _ b2 c2 cap hv hβ2 hcap _ =>
      rw [hβ] at hβ2; cases hβ2
      have hf := hfirst len hle
      have hzv1 : ∀ i, i < len → (vss i).length = 1 := fun i hi => by rw [hzv i (by omega), hone]
      have hbl : (blk vss len).length = len := by rw [blk_length hzv1, Nat.mul_one]
      have hvs : cs.length = vs.length := hrep.length
      have hen := encN_get P u hu henc hone hzv1 hle hxv len (Nat.le_refl _)
      have hst := run_storeCells_fz P b off T' (0, 0) (blk vss len) 0 ⟨vs⟩ e.w hheap (.inl rfl) (by simp only [List.size_toArray]; omega) (blk_one P u hu hxv hle)
      simp only [Nat.add_zero] at hst
      obtain ⟨hext, hmk⟩ := hr.set P u (k := id) (o := .var (setAt cs off (encN u T ys len))) (cs := (vs.take off ++ blk vss len ++ vs.drop (off + (blk vss len).length)).toArray) (by rw [ho]; rfl) hβ rfl (by rw [ho]; exact .var _ _)
      refine ⟨.int .i64 (min ys.length len : Nat), _, ?_, hmk ?_, hext, rfl, .int _ _ .nil⟩
      · have hmin : Nat.min ys.length len = len := Nat.min_eq_right hle
        have hmin2 : min ys.length len = len := Nat.min_eq_right hle
        rw [hcs] at hf
        simp [Builtin.copy_, run_underlying ht, sizeOf, typeInfo, hi, Builtin.lenOf, hmin, hf, goInt, hst, hmin2]
        rfl
      · refine ⟨b, c', _, T', hβ, hfr, setRow_heap _ _ _ _ _ _ hheap, ?_⟩
        have h5 := ((hrep.take P u off).append P u hen).append P u (hrep.drop P u (off + (encN u T ys len).length))
        rw [show (encN u T ys len).length = (blk vss len).length by rw [hbl, henc]] at h5
        have h6 : RepL P u e (setAt cs off (encN u T ys len)) (vs.take off ++ blk vss len ++ vs.drop (off + (blk vss len).length)) := by
          unfold setAt
          rw [show (encN u T ys len).length = (blk vss len).length by rw [hbl, henc]]
          exact h5
        exact h6.ext P u hext
  · cases h
theorem clear_sound (hu : Law P u) {w0 : W0} {O0 : Nat → Prop} {e : E A} (hr : HR P u w0 O0 e) {t ty : Nat} {x r : SV A} {vx : Value} {c : Option Prop} {f : Eff A} (hx : RepL P u e [x] [vx]) (h : clearS P u e.own t x = some (c, r, f)) :
    ∃ v' e', (Builtin.clear_ #[t] ty #[vx]).run P e.w = .ok v' e'.w ∧ HR P u w0 O0 e' ∧ Ext e e' ∧ e'.own = updL e.own f ∧ RepL P u e' [r] [v'] := by
  unfold clearS at h
  split at h
  case h_2 => cases h
  rename_i T ht
  split at h
  case isFalse => cases h
  rename_i hT
  split at h
  case h_2 => cases h
  rename_i z hz
  split at h
  case h_2 => cases h
  rename_i id lo len
  split at h
  case h_2 => cases h
  rename_i S xs ho
  split at h
  case isFalse => cases h
  rename_i hST
  subst hST
  cases h
  have hle := osl_le P u ho hx
  obtain ⟨i, zv, hi, hzv, hrep⟩ := zeroEl_rep P u hu (e := e) hz
  obtain ⟨i', z', hi', hz', hzs, hs, hbt, hcs, hbs, _⟩ := okRow_spec P hT
  rw [hi] at hi'; cases hi'
  rw [hzv] at hz'; cases hz'
  have hsame : ∀ {T2 : Nat} {zs : List (A T2)}, (e.own id = .row T2 zs ∨ e.own id = .fro T2 zs) → T2 = S ∧ HEq zs xs := by
    intro T2 zs hv
    rw [ho] at hv
    rcases hv with hv | hv <;> cases hv
    exact ⟨rfl, HEq.rfl⟩
  have hz0 : ∀ {w : World}, (zeroValue S).run P w = .ok zv w := by intro w; simp [zeroValue, typeInfo, hi, hzv]
  cases hx with
  | oslD _ _ _ _ hd _ _ => rw [ho] at hd; cases hd
  | oslZ _ _ T2 zs ab hv hlo _ =>
    obtain ⟨rfl, hh⟩ := hsame hv
    cases hh
    have hupd : upd e.own id (.row T2 (zs.take lo ++ List.replicate 0 z ++ zs.drop (lo + 0))) = e.own := by
      funext q
      by_cases hq : q = id
      · subst hq; rw [upd_same, ho]; simp
      · rw [upd_ne _ _ hq]
    refine ⟨.tuple #[], e, ?_, hr, .refl e, hupd.symm, .tup [] [] .nil .nil⟩
    cases ab with
    | none => simp [Builtin.clear_, run_underlying ht]
    | some ad => simp [Builtin.clear_, run_underlying ht]
  | osl _ _ _ b c cap T2 zs hv hβ hle2 hcc _ =>
    obtain ⟨rfl, hh⟩ := hsame hv
    cases hh
    obtain ⟨e', h1, h2, h3, h4, h5⟩ := hr.splice P u hu (lo := lo) (ys := List.replicate len z) (vss := fun _ => zv.cells.toList) (by rw [hcs]; exact hs) ho hβ (by simpa using hle) (fun i x hi => by
      rw [List.getElem?_replicate] at hi
      split at hi
      · cases hi; exact hrep
      · cases hi) (fun i hi => by simp [hzs, hcs])
    simp only [List.length_replicate] at h1 h4
    refine ⟨.tuple #[], e', ?_, h2, h3, h4, .tup [] [] .nil .nil⟩
    have hzb := zero_blk (z := zv.cells) (by omega) len
    cases len with
    | zero =>
      have : e'.w = e.w := by
        simp [blk, storeCells] at h1
        exact h1.symm
      rw [this]
      simp [Builtin.clear_, run_underlying ht]
    | succ len =>
      simp only [Builtin.clear_]
      simp [run_underlying ht, hz0, hzb, h1]
theorem make_sound (hu : Law P u) {w0 : W0} {O0 : Nat → Prop} {e : E A} (hr : HR P u w0 O0 e) {k t : Nat} {x y r : SV A} {vx vy : Value} {c : Option Prop} {f : Eff A} (hx : RepL P u e [x] [vx]) (hy : RepL P u e [y] [vy])
    (h : makeS P u k e.own t x y = some (c, r, f)) (hc : holds c) :
    ∃ v' e', (Instr.makeSlice t vx vy).run P e.w = .ok v' e'.w ∧ HR P u w0 O0 e' ∧ Ext e e' ∧ e'.own = updL e.own f ∧ RepL P u e' [r] [v'] := by
  unfold makeS at h
  split at h
  case h_2 => cases h
  rename_i T ht
  split at h
  case isFalse => cases h
  rename_i hT
  split at h
  case h_2 => cases h
  rename_i z hz
  split at h
  case h_2 => cases h
  rename_i hk
  split at h
  case h_2 => cases h
  rename_i kl l
  split at h
  case h_2 => cases h
  rename_i kc cc
  cases h
  cases hx; cases hy
  obtain ⟨i, zv, hi, hzv, hrep⟩ := zeroEl_rep P u hu (e := e) hz
  obtain ⟨i', z', hi', hz', hzs, hs, hbt, hcs, hbs, _⟩ := okRow_spec P hT
  rw [hi] at hi'; cases hi'
  rw [hzv] at hz'; cases hz'
  obtain ⟨c0, c1, c2, c3⟩ : 0 ≤ l ∧ l ≤ cc ∧ (bytesT P T : Int) * cc ≤ 281474976710656 ∧ cc ≤ 9223372036854775807 := hc
  rw [hbs] at c2
  have hrun := run_make (P := P) e.w t T i zv ht hi hzv kl kc l cc c0 c1 c2 c3
  have hmz : (madeCells zv.cells (cc.toNat * i.size)).toList = blk (fun _ => zv.cells.toList) cc.toNat := by
    rw [← zero_blk (by omega) cc.toNat]
    simp [madeCells, Builtin.zeroCells, hzs]
  obtain ⟨e', h1, h2, h3, h4, h5⟩ := hr.newRow P u (k := k) (T := T) (c := cc.toNat) (xs := List.replicate l.toNat z) (arr := (madeCells zv.cells (cc.toNat * i.size)).toList) (T' := T) (fz := (0, 0)) (vss := fun _ => zv.cells.toList) hk
    (w' := e.w.alloc (.cells (madeCells zv.cells (cc.toNat * i.size)) T)) rfl rfl rfl rfl (.inl rfl) (by rw [hcs]; simp [size_madeCells]) (by simp; omega) (fun i x hi => by
      rw [List.getElem?_replicate] at hi
      split at hi
      · cases hi; exact hrep
      · cases hi) (fun i hi => by simp [hzs, hcs]) (by
      intro i' j hi' hj
      rw [hmz]
      have := blk_get (vss := fun _ => zv.cells.toList) (s := P.cellsOf T) (m := cc.toNat) (fun i _ => by simp [hzs, hcs]) i' j (by simp at hi'; omega) hj
      exact this)
  refine ⟨_, e', ?_, h2, h3, h4, h5⟩
  rw [hrun, h1]
  simp
end
end Go.Proofs.Ytmfpgddnapmgfaa.Sx
