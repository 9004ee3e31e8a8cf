/- Tries: the plain parts of the laws that put and take many. -/
import Derived.Test.YtndacggailoogaaTrieSpecC
namespace Go.Proofs.Ytndacggailoogaa.Tri
open Go Go.Proofs.Ytndacggailoogaa.Sx

theorem headA_len (xs : List Act) (m : Int) (hm : 0 ≤ m) : (headA xs m).length ≤ m.toNat ∧ ((headA xs m).length : Int) = mn (xs.length : Int) m ∧ (0 ≤ mn (xs.length : Int) m ∧ mn (xs.length : Int) m ≤ (xs.length : Int)) := by
  have h1 : mn (xs.length : Int) m = if m < (xs.length : Int) then m else (xs.length : Int) := rfl
  have h2 : (headA xs m).length = min (mn (xs.length : Int) m).toNat xs.length := by
    unfold headA
    rw [List.length_drop, List.length_take, Nat.sub_zero]
  rw [h2]
  split at h1 <;> omega
theorem head_mem {xs : List Act} {m : Int} {x : Act} (h : x ∈ headA xs m) : x ∈ xs := by
  unfold headA at h
  exact List.mem_of_mem_take (List.mem_of_mem_drop h)
theorem get_mem {α : Type} {d : α} {l : List α} {k : Nat} (h : k < l.length) : l.getD k d ∈ l := by
  rw [List.getD_eq_getElem?_getD, List.getElem?_eq_getElem h]
  exact List.getElem_mem h
theorem head_ok {xs : List Act} (h : actsOk xs) {m : Int} {k : Nat} (hk : k < (headA xs m).length) : actOk ((headA xs m).getD k zeroA) := h.2 _ (head_mem (get_mem hk))
theorem act_B32 {x : Act} (h : actOk x) : B32 (actB x) := by
  obtain ⟨_, _, h3, h4⟩ := h
  unfold actB
  split
  · exact h4
  · exact (block_V (a := IntKind.u32.wrap (167772160 + x.addr.tmod 2048)) (b := x.bits) (by rw [IntKind.wrap_u32]; omega) h3).1
theorem wrap_k {k : Nat} (h : k < 1000000000001) : IntKind.i64.wrap ((k : Int) + 1) = ((k + 1 : Nat) : Int) := by rw [wrap_i64_id (by omega)]; omega
theorem tri_zero : TrI 0 ⟨0, [nd0], []⟩ := ⟨rel_new, rfl, Nat.le_refl _⟩
/-- One deed: a prefix is put. -/
theorem put_act {k : Nat} {g : Tr} {b : Blk} (i : TrI k g) (hk : k < 1000) (hb : B32 b) :
    (rightA b.base b.bits = true ∧ ¬ b ∈ g.all ∧ putE g.ns b.base b.bits = 0 ∧ TrI (k + 1) ⟨(putM g.n g.ns b.base b.bits).1, (putM g.n g.ns b.base b.bits).2, g.all ++ [b]⟩) ∨
    (rightA b.base b.bits = true ∧ b ∈ g.all ∧ putE g.ns b.base b.bits = 6 ∧ TrI (k + 1) ⟨(putM g.n g.ns b.base b.bits).1, (putM g.n g.ns b.base b.bits).2, g.all⟩) ∨
    (rightA b.base b.bits = false ∧ ¬ b ∈ g.all ∧ putE g.ns b.base b.bits = 12 ∧ TrI (k + 1) ⟨(putM g.n g.ns b.base b.bits).1, (putM g.n g.ns b.base b.bits).2, g.all⟩) := by
  obtain ⟨i1, i2, i3⟩ := i
  cases hr : rightA b.base b.bits with
  | false =>
    right; right
    obtain ⟨h1, h2⟩ := put_wrong (n := g.n) (ns := g.ns) hr
    exact ⟨rfl, fun h => (by have := (i1.val b h).2; rw [hr] at this; cases this), h1, by rw [h2]; exact ⟨i1, i2, Nat.le_succ_of_le i3⟩⟩
  | true =>
    have hv : V b := ⟨hb, hr⟩
    by_cases hm : b ∈ g.all
    · right; left
      obtain ⟨h1, h2⟩ := i1.put_old (n := g.n) hv hm
      exact ⟨rfl, hm, (i1.putE hv).1 hm, ⟨h2, h1.trans i2, Nat.le_succ_of_le i3⟩⟩
    · left
      obtain ⟨h1, h2⟩ := i1.put_new (n := g.n) hv hm
      refine ⟨rfl, hm, (i1.putE hv).2 hm, ⟨h2, ?_, ?_⟩⟩
      · show (putM g.n g.ns b.base b.bits).1 = _
        rw [h1, i2, wrap_k (by omega), List.length_append]; rfl
      · show (g.all ++ [b]).length ≤ _
        rw [List.length_append]; exact Nat.succ_le_succ i3
theorem put_some {k : Nat} {g : Tr} {b : Blk} (i : TrI k g) (hk : k < 1000) (hb : B32 b) :
    ∃ l, TrI (k + 1) ⟨(putM g.n g.ns b.base b.bits).1, (putM g.n g.ns b.base b.bits).2, l⟩ ∧ ∀ e, e ∈ l ↔ e ∈ g.all ∨ (V e ∧ b = e) := by
  rcases put_act i hk hb with ⟨h1, h2, _, h3⟩ | ⟨h1, h2, _, h3⟩ | ⟨h1, h2, _, h3⟩
  · refine ⟨_, h3, fun e => ?_⟩
    rw [List.mem_append, List.mem_singleton]
    constructor
    · rintro (h | rfl)
      · exact .inl h
      · exact .inr ⟨⟨hb, h1⟩, rfl⟩
    · rintro (h | ⟨_, rfl⟩)
      · exact .inl h
      · exact .inr rfl
  · refine ⟨_, h3, fun e => ⟨.inl, ?_⟩⟩
    rintro (h | ⟨_, rfl⟩)
    · exact h
    · exact h2
  · refine ⟨_, h3, fun e => ⟨.inl, ?_⟩⟩
    rintro (h | ⟨hv, rfl⟩)
    · exact h
    · rw [hv.2] at h1; cases h1
/-! ### in whichever order -/
theorem take_get {α : Type} {d : α} {l : List α} {k : Nat} (h : k < l.length) : l.take (k + 1) = l.take k ++ [l.getD k d] := by
  rw [List.take_add_one, List.getD_eq_getElem?_getD, List.getElem?_eq_getElem h]; rfl
theorem drop_get {α : Type} {d : α} {l : List α} {k : Nat} (h : k < l.length) : l.drop k = l.getD k d :: l.drop (k + 1) := by
  rw [List.getD_eq_getElem?_getD, List.getElem?_eq_getElem h, List.drop_eq_getElem_cons h]; rfl
theorem ord_zero (xs : List Act) : OrdI xs 0 ⟨0, [nd0], []⟩ ⟨0, [nd0], []⟩ := by
  refine ⟨tri_zero, tri_zero, fun e => ⟨fun h => (by cases h), fun h => ?_⟩, fun e => ⟨fun h => (by cases h), fun h => ?_⟩⟩
  · obtain ⟨_, a, h, _⟩ := h
    cases h
  · obtain ⟨_, a, h, _⟩ := h
    rw [Nat.sub_zero, List.drop_length] at h
    cases h
theorem ord_step {xs : List Act} {k : Nat} {g h : Tr} (i : OrdI xs k g h) (hk : k < xs.length) (hk2 : k < 1000) {a b : Blk} (ha : a = actB (xs.getD k zeroA)) (hb : b = actB (xs.getD (xs.length - 1 - k) zeroA)) (ha2 : B32 a) (hb2 : B32 b) :
    ∃ l m, OrdI xs (k + 1) ⟨(putM g.n g.ns a.base a.bits).1, (putM g.n g.ns a.base a.bits).2, l⟩ ⟨(putM h.n h.ns b.base b.bits).1, (putM h.n h.ns b.base b.bits).2, m⟩ := by
  obtain ⟨i1, i2, i3, i4⟩ := i
  obtain ⟨l, j1, j2⟩ := put_some i1 hk2 ha2
  obtain ⟨m, j3, j4⟩ := put_some i2 hk2 hb2
  refine ⟨l, m, j1, j3, fun e => ?_, fun e => ?_⟩
  · show e ∈ l ↔ _
    rw [j2, i3, take_get (d := zeroA) hk]
    constructor
    · rintro (⟨hv, x, hx, he⟩ | ⟨hv, he⟩)
      · exact ⟨hv, x, List.mem_append_left _ hx, he⟩
      · exact ⟨hv, _, List.mem_append_right _ (List.mem_singleton.2 rfl), by rw [← ha]; exact he⟩
    · rintro ⟨hv, x, hx, he⟩
      rcases List.mem_append.1 hx with hx | hx
      · exact .inl ⟨hv, x, hx, he⟩
      · rw [List.mem_singleton.1 hx, ← ha] at he
        exact .inr ⟨hv, he⟩
  · show e ∈ m ↔ _
    have hd : xs.drop (xs.length - (k + 1)) = xs.getD (xs.length - 1 - k) zeroA :: xs.drop (xs.length - k) := by
      rw [show xs.length - (k + 1) = xs.length - 1 - k by omega, drop_get (d := zeroA) (by omega), show xs.length - 1 - k + 1 = xs.length - k by omega]
    rw [j4, i4, hd]
    constructor
    · rintro (⟨hv, x, hx, he⟩ | ⟨hv, he⟩)
      · exact ⟨hv, x, List.mem_cons_of_mem _ hx, he⟩
      · exact ⟨hv, _, List.mem_cons_self .., by rw [← hb]; exact he⟩
    · rintro ⟨hv, x, hx, he⟩
      rcases List.mem_cons.1 hx with hx | hx
      · rw [hx, ← hb] at he
        exact .inr ⟨hv, he⟩
      · exact .inl ⟨hv, x, hx, he⟩
theorem ord_end {xs : List Act} {k : Nat} {g h : Tr} (i : OrdI xs k g h) (hk : xs.length ≤ k) : allM g.ns = allM h.ns ∧ (allM g.ns).length = g.all.length ∧ g.n = ((allM g.ns).length : Int) := by
  obtain ⟨i1, i2, i3, i4⟩ := i
  obtain ⟨p1, p2, p3⟩ := i1.rel.all
  obtain ⟨q1, q2, q3⟩ := i2.rel.all
  have he : allM g.ns = allM h.ns := by
    refine sorted_eq p2 q2 fun e => ?_
    rw [p1, q1, i3, i4, List.take_of_length_le hk, show xs.length - k = 0 by omega, List.drop_zero]
  exact ⟨he, p3, by rw [p3]; exact i1.num⟩
/-! ### who takes all -/
theorem down_zero {k : Nat} {g : Tr} (i : TrI k g) (hk : k ≤ 60) : DownI 0 g := by
  obtain ⟨i1, i2, i3⟩ := i
  refine ⟨by rw [Nat.sub_zero, List.take_length]; exact i1, i2, Nat.zero_le _, i1.nd, fun e he => (i1.val e he).1, by omega⟩
theorem down_step {k : Nat} {g : Tr} (i : DownI k g) (hk : k < g.all.length) {e : Blk} (he : e = g.all.getD (g.all.length - 1 - k) zeroB) {s : Int × List Nd} (hs : s = takeM g.n g.ns e.base e.bits) :
    takeE g.ns e.base e.bits = 0 ∧ takeE s.2 e.base e.bits = 7 ∧ takeM s.1 s.2 e.base e.bits = s ∧ DownI (k + 1) ⟨s.1, s.2, g.all⟩ := by
  obtain ⟨i1, i2, i3, i4, i5, i6⟩ := i
  have hem : e ∈ g.all := by rw [he]; exact get_mem (by omega)
  have hb := i5 e hem
  have ht : g.all.take (g.all.length - k) = g.all.take (g.all.length - (k + 1)) ++ [e] := by
    rw [show g.all.length - k = g.all.length - 1 - k + 1 by omega, take_get (d := zeroB) (by omega), ← he, show g.all.length - 1 - k = g.all.length - (k + 1) by omega]
  have hnd : (g.all.take (g.all.length - (k + 1))).Nodup := List.Nodup.sublist (List.take_sublist _ _) i4
  have hnd2 : (g.all.take (g.all.length - (k + 1)) ++ [e]).Nodup := by rw [← ht]; exact List.Nodup.sublist (List.take_sublist _ _) i4
  have hne : ¬ e ∈ g.all.take (g.all.length - (k + 1)) := by
    intro h
    rw [List.nodup_append] at hnd2
    exact hnd2.2.2 e h e (List.mem_singleton.2 rfl) rfl
  have hin : e ∈ g.all.take (g.all.length - k) := by rw [ht]; exact List.mem_append_right _ (List.mem_singleton.2 rfl)
  obtain ⟨t1, t2⟩ := i1.take (n := g.n) hin hnd (fun x => by
    rw [ht, List.mem_append, List.mem_singleton]
    constructor
    · intro h; exact ⟨.inl h, fun hx => hne (hx ▸ h)⟩
    · rintro ⟨h | h, hx⟩
      · exact h
      · exact absurd h hx)
  rw [← hs] at t1 t2
  obtain ⟨u1, u2⟩ := (t2.takeE hb).2 hne
  refine ⟨(i1.takeE hb).1 hin, u1, u2 _, t2, ?_, hk, i4, i5, i6⟩
  show s.1 = _
  rw [t1, i2, wrap_i64_id (by omega)]
  show _ = ((g.all.length - (k + 1) : Nat) : Int)
  omega
theorem down_end {k : Nat} {g : Tr} (i : DownI k g) (hk : g.all.length ≤ k) : g.n = 0 ∧ allM g.ns = [] ∧ lonB g.ns 167772160 = false ∧ overM g.ns 0 0 = false := by
  obtain ⟨i1, i2, i3, i4, i5, i6⟩ := i
  have hz : g.all.length - k = 0 := by omega
  rw [hz] at i1 i2
  rw [List.take_zero] at i1
  refine ⟨i2, List.eq_nil_of_length_eq_zero i1.all.2.2, i1.emp (by decide), ?_⟩
  cases ho : overM g.ns 0 0 with
  | false => rfl
  | true =>
    obtain ⟨e, he, _⟩ := (i1.over (x := zeroB) ⟨by decide, by decide⟩).1 ho
    cases he
/-! ### deed by deed -/
theorem at_step {all : List Blk} {b : Blk} {j : Nat} {a : Int} (i : AtI all b j a) : (all.getD j zeroB = b → AtI all b (j + 1) (j : Int)) ∧ (all.getD j zeroB ≠ b → AtI all b (j + 1) a) := by
  constructor
  · intro h
    exact .inr ⟨j, Nat.lt_succ_self j, rfl, h⟩
  · intro h
    rcases i with ⟨h1, h2⟩ | ⟨i, h1, h2, h3⟩
    · refine .inl ⟨h1, fun i hi => ?_⟩
      rcases Nat.lt_succ_iff_lt_or_eq.1 hi with h3 | h3
      · exact h2 i h3
      · rw [h3]; exact h
    · exact .inr ⟨i, Nat.lt_succ_of_lt h1, h2, h3⟩
theorem at_end {all : List Blk} {b : Blk} {j : Nat} {a : Int} (i : AtI all b j a) (hj : j = all.length) : (a = -1 ∧ ¬ b ∈ all) ∨ ∃ i : Nat, i < all.length ∧ a = (i : Int) ∧ b ∈ all ∧ all.getD i zeroB = b := by
  subst hj
  rcases i with ⟨h1, h2⟩ | ⟨i, h1, h2, h3⟩
  · refine .inl ⟨h1, fun h => ?_⟩
    obtain ⟨i, hi, he⟩ := List.getElem_of_mem h
    refine h2 i hi ?_
    rw [List.getD_eq_getElem?_getD, List.getElem?_eq_getElem hi]
    exact he
  · exact .inr ⟨i, h1, h2, h3 ▸ get_mem h1, h3⟩
/-- A prefix is taken. -/
theorem take_act {k : Nat} {g : Tr} {b : Blk} (i : TrI k g) (hk : k < 1000) {m : Nat} (hm : m < g.all.length) (hb : g.all.getD m zeroB = b) :
    takeE g.ns b.base b.bits = 0 ∧ TrI (k + 1) ⟨(takeM g.n g.ns b.base b.bits).1, (takeM g.n g.ns b.base b.bits).2, g.all.take m ++ g.all.drop (m + 1)⟩ := by
  obtain ⟨i1, i2, i3⟩ := i
  have hin : b ∈ g.all := hb ▸ get_mem hm
  have hsp : g.all = g.all.take m ++ b :: g.all.drop (m + 1) := by
    rw [← hb, ← drop_get hm, List.take_append_drop]
  have hnd := i1.nd
  rw [hsp, List.nodup_append] at hnd
  obtain ⟨n1, n2, n3⟩ := hnd
  have n4 := List.nodup_cons.1 n2
  have hnd2 : (g.all.take m ++ g.all.drop (m + 1)).Nodup := by
    rw [List.nodup_append]
    exact ⟨n1, n4.2, fun x hx y hy => n3 x hx y (List.mem_cons_of_mem _ hy)⟩
  obtain ⟨t1, t2⟩ := i1.take (n := g.n) hin hnd2 (fun x => by
    have hx : x ∈ g.all ↔ x ∈ g.all.take m ++ b :: g.all.drop (m + 1) := by rw [← hsp]
    rw [hx, List.mem_append, List.mem_append, List.mem_cons]
    constructor
    · rintro (h | h)
      · exact ⟨.inl h, n3 x h b (List.mem_cons_self ..)⟩
      · exact ⟨.inr (.inr h), fun he => n4.1 (he ▸ h)⟩
    · rintro ⟨h | h | h, hne⟩
      · exact .inl h
      · exact absurd h hne
      · exact .inr h)
  refine ⟨(i1.takeE (i1.val b hin).1).1 hin, t2, ?_, ?_⟩
  · show (takeM g.n g.ns b.base b.bits).1 = ((g.all.take m ++ g.all.drop (m + 1)).length : Int)
    rw [t1, i2, wrap_i64_id (by omega), List.length_append, List.length_take, List.length_drop]
    omega
  · show (g.all.take m ++ g.all.drop (m + 1)).length ≤ k + 1
    rw [List.length_append, List.length_take, List.length_drop]
    omega
theorem best_step {all : List Blk} {v : Int} {j : Nat} {b : Blk} {is : Bool} (i : BestI all v j b is) (hj : j < all.length) :
    ((hasA (all.getD j zeroB).base (all.getD j zeroB).bits v && (!is || decide ((all.getD j zeroB).bits > b.bits))) = true → BestI all v (j + 1) (all.getD j zeroB) true) ∧
    ((hasA (all.getD j zeroB).base (all.getD j zeroB).bits v && (!is || decide ((all.getD j zeroB).bits > b.bits))) = false → BestI all v (j + 1) b is) := by
  have hm : all.getD j zeroB ∈ all := get_mem hj
  unfold BestI
  rw [take_get (d := zeroB) hj]
  generalize all.getD j zeroB = y at *
  constructor
  · intro h
    simp only [Bool.and_eq_true, Bool.or_eq_true, Bool.not_eq_true', decide_eq_true_eq] at h
    obtain ⟨h1, h2⟩ := h
    refine .inr ⟨rfl, hm, h1, fun z hz hzv => ?_⟩
    rcases List.mem_append.1 hz with hz | hz
    · rcases i with ⟨k1, k2, k3⟩ | ⟨k1, k2, k3, k4⟩
      · rw [k3 z hz] at hzv; cases hzv
      · have := k4 z hz hzv
        rcases h2 with h2 | h2
        · rw [k1] at h2; cases h2
        · omega
    · rw [List.mem_singleton.1 hz]; exact Int.le_refl _
  · intro h
    rcases i with ⟨k1, k2, k3⟩ | ⟨k1, k2, k3, k4⟩
    · refine .inl ⟨k1, k2, fun z hz => ?_⟩
      rcases List.mem_append.1 hz with hz | hz
      · exact k3 z hz
      · rw [List.mem_singleton.1 hz]
        rw [k1] at h
        simpa using h
    · refine .inr ⟨k1, k2, k3, fun z hz hzv => ?_⟩
      rcases List.mem_append.1 hz with hz | hz
      · exact k4 z hz hzv
      · rw [List.mem_singleton.1 hz] at hzv ⊢
        rw [hzv, k1] at h
        simp at h
        omega
theorem over_step {all : List Blk} {b : Blk} {j : Nat} {o : Bool} (i : OverI all b j o) (hj : j < all.length) : OverI all b (j + 1) (o || lapA (all.getD j zeroB).base (all.getD j zeroB).bits b.base b.bits) := by
  unfold OverI at *
  rw [take_get (d := zeroB) hj, Bool.or_eq_true, i]
  constructor
  · rintro (⟨y, hy, h⟩ | h)
    · exact ⟨y, List.mem_append_left _ hy, h⟩
    · exact ⟨_, List.mem_append_right _ (List.mem_singleton.2 rfl), h⟩
  · rintro ⟨y, hy, h⟩
    rcases List.mem_append.1 hy with hy | hy
    · exact .inl ⟨y, hy, h⟩
    · rw [List.mem_singleton.1 hy] at h; exact .inr h
theorem best_end {ns : List Nd} {all : List Blk} (r : Rel ns all) {v : Int} (hv : 0 ≤ v ∧ v < 4294967296) {b : Blk} {is : Bool} {j : Nat} (i : BestI all v j b is) (hj : all.length ≤ j) : lonM ns v = b ∧ (lonB ns v && makeB (lonK ns v)) = is := by
  unfold BestI at i
  rw [List.take_of_length_le hj] at i
  rcases r.lon hv with ⟨h1, h2, h3⟩ | ⟨e, he, h1, h2, h3, h4, h5⟩
  · rcases i with ⟨k1, k2, k3⟩ | ⟨k1, k2, k3, k4⟩
    · exact ⟨by rw [h2, k2], by rw [h1, k1]; rfl⟩
    · rw [h3 b k2] at k3; cases k3
  · rcases i with ⟨k1, k2, k3⟩ | ⟨k1, k2, k3, k4⟩
    · rw [k3 e he] at h4; cases h4
    · refine ⟨?_, by rw [h1, h2, k1]; rfl⟩
      rw [h3]
      rcases h5 b k2 k3 with h6 | h6
      · have := k4 e he h4; omega
      · exact h6.symm
theorem over_end {ns : List Nd} {all : List Blk} (r : Rel ns all) {b : Blk} (hb : B32 b) {o : Bool} {j : Nat} (i : OverI all b j o) (hj : all.length ≤ j) : overM ns b.base b.bits = o := by
  unfold OverI at i
  rw [List.take_of_length_le hj] at i
  exact Bool.eq_iff_iff.2 ((r.over hb).trans i.symm)
theorem best_zero (all : List Blk) (v : Int) : BestI all v 0 zeroB false := .inl ⟨rfl, rfl, fun y h => (by cases h)⟩
theorem over_zero (all : List Blk) (b : Blk) : OverI all b 0 false := ⟨fun h => (by cases h), fun ⟨y, h, _⟩ => (by cases h)⟩
theorem at_zero (all : List Blk) (b : Blk) : AtI all b 0 (-1) := .inl ⟨rfl, fun i h => absurd h (Nat.not_lt_zero i)⟩
/-- All of them, one behind the other. -/
theorem all_rows {ns : List Nd} {all : List Blk} (r : Rel ns all) {j : Nat} (hj : j < (allM ns).length) : hasM ns ((allM ns).getD j zeroB).base ((allM ns).getD j zeroB).bits = true ∧ (0 < j → aheadA ((allM ns).getD (j - 1) zeroB).base ((allM ns).getD (j - 1) zeroB).bits ((allM ns).getD j zeroB).base ((allM ns).getD j zeroB).bits = true) := by
  obtain ⟨h1, h2, h3⟩ := r.all
  have hm := (h1 _).1 (get_mem (d := zeroB) hj)
  refine ⟨(r.has (r.val _ hm).1).2 hm, fun h0 => ahead_iff.2 ?_⟩
  have := List.pairwise_iff_getElem.1 h2 (j - 1) j (by omega) hj (by omega)
  rw [List.getD_eq_getElem?_getD, List.getD_eq_getElem?_getD, List.getElem?_eq_getElem hj, List.getElem?_eq_getElem (show j - 1 < (allM ns).length by omega)]
  exact this
end Go.Proofs.Ytndacggailoogaa.Tri
