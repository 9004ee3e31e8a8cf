/- Tries: what a trie does, told of the list of the prefixes that are in it. -/
import Derived.Test.YtndacggailoogaaTrieLaws
namespace Go.Proofs.Ytndacggailoogaa.Tri
open Go Go.Proofs.Ytndacggailoogaa.Sx

/-- What is in a trie. -/
structure Rel (ns : List Nd) (all : List Blk) : Prop where
  good : Good ns
  val : ∀ e ∈ all, V e
  rel : ∀ q, Bin q → (isAt ns q = true ↔ ∃ e ∈ all, P e = q)
  nd : all.Nodup
theorem rel_new : Rel [nd0] [] := ⟨new_good, fun e h => (by cases h), fun q _ => ⟨fun h => (by rw [new_is] at h; cases h), fun ⟨e, h, _⟩ => (by cases h)⟩, List.nodup_nil⟩
theorem Rel.wf {ns : List Nd} {all : List Blk} (h : Rel ns all) : WfN ns := h.good.wf
theorem Rel.at {ns : List Nd} {all : List Blk} (h : Rel ns all) {x : Blk} (hx : V x) : isAt ns (P x) = true ↔ x ∈ all := by
  rw [h.rel _ (bin_P x)]
  exact ⟨fun ⟨e, he, hp⟩ => P_inj (h.val e he) hx hp ▸ he, fun he => ⟨x, he, rfl⟩⟩
/-- Bases of prefixes are numbers of 32 bits. -/
def B32 (x : Blk) : Prop := 0 ≤ x.base ∧ x.base < 4294967296
theorem Rel.has {ns : List Nd} {all : List Blk} (h : Rel ns all) {x : Blk} (hx : B32 x) : hasM ns x.base x.bits = true ↔ x ∈ all := by
  rw [hasM_eq, Bool.and_eq_true]
  constructor
  · rintro ⟨h1, h2⟩
    exact (h.at ⟨hx, h1⟩).1 h2
  · intro h1
    exact ⟨(h.val x h1).2, (h.at (h.val x h1)).2 h1⟩
theorem Rel.putE {ns : List Nd} {all : List Blk} (h : Rel ns all) {x : Blk} (hx : V x) : (x ∈ all → putE ns x.base x.bits = 6) ∧ (¬ x ∈ all → putE ns x.base x.bits = 0) := by
  have h1 := (putV (n := 0) h.good hx).1
  constructor
  · intro h2
    rw [h1, if_pos ((h.at hx).2 h2)]
  · intro h2
    rw [h1, if_neg (fun h3 => h2 ((h.at hx).1 h3))]
theorem nodup_snoc {l : List Blk} {x : Blk} (h : l.Nodup) (hx : ¬ x ∈ l) : (l ++ [x]).Nodup := by
  rw [List.nodup_append]
  refine ⟨h, by simp, fun a ha b hb he => ?_⟩
  rw [List.mem_singleton.1 hb] at he
  exact hx (he ▸ ha)
theorem Rel.put_new {ns : List Nd} {all : List Blk} (h : Rel ns all) {n : Int} {x : Blk} (hx : V x) (hn : ¬ x ∈ all) : (putM n ns x.base x.bits).1 = IntKind.i64.wrap (n + 1) ∧ Rel (putM n ns x.base x.bits).2 (all ++ [x]) := by
  obtain ⟨_, h2, h3, h4⟩ := putV (n := n) h.good hx
  refine ⟨by rw [h2, if_neg (fun h5 => hn ((h.at hx).1 h5))], h3, fun e he => ?_, fun q hq => ?_, nodup_snoc h.nd hn⟩
  · rcases List.mem_append.1 he with he | he
    · exact h.val e he
    · rw [List.mem_singleton.1 he]; exact hx
  · rw [h4 q hq, Bool.or_eq_true, h.rel q hq, decide_eq_true_eq]
    constructor
    · rintro (⟨e, he, hp⟩ | rfl)
      · exact ⟨e, List.mem_append_left _ he, hp⟩
      · exact ⟨x, List.mem_append_right _ (List.mem_singleton.2 rfl), rfl⟩
    · rintro ⟨e, he, hp⟩
      rcases List.mem_append.1 he with he | he
      · exact .inl ⟨e, he, hp⟩
      · rw [List.mem_singleton.1 he] at hp; exact .inr hp.symm
theorem Rel.put_old {ns : List Nd} {all : List Blk} (h : Rel ns all) {n : Int} {x : Blk} (hx : V x) (hn : x ∈ all) : (putM n ns x.base x.bits).1 = n ∧ Rel (putM n ns x.base x.bits).2 all := by
  obtain ⟨_, h2, h3, h4⟩ := putV (n := n) h.good hx
  refine ⟨by rw [h2, if_pos ((h.at hx).2 hn)], h3, h.val, fun q hq => ?_, h.nd⟩
  rw [h4 q hq, Bool.or_eq_true, h.rel q hq, decide_eq_true_eq]
  constructor
  · rintro (he | rfl)
    · exact he
    · exact ⟨x, hn, rfl⟩
  · exact .inl
theorem Rel.over {ns : List Nd} {all : List Blk} (h : Rel ns all) {x : Blk} (hx : B32 x) : overM ns x.base x.bits = true ↔ ∃ e ∈ all, lapA e.base e.bits x.base x.bits = true := by
  cases hr : rightA x.base x.bits with
  | false =>
    constructor
    · intro h1
      have := ((over_iff h.good x.base x.bits).1 h1).1
      rw [hr] at this; cases this
    · rintro ⟨e, _, h1⟩
      unfold lapA withinA at h1
      rw [hr] at h1
      simp at h1
  | true =>
    have hv : V x := ⟨hx, hr⟩
    rw [overV h.good hv]
    constructor
    · rintro (⟨q, r, h1, h2⟩ | ⟨q, h1, h2⟩)
      · obtain ⟨e, he, hp⟩ := (h.rel q (h1 ▸ bin_P x : Bin (q ++ r)).left).1 h2
        exact ⟨e, he, (lap_iff (h.val e he) hv).2 (.inr ⟨r, by rw [hp]; exact h1⟩)⟩
      · obtain ⟨e, he, hp⟩ := (h.rel _ ((bin_P x).app h1)).1 h2
        exact ⟨e, he, (lap_iff (h.val e he) hv).2 (.inl ⟨q, hp⟩)⟩
    · rintro ⟨e, he, h1⟩
      rcases (lap_iff (h.val e he) hv).1 h1 with ⟨r, h2⟩ | ⟨r, h2⟩
      · exact .inr ⟨r, (h2 ▸ bin_P e : Bin (P x ++ r)).right, (h.rel _ (h2 ▸ bin_P e)).2 ⟨e, he, h2⟩⟩
      · exact .inl ⟨P e, r, h2, (h.rel _ (bin_P e)).2 ⟨e, he, rfl⟩⟩
theorem Rel.lon {ns : List Nd} {all : List Blk} (h : Rel ns all) {a : Int} (ha : 0 ≤ a ∧ a < 4294967296) :
    (lonB ns a = false ∧ lonM ns a = zeroB ∧ ∀ e ∈ all, hasA e.base e.bits a = false) ∨
    ∃ e ∈ all, lonB ns a = true ∧ makeB (lonK ns a) = true ∧ lonM ns a = e ∧ hasA e.base e.bits a = true ∧ ∀ f ∈ all, hasA f.base f.bits a = true → f.bits < e.bits ∨ f = e := by
  have hlen : (pathB a 32).length = 32 := pathB_len a 32
  have hat : ∀ e ∈ all, hasA e.base e.bits a = true → isAt ns ((pathB a 32).take e.bits.toNat) = true ∧ (0 ≤ e.bits ∧ e.bits ≤ 32) := by
    intro e he hh
    rw [(addr_pre (h.val e he) ha).1 hh]
    exact ⟨(h.at (h.val e he)).2 he, (h.val e he).rng⟩
  rcases lonM_spec ns a with ⟨h1, h2, h3⟩ | ⟨m, h1, h2, h3, h4, h5, h6⟩
  · left
    refine ⟨h1, h2, fun e he => ?_⟩
    cases hh : hasA e.base e.bits a with
    | false => rfl
    | true =>
      obtain ⟨k1, k2, k3⟩ := hat e he hh
      rw [h3 _ (by omega)] at k1
      cases k1
  · right
    obtain ⟨hv, hp⟩ := make_V ha h1
    have hm : (⟨makeA a m, m⟩ : Blk) ∈ all := (h.at hv).1 (by rw [hp]; exact h5)
    refine ⟨_, hm, h2, h3, h4, (addr_pre hv ha).2 (by rw [hp]; rfl), fun f hf hh => ?_⟩
    obtain ⟨k1, k2, k3⟩ := hat f hf hh
    rcases Nat.lt_trichotomy f.bits.toNat m with h7 | h7 | h7
    · exact .inl (by show f.bits < (m : Int); omega)
    · right
      refine P_inj (h.val f hf) hv ?_
      rw [hp, ← (addr_pre (h.val f hf) ha).1 hh, h7]
    · rw [h6 _ h7 (by omega)] at k1
      cases k1
theorem Rel.emp {ns : List Nd} (h : Rel ns []) {a : Int} (ha : 0 ≤ a ∧ a < 4294967296) : lonB ns a = false := by
  rcases h.lon ha with ⟨h1, _⟩ | ⟨e, he, _⟩
  · exact h1
  · cases he
/-- What is taken. -/
theorem Rel.takeE {ns : List Nd} {all : List Blk} (h : Rel ns all) {x : Blk} (hx : B32 x) : (x ∈ all → takeE ns x.base x.bits = 0) ∧ (¬ x ∈ all → takeE ns x.base x.bits = 7 ∧ ∀ n, takeM n ns x.base x.bits = (n, ns)) := by
  constructor
  · intro h1
    unfold Tri.takeE
    rw [(h.has hx).2 h1]
    rfl
  · intro h1
    have h2 : hasM ns x.base x.bits = false := by
      cases h3 : hasM ns x.base x.bits with
      | false => rfl
      | true => exact absurd ((h.has hx).1 h3) h1
    constructor
    · unfold Tri.takeE
      rw [h2]; rfl
    · intro n
      unfold takeM
      rw [h2]; rfl
theorem Rel.take {ns : List Nd} {all all2 : List Blk} (h : Rel ns all) {n : Int} {x : Blk} (hx : x ∈ all) (h2 : all2.Nodup) (h3 : ∀ e, e ∈ all2 ↔ e ∈ all ∧ e ≠ x) : (takeM n ns x.base x.bits).1 = IntKind.i64.wrap (n - 1) ∧ Rel (takeM n ns x.base x.bits).2 all2 := by
  have hv := h.val x hx
  obtain ⟨_, k2, k3, k4⟩ := take_right (n := n) h.good hv.2
  refine ⟨by rw [k2]; exact if_pos ((h.at hv).2 hx), k3, fun e he => h.val e ((h3 e).1 he).1, fun q hq => ?_, h2⟩
  rw [k4 q hq, Bool.and_eq_true, h.rel q hq]
  constructor
  · rintro ⟨⟨e, he, hp⟩, hq2⟩
    refine ⟨e, (h3 e).2 ⟨he, fun hex => ?_⟩, hp⟩
    subst hex
    rw [decide_eq_true (show q = pathB e.base e.bits from hp.symm)] at hq2
    cases hq2
  · rintro ⟨e, he, hp⟩
    obtain ⟨h5, h6⟩ := (h3 e).1 he
    refine ⟨⟨e, h5, hp⟩, ?_⟩
    rw [decide_eq_false (fun hq2 : q = pathB x.base x.bits => h6 (P_inj (h.val e h5) hv (by rw [hp, hq2]; rfl)))]
    rfl
/-- All of them. -/
theorem Rel.all {ns : List Nd} {all : List Blk} (h : Rel ns all) : (∀ e, e ∈ allM ns ↔ e ∈ all) ∧ (allM ns).Pairwise Ahead ∧ (allM ns).length = all.length := by
  obtain ⟨h1, h2⟩ := allM_spec h.good
  have h3 : ∀ e, e ∈ allM ns ↔ e ∈ all := by
    intro e
    rw [h1]
    exact ⟨fun ⟨hv, hi⟩ => (h.at hv).1 hi, fun he => ⟨h.val e he, (h.at (h.val e he)).2 he⟩⟩
  have h4 := nodup_le (sorted_nodup h2) (fun e he => (h3 e).1 he)
  have h5 := nodup_le h.nd (fun e he => (h3 e).2 he)
  exact ⟨h3, h2, by omega⟩
end Go.Proofs.Ytndacggailoogaa.Tri
