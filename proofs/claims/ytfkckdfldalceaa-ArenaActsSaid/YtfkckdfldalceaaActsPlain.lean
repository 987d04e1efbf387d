/- ArenaActs: the arena and the reference's arena as plain lists answer alike. No program here. -/
import Derived.Test.YtfkckdfldalceaaRef5e
namespace Go.Proofs.Ytfkckdfldalceaa
open Go.RowKit Go.Maps

/-- the slots in the order in which they come -/
def Ar.queue (s : Ar) : List Int := s.free.reverse ++ (List.range' s.fresh (s.room - s.fresh)).map (fun i : Nat => (i : Int))
def Ar.tag (s : Ar) (x : Int) : Int × Int := (x, s.gens x)

structure RefInv (s : Ar) (F T : List (Int × Int)) : Prop where
  F : F = s.queue.map s.tag
  mem : ∀ p, p ∈ T ↔ (s.taken p.1 = true ∧ s.gens p.1 = p.2)
  nd : (T.map (·.1)).Nodup
  len : T.length + s.free.length = s.fresh

theorem Ar.queue_len {s : Ar} {c : Nat} (h : s.Ok c) : (s.queue.length : Int) = s.avail := by
  have := h.fresh
  simp [Ar.queue, Ar.avail]; omega
theorem Ar.queue_cases {s : Ar} {c : Nat} (h : s.Ok c) :
    (s.queue = [] ∧ s.takeRes = (0, 0, 50) ∧ s.take = s) ∨
    (∃ x, s.takeRes = (x, s.gens x, 0) ∧ s.queue = x :: s.take.queue) := by
  have hro := h.fresh
  rcases List.eq_nil_or_concat s.free with hs | ⟨l, x, hs⟩
  · have e1 : s.free.getLast? = none := by rw [hs]; rfl
    by_cases hr : s.fresh = s.room
    · left
      refine ⟨by unfold Ar.queue; rw [hs, hr]; simp, ?_, ?_⟩
      · unfold Ar.takeRes; rw [e1]; simp [hr]
      · unfold Ar.take; rw [e1]; simp [hr]
    · right
      have et : s.take = s.grow := by unfold Ar.take; rw [e1]; simp [hr]
      refine ⟨s.fresh, by unfold Ar.takeRes; rw [e1]; simp [hr], ?_⟩
      rw [et]
      obtain ⟨m, hm⟩ : ∃ m, s.room - s.fresh = m + 1 := ⟨s.room - s.fresh - 1, by omega⟩
      have hm' : s.room - (s.fresh + 1) = m := by omega
      simp [Ar.queue, Ar.grow, hs, hm, hm', List.range'_succ]
  · rw [List.concat_eq_append] at hs
    have e1 : s.free.getLast? = some x := by rw [hs]; simp
    have et : s.take = s.pop := by unfold Ar.take; rw [e1]
    right
    refine ⟨x, by unfold Ar.takeRes; rw [e1], ?_⟩
    rw [et]
    simp [Ar.queue, Ar.pop, hs]
theorem RefInv.took {s : Ar} {c : Nat} {F T : List (Int × Int)} {p : Int × Int} (h : RefInv s (p :: F) T) (hok : s.Ok c) : s.takeRes = (p.1, p.2, 0) ∧ RefInv s.take F (T ++ [p]) := by
  have hF := h.F
  rcases Ar.queue_cases hok with ⟨hq, _⟩ | ⟨x, hr, hq⟩
  · rw [hq] at hF; simp at hF
  · rw [hq] at hF
    simp only [List.map_cons, List.cons.injEq] at hF
    obtain ⟨rfl, hF⟩ := hF
    refine ⟨hr, ?_⟩
    rcases Ar.take_cases hok with ⟨_, _, hr', _⟩ | ⟨y, hr', hy, hy0, hy1, ht, hg, hrm, hl, _, _⟩
    · rw [hr] at hr'; simp at hr'
    · rw [hr] at hr'
      obtain rfl : x = y := by simp at hr'; exact hr'.1
      have etag : s.take.tag = s.tag := by funext z; unfold Ar.tag; rw [hg]
      refine ⟨by rw [hF, etag], fun q => ?_, ?_, ?_⟩
      · rw [List.mem_append, List.mem_singleton, h.mem, ht, hg]
        simp only [Bool.or_eq_true, decide_eq_true_eq, Ar.tag]
        constructor
        · rintro (⟨a, b⟩ | rfl)
          · exact ⟨.inr a, b⟩
          · exact ⟨.inl rfl, rfl⟩
        · rintro ⟨rfl | a, b⟩
          · exact .inr (by rw [b])
          · exact .inl ⟨a, b⟩
      · rw [List.map_append, List.nodup_append]
        refine ⟨h.nd, by simp, fun a ha b hb => ?_⟩
        simp [Ar.tag] at hb
        subst hb
        rintro rfl
        obtain ⟨q, hqm, rfl⟩ := List.mem_map.1 ha
        have := ((h.mem q).1 hqm).1
        rw [hy] at this; cases this
      · have := h.len
        simp; omega
theorem RefInv.many {s : Ar} {c : Nat} {F T : List (Int × Int)} (h : RefInv s F T) (hok : s.Ok c) : ∀ j, j ≤ F.length → s.got j = F.take j ∧ RefInv (s.after j) (F.drop j) (T ++ F.take j)
  | 0, _ => ⟨by simp [Ar.got], by simpa [Ar.after] using h⟩
  | j + 1, hj => by
    obtain ⟨h1, h2⟩ := RefInv.many h hok j (by omega)
    have hl : (F.length : Int) = s.avail := by rw [h.F, List.length_map, Ar.queue_len hok]
    have hok' := (Ar.after_ok hok j (by omega)).1
    rw [List.drop_eq_getElem_cons (by omega)] at h2
    obtain ⟨hr, h3⟩ := h2.took hok'
    rw [List.take_succ_eq_append_getElem (by omega)]
    refine ⟨?_, ?_⟩
    · simp only [Ar.got]; rw [h1, hr]
    · show RefInv (s.after j).take _ _
      rw [List.append_assoc] at h3
      exact h3
theorem RefInv.avail {s : Ar} {c : Nat} {F T : List (Int × Int)} (h : RefInv s F T) (hok : s.Ok c) : (F.length : Int) = s.avail := by rw [h.F, List.length_map, Ar.queue_len hok]
theorem RefInv.room {s : Ar} {c : Nat} {F T : List (Int × Int)} (h : RefInv s F T) (hok : s.Ok c) : T.length + F.length = s.room := by
  have := h.avail hok; have := h.len; have := hok.fresh; unfold Ar.avail at *; omega
theorem RefInv.full {s : Ar} {c : Nat} {T : List (Int × Int)} (h : RefInv s [] T) (hok : s.Ok c) : s.takeRes = (0, 0, 50) ∧ s.take = s := by
  rcases Ar.queue_cases hok with ⟨_, h1, h2⟩ | ⟨x, _, hq⟩
  · exact ⟨h1, h2⟩
  · have := h.F; rw [hq] at this; simp at this
theorem RefInv.contains {s : Ar} {F T : List (Int × Int)} (h : RefInv s F T) (x g : Int) : T.contains (x, g) = s.live x g := by
  rw [Bool.eq_iff_iff]
  simp [Ar.live, h.mem]
theorem nodup_of_map : ∀ {l : List (Int × Int)}, (l.map (·.1)).Nodup → l.Nodup
  | [], _ => List.nodup_nil
  | p :: l, h => by
    rw [List.map_cons, List.nodup_cons] at h
    exact List.nodup_cons.2 ⟨fun e => h.1 (List.mem_map_of_mem e), nodup_of_map h.2⟩
theorem RefInv.nodup {s : Ar} {F T : List (Int × Int)} (h : RefInv s F T) : T.Nodup := nodup_of_map h.nd

theorem Ar.chk_true {s : Ar} : ∀ {hs : List (Int × Int)} {seen : List Int}, s.chk seen hs = true ↔ (∀ p ∈ hs, s.live p.1 p.2 = true) ∧ (hs.map (·.1)).Nodup ∧ ∀ p ∈ hs, p.1 ∉ seen
  | [], seen => by simp [Ar.chk]
  | p :: hs, seen => by
    rw [Ar.chk]
    simp only [Bool.and_eq_true, Bool.not_eq_true', Ar.chk_true (hs := hs), List.map_cons, List.nodup_cons, List.mem_cons, forall_eq_or_imp, not_or, List.contains_eq_mem, decide_eq_false_iff_not, List.mem_map, not_exists, not_and]
    constructor
    · rintro ⟨⟨a, b⟩, c, d, e⟩
      exact ⟨⟨a, c⟩, ⟨fun q hq e' => (e q hq).1 e', d⟩, b, fun q hq => (e q hq).2⟩
    · rintro ⟨⟨a, c⟩, ⟨f, d⟩, b, e⟩
      exact ⟨⟨a, b⟩, c, d, fun q hq => ⟨fun e' => f q hq e', e q hq⟩⟩
theorem nodup_fst {s : Ar} : ∀ {hs : List (Int × Int)}, (∀ p ∈ hs, s.live p.1 p.2 = true) → ((hs.map (·.1)).Nodup ↔ hs.Nodup)
  | [], _ => by simp
  | p :: hs, h => by
    rw [List.map_cons, List.nodup_cons, List.nodup_cons, nodup_fst (fun q hq => h q (List.mem_cons_of_mem _ hq))]
    have : p.1 ∈ hs.map (·.1) ↔ p ∈ hs := by
      rw [List.mem_map]
      constructor
      · rintro ⟨q, hq, e⟩
        have h1 := h p (List.mem_cons_self ..)
        have h2 := h q (List.mem_cons_of_mem _ hq)
        simp [Ar.live] at h1 h2
        have : q = p := by
          apply Prod.ext
          · exact e
          · rw [← h1.2, ← h2.2, e]
        rwa [← this]
      · exact fun hp => ⟨p, hp, rfl⟩
    rw [this]
theorem RefInv.chk {s : Ar} {F T : List (Int × Int)} (h : RefInv s F T) (hs : List (Int × Int)) : s.chk [] hs = rchk T hs := by
  rw [Bool.eq_iff_iff, Ar.chk_true]
  unfold rchk
  rw [Bool.and_eq_true, List.all_eq_true, decide_eq_true_eq]
  have e : (∀ p ∈ hs, T.contains p = true) ↔ ∀ p ∈ hs, s.live p.1 p.2 = true := by
    constructor
    · intro a p hp; rw [← h.contains]; exact a p hp
    · intro a p hp; have := a p hp; rw [← h.contains] at this; exact this
  rw [e]
  constructor
  · rintro ⟨a, b, _⟩; exact ⟨a, (nodup_fst a).1 b⟩
  · rintro ⟨a, b⟩; exact ⟨a, (nodup_fst a).2 b, by simp⟩
theorem RefInv.put {s : Ar} {F T : List (Int × Int)} (h : RefInv s F T) {x g : Int} (hl : s.live x g = true) : RefInv (s.put x) ((x, g + 1) :: F) (T.filter (· != (x, g))) := by
  simp only [Ar.live, Bool.and_eq_true, beq_iff_eq] at hl
  obtain ⟨ht, rfl⟩ := hl
  have hnq : x ∉ s.queue := by
    obtain ⟨h1, h2, h3⟩ := Ar.taken_iff.1 ht
    intro hm
    simp only [Ar.queue, List.mem_append, List.mem_reverse, List.mem_map, List.mem_range'_1] at hm
    rcases hm with hm | ⟨i, hi, e⟩
    · exact h3 hm
    · omega
  have hq : (s.put x).queue = x :: s.queue := by simp [Ar.queue, Ar.put]
  have hmem : (x, s.gens x) ∈ T := (h.mem _).2 ⟨ht, rfl⟩
  refine ⟨?_, fun p => ?_, ?_, ?_⟩
  · rw [hq, List.map_cons, h.F]
    congr 1
    · simp [Ar.tag, Ar.put]
    · apply List.map_congr_left
      intro y hy
      have : y ≠ x := fun e => hnq (e ▸ hy)
      simp [Ar.tag, Ar.put, this]
  · rw [List.mem_filter, h.mem]
    have et : (s.put x).taken p.1 = (s.taken p.1 && decide (p.1 ≠ x)) := by
      rw [Ar.taken_put, Bool.and_comm]; simp
    rw [et]
    obtain ⟨y, k⟩ := p
    by_cases e : y = x
    · subst e
      simp
      intro _ e'; exact e'.symm
    · simp [Ar.put, e]
  · exact List.Nodup.sublist (List.Sublist.map _ (List.filter_sublist ..)) h.nd
  · have hn := h.nodup
    have hl := h.len
    have e := List.length_erase_of_mem hmem
    rw [hn.erase_eq_filter] at e
    have : 0 < T.length := List.length_pos_of_mem hmem
    simp only [Ar.put, List.length_append, List.length_singleton]
    omega
theorem RefInv.puts : ∀ {hs : List (Int × Int)} {s : Ar} {F T : List (Int × Int)} {c : Nat} (_ : RefInv s F T) (_ : s.Ok c) (_ : c + hs.length ≤ 1099511627776) (_ : ∀ p ∈ hs, s.live p.1 p.2 = true) (_ : (hs.map (·.1)).Nodup), RefInv (s.puts hs) (rdrops F T hs).1 (rdrops F T hs).2
  | [], s, F, T, c, h, _, _, _, _ => by simpa [Ar.puts, rdrops] using h
  | p :: hs, s, F, T, c, h, hok, hc, ha, hn => by
    have h1 := h.put (ha p (List.mem_cons_self ..))
    rw [List.map_cons, List.nodup_cons] at hn
    have := RefInv.puts (hs := hs) (c := c + 1) h1 (hok.put (x := p.1) (by have := ha p (List.mem_cons_self ..); simp [Ar.live] at this; exact this.1) (by simp at hc; omega)) (by simp at hc; omega) (fun q hq => by
      have h2 := ha q (List.mem_cons_of_mem _ hq)
      have hne : q.1 ≠ p.1 := fun e => hn.1 (e ▸ List.mem_map_of_mem hq)
      have h3 : (q.1, q.2) ∈ T := (h.mem _).2 (by simpa [Ar.live] using h2)
      have h4 : (q.1, q.2) ∈ T.filter (· != (p.1, p.2)) := by
        rw [List.mem_filter]; exact ⟨h3, by simp; intro e; exact absurd e hne⟩
      have := (h1.mem _).1 h4
      simp [Ar.live, this]) hn.2
    exact this
theorem RefInv.frees {s : Ar} {c : Nat} {F T hs : List (Int × Int)} (h : RefInv s F T) (hok : s.Ok c) (hc : c + hs.length ≤ 1099511627776) :
    (rchk T hs = true → s.freeRes hs = 0 ∧ RefInv (s.frees hs) (rdrops F T hs).1 (rdrops F T hs).2) ∧ (rchk T hs = false → s.freeRes hs = 51 ∧ s.frees hs = s) := by
  unfold Ar.freeRes Ar.frees
  rw [h.chk]
  refine ⟨fun e => ?_, fun e => ?_⟩
  · rw [if_pos e, if_pos e]
    rw [← h.chk, Ar.chk_true] at e
    exact ⟨rfl, RefInv.puts (c := c) h hok hc e.1 e.2.1⟩
  · rw [e]; simp
theorem RefInv.start (N : Nat) : RefInv (Ar.made N) (firsts N) [] := by
  refine ⟨?_, fun p => ?_, by simp, rfl⟩
  · simp [Ar.queue, Ar.made, firsts, Ar.tag, List.range_eq_range']
  · have : (Ar.made N).taken p.1 = false := by
      rw [Bool.eq_false_iff]; intro e; have := Ar.taken_iff.1 e; simp [Ar.made] at this; omega
    simp [this]
end Go.Proofs.Ytfkckdfldalceaa
