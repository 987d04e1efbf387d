/- Layer 19, plainly: the law's examples. Conditions: each lemma's own premises. -/
import Derived.Test.YtaanohgkdpohhaaPb3
namespace Go.Proofs.Ytaanohgkdpohhaa
open Go.RowKit Go.Maps

theorem insB_end {α : Type} {key : α → Int} {x : α} {L : List α} (h : ∀ y ∈ L, key y < key x) : insB key x L = L ++ [x] := by
  rw [insB_at (L := L) (j := L.length) (fun i y hi hy => h y (List.mem_of_getElem? hy)) (fun y hy => by simp at hy)]
  simp
theorem no_findB {α : Type} {key : α → Int} {x : α} {L : List α} (h : ∀ y ∈ L, key y < key x) : findB key L (key x) = none := findB_none.2 (fun y hy e => by have := h y hy; omega)
theorem addV_end {V : List Vt} {v : Vt} (hc : checkR v.label v.ps [v.id] = 0) (h : ∀ y ∈ V, y.id < v.id) : (addV V v).2 = V ++ [v] := by
  unfold addV
  rw [if_pos hc, no_findB (key := Vt.id) h]
  exact insB_end (key := Vt.id) h
theorem addE_end {V : List Vt} {E : List Eg} {e : Eg} (hc : checkR e.label e.ps [e.id, e.fr, e.to] = 0) (h : ∀ y ∈ E, y.id < e.id) (h1 : HasV V e.fr) (h2 : HasV V e.to) : (addE V E e).2 = E ++ [e] := by
  unfold addE
  rw [if_pos hc, no_findB (key := Eg.id) h]
  simp only [Option.isSome_none, Bool.false_eq_true, if_false]
  have g1 := find_hasV.2 h1
  have g2 := find_hasV.2 h2
  rw [if_neg (by simp only [Bool.or_eq_true, not_or, Option.isNone_iff_eq_none]; exact ⟨(fun e => by rw [e] at g1; cases g1), (fun e => by rw [e] at g2; cases g2)⟩)]
  exact insB_end (key := Eg.id) h
theorem bad_a : badS ⟨#[97]⟩ = false := by kernel_rfl
theorem bad_x : badS ⟨#[120]⟩ = false := by kernel_rfl
open Classical in
theorem right_nil : rightPs [] = true := decide_eq_true ⟨fun _ hi => absurd hi (Nat.not_lt_zero _), Nat.zero_le _⟩
theorem checkR_nil {label : ByteArray} {ids : List Int} (hb : badS label = false) (hi : ∀ n ∈ ids, 0 ≤ n ∧ n < 1000) : checkR label [] ids = 0 := by
  unfold checkR
  rw [if_neg, if_neg (by rw [hb]; simp), if_pos right_nil]
  intro h
  obtain ⟨n, hn, h2⟩ := List.any_eq_true.1 h
  have := hi n hn
  unfold idB at h2
  simp at h2
  omega
def V4 : List Vt := (VA 4).map Vr.v
def E4 : List Eg := (EA 4).map Er.e
theorem mem_VA {n : Nat} {y : Vt} (h : y ∈ (VA n).map Vr.v) : ∃ k, k < n ∧ y = (vA k).v := by
  obtain ⟨x, hx, rfl⟩ := List.mem_map.1 h
  obtain ⟨k, hk, rfl⟩ := List.mem_map.1 hx
  exact ⟨k, List.mem_range.1 hk, rfl⟩
theorem mem_EA {n : Nat} {y : Eg} (h : y ∈ (EA n).map Er.e) : ∃ k, k < n ∧ y = (eA k).e := by
  obtain ⟨x, hx, rfl⟩ := List.mem_map.1 h
  obtain ⟨k, hk, rfl⟩ := List.mem_map.1 hx
  exact ⟨k, List.mem_range.1 hk, rfl⟩
theorem awV : ∀ n, n ≤ 4 → adV [] ((VA n).map Vr.v) = (VA n).map Vr.v
  | 0, _ => rfl
  | n + 1, hn => by
    rw [VA_succ, List.map_append, List.map_singleton, adV_snoc, awV n (by omega), addV_end]
    · exact checkR_nil bad_a (fun m hm => by
        obtain rfl : m = (n : Int) + 1 := by simpa [vA] using hm
        omega)
    · intro y hy
      obtain ⟨k, hk, rfl⟩ := mem_VA hy
      show (k : Int) + 1 < (n : Int) + 1
      omega
theorem has4 {n : Int} (h : 1 ≤ n ∧ n ≤ 4) : HasV V4 n := ⟨(vA (n - 1).toNat).v, List.mem_map.2 ⟨_, List.mem_map.2 ⟨(n - 1).toNat, List.mem_range.2 (by omega), rfl⟩, rfl⟩, by show (((n - 1).toNat : Nat) : Int) + 1 = n; omega⟩
theorem fA_in : ∀ k, 1 ≤ fA k ∧ fA k ≤ 4
  | 0 => by decide
  | 1 => by decide
  | 2 => by decide
  | n + 3 => by show 1 ≤ (3 : Int) ∧ (3 : Int) ≤ 4; decide
theorem tA_in : ∀ k, 1 ≤ tA k ∧ tA k ≤ 4
  | 0 => by decide
  | 1 => by decide
  | n + 2 => by show 1 ≤ (4 : Int) ∧ (4 : Int) ≤ 4; decide
theorem awE : ∀ n, n ≤ 4 → adE V4 [] ((EA n).map Er.e) = (EA n).map Er.e
  | 0, _ => rfl
  | n + 1, hn => by
    rw [EA_succ, List.map_append, List.map_singleton, adE_snoc, awE n (by omega), addE_end]
    · exact checkR_nil bad_x (fun m hm => by
        have h1 := fA_in n
        have h2 := tA_in n
        rcases (by simpa [eA] using hm : m = (n : Int) ∨ m = fA n ∨ m = tA n) with rfl | rfl | rfl <;> omega)
    · intro y hy
      obtain ⟨k, hk, rfl⟩ := mem_EA hy
      show (k : Int) < (n : Int)
      omega
    · exact has4 (fA_in n)
    · exact has4 (tA_in n)
def noB : ByteArray := ⟨#[]⟩
theorem noB_nil : noB.toList = [] := by
  have h : (ByteArray.mk #[]).toList.length = 0 := by simp
  exact List.eq_nil_of_length_eq_zero h
theorem ed4 {a b : Int} : edB E4 noB a b ↔ (a = 1 ∧ b = 2) ∨ (a = 1 ∧ b = 3) ∨ (a = 2 ∧ b = 4) ∨ (a = 3 ∧ b = 4) := by
  constructor
  · rintro ⟨e, he, rfl, rfl, _⟩
    obtain ⟨k, hk, rfl⟩ := mem_EA he
    rcases (by omega : k = 0 ∨ k = 1 ∨ k = 2 ∨ k = 3) with rfl | rfl | rfl | rfl <;> simp [eA, fA, tA]
  · have key : ∀ k, k < 4 → edB E4 noB (fA k) (tA k) := fun k hk => ⟨(eA k).e, List.mem_map.2 ⟨_, List.mem_map.2 ⟨k, List.mem_range.2 hk, rfl⟩, rfl⟩, rfl, rfl, .inl noB_nil⟩
    rintro (⟨rfl, rfl⟩ | ⟨rfl, rfl⟩ | ⟨rfl, rfl⟩ | ⟨rfl, rfl⟩)
    · exact key 0 (by decide)
    · exact key 1 (by decide)
    · exact key 2 (by decide)
    · exact key 3 (by decide)
theorem way4 : Way (edB E4 noB) 2 1 4 [1, 2, 4] := .cons (ed4.2 (by simp)) (.cons (ed4.2 (by simp)) (.one 4))
theorem dist4 : Dist (edB E4 noB) 2 1 4 := by
  refine ⟨⟨_, way4⟩, fun k hk ⟨l, hl⟩ => ?_⟩
  rcases (by omega : k = 0 ∨ k = 1) with rfl | rfl
  · cases hl
  · cases hl with
    | cons e h2 =>
      cases h2
      have := ed4.1 e
      omega
theorem least4 : Least (edB E4 noB) 2 1 4 [1, 2, 4] := by
  refine ⟨way4, fun m hm => ?_⟩
  cases hm with
  | cons e h2 =>
    cases h2 with
    | cons e2 h3 =>
      cases h3
      have h1 := ed4.1 e
      have h2 := ed4.1 e2
      rcases h1 with ⟨_, rfl⟩ | ⟨_, rfl⟩ | ⟨h, _⟩ | ⟨h, _⟩
      · decide
      · decide
      · omega
      · omega
theorem aw_one {code : Int} {l : List Int} (h : RnM V4 E4 ⟨1, 4, noB, 9⟩ (some 100) code l) : code = 0 ∧ l = [1, 2, 4] := by
  rcases h with ⟨h, _⟩ | ⟨_, h⟩
  · rcases h with h | h | h
    · exact absurd noB_nil h.1
    · exact absurd h (by decide)
    · exact absurd h (by decide)
  · rcases h with ⟨_, _, h⟩ | ⟨_, _, h, _⟩ | ⟨_, _, _, _, h⟩ | ⟨h1, _, _, k, _, h3, h4⟩
    · exact absurd ⟨has4 (by decide), has4 (by decide)⟩ h
    · have := h 100 rfl
      have e1 : V4.length = 4 := rfl
      have e2 : E4.length = 4 := rfl
      omega
    · exact absurd dist4 (h 2 (by decide))
    · obtain rfl := h3.uniq dist4
      exact ⟨h1, h4.uniq least4⟩
theorem aw_two {code : Int} {l : List Int} (h : RnM V4 E4 ⟨1, 4, noB, 1⟩ (some 100) code l) : code = 190 := by
  rcases h with ⟨h, _⟩ | ⟨_, h⟩
  · rcases h with h | h | h
    · exact absurd noB_nil h.1
    · exact absurd h (by decide)
    · exact absurd h (by decide)
  · rcases h with ⟨_, _, h⟩ | ⟨_, _, h, _⟩ | ⟨h, _⟩ | ⟨h1, _, _, k, h2, h3, h4⟩
    · exact absurd ⟨has4 (by decide), has4 (by decide)⟩ h
    · have := h 100 rfl
      have e1 : V4.length = 4 := rfl
      have e2 : E4.length = 4 := rfl
      omega
    · exact h
    · obtain rfl := h3.uniq dist4
      exact absurd h2 (by decide)
end Go.Proofs.Ytaanohgkdpohhaa
