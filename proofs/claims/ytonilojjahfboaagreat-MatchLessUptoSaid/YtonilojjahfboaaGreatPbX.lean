/- Layers 17 to 19: the laws' examples, plainly. Conditions: each lemma's own premises. Layers 17 to 19: the laws' examples, plainly. Conditions: each lemma's own premises. -/
import Derived.Test.YtonilojjahfboaaGreatRg4
import Derived.Test.YtonilojjahfboaaGreatWkA
namespace Go.Proofs.YtonilojjahfboaaGreat
open Go.RowKit Go.Maps

def vA (k : Nat) : Vr := ⟨⟨(k : Int) + 1, ⟨#[97]⟩, []⟩, none, 0⟩
def VA (n : Nat) : List Vr := (List.range n).map vA
def fA : Nat → Int | 0 => 1 | 1 => 1 | 2 => 2 | _ => 3
def tA : Nat → Int | 0 => 2 | 1 => 3 | _ => 4
def eA (k : Nat) : Er := ⟨⟨k, ⟨#[120]⟩, fA k, tA k, []⟩, none, 0⟩
def EA (n : Nat) : List Er := (List.range n).map eA
theorem VA_succ (n : Nat) : VA (n + 1) = VA n ++ [vA n] := by unfold VA; rw [List.range_succ, List.map_append]; rfl
theorem EA_succ (n : Nat) : EA (n + 1) = EA n ++ [eA n] := by unfold EA; rw [List.range_succ, List.map_append]; rfl
theorem VA_len (n : Nat) : (VA n).length = n := by unfold VA; simp
theorem EA_len (n : Nat) : (EA n).length = n := by unfold EA; simp
theorem ve_ne {w : World} {B B' : Nat} {v1 v2 : Value} {l1 : List Vr} {l2 : List Er} (h : kVr.Own w B v1 l1) (k : kEr.Own w B' v2 l2) : ∀ j, v1.ownBlock = some j → v2.ownBlock ≠ some j := fun j hj hk => by
  rcases h.2 with ⟨h1, _⟩ | ⟨g, cp, cur, h1, _, hg, _⟩
  · rw [h1] at hj; cases hj
  · rcases k.2 with ⟨k1, _⟩ | ⟨g', cp', cur', k1, _, kg, _⟩
    · rw [k1] at hk; cases hk
    · rw [h1] at hj
      rw [k1] at hk
      injection hj with hj
      injection hk with hk
      subst hj
      subst hk
      rw [hg] at kg
      injection kg with kg
      injection kg with e1 e2 e3
      revert e2
      decide
theorem own_ty {P : Program} {α : Type} {k : RowK P α} {w : World} {B : Nat} {v : Value} {l : List α} (h : k.Own w B v l) {b : Nat} {c : Array Value} {t : TypeId} {z : Nat × Nat} (hb : w.heap[b]? = some (.cells c t z)) (ht : t ≠ k.e) : some b ≠ v.ownBlock := fun e => by
  rcases h.2 with ⟨h1, _⟩ | ⟨g, cp, cur, h1, _, hg, _⟩
  · rw [h1] at e; cases e
  · rw [h1] at e
    injection e with e
    subst e
    rw [hg] at hb
    injection hb with hb
    injection hb with e1 e2 e3
    exact ht e2.symm
end Go.Proofs.YtonilojjahfboaaGreat
namespace Go.Proofs.YtonilojjahfboaaGreat
open Go.RowKit Go.Maps

theorem insB_end {α : Type} {key : α → Int} {x : α} {L : List α} (h : ∀ y ∈ L, key y < key x) : insB key x L = L ++ [x] := by
  rw [insB_at (L := L) (j := L.length) (fun i y hi hy => h y (List.mem_of_getElem? hy)) (fun y hy => by simp at hy)]
  simp
theorem no_findB {α : Type} {key : α → Int} {x : α} {L : List α} (h : ∀ y ∈ L, key y < key x) : findB key L (key x) = none := findB_none.2 (fun y hy e => by have := h y hy; omega)
theorem addV_end {V : List Vt} {v : Vt} (hc : checkR v.label v.ps [v.id] = 0) (h : ∀ y ∈ V, y.id < v.id) : (addV V v).2 = V ++ [v] := by
  unfold addV
  rw [if_pos hc, no_findB (key := Vt.id) h]
  exact insB_end (key := Vt.id) h
theorem addE_end {V : List Vt} {E : List Eg} {e : Eg} (hc : checkR e.label e.ps [e.id, e.fr, e.to] = 0) (h : ∀ y ∈ E, y.id < e.id) (h1 : HasV V e.fr) (h2 : HasV V e.to) : (addE V E e).2 = E ++ [e] := by
  unfold addE
  rw [if_pos hc, no_findB (key := Eg.id) h]
  simp only [Option.isSome_none, Bool.false_eq_true, if_false]
  have g1 := find_hasV.2 h1
  have g2 := find_hasV.2 h2
  rw [if_neg (by simp only [Bool.or_eq_true, not_or, Option.isNone_iff_eq_none]; exact ⟨(fun e => by rw [e] at g1; cases g1), (fun e => by rw [e] at g2; cases g2)⟩)]
  exact insB_end (key := Eg.id) h
theorem bad_a : badS ⟨#[97]⟩ = false := by kernel_rfl
theorem bad_x : badS ⟨#[120]⟩ = false := by kernel_rfl
open Classical in
theorem right_nil : rightPs [] = true := decide_eq_true ⟨fun _ hi => absurd hi (Nat.not_lt_zero _), Nat.zero_le _⟩
theorem checkR_nil {label : ByteArray} {ids : List Int} (hb : badS label = false) (hi : ∀ n ∈ ids, 0 ≤ n ∧ n < 1000) : checkR label [] ids = 0 := by
  unfold checkR
  rw [if_neg, if_neg (by rw [hb]; simp), if_pos right_nil]
  intro h
  obtain ⟨n, hn, h2⟩ := List.any_eq_true.1 h
  have := hi n hn
  unfold idB at h2
  simp at h2
  omega
def V4 : List Vt := (VA 4).map Vr.v
def E4 : List Eg := (EA 4).map Er.e
theorem mem_VA {n : Nat} {y : Vt} (h : y ∈ (VA n).map Vr.v) : ∃ k, k < n ∧ y = (vA k).v := by
  obtain ⟨x, hx, rfl⟩ := List.mem_map.1 h
  obtain ⟨k, hk, rfl⟩ := List.mem_map.1 hx
  exact ⟨k, List.mem_range.1 hk, rfl⟩
theorem mem_EA {n : Nat} {y : Eg} (h : y ∈ (EA n).map Er.e) : ∃ k, k < n ∧ y = (eA k).e := by
  obtain ⟨x, hx, rfl⟩ := List.mem_map.1 h
  obtain ⟨k, hk, rfl⟩ := List.mem_map.1 hx
  exact ⟨k, List.mem_range.1 hk, rfl⟩
theorem awV : ∀ n, n ≤ 4 → adV [] ((VA n).map Vr.v) = (VA n).map Vr.v
  | 0, _ => rfl
  | n + 1, hn => by
    rw [VA_succ, List.map_append, List.map_singleton, adV_snoc, awV n (by omega), addV_end]
    · exact checkR_nil bad_a (fun m hm => by
        obtain rfl : m = (n : Int) + 1 := by simpa [vA] using hm
        omega)
    · intro y hy
      obtain ⟨k, hk, rfl⟩ := mem_VA hy
      show (k : Int) + 1 < (n : Int) + 1
      omega
theorem has4 {n : Int} (h : 1 ≤ n ∧ n ≤ 4) : HasV V4 n := ⟨(vA (n - 1).toNat).v, List.mem_map.2 ⟨_, List.mem_map.2 ⟨(n - 1).toNat, List.mem_range.2 (by omega), rfl⟩, rfl⟩, by show (((n - 1).toNat : Nat) : Int) + 1 = n; omega⟩
theorem fA_in : ∀ k, 1 ≤ fA k ∧ fA k ≤ 4
  | 0 => by decide
  | 1 => by decide
  | 2 => by decide
  | n + 3 => by show 1 ≤ (3 : Int) ∧ (3 : Int) ≤ 4; decide
theorem tA_in : ∀ k, 1 ≤ tA k ∧ tA k ≤ 4
  | 0 => by decide
  | 1 => by decide
  | n + 2 => by show 1 ≤ (4 : Int) ∧ (4 : Int) ≤ 4; decide
theorem awE : ∀ n, n ≤ 4 → adE V4 [] ((EA n).map Er.e) = (EA n).map Er.e
  | 0, _ => rfl
  | n + 1, hn => by
    rw [EA_succ, List.map_append, List.map_singleton, adE_snoc, awE n (by omega), addE_end]
    · exact checkR_nil bad_x (fun m hm => by
        have h1 := fA_in n
        have h2 := tA_in n
        rcases (by simpa [eA] using hm : m = (n : Int) ∨ m = fA n ∨ m = tA n) with rfl | rfl | rfl <;> omega)
    · intro y hy
      obtain ⟨k, hk, rfl⟩ := mem_EA hy
      show (k : Int) < (n : Int)
      omega
    · exact has4 (fA_in n)
    · exact has4 (tA_in n)
def noB : ByteArray := ⟨#[]⟩
theorem noB_nil : noB.toList = [] := by
  have h : (ByteArray.mk #[]).toList.length = 0 := by simp
  exact List.eq_nil_of_length_eq_zero h
end Go.Proofs.YtonilojjahfboaaGreat
