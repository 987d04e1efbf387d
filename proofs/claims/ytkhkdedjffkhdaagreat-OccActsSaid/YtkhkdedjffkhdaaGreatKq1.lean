/- Keys of a map, collected while it is ranged over. Conditions: each lemma's own premises. -/
import Derived.RangeFuncBox
import Derived.RangeFuncLeaves
import Derived.RangeFuncNested
import Derived.Sort.MapsRangeIn
import Derived.Shelf.Abstract
import Derived.WalkKit
import Derived.OwnWalkIn
import Derived.TacticsInMore
import Derived.LoopNIn
import Derived.LoopIn
import Derived.Test.YtkhkdedjffkhdaaGreatKyA
import Derived.Test.YtkhkdedjffkhdaaGreatMapO
import Derived.Test.YtkhkdedjffkhdaaGreatRwX
namespace Go.Proofs.YtkhkdedjffkhdaaGreat
open Go.RowKit Go.Maps

theorem keyLits_int {d : Nat} {v : Value} {ls : List Lit} (h : Tryz.prog.keyLits (d + 1) 3 [v] = some ls) : ∃ n, v = .int .i64 n ∧ (Lit.int .i64 n).wf = true ∧ ls = [.int .i64 n] := by
  unfold Program.keyLits at h
  simp only [Tryz.underlying3] at h
  cases v <;> simp at h
  rename_i q n
  obtain ⟨⟨rfl, hw⟩, rfl⟩ := h
  exact ⟨n, rfl, hw, rfl⟩
theorem keyLits_string {d : Nat} {v : Value} {ls : List Lit} (h : Tryz.prog.keyLits (d + 1) 9 [v] = some ls) : ∃ s : ByteArray, v = .string s ∧ s.size ≤ maxLen ∧ ls = [.string s.data.toList] := by
  unfold Program.keyLits at h
  simp only [Tryz.underlying9] at h
  cases v <;> simp at h
  rename_i s
  obtain ⟨hw, rfl⟩ := h
  exact ⟨s, rfl, hw, rfl⟩
set_option maxRecDepth 100000 in
theorem keyK_inv {v : Value} {kl : Lit} (h : keyOf Tryz.prog 47 v = some kl) : ∃ k : Ky, k.Ok ∧ v = k.val ∧ kl = k.lit := by
  obtain ⟨m, hm⟩ := typesSize
  have e1 : Tryz.prog.cellsOf 3 = 1 := by kernel_rfl
  have e2 : Tryz.prog.cellsOf 9 = 1 := by kernel_rfl
  unfold keyOf at h
  simp only [Tryz.underlying47] at h
  split at h
  · rename_i hc
    simp only [Bool.and_eq_true] at hc
    have hf := hc.2
    unfold Value.formed at hf
    cases v with
    | agg cs =>
      simp [Tryz.underlying47, cellsKey] at hf
      obtain ⟨p, q, r, t, rfl⟩ : ∃ p q r t, cs = #[p, q, r, t] := by
        match cs, hf with
        | ⟨[p, q, r, t]⟩, _ => exact ⟨p, q, r, t, rfl⟩
      rw [hm] at h
      unfold Program.keyLits at h
      simp only [Tryz.underlying47, Value.cells] at h
      rw [if_pos (by constructor <;> simp [cellsKey])] at h
      simp [e1, e2] at h
      cases hp : Tryz.prog.keyLits (m + 1) 3 [p] with
      | none => rw [hp] at h; cases h
      | some lp =>
      obtain ⟨np, rfl, wp, rfl⟩ := keyLits_int hp
      cases hq : Tryz.prog.keyLits (m + 1) 3 [q] with
      | none => rw [hp, hq] at h; cases h
      | some lq =>
      obtain ⟨nq, rfl, wq, rfl⟩ := keyLits_int hq
      cases hr : Tryz.prog.keyLits (m + 1) 3 [r] with
      | none => rw [hp, hq, hr] at h; cases h
      | some lr =>
      obtain ⟨nr, rfl, wr, rfl⟩ := keyLits_int hr
      cases ht : Tryz.prog.keyLits (m + 1) 9 [t] with
      | none => rw [hp, hq, hr, ht] at h; cases h
      | some lt =>
      obtain ⟨s, rfl, ws, rfl⟩ := keyLits_string ht
      rw [hp, hq, hr, ht] at h
      simp at h
      exact ⟨⟨np, nq, nr, s⟩, ⟨I64.of_wf wp, I64.of_wf wq, I64.of_wf wr, ws⟩, rfl, h.symm⟩
    | _ => simp [Tryz.underlying47] at hf
  · cases h
theorem Ky.val_inj {a b : Ky} (h : a.val = b.val) : a = b := by
  cases a; cases b
  simp [Ky.val] at h
  simpa using h
/-- keys that have come -/
def ColK (f : Lit → Option Value) (left : Lit → Bool) (ks : List Ky) : Prop := ks.Nodup ∧ (∀ k ∈ ks, k.Ok) ∧ ∀ k : Ky, k.Ok → (k ∈ ks ↔ (f k.lit).isSome = true ∧ left k.lit = false)
/-- the keys of a map -/
def KsOf (f : Lit → Option Value) (n : Nat) (ks : List Ky) : Prop := ks.Nodup ∧ (∀ k ∈ ks, k.Ok) ∧ ks.length ≤ n ∧ ∀ k : Ky, k.Ok → (k ∈ ks ↔ (f k.lit).isSome = true)
theorem ColK.start {f : Lit → Option Value} {left : Lit → Bool} (h : ∀ kl, WideAt.IsKeyLit kl → left kl = (f kl).isSome) : ColK f left [] :=
  ⟨List.nodup_nil, fun k hk => (by cases hk), fun k hk => ⟨fun hk => (by cases hk), fun ⟨h1, h2⟩ => by
    rw [h k.lit (lawKey.key (keyK hk)), h1] at h2
    cases h2⟩⟩
theorem ColK.step {f : Lit → Option Value} {left : Lit → Bool} {ks : List Ky} {x : Ky} (h : ColK f left ks) (hx : x.Ok) (hf : (f x.lit).isSome = true) (hl : left x.lit = true) : ColK f (fun z => left z && !z.sameKey x.lit) (ks ++ [x]) := by
  obtain ⟨h1, h2, h3⟩ := h
  refine ⟨List.nodup_append.2 ⟨h1, by simp, fun a ha b hb => ?_⟩, fun k hk => ?_, fun k hk => ?_⟩
  · obtain rfl : b = x := by simpa using hb
    intro e
    subst e
    have := ((h3 a hx).1 ha).2
    rw [hl] at this
    cases this
  · rcases List.mem_append.1 hk with hk | hk
    · exact h2 k hk
    · obtain rfl : k = x := by simpa using hk
      exact hx
  · have hs : k.lit.sameKey x.lit = true ↔ k = x := ⟨fun e => lit_inj hk hx (WideAt.sameKey_eq e), fun e => by rw [e]; exact WideAt.sameKey_self (lawKey.key (keyK hx))⟩
    rw [List.mem_append, List.mem_singleton, h3 k hk]
    by_cases e : k = x
    · subst e
      simp [hf, hs.2 rfl]
    · have : k.lit.sameKey x.lit = false := by
        cases hq : k.lit.sameKey x.lit
        · rfl
        · exact absurd (hs.1 hq) e
      simp [e, this]
theorem ColK.end {f : Lit → Option Value} {left : Lit → Bool} {ks : List Ky} {n : Nat} (h : ColK f left ks) (hl : ∀ kl, left kl = false) (hn : ks.length ≤ n) : KsOf f n ks :=
  ⟨h.1, h.2.1, hn, fun k hk => by rw [h.2.2 k hk, hl]; simp⟩
end Go.Proofs.YtkhkdedjffkhdaaGreat
