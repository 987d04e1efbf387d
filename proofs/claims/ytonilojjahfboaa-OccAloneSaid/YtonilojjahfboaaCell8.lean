/- Keys in a slice: slices.Index, slices.Contains. Conditions: each contract's own premises. -/
import Derived.Test.YtonilojjahfboaaCell7
import Derived.Test.YtonilojjahfboaaKyEq
namespace Go.Proofs.Ytonilojjahfboaa
open Go.RowKit Go.Maps

/-- the first place of a key in a list; -1: there is none -/
def IdxP (ks : List Ky) (k : Ky) (r : Int) : Prop := (r = -1 ∧ ∀ j : Nat, ks[j]? ≠ some k) ∨ ∃ i : Nat, r = i ∧ ks[i]? = some k ∧ ∀ j : Nat, j < i → ks[j]? ≠ some k
def IdxPost (ks : List Ky) (k : Ky) (w : World) (e : Ending) (w' : World) : Prop := ∃ r, e = .returned (.int .i64 r) ∧ IdxP ks k r ∧ Below w.heap.size w w'

theorem Ky.eqB_true {a b : Ky} (h : a = b) : a.eqB b = true := (Ky.eqB_iff a b).2 h
theorem Ky.eqB_false {a b : Ky} (h : a ≠ b) : a.eqB b = false := by
  cases e : a.eqB b
  · rfl
  · exact absurd ((Ky.eqB_iff a b).1 e) h

set_option maxRecDepth 100000 in
set_option maxHeartbeats 400000 in
theorem index_any (a : Option Addr) (cap : Nat) (ks : List Ky) (k : Ky) (w : World) (hks : KsV w (fun _ => False) a ks) (hl : ks.length ≤ 1000) :
    Calls Try.prog 91 #[.slice a ks.length cap, .agg #[.int .i64 k.kind, .int .i64 k.a, .int .i64 k.b, .string k.s]] w (IdxPost ks k w) := by
  go_enter Try.func91, Try.ntmps91
  go_wp2_with fail
  go_loopw [8] (fun i wr => ∃ j : Nat, j ≤ ks.length ∧ i = .int .i64 j ∧ (∀ j', j' < j → ks[j']? ≠ some k) ∧ ∃ n, wr = (w.alloc (.cells #[.int .i64 k.kind, .int .i64 k.a, .int .i64 k.b, .string k.s] 35)).drewN n) (fun i _ => ks.length - (intOf i).toNat)
  case atStart => exact ⟨0, Nat.zero_le _, rfl, fun _ h => absurd h (Nat.not_lt_zero _), 0, rfl⟩
  case round =>
    obtain ⟨j, hj, rfl, hno, n, rfl⟩ := hrel
    have HN := Lib.hid hno
    clear hno
    by_cases hlt : j < ks.length
    · obtain ⟨kk, hkk⟩ : ∃ kk, ks[j]? = some kk := ⟨_, List.getElem?_eq_getElem hlt⟩
      obtain ⟨kb, off, rfl, kat, _⟩ := hks (fun e => by rw [e] at hlt; simp at hlt)
      obtain ⟨q0, q1, q2, q3⟩ := kat.cells j kk hkk
      have hlb := kat.lt
      have HK := Lib.hid hkk
      clear hkk kat hks
      have hE := eqKy k kk
      by_cases he : k = kk
      · rw [Ky.eqB_true he] at hE
        have HE := Lib.hid he
        clear he
        go_wp2_with fail
        go_quiet (fail)
        go_wp2_with fail
        go_ret
        exact ⟨_, rfl, .inr ⟨j, rfl, by rw [HK.out, HE.out], HN.out⟩, below_drewN (below_drewN ((Below.refl _ _).alloc (Nat.le_refl _) _) _) _⟩
      · rw [Ky.eqB_false he] at hE
        have HE := Lib.hid he
        clear he
        go_wp2_with fail
        go_quiet (fail)
        go_wp2_with fail
        refine ⟨⟨j + 1, by omega, by go_num, fun j' hj' => ?_, ⟨_, rfl⟩⟩, by simp [intOf]; omega⟩
        rcases Nat.lt_succ_iff_lt_or_eq.1 hj' with h | rfl
        · exact HN.out j' h
        · rw [HK.out]; exact fun e => HE.out (Option.some.inj e).symm
    · go_wp2_with fail
      go_ret
      refine ⟨_, rfl, .inl ⟨rfl, fun j' => ?_⟩, below_drewN ((Below.refl _ _).alloc (Nat.le_refl _) _) _⟩
      rcases Nat.lt_or_ge j' j with h | h
      · exact HN.out j' h
      · rw [List.getElem?_eq_none (by omega)]; simp
theorem contains_no (a : Option Addr) (cap : Nat) (ks : List Ky) (k : Ky) (w : World) (hks : KsV w (fun _ => False) a ks) (hl : ks.length ≤ 1000) (hn : k ∉ ks) :
    Calls Try.prog 83 #[.slice a ks.length cap, .agg #[.int .i64 k.kind, .int .i64 k.a, .int .i64 k.b, .string k.s]] w fun e w' => e = .returned (.bool false) ∧ Below w.heap.size w w' := by
  have hW : ∀ X, KsV (w.alloc X) (fun _ => False) a ks := fun X e => by
    obtain ⟨b, off, h1, h2, h3⟩ := hks e
    exact ⟨b, off, h1, h2.of_block (Below.heap_alloc _ _ _ h2.lt), h3⟩
  have HN := Lib.hid hn
  clear hks hn
  go_enter Try.func83, Try.ntmps83
  go_wp2_with fail
  refine (index_any a cap ks k _ (hW _) hl).mono ?_
  rintro e w1 ⟨r, rfl, hr, hb⟩
  obtain rfl : r = -1 := by
    rcases hr with h | ⟨i, _, h, _⟩
    · exact h.1
    · exact absurd (List.mem_of_getElem? h) HN.out
  go_wp2_with fail
  go_ret
  exact ⟨rfl, ((Below.refl _ _).alloc (Nat.le_refl _) _).trans (hb.mono (by simp))⟩
theorem contains_yes (a : Option Addr) (cap : Nat) (ks : List Ky) (k : Ky) (w : World) (hks : KsV w (fun _ => False) a ks) (hl : ks.length ≤ 1000) (hn : k ∈ ks) :
    Calls Try.prog 83 #[.slice a ks.length cap, .agg #[.int .i64 k.kind, .int .i64 k.a, .int .i64 k.b, .string k.s]] w fun e w' => e = .returned (.bool true) ∧ Below w.heap.size w w' := by
  have hW : ∀ X, KsV (w.alloc X) (fun _ => False) a ks := fun X e => by
    obtain ⟨b, off, h1, h2, h3⟩ := hks e
    exact ⟨b, off, h1, h2.of_block (Below.heap_alloc _ _ _ h2.lt), h3⟩
  have HN := Lib.hid hn
  clear hks hn
  go_enter Try.func83, Try.ntmps83
  go_wp2_with fail
  refine (index_any a cap ks k _ (hW _) hl).mono ?_
  rintro e w1 ⟨r, rfl, hr, hb⟩
  obtain ⟨i, rfl⟩ : ∃ i : Nat, r = i := by
    rcases hr with h | ⟨i, h, _, _⟩
    · obtain ⟨i, hi⟩ := List.getElem?_of_mem HN.out
      exact absurd hi (h.2 i)
    · exact ⟨i, h⟩
  clear hr
  go_wp2_with fail
  go_ret
  exact ⟨rfl, ((Below.refl _ _).alloc (Nat.le_refl _) _).trans (hb.mono (by simp))⟩
end Go.Proofs.Ytonilojjahfboaa
