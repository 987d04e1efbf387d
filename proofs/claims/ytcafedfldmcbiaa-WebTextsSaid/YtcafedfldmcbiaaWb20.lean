/- Properties out of bytes: the plain reading; properties that a call lays for itself. Conditions: each lemma's own premises. -/
import Derived.Test.YtcafedfldmcbiaaWb19
namespace Go.Proofs.Ytcafedfldmcbiaa
open Go.RowKit Go.Maps

/-- is a key not behind the last one? -/
def lateK (acc : List Pr) (key : ByteArray) : Bool := match acc.getLast? with
  | some q => decide (0 ≤ cmpL (runes q.key) (runes key))
  | none => false
def tkP : Nat → List Pr → List UInt8 → Nat → Option (List Pr × Nat)
  | 0, acc, _, n => some (acc, n)
  | _ + 1, _, [], _ => none
  | c + 1, acc, k :: r, n =>
    if r.length < k.toNat then none else
    if badS ⟨(r.take k.toNat).toArray⟩ = true then none else
    if lateK acc ⟨(r.take k.toNat).toArray⟩ = true then none else
    match tkV (r.drop k.toNat) with
    | none => none
    | some x => tkP c (acc ++ [⟨⟨(r.take k.toNat).toArray⟩, x.1⟩]) (r.drop (k.toNat + x.2)) (n + 1 + k.toNat + x.2)
/-- the properties with which bytes begin -/
def tkA : List UInt8 → Option (List Pr × Nat)
  | [] => none
  | b :: r => if 16 < b.toNat then none else tkP b.toNat [] r 1
theorem tkP_zero (acc : List Pr) (l : List UInt8) (n : Nat) : tkP 0 acc l n = some (acc, n) := by unfold tkP; rfl
theorem tkP_nil (c : Nat) (acc : List Pr) (n : Nat) : tkP (c + 1) acc [] n = none := by unfold tkP; rfl
theorem tkP_short {c : Nat} {acc : List Pr} {k : UInt8} {r : List UInt8} {n : Nat} (h : r.length < k.toNat) : tkP (c + 1) acc (k :: r) n = none := by rw [tkP]; simp [h]
theorem tkP_bad {c : Nat} {acc : List Pr} {k : UInt8} {r : List UInt8} {n : Nat} (h : badS ⟨(r.take k.toNat).toArray⟩ = true) : tkP (c + 1) acc (k :: r) n = none := by rw [tkP]; simp [h]
theorem tkP_late {c : Nat} {acc : List Pr} {k : UInt8} {r : List UInt8} {n : Nat} (h : lateK acc ⟨(r.take k.toNat).toArray⟩ = true) : tkP (c + 1) acc (k :: r) n = none := by rw [tkP]; simp [h]
theorem tkP_none {c : Nat} {acc : List Pr} {k : UInt8} {r : List UInt8} {n : Nat} (h : tkV (r.drop k.toNat) = none) : tkP (c + 1) acc (k :: r) n = none := by rw [tkP]; simp [h]
theorem tkP_step {c : Nat} {acc : List Pr} {k : UInt8} {r : List UInt8} {n : Nat} {v : Vl} {m : Nat} (h0 : ¬ r.length < k.toNat) (h1 : badS ⟨(r.take k.toNat).toArray⟩ = false) (h2 : lateK acc ⟨(r.take k.toNat).toArray⟩ = false) (h : tkV (r.drop k.toNat) = some (v, m)) :
    tkP (c + 1) acc (k :: r) n = tkP c (acc ++ [⟨⟨(r.take k.toNat).toArray⟩, v⟩]) (r.drop (k.toNat + m)) (n + 1 + k.toNat + m) := by rw [tkP]; simp [h0, h1, h2, h]
/-- what is taken is a right value of no more bytes than there are -/
theorem tkV_ok {l : List UInt8} {v : Vl} {m : Nat} (h : tkV l = some (v, m)) : v.Ok ∧ v.right = true ∧ 0 < m ∧ m ≤ l.length := by
  match l, h with
  | b :: r, h =>
    by_cases h2 : b = 2
    · subst h2
      rw [tkV_text] at h
      cases ht : tkT r [] 1 with
      | none => rw [ht] at h; cases h
      | some x =>
        rw [ht] at h
        simp at h
        obtain ⟨rfl, rfl⟩ := h
        obtain ⟨h1, h2, h3⟩ := tkT_len r.length r [] 1 x.1 x.2 (Nat.le_refl _) (by simp) ht
        have hs : (⟨x.1.toArray⟩ : ByteArray).size = x.1.length := rfl
        refine ⟨⟨by show I64 2; unfold I64; omega, by show I64 0; unfold I64; omega, by rw [hs]; unfold maxLen; omega⟩, ?_, by omega, by simp; omega⟩
        unfold Vl.right Vl.isT
        simp [hs, h1]
    · by_cases h1 : b = 1
      · subst h1
        by_cases hs : r.length < 8
        · rw [tkV_short hs] at h; cases h
        · rw [tkV_num hs] at h
          simp at h
          obtain ⟨rfl, rfl⟩ := h
          have hn8 : numL (r.take 8) < 18446744073709551616 := Nat.lt_of_lt_of_le (numL_take r 8 (by omega)) (by decide)
          refine ⟨⟨by show I64 1; unfold I64; omega, by constructor <;> (simp; omega), by unfold maxLen; exact Nat.zero_le _⟩, ?_, by omega, by simp; omega⟩
          unfold Vl.right Vl.isN
          simp
      · rw [tkV_kind h2 h1] at h; cases h
/-- a right value's bytes are taken as it -/
theorem tkV_bytes {v : Vl} (hok : v.Ok) (hr : v.right = true) (x : List UInt8) : tkV (v.bytes ++ x) = some (v, v.bytes.length) := by
  unfold Vl.bytes
  cases hn : v.isN
  · have ht : v.isT = true := by unfold Vl.right at hr; rw [hn] at hr; simpa using hr
    unfold Vl.isT at ht
    simp at ht
    rw [if_neg (by simp), List.cons_append, tkV_text, List.append_assoc, List.cons_append, List.cons_append, List.nil_append, tkT_esc _ _ _ _ (by simp; exact ht.2)]
    simp
    refine ⟨?_, by omega⟩
    obtain ⟨vk, vn, vs⟩ := v
    simp at ht
    obtain ⟨⟨rfl, rfl⟩, _⟩ := ht
    rfl
  · unfold Vl.isN at hn
    simp at hn
    rw [if_pos rfl, List.cons_append, tkV_num (by simp [numBytes, eight])]
    have he : (numBytes v.n ++ x).take 8 = numBytes v.n := by
      rw [List.take_append_of_le_length (by simp [numBytes, eight])]
      exact List.take_of_length_le (by simp [numBytes, eight])
    have h1 := hok.n
    unfold I64 at h1
    rw [he]
    unfold numBytes
    rw [numL_eight (by omega)]
    simp [eight]
    obtain ⟨vk, vn, vs⟩ := v
    simp at hn h1
    obtain ⟨rfl, hs⟩ := hn
    simp
    refine ⟨by omega, ?_⟩
    apply ByteArray.ext
    refine (Array.ext' ?_).symm
    rw [ByteArray.toList_eq] at hs
    exact hs
/-- properties that were taken -/
theorem tkP_ok : ∀ (c : Nat) (acc : List Pr) (l : List UInt8) (n : Nat) (ps : List Pr) (m : Nat), (∀ p ∈ acc, p.key.size ≤ 255 ∧ p.v.Ok) → tkP c acc l n = some (ps, m) → (∀ p ∈ ps, p.key.size ≤ 255 ∧ p.v.Ok) ∧ ps.length = acc.length + c ∧ n ≤ m ∧ m ≤ n + l.length
  | 0, acc, l, n, ps, m, ha, h => by
    rw [tkP_zero] at h
    simp at h
    obtain ⟨rfl, rfl⟩ := h
    exact ⟨ha, rfl, Nat.le_refl _, by omega⟩
  | c + 1, acc, [], n, ps, m, ha, h => by rw [tkP_nil] at h; cases h
  | c + 1, acc, k :: r, n, ps, m, ha, h => by
    by_cases h0 : r.length < k.toNat
    · rw [tkP_short h0] at h; cases h
    · cases h1 : badS ⟨(r.take k.toNat).toArray⟩
      · cases h2 : lateK acc ⟨(r.take k.toNat).toArray⟩
        · cases h3 : tkV (r.drop k.toNat) with
          | none => rw [tkP_none h3] at h; cases h
          | some x =>
            obtain ⟨v, j⟩ := x
            rw [tkP_step h0 h1 h2 h3] at h
            obtain ⟨o1, _, o3, o4⟩ := tkV_ok h3
            obtain ⟨i1, i2, i3, i4⟩ := tkP_ok c _ _ _ ps m (fun p hp => by
              rcases List.mem_append.1 hp with hp | hp
              · exact ha p hp
              · simp at hp
                subst hp
                refine ⟨?_, o1⟩
                show (r.take k.toNat).length ≤ 255
                have := k.toNat_lt
                rw [List.length_take]
                omega) h
            simp at i2 i4 o4
            refine ⟨i1, by omega, by omega, by simp; omega⟩
        · rw [tkP_late h2] at h; cases h
      · rw [tkP_bad h1] at h; cases h
theorem tkA_ok {l : List UInt8} {ps : List Pr} {m : Nat} (h : tkA l = some (ps, m)) : (∀ p ∈ ps, p.key.size ≤ 255 ∧ p.v.Ok) ∧ ps.length ≤ 16 ∧ m ≤ l.length := by
  match l, h with
  | b :: r, h =>
    unfold tkA at h
    by_cases hb : 16 < b.toNat
    · simp [hb] at h
    · simp only [hb, if_false] at h
      obtain ⟨h1, h2, _, h4⟩ := tkP_ok _ [] r 1 ps m (by simp) h
      simp at h2
      exact ⟨h1, by omega, by simp; omega⟩
end Go.Proofs.Ytcafedfldmcbiaa
