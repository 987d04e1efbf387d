/- The reference's Same of keys; keys by their order, plainly. Conditions: each lemma's own premises. -/
import Derived.Test.YtaanohgkdpohhaaRc6
import Derived.Test.YtaanohgkdpohhaaCell12
namespace Go.Proofs.Ytaanohgkdpohhaa
open Go.RowKit Go.Maps

/-- one key more, by its order -/
def insK (k : Ky) : List Ky → List Ky
  | [] => [k]
  | y :: t => if y.cmp k < 0 then y :: insK k t else k :: y :: t
theorem mem_insK {k : Ky} : ∀ {l : List Ky} {y : Ky}, y ∈ insK k l ↔ y = k ∨ y ∈ l
  | [], y => by simp [insK]
  | z :: t, y => by
    unfold insK
    split
    · rw [List.mem_cons, mem_insK, List.mem_cons]
      constructor
      · rintro (h | h | h)
        · exact .inr (.inl h)
        · exact .inl h
        · exact .inr (.inr h)
      · rintro (h | h | h)
        · exact .inr (.inl h)
        · exact .inl h
        · exact .inr (.inr h)
    · rw [List.mem_cons]
theorem len_insK (k : Ky) : ∀ l : List Ky, (insK k l).length = l.length + 1
  | [] => rfl
  | z :: t => by
    unfold insK
    split
    · simp [len_insK k t]
    · rfl
theorem sorted_insK {k : Ky} : ∀ {l : List Ky}, KySorted l → k ∉ l → KySorted (insK k l)
  | [], _, _ => List.pairwise_singleton _ _
  | z :: t, h, hn => by
    obtain ⟨h1, h2⟩ := List.pairwise_cons.1 h
    unfold insK
    split
    · rename_i hlt
      refine List.pairwise_cons.2 ⟨fun y hy => ?_, sorted_insK h2 (fun hk => hn (List.mem_cons.2 (.inr hk)))⟩
      rcases mem_insK.1 hy with rfl | hy
      · exact hlt
      · exact h1 y hy
    · rename_i hlt
      have hz : k.cmp z < 0 := by
        have a1 := Ky.cmp_neg k z
        have a2 : ¬ k.cmp z = 0 := fun e => hn (List.mem_cons.2 (.inl ((Ky.cmp_zero k z).1 e)))
        omega
      refine List.pairwise_cons.2 ⟨fun y hy => ?_, h⟩
      rcases List.mem_cons.1 hy with rfl | hy
      · exact hz
      · have h3 := h1 y hy
        have h4 := Ky.cmp_trans k z y (by omega) (by omega)
        have h5 : ¬ k.cmp y = 0 := fun e => hn (List.mem_cons.2 (.inr (by rw [(Ky.cmp_zero k y).1 e]; exact hy)))
        omega
theorem insK_at {k : Ky} : ∀ {l : List Ky} {j : Nat}, (∀ i y, i < j → l[i]? = some y → y.cmp k < 0) → (∀ y, l[j]? = some y → ¬ y.cmp k < 0) → insK k l = l.take j ++ [k] ++ l.drop j
  | [], j, _, _ => by simp [insK]
  | z :: t, 0, _, h2 => by
    unfold insK
    rw [if_neg (h2 z rfl)]
    rfl
  | z :: t, j + 1, h1, h2 => by
    unfold insK
    rw [if_pos (h1 0 z (by omega) rfl), insK_at (l := t) (j := j) (fun i y hi hy => h1 (i + 1) y (by omega) (by simpa using hy)) (fun y hy => h2 y (by simpa using hy))]
    rfl
/-- the keys of those of which something is so, by their order -/
def keysL (p : Cl → Bool) (L : List (Ky × Cl)) : List Ky := L.foldl (fun out q => if p q.2 then insK q.1 out else out) []
theorem keysL_snoc (p : Cl → Bool) (L : List (Ky × Cl)) (q : Ky × Cl) : keysL p (L ++ [q]) = if p q.2 then insK q.1 (keysL p L) else keysL p L := by unfold keysL; rw [List.foldl_append]; rfl
theorem snocC {α : Type} {P : List α → Prop} (h0 : P []) (hs : ∀ l x, P l → P (l ++ [x])) (l : List α) : P l := by
  rw [← List.reverse_reverse l]
  induction l.reverse with
  | nil => exact h0
  | cons x t ih =>
    rw [List.reverse_cons]
    exact hs _ _ ih
theorem keysL_len (p : Cl → Bool) (L : List (Ky × Cl)) : (keysL p L).length ≤ L.length := by
  refine snocC (P := fun L => (keysL p L).length ≤ L.length) (Nat.le_refl _) (fun l x ih => ?_) L
  rw [keysL_snoc, List.length_append]
  split
  · rw [len_insK]; simp; omega
  · simp; omega
theorem mem_keysL (p : Cl → Bool) (L : List (Ky × Cl)) : ∀ k, k ∈ keysL p L ↔ ∃ q ∈ L, q.1 = k ∧ p q.2 = true := by
  refine snocC (P := fun L => ∀ k, k ∈ keysL p L ↔ ∃ q ∈ L, q.1 = k ∧ p q.2 = true) (fun k => by simp [keysL]) (fun l x ih k => ?_) L
  rw [keysL_snoc]
  by_cases h : p x.2 = true
  · rw [if_pos h, mem_insK, ih]
    constructor
    · rintro (rfl | ⟨q, hq, e⟩)
      · exact ⟨x, by simp, rfl, h⟩
      · exact ⟨q, by simp [hq], e⟩
    · rintro ⟨q, hq, e1, e2⟩
      rcases List.mem_append.1 hq with hq | hq
      · exact .inr ⟨q, hq, e1, e2⟩
      · obtain rfl : q = x := by simpa using hq
        exact .inl e1.symm
  · rw [if_neg h, ih]
    constructor
    · rintro ⟨q, hq, e⟩
      exact ⟨q, by simp [hq], e⟩
    · rintro ⟨q, hq, e1, e2⟩
      rcases List.mem_append.1 hq with hq | hq
      · exact ⟨q, hq, e1, e2⟩
      · obtain rfl : q = x := by simpa using hq
        exact absurd e2 h
theorem sorted_keysL (p : Cl → Bool) (L : List (Ky × Cl)) : (L.map (·.1)).Nodup → KySorted (keysL p L) := by
  refine snocC (P := fun L => (L.map (·.1)).Nodup → KySorted (keysL p L)) (fun _ => List.Pairwise.nil) (fun l x ih hd => ?_) L
  rw [List.map_append] at hd
  obtain ⟨h1, _, h2⟩ := List.nodup_append.1 hd
  rw [keysL_snoc]
  split
  · refine sorted_insK (ih h1) (fun hm => ?_)
    obtain ⟨q, hq, e, _⟩ := (mem_keysL p l _).1 hm
    exact h2 q.1 (List.mem_map.2 ⟨q, hq, rfl⟩) x.1 (by simp) e
  · exact ih h1
set_option maxRecDepth 100000 in
set_option maxHeartbeats 2000000 in
theorem rsameK_any (a b : Option Addr) (ca cb : Nat) (ks : List Ky) (w : World) (h1 : kK.V w a ks) (h2 : kK.V w b ks) (hl : ks.length ≤ 2000000) :
    Calls Try.prog 31 #[.slice a ks.length ca, .slice b ks.length cb] w fun e w' => e = .returned (.bool true) ∧ ∃ n, w' = w.drewN n := by
  have HA := Lib.hid h1
  have HB := Lib.hid h2
  obtain ⟨m, hm⟩ : ∃ m, m = ks.length := ⟨_, rfl⟩
  have HM : Hid (m = ks.length ∧ m ≤ 2000000) := Lib.hid (by omega)
  have tm : ((m : Int) != (m : Int)) = false := by simp
  rw [← hm]
  clear h1 h2 hl hm
  go_enter Try.func31, Try.ntmps31
  go_wp2_with fail
  clear tm
  go_loopw [5] (fun i wr => ∃ j : Nat, i = .int .i64 (j : Int) ∧ j ≤ m ∧ ∃ n, wr = w.drewN n) (fun i _ => m - (intOf i).toNat)
  case atStart => exact ⟨0, rfl, Nat.zero_le _, 0, rfl⟩
  case round =>
    obtain ⟨j, rfl, hj, n, rfl⟩ := hrel
    have hm6 := HM.out.2
    by_cases hlt : j < m
    · obtain ⟨k, hk⟩ : ∃ k, ks[j]? = some k := ⟨_, List.getElem?_eq_getElem (by have := HM.out.1; omega)⟩
      obtain ⟨b1, o1, rfl, at1⟩ := HA.out (fun e => by rw [e] at hk; simp at hk)
      obtain ⟨b2, o2, rfl, at2⟩ := HB.out (fun e => by rw [e] at hk; simp at hk)
      have p0 := at1.cells j k hk 0 _ rfl
      have p1 := at1.cells j k hk 1 _ rfl
      have p2 := at1.cells j k hk 2 _ rfl
      have p3 := at1.cells j k hk 3 _ rfl
      have q0 := at2.cells j k hk 0 _ rfl
      have q1 := at2.cells j k hk 1 _ rfl
      have q2 := at2.cells j k hk 2 _ rfl
      have q3 := at2.cells j k hk 3 _ rfl
      have l1 := at1.lt
      have l2 := at2.lt
      simp [kK] at p0 p1 p2 p3 q0 q1 q2 q3
      clear at1 at2 hk
      go_wp2_with fail
      go_quiet (fail)
      go_wp2_with fail
      exact ⟨⟨j + 1, by simp, hlt, _, rfl⟩, by simp [intOf]; omega⟩
    · have tj : decide ((j : Int) < (m : Int)) = false := decide_eq_false (by omega)
      go_wp2_with fail
      go_ret
      exact ⟨rfl, _, rfl⟩
end Go.Proofs.Ytaanohgkdpohhaa
