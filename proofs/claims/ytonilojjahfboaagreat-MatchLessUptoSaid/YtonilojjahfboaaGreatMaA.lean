/- Rows that fit a pattern, plainly: level by level, and depth first; what is paid. Conditions: each lemma's own premises. A pattern's nodes and links, plainly; which rows fit. Conditions: each lemma's own premises. A pattern turned about, and one with fewer links: which rows fit. Conditions: each lemma's own premises. What going on with a row gives, plainly: the rows behind it, and what is paid. Conditions: each lemma's own premises. -/
import Derived.Test.YtonilojjahfboaaGreatProg
import Derived.Test.YtonilojjahfboaaGreatFdA
import Derived.Test.YtonilojjahfboaaGreatRsA
import Derived.Test.YtonilojjahfboaaGreatWkA
namespace Go.Proofs.YtonilojjahfboaaGreat

section rows
variable (cand : Nat → List Int) (tied : List Int → Bool)
/-- may a number follow a row? -/
def stepOk (row : List Int) (v : Int) : Bool := !row.contains v && tied (row ++ [v])
def extR (row : List Int) : List (List Int) := ((cand row.length).filter (stepOk tied row)).map (fun v => row ++ [v])
/-- all rows behind one, depth first -/
def fullR : Nat → List Int → List (List Int)
  | 0, row => [row]
  | m + 1, row => (extR cand tied row).flatMap (fullR m)
/-- .. level by level -/
def levR : Nat → List (List Int)
  | 0 => [[]]
  | n + 1 => (levR n).flatMap (extR cand tied)
theorem full_lev (k : Nat) : ∀ m, (levR cand tied k).flatMap (fullR cand tied m) = levR cand tied (k + m)
  | 0 => by
    show (levR cand tied k).flatMap (fun r => [r]) = _
    rw [List.flatMap_singleton']
    rfl
  | m + 1 => by
    show (levR cand tied k).flatMap (fun r => (extR cand tied r).flatMap (fullR cand tied m)) = _
    rw [← List.flatMap_assoc]
    show (levR cand tied (k + 1)).flatMap (fullR cand tied m) = _
    rw [full_lev (k + 1) m]
    congr 1
    omega
theorem full_nil (n : Nat) : fullR cand tied n [] = levR cand tied n := by
  have h := full_lev cand tied 0 n
  simp only [levR, List.flatMap_cons, List.flatMap_nil, List.append_nil, Nat.zero_add] at h
  exact h
/-- does a row fit as far as it goes? -/
def RowFit (row : List Int) : Prop := ∀ (i : Nat) (v : Int), row[i]? = some v → v ∈ cand i ∧ v ∉ row.take i ∧ tied (row.take (i + 1)) = true
theorem rowFit_snoc (row : List Int) (v : Int) : RowFit cand tied (row ++ [v]) ↔ RowFit cand tied row ∧ v ∈ cand row.length ∧ stepOk tied row v = true := by
  unfold RowFit stepOk
  constructor
  · intro h
    have hl := h row.length v (by simp)
    refine ⟨fun i u hu => ?_, hl.1, ?_⟩
    · have hi := (List.getElem?_eq_some_iff.1 hu).1
      have := h i u (by rw [List.getElem?_append_left hi]; exact hu)
      rw [List.take_append_of_le_length (by omega), List.take_append_of_le_length (by omega)] at this
      exact this
    · have h2 := hl.2.1
      have h3 := hl.2.2
      rw [List.take_append_of_le_length (by omega), List.take_length] at h2
      rw [List.take_of_length_le (by simp)] at h3
      simp [h2, h3]
  · rintro ⟨h, hc, hs⟩ i u hu
    simp only [Bool.and_eq_true, Bool.not_eq_true', List.contains_eq_mem, decide_eq_false_iff_not] at hs
    by_cases hi : i < row.length
    · rw [List.getElem?_append_left hi] at hu
      rw [List.take_append_of_le_length (by omega), List.take_append_of_le_length (by omega)]
      exact h i u hu
    · have h1 := (List.getElem?_eq_some_iff.1 hu).1
      rw [List.length_append, List.length_singleton] at h1
      have hi2 : i = row.length := by omega
      subst hi2
      simp at hu
      subst hu
      rw [List.take_append_of_le_length (by omega), List.take_length, List.take_of_length_le (by simp)]
      exact ⟨hc, hs.1, hs.2⟩
theorem mem_ext {row r : List Int} : r ∈ extR cand tied row ↔ ∃ v, r = row ++ [v] ∧ v ∈ cand row.length ∧ stepOk tied row v = true := by
  unfold extR
  simp only [List.mem_map, List.mem_filter]
  constructor
  · rintro ⟨v, ⟨h1, h2⟩, rfl⟩; exact ⟨v, rfl, h1, h2⟩
  · rintro ⟨v, rfl, h1, h2⟩; exact ⟨v, ⟨h1, h2⟩, rfl⟩
theorem mem_lev : ∀ (n : Nat) (r : List Int), r ∈ levR cand tied n ↔ r.length = n ∧ RowFit cand tied r
  | 0, r => by
    simp only [levR, List.mem_singleton]
    constructor
    · rintro rfl; exact ⟨rfl, fun i v h => by simp at h⟩
    · rintro ⟨h, _⟩; exact List.eq_nil_of_length_eq_zero h
  | n + 1, r => by
    simp only [levR, List.mem_flatMap]
    constructor
    · rintro ⟨row, hr, he⟩
      obtain ⟨h1, h2⟩ := (mem_lev n row).1 hr
      obtain ⟨v, rfl, h3, h4⟩ := (mem_ext cand tied).1 he
      exact ⟨by simp [h1], (rowFit_snoc cand tied row v).2 ⟨h2, h3, h4⟩⟩
    · rintro ⟨h1, h2⟩
      rcases List.eq_nil_or_concat r with rfl | ⟨row, v, rfl⟩
      · simp at h1
      rw [List.concat_eq_append] at *
      obtain ⟨h3, h4, h5⟩ := (rowFit_snoc cand tied row v).1 h2
      refine ⟨row, (mem_lev n row).2 ⟨by simpa using h1, h3⟩, (mem_ext cand tied).2 ⟨v, rfl, h4, h5⟩⟩
theorem ext_nodup (hc : ∀ i, (cand i).Nodup) (row : List Int) : (extR cand tied row).Nodup := by
  unfold extR
  refine List.pairwise_map.2 (((hc row.length).filter _).imp ?_)
  intro a b hab e
  exact hab (by simpa using e)
theorem lev_nodup (hc : ∀ i, (cand i).Nodup) : ∀ n, (levR cand tied n).Nodup
  | 0 => by simp [levR]
  | n + 1 => by
    unfold levR
    refine List.pairwise_flatMap.2 ⟨fun r _ => ext_nodup cand tied hc r, ?_⟩
    refine (lev_nodup hc n).imp ?_
    intro a b hab x hxa y hxb exy
    obtain ⟨v, rfl, _, _⟩ := (mem_ext cand tied).1 hxa
    obtain ⟨u, e, _, _⟩ := (mem_ext cand tied).1 hxb
    exact hab (List.append_inj_left' (exy.trans e) rfl)
theorem ext_len {c : Nat} (hc : ∀ i, (cand i).length ≤ c) (row : List Int) : (extR cand tied row).length ≤ c := by
  unfold extR
  rw [List.length_map]
  exact Nat.le_trans (List.length_filter_le _ _) (hc _)
theorem lev_len {c : Nat} (hc : ∀ i, (cand i).length ≤ c) : ∀ n, (levR cand tied n).length ≤ c ^ n
  | 0 => Nat.le_refl _
  | n + 1 => by
    unfold levR
    rw [List.length_flatMap]
    have h : ∀ l : List (List Int), (l.map (fun r => (extR cand tied r).length)).sum ≤ l.length * c := by
      intro l
      induction l with
      | nil => simp
      | cons x l ih =>
        rw [List.map_cons, List.sum_cons, List.length_cons, Nat.succ_mul]
        have := ext_len cand tied hc x
        omega
    refine Nat.le_trans (h _) ?_
    rw [Nat.pow_succ]
    exact Nat.mul_le_mul_right _ (lev_len hc n)
end rows
/-- what is paid for the rows behind one -/
def payT (c : Nat) : Nat → Nat
  | 0 => 0
  | m + 1 => c * (1 + payT c m)
theorem payT_le (c : Nat) : ∀ m, payT c m + 1 ≤ (c + 1) ^ m
  | 0 => Nat.le_refl _
  | m + 1 => by
    have h := payT_le c m
    have h1 : 1 ≤ (c + 1) ^ m := Nat.one_le_pow _ _ (by omega)
    have h2 : c * (1 + payT c m) ≤ c * (c + 1) ^ m := Nat.mul_le_mul_left _ (by omega)
    show c * (1 + payT c m) + 1 ≤ (c + 1) ^ (m + 1)
    rw [Nat.pow_succ, Nat.mul_comm ((c + 1) ^ m), Nat.add_mul, Nat.one_mul]
    omega
open Classical in
/-- what may still be paid for who is next -/
noncomputable def potC {α : Type} (cost : α → Nat) (C : List α) : List α → Nat
  | [] => 0
  | u :: U => (if u ∈ C then 0 else cost u) + potC cost C U
theorem pot_mono {α : Type} (cost : α → Nat) (C : List α) (x : α) : ∀ U, potC cost (x :: C) U ≤ potC cost C U
  | [] => Nat.le_refl _
  | u :: U => by
    unfold potC
    have := pot_mono cost C x U
    by_cases h : u ∈ C
    · rw [if_pos h, if_pos (List.mem_cons_of_mem _ h)]; omega
    · rw [if_neg h]; split <;> omega
theorem pot_add {α : Type} (cost : α → Nat) {C : List α} {x : α} (hn : x ∉ C) : ∀ {U : List α}, x ∈ U → potC cost (x :: C) U + cost x ≤ potC cost C U
  | [], h => by cases h
  | u :: U, h => by
    unfold potC
    rcases List.mem_cons.1 h with rfl | h
    · rw [if_pos (List.mem_cons_self), if_neg hn]
      have := pot_mono cost C x U
      omega
    · have := pot_add cost hn h
      by_cases h2 : u ∈ C
      · rw [if_pos h2, if_pos (List.mem_cons_of_mem _ h2)]; omega
      · rw [if_neg h2]; split <;> omega
theorem pot_append {α : Type} (cost : α → Nat) (C : List α) : ∀ U W, potC cost C (U ++ W) = potC cost C U + potC cost C W
  | [], W => by simp [potC]
  | u :: U, W => by
    show potC cost C (u :: (U ++ W)) = _
    rw [potC, potC, pot_append cost C U W]
    omega
theorem pot_nil {α : Type} (cost : α → Nat) : ∀ U, potC cost [] U = (U.map cost).sum
  | [] => rfl
  | u :: U => by
    unfold potC
    rw [if_neg (by simp), pot_nil cost U]
    simp
end Go.Proofs.YtonilojjahfboaaGreat
namespace Go.Proofs.YtonilojjahfboaaGreat
open Go.RowKit Go.Maps

/-- a node of a pattern -/
structure Nd where
  lab : ByteArray
  key : ByteArray
  low : Vl
  high : Vl
/-- a link of a pattern -/
structure Lk where
  fr : Int
  tt : Int
  lab : ByteArray
def Nd.enc (x : Nd) : List Value := [.string x.lab, .string x.key, .int .i64 x.low.kind, .int .i64 x.low.n, .string x.low.s, .int .i64 x.high.kind, .int .i64 x.high.n, .string x.high.s]
def Lk.enc (x : Lk) : List Value := [.int .i64 x.fr, .int .i64 x.tt, .string x.lab]
def rightNd (x : Nd) : Bool := !badS x.lab && (x.key.toList.isEmpty || (!badS x.key && (x.low.right && x.high.right)))
def inN (k : Nat) (n : Int) : Bool := decide (0 ≤ n) && decide (n < (k : Int))
def rightLk (k : Nat) (l : Lk) : Bool := inN k l.fr && (inN k l.tt && (l.lab.toList.isEmpty || !badS l.lab))
def rightPat (NS : List Nd) (LS : List Lk) : Bool := decide (1 ≤ NS.length ∧ NS.length ≤ 8 ∧ LS.length ≤ 16) && (NS.all rightNd && LS.all (rightLk NS.length))
theorem inN_iff {k : Nat} {n : Int} : inN k n = true ↔ 0 ≤ n ∧ n < k := by unfold inN; simp
theorem rightPat_iff {NS : List Nd} {LS : List Lk} : rightPat NS LS = true ↔ (1 ≤ NS.length ∧ NS.length ≤ 8 ∧ LS.length ≤ 16) ∧ (∀ x ∈ NS, rightNd x = true) ∧ ∀ l ∈ LS, rightLk NS.length l = true := by
  unfold rightPat
  simp
theorem rightLk_in {k : Nat} {l : Lk} (h : rightLk k l = true) : (0 ≤ l.fr ∧ l.fr < k) ∧ 0 ≤ l.tt ∧ l.tt < k := by
  unfold rightLk at h
  simp only [Bool.and_eq_true] at h
  exact ⟨inN_iff.1 h.1, inN_iff.1 h.2.1⟩
/-- the steps that are enough -/
def boundP (NS : List Nd) (LS : List Lk) (v e : Int) : Int :=
  if rightPat NS LS = false ∨ v < 0 ∨ e < 0 ∨ 1073741824 ≤ v ∨ 1073741824 ≤ e then 1073741824
  else if 1073741824 ≤ (v + 1) ^ NS.length ∨ 1073741824 ≤ NS.length + LS.length * (v + e) + (v + 1) ^ NS.length then 1073741824
  else NS.length + LS.length * (v + e) + (v + 1) ^ NS.length
/-- which vertices a node has -/
def candP (V : List Vt) (NS : List Nd) (i : Nat) : List Int := match NS[i]? with
  | some x => fitL V x.lab x.key x.low x.high
  | none => []
theorem candP_nodup {V : List Vt} (hs : SortB Vt.id V) (NS : List Nd) (i : Nat) : (candP V NS i).Nodup := by
  unfold candP
  split
  · exact (fitL_inc hs _ _ _ _).imp (fun h => by omega)
  · exact List.nodup_nil
theorem candP_len (V : List Vt) (NS : List Nd) (i : Nat) : (candP V NS i).length ≤ V.length := by
  unfold candP
  split
  · exact fitL_len _ _ _ _ _
  · exact Nat.zero_le _
theorem mem_candP {V : List Vt} (hs : SortB Vt.id V) {NS : List Nd} {i : Nat} {x : Nd} (hx : NS[i]? = some x) (v : Int) : v ∈ candP V NS i ↔ isN V x.lab x.key x.low x.high v = true := by
  unfold candP
  rw [hx]
  show v ∈ fitL _ _ _ _ _ ↔ _
  unfold fitL
  simp only [List.mem_map, List.mem_filter]
  constructor
  · rintro ⟨y, ⟨hy, hf⟩, rfl⟩
    rw [isN_some hs hy]; exact hf
  · intro h
    cases hf : findB Vt.id V v with
    | none => unfold isN at h; rw [hf] at h; cases h
    | some y =>
      obtain ⟨hy, rfl⟩ := findB_some hf
      rw [isN_some hs hy] at h
      exact ⟨y, ⟨hy, h⟩, rfl⟩
/-- does a link hold in a row? -/
def linkP (E : List Eg) (row : List Int) (l : Lk) : Prop := edB E l.lab (row.getD l.fr.toNat 0) (row.getD l.tt.toNat 0)
open Classical in
/-- do the links hold whose later end is the last of a row? -/
noncomputable def tiedP (E : List Eg) (LS : List Lk) (row : List Int) : Bool := decide (∀ l ∈ LS, max l.fr l.tt + 1 = (row.length : Int) → linkP E row l)
open Classical in
theorem tiedP_iff {E : List Eg} {LS : List Lk} {row : List Int} : tiedP E LS row = true ↔ ∀ l ∈ LS, max l.fr l.tt + 1 = (row.length : Int) → linkP E row l := by
  unfold tiedP; exact decide_eq_true_iff
open Classical in
/-- does a row fit, as far as it goes? -/
noncomputable def fitsB (V : List Vt) (E : List Eg) (NS : List Nd) (LS : List Lk) (row : List Int) : Bool :=
  decide ((∀ (i : Nat) (v : Int), row[i]? = some v → v ∈ candP V NS i ∧ v ∉ row.take i) ∧ ∀ l ∈ LS, l.fr < row.length → l.tt < row.length → linkP E row l)
open Classical in
theorem fitsB_iff {V : List Vt} {E : List Eg} {NS : List Nd} {LS : List Lk} {row : List Int} : fitsB V E NS LS row = true ↔ (∀ (i : Nat) (v : Int), row[i]? = some v → v ∈ candP V NS i ∧ v ∉ row.take i) ∧ ∀ l ∈ LS, l.fr < row.length → l.tt < row.length → linkP E row l := by
  unfold fitsB; exact decide_eq_true_iff
theorem getD_take (row : List Int) {i n : Nat} (h : i < n) : (row.take n).getD i 0 = row.getD i 0 := by
  simp only [List.getD_eq_getElem?_getD, List.getElem?_take, if_pos h]
theorem fits_row {V : List Vt} {E : List Eg} {NS : List Nd} {LS : List Lk} (hl : ∀ l ∈ LS, rightLk NS.length l = true) (row : List Int) : fitsB V E NS LS row = true ↔ RowFit (candP V NS) (tiedP E LS) row := by
  rw [fitsB_iff]
  unfold RowFit
  constructor
  · rintro ⟨h1, h2⟩ i v hv
    have hi := (List.getElem?_eq_some_iff.1 hv).1
    refine ⟨(h1 i v hv).1, (h1 i v hv).2, tiedP_iff.2 fun l hm e => ?_⟩
    obtain ⟨⟨a1, a2⟩, a3, a4⟩ := rightLk_in (hl l hm)
    rw [List.length_take, Nat.min_eq_left (by omega)] at e
    have := h2 l hm (by omega) (by omega)
    unfold linkP at this ⊢
    rw [getD_take row (by omega), getD_take row (by omega)]
    exact this
  · intro h
    refine ⟨fun i v hv => ⟨(h i v hv).1, (h i v hv).2.1⟩, fun l hm b1 b2 => ?_⟩
    obtain ⟨⟨a1, a2⟩, a3, a4⟩ := rightLk_in (hl l hm)
    obtain ⟨m, hm2⟩ : ∃ m : Nat, max l.fr l.tt = m := ⟨(max l.fr l.tt).toNat, by omega⟩
    have hlt : m < row.length := by omega
    have := tiedP_iff.1 (h m row[m] (List.getElem?_eq_getElem hlt)).2.2 l hm (by rw [List.length_take, Nat.min_eq_left (by omega)]; omega)
    unfold linkP at this ⊢
    rw [getD_take row (by omega), getD_take row (by omega)] at this
    exact this
/-- the document's next level -/
noncomputable def refExt (V : List Vt) (E : List Eg) (NS : List Nd) (LS : List Lk) (row : List Int) : List (List Int) := ((V.map Vt.id).filter (fun v => fitsB V E NS LS (row ++ [v]))).map (fun v => row ++ [v])
noncomputable def refLev (V : List Vt) (E : List Eg) (NS : List Nd) (LS : List Lk) : Nat → List (List Int)
  | 0 => [[]]
  | n + 1 => (refLev V E NS LS n).flatMap (refExt V E NS LS)
theorem refExt_eq {V : List Vt} {E : List Eg} {NS : List Nd} {LS : List Lk} (hs : SortB Vt.id V) (hl : ∀ l ∈ LS, rightLk NS.length l = true) {row : List Int} (hr : RowFit (candP V NS) (tiedP E LS) row) (hn : row.length < NS.length) :
    refExt V E NS LS row = extR (candP V NS) (tiedP E LS) row := by
  unfold refExt extR
  congr 1
  have hx : NS[row.length]? = some NS[row.length] := List.getElem?_eq_getElem hn
  have hc : candP V NS row.length = (V.filter (fitP NS[row.length].lab NS[row.length].key NS[row.length].low NS[row.length].high)).map Vt.id := by
    unfold candP; rw [hx]; rfl
  rw [hc, List.filter_map, List.filter_map, List.filter_filter]
  congr 1
  refine List.filter_congr fun y hy => ?_
  have h1 := (fits_row (V := V) (E := E) hl (row ++ [y.id])).trans (rowFit_snoc (candP V NS) (tiedP E LS) row y.id)
  rw [mem_candP hs hx, isN_some hs hy] at h1
  show fitsB V E NS LS (row ++ [y.id]) = (stepOk (tiedP E LS) row y.id && fitP _ _ _ _ y)
  rw [Bool.eq_iff_iff, h1, Bool.and_eq_true]
  exact ⟨fun ⟨_, a, b⟩ => ⟨b, a⟩, fun ⟨b, a⟩ => ⟨hr, a, b⟩⟩
theorem refLev_eq {V : List Vt} {E : List Eg} {NS : List Nd} {LS : List Lk} (hs : SortB Vt.id V) (hl : ∀ l ∈ LS, rightLk NS.length l = true) : ∀ n, n ≤ NS.length → refLev V E NS LS n = levR (candP V NS) (tiedP E LS) n
  | 0, _ => rfl
  | n + 1, hn => by
    unfold refLev levR
    rw [refLev_eq hs hl n (by omega)]
    have : ∀ L : List (List Int), (∀ r ∈ L, r ∈ levR (candP V NS) (tiedP E LS) n) → L.flatMap (refExt V E NS LS) = L.flatMap (extR (candP V NS) (tiedP E LS)) := by
      intro L
      induction L with
      | nil => intro _; rfl
      | cons r L ih =>
        intro h
        obtain ⟨h1, h2⟩ := (mem_lev _ _ n r).1 (h r (List.mem_cons_self))
        rw [List.flatMap_cons, List.flatMap_cons, ih (fun x hx => h x (List.mem_cons_of_mem _ hx)), refExt_eq hs hl h2 (by omega)]
    exact this _ (fun _ h => h)
/-- all rows of a pattern -/
noncomputable def rowsP (V : List Vt) (E : List Eg) (NS : List Nd) (LS : List Lk) : List (List Int) := levR (candP V NS) (tiedP E LS) NS.length
theorem rowsP_nodup {V : List Vt} (hs : SortB Vt.id V) (E : List Eg) (NS : List Nd) (LS : List Lk) : (rowsP V E NS LS).Nodup := lev_nodup _ _ (candP_nodup hs NS) _
theorem rowsP_len (V : List Vt) (E : List Eg) (NS : List Nd) (LS : List Lk) : (rowsP V E NS LS).length ≤ V.length ^ NS.length := lev_len _ _ (candP_len V NS) _
/-- which rows they are -/
theorem mem_rowsP {V : List Vt} {E : List Eg} {NS : List Nd} {LS : List Lk} (hl : ∀ l ∈ LS, rightLk NS.length l = true) (r : List Int) :
    r ∈ rowsP V E NS LS ↔ r.length = NS.length ∧ (∀ (i : Nat) (v : Int), r[i]? = some v → v ∈ candP V NS i) ∧ r.Nodup ∧ ∀ l ∈ LS, linkP E r l := by
  unfold rowsP
  rw [mem_lev, ← fits_row hl, fitsB_iff]
  constructor
  · rintro ⟨h0, h1, h2⟩
    refine ⟨h0, fun i v hv => (h1 i v hv).1, ?_, fun l hm => ?_⟩
    · rw [List.nodup_iff_pairwise_ne, List.pairwise_iff_getElem]
      intro i j hi hj hij e
      refine (h1 j r[j] (List.getElem?_eq_getElem hj)).2 (List.mem_iff_getElem?.2 ⟨i, ?_⟩)
      rw [List.getElem?_take, if_pos hij, List.getElem?_eq_getElem hi, e]
    · obtain ⟨⟨a1, a2⟩, a3, a4⟩ := rightLk_in (hl l hm)
      exact h2 l hm (by omega) (by omega)
  · rintro ⟨h0, h1, h2, h3⟩
    refine ⟨h0, fun i v hv => ⟨h1 i v hv, fun hm => ?_⟩, fun l hm _ _ => h3 l hm⟩
    obtain ⟨j, hj⟩ := List.mem_iff_getElem?.1 hm
    rw [List.getElem?_take] at hj
    split at hj
    · rename_i hji
      obtain ⟨hi1, hi2⟩ := List.getElem?_eq_some_iff.1 hv
      obtain ⟨hj1, hj2⟩ := List.getElem?_eq_some_iff.1 hj
      rw [List.nodup_iff_pairwise_ne, List.pairwise_iff_getElem] at h2
      exact h2 j i hj1 hi1 hji (hj2.trans hi2.symm)
    · cases hj
end Go.Proofs.YtonilojjahfboaaGreat
namespace Go.Proofs.YtonilojjahfboaaGreat
open Go.RowKit Go.Maps

theorem mod_turn {n k i : Nat} (hk : k < n) (hi : i < n) : (i + k) % n = if i + k < n then i + k else i + k - n := by
  split
  · rename_i h; exact Nat.mod_eq_of_lt h
  · rename_i h
    rw [Nat.mod_eq_sub_mod (by omega), Nat.mod_eq_of_lt (by omega)]
theorem nodup_lenG {α : Type} [DecidableEq α] {l m : List α} (h : l.Nodup) (hs : ∀ x ∈ l, x ∈ m) : l.length ≤ m.length := by
  induction l generalizing m with
  | nil => simp
  | cons x l ih =>
    obtain ⟨h1, h2⟩ := List.nodup_cons.1 h
    have hx := hs x (List.mem_cons.2 (.inl rfl))
    have := ih (m := m.erase x) h2 (fun y hy => (List.mem_erase_of_ne (fun e => h1 (by rw [← e]; exact hy))).2 (hs y (List.mem_cons.2 (.inr hy))))
    rw [List.length_erase_of_mem hx] at this
    have := List.length_pos_of_mem hx
    simp; omega
def Nd.z : Nd := ⟨⟨#[]⟩, ⟨#[]⟩, ⟨0, 0, ⟨#[]⟩⟩, ⟨0, 0, ⟨#[]⟩⟩⟩
/-- the first m nodes, turned about -/
def turnN (NS : List Nd) (k m : Nat) : List Nd := (List.range m).map (fun i => NS.getD ((i + k) % NS.length) Nd.z)
def turnLk (n k : Nat) (l : Lk) : Lk := ⟨(l.fr - k + n).tmod n, (l.tt - k + n).tmod n, l.lab⟩
/-- the links behind the first m, turned about, the last one first -/
def turnK (n k : Nat) (LS : List Lk) (m : Nat) : List Lk := (LS.drop m).reverse.map (turnLk n k)
/-- a row turned about -/
def rotR (n k : Nat) (r : List Int) : List Int := (List.range n).map (fun x => r.getD ((x + k) % n) 0)
theorem turnN_succ (NS : List Nd) (k m : Nat) {x : Nd} (hx : NS[(m + k) % NS.length]? = some x) : turnN NS k (m + 1) = turnN NS k m ++ [x] := by
  unfold turnN
  rw [List.range_succ, List.map_append]
  simp [List.getD_eq_getElem?_getD, hx]
theorem turnK_succ (n k : Nat) (LS : List Lk) (m : Nat) {l : Lk} (hl : LS[m]? = some l) : turnK n k LS m = turnK n k LS (m + 1) ++ [turnLk n k l] := by
  unfold turnK
  obtain ⟨h1, rfl⟩ := List.getElem?_eq_some_iff.1 hl
  rw [List.drop_eq_getElem_cons h1, List.reverse_cons, List.map_append]
  rfl
theorem turnN_len (NS : List Nd) (k m : Nat) : (turnN NS k m).length = m := by unfold turnN; simp
theorem turnN_at {NS : List Nd} {k m i : Nat} (hi : i < m) (hn : 0 < NS.length) : (turnN NS k m)[i]? = NS[(i + k) % NS.length]? := by
  unfold turnN
  rw [List.getElem?_map, List.getElem?_range hi]
  have : (i + k) % NS.length < NS.length := Nat.mod_lt _ hn
  rw [List.getElem?_eq_getElem this]
  simp [List.getD_eq_getElem?_getD, List.getElem?_eq_getElem this]
theorem rotR_len (n k : Nat) (r : List Int) : (rotR n k r).length = n := by unfold rotR; simp
theorem rotR_at {n k i : Nat} (hi : i < n) {r : List Int} (hr : r.length = n) : (rotR n k r)[i]? = r[(i + k) % n]? := by
  unfold rotR
  rw [List.getElem?_map, List.getElem?_range hi]
  have : (i + k) % n < r.length := by rw [hr]; exact Nat.mod_lt _ (by omega)
  rw [List.getElem?_eq_getElem this]
  simp [List.getD_eq_getElem?_getD, List.getElem?_eq_getElem this]
theorem rotR_nodup {n k : Nat} (hk : k < n) {r : List Int} (hr : r.length = n) (h : r.Nodup) : (rotR n k r).Nodup := by
  rw [List.nodup_iff_pairwise_ne, List.pairwise_iff_getElem]
  intro i j hi hj hij e
  rw [rotR_len] at hi hj
  have e2 : (rotR n k r)[i]? = (rotR n k r)[j]? := by
    rw [List.getElem?_eq_getElem (by rw [rotR_len]; exact hi), List.getElem?_eq_getElem (by rw [rotR_len]; exact hj), e]
  rw [rotR_at hi hr, rotR_at hj hr] at e2
  have h1 : (i + k) % n < r.length := by rw [hr]; exact Nat.mod_lt _ (by omega)
  have h2 : (i + k) % n = (j + k) % n := (List.getElem?_inj h1 h).1 e2
  rw [mod_turn hk hi, mod_turn hk hj] at h2
  split at h2 <;> split at h2 <;> omega
theorem rotR_inj {n k : Nat} (hk : k < n) {r s : List Int} (hr : r.length = n) (hs : s.length = n) (e : rotR n k r = rotR n k s) : r = s := by
  refine List.ext_getElem? fun j => ?_
  by_cases hj : j < n
  · obtain ⟨i, hi, hij⟩ : ∃ i, i < n ∧ (i + k) % n = j := by
      by_cases h : k ≤ j
      · exact ⟨j - k, by omega, by rw [mod_turn hk (by omega)]; split <;> omega⟩
      · exact ⟨j + n - k, by omega, by rw [mod_turn hk (by omega)]; split <;> omega⟩
    have e2 : (rotR n k r)[i]? = (rotR n k s)[i]? := by rw [e]
    rw [rotR_at hi hr, rotR_at hi hs, hij] at e2
    exact e2
  · rw [List.getElem?_eq_none (by omega), List.getElem?_eq_none (by omega)]
theorem turnFr {n k : Nat} (hk : k < n) {x : Int} (h0 : 0 ≤ x) (h1 : x < n) : ∃ m j : Nat, x = m ∧ m < n ∧ (x - k + n).tmod n = j ∧ j < n ∧ (j + k) % n = m := by
  obtain ⟨m, rfl⟩ : ∃ m : Nat, x = m := ⟨x.toNat, by omega⟩
  by_cases h : k ≤ m
  · refine ⟨m, m - k, rfl, by omega, ?_, by omega, ?_⟩
    · have e : ((m : Int) - k + n) = ((m - k + n : Nat) : Int) := by omega
      rw [e, ← Int.ofNat_tmod, Nat.mod_eq_sub_mod (by omega), Nat.mod_eq_of_lt (by omega)]
      omega
    · rw [mod_turn hk (by omega)]; split <;> omega
  · refine ⟨m, m + n - k, rfl, by omega, ?_, by omega, ?_⟩
    · have e : ((m : Int) - k + n) = ((m + n - k : Nat) : Int) := by omega
      rw [e, ← Int.ofNat_tmod, Nat.mod_eq_of_lt (by omega)]
    · rw [mod_turn hk (by omega)]; split <;> omega
section
variable {V : List Vt} {E : List Eg} {NS : List Nd} {LS : List Lk} {k : Nat}
theorem turn_right (hr : rightPat NS LS = true) (hk : k < NS.length) : rightPat (turnN NS k NS.length) (turnK NS.length k LS 0) = true := by
  obtain ⟨h1, h2, h3⟩ := rightPat_iff.1 hr
  refine rightPat_iff.2 ⟨⟨by rw [turnN_len]; omega, by rw [turnN_len]; omega, by unfold turnK; simp; omega⟩, fun x hx => ?_, fun l hl => ?_⟩
  · obtain ⟨i, hi⟩ := List.mem_iff_getElem?.1 hx
    have hi2 := (List.getElem?_eq_some_iff.1 hi).1
    rw [turnN_len] at hi2
    rw [turnN_at hi2 (by omega)] at hi
    exact h2 x (List.mem_of_getElem? hi)
  · unfold turnK at hl
    simp only [List.drop_zero, List.mem_map, List.mem_reverse] at hl
    obtain ⟨l0, hm, rfl⟩ := hl
    have h4 := h3 l0 hm
    obtain ⟨⟨a1, a2⟩, a3, a4⟩ := rightLk_in h4
    obtain ⟨m, j, _, _, e1, hj, _⟩ := turnFr hk a1 a2
    obtain ⟨m', j', _, _, e2, hj', _⟩ := turnFr hk a3 a4
    unfold rightLk at h4 ⊢
    simp only [Bool.and_eq_true] at h4 ⊢
    rw [turnN_len]
    exact ⟨inN_iff.2 (by show 0 ≤ (l0.fr - k + _).tmod _ ∧ (l0.fr - k + _).tmod _ < _; rw [e1]; omega), inN_iff.2 (by show 0 ≤ (l0.tt - k + _).tmod _ ∧ (l0.tt - k + _).tmod _ < _; rw [e2]; omega), h4.2.2⟩
theorem link_turn {r : List Int} (hk : k < NS.length) (hr : r.length = NS.length) {l : Lk} (hl : rightLk NS.length l = true) : linkP E (rotR NS.length k r) (turnLk NS.length k l) ↔ linkP E r l := by
  obtain ⟨⟨a1, a2⟩, a3, a4⟩ := rightLk_in hl
  obtain ⟨m, j, e0, _, e1, hj, e2⟩ := turnFr hk a1 a2
  obtain ⟨m', j', e0', _, e1', hj', e2'⟩ := turnFr hk a3 a4
  have f1 : (rotR NS.length k r).getD ((l.fr - k + NS.length).tmod NS.length).toNat 0 = r.getD l.fr.toNat 0 := by
    rw [e1, e0, List.getD_eq_getElem?_getD, List.getD_eq_getElem?_getD]
    show ((rotR NS.length k r)[j]?).getD 0 = _
    rw [rotR_at hj hr, e2]; rfl
  have f2 : (rotR NS.length k r).getD ((l.tt - k + NS.length).tmod NS.length).toNat 0 = r.getD l.tt.toNat 0 := by
    rw [e1', e0', List.getD_eq_getElem?_getD, List.getD_eq_getElem?_getD]
    show ((rotR NS.length k r)[j']?).getD 0 = _
    rw [rotR_at hj' hr, e2']; rfl
  unfold linkP
  show edB E l.lab ((rotR NS.length k r).getD ((l.fr - k + NS.length).tmod NS.length).toNat 0) ((rotR NS.length k r).getD ((l.tt - k + NS.length).tmod NS.length).toNat 0) ↔ _
  rw [f1, f2]
theorem cand_turn {i : Nat} (hi : i < NS.length) : candP V (turnN NS k NS.length) i = candP V NS ((i + k) % NS.length) := by
  unfold candP
  rw [turnN_at hi (by omega)]
theorem turn_mem (hr : rightPat NS LS = true) (hk : k < NS.length) {r : List Int} (hl : r.length = NS.length) :
    rotR NS.length k r ∈ rowsP V E (turnN NS k NS.length) (turnK NS.length k LS 0) ↔ r ∈ rowsP V E NS LS := by
  have hT := turn_right hr hk
  obtain ⟨_, _, h3⟩ := rightPat_iff.1 hr
  obtain ⟨_, _, h3'⟩ := rightPat_iff.1 hT
  rw [mem_rowsP h3', mem_rowsP h3]
  constructor
  · rintro ⟨_, b2, b3, b4⟩
    refine ⟨hl, fun j v hv => ?_, ?_, fun l hm => ?_⟩
    · have hj := (List.getElem?_eq_some_iff.1 hv).1
      obtain ⟨i, hi, hij⟩ : ∃ i, i < NS.length ∧ (i + k) % NS.length = j := by
        by_cases h : k ≤ j
        · exact ⟨j - k, by omega, by rw [mod_turn hk (by omega)]; split <;> omega⟩
        · exact ⟨j + NS.length - k, by omega, by rw [mod_turn hk (by omega)]; split <;> omega⟩
      have := b2 i v (by rw [rotR_at hi hl, hij]; exact hv)
      rw [cand_turn hi, hij] at this
      exact this
    · rw [List.nodup_iff_pairwise_ne, List.pairwise_iff_getElem]
      intro a b ha hb hab e
      have h2 : ∀ j, j < NS.length → ∃ i, i < NS.length ∧ (i + k) % NS.length = j := fun j hj => by
        by_cases h : k ≤ j
        · exact ⟨j - k, by omega, by rw [mod_turn hk (by omega)]; split <;> omega⟩
        · exact ⟨j + NS.length - k, by omega, by rw [mod_turn hk (by omega)]; split <;> omega⟩
      obtain ⟨i, hi, hia⟩ := h2 a (by omega)
      obtain ⟨j, hj, hjb⟩ := h2 b (by omega)
      have e2 : (rotR NS.length k r)[i]? = (rotR NS.length k r)[j]? := by
        rw [rotR_at hi hl, rotR_at hj hl, hia, hjb, List.getElem?_eq_getElem ha, List.getElem?_eq_getElem hb, e]
      have : i = j := (List.getElem?_inj (by rw [rotR_len]; exact hi) b3).1 e2
      subst this
      omega
    · refine (link_turn hk hl (h3 l hm)).1 (b4 _ ?_)
      unfold turnK
      simp only [List.drop_zero, List.mem_map, List.mem_reverse]
      exact ⟨l, hm, rfl⟩
  · rintro ⟨_, b2, b3, b4⟩
    refine ⟨by rw [rotR_len, turnN_len], fun i v hv => ?_, rotR_nodup hk hl b3, fun l hm => ?_⟩
    · have hi := (List.getElem?_eq_some_iff.1 hv).1
      rw [rotR_len] at hi
      rw [rotR_at hi hl] at hv
      rw [cand_turn hi]
      exact b2 _ v hv
    · unfold turnK at hm
      simp only [List.drop_zero, List.mem_map, List.mem_reverse] at hm
      obtain ⟨l0, hm, rfl⟩ := hm
      exact (link_turn hk hl (h3 l0 hm)).2 (b4 l0 hm)
theorem rot_back {n : Nat} (hk : k < n) {r : List Int} (hl : r.length = n) : ∃ s, s.length = n ∧ rotR n k s = r := by
  refine ⟨rotR n ((n - k) % n) r, rotR_len _ _ _, List.ext_getElem? fun i => ?_⟩
  by_cases hi : i < n
  · rw [rotR_at hi (rotR_len _ _ _), rotR_at (Nat.mod_lt _ (by omega)) hl]
    congr 1
    by_cases h0 : k = 0
    · subst h0
      simp [Nat.mod_eq_of_lt hi]
    · have e1 : (n - k) % n < n := Nat.mod_lt _ (by omega)
      have e2 : (i + k) % n < n := Nat.mod_lt _ (by omega)
      rw [mod_turn e1 e2, mod_turn hk hi, Nat.mod_eq_of_lt (show n - k < n by omega)]
      split <;> split <;> omega
  · rw [List.getElem?_eq_none (by rw [rotR_len]; omega), List.getElem?_eq_none (by omega)]
theorem row_len (hr : rightPat NS LS = true) {r : List Int} (h : r ∈ rowsP V E NS LS) : r.length = NS.length := ((mem_rowsP (rightPat_iff.1 hr).2.2 r).1 h).1
theorem turn_rows (hs : SortB Vt.id V) (hr : rightPat NS LS = true) (hk : k < NS.length) : (rowsP V E (turnN NS k NS.length) (turnK NS.length k LS 0)).length = (rowsP V E NS LS).length := by
  have hT := turn_right hr hk
  refine Nat.le_antisymm ?_ ?_
  · have h1 := nodup_lenG (m := (rowsP V E NS LS).map (rotR NS.length k)) (rowsP_nodup hs E (turnN NS k NS.length) (turnK NS.length k LS 0)) (fun x hx => by
      have hx2 := row_len hT hx
      rw [turnN_len] at hx2
      obtain ⟨s, h1, rfl⟩ := rot_back hk hx2
      exact List.mem_map.2 ⟨s, (turn_mem hr hk h1).1 hx, rfl⟩)
    rwa [List.length_map] at h1
  · have hn : ((rowsP V E NS LS).map (rotR NS.length k)).Nodup := by
      have : ∀ L : List (List Int), L.Nodup → (∀ r ∈ L, r.length = NS.length) → (L.map (rotR NS.length k)).Nodup := by
        intro L
        induction L with
        | nil => intro _ _; exact List.nodup_nil
        | cons r L ih =>
          intro h1 h2
          obtain ⟨h3, h4⟩ := List.nodup_cons.1 h1
          rw [List.map_cons]
          refine List.nodup_cons.2 ⟨fun hm => ?_, ih h4 (fun x hx => h2 x (List.mem_cons_of_mem _ hx))⟩
          obtain ⟨s, hs1, hs2⟩ := List.mem_map.1 hm
          have := rotR_inj hk (h2 s (List.mem_cons_of_mem _ hs1)) (h2 r (List.mem_cons_self)) hs2
          subst this
          exact h3 hs1
      exact this _ (rowsP_nodup hs E NS LS) (fun r hm => row_len hr hm)
    have h1 := nodup_lenG (m := rowsP V E (turnN NS k NS.length) (turnK NS.length k LS 0)) hn (fun x hx => by
      obtain ⟨r, hm, rfl⟩ := List.mem_map.1 hx
      exact (turn_mem hr hk (row_len hr hm)).2 hm)
    rwa [List.length_map] at h1
/-- the nodes with their labels alone -/
def bareN (NS : List Nd) : List Nd := NS.map (fun x => ⟨x.lab, ⟨#[]⟩, ⟨0, 0, ⟨#[]⟩⟩, ⟨0, 0, ⟨#[]⟩⟩⟩)
theorem less_right (hr : rightPat NS LS = true) : rightPat (bareN NS) (LS.take k ++ LS.drop (k + 1)) = true := by
  obtain ⟨⟨h1, h1', h1''⟩, h2, h3⟩ := rightPat_iff.1 hr
  refine rightPat_iff.2 ⟨⟨by unfold bareN; simpa using h1, by unfold bareN; simpa using h1', by simp; omega⟩, fun x hx => ?_, fun l hl => ?_⟩
  · unfold bareN at hx
    obtain ⟨y, hy, rfl⟩ := List.mem_map.1 hx
    have := h2 y hy
    unfold rightNd at this ⊢
    simp only [Bool.and_eq_true] at this
    simp [this.1, ByteArray.toList_eq]
  · have hm : l ∈ LS := by
      rcases List.mem_append.1 hl with h | h
      · exact List.mem_of_mem_take h
      · exact List.mem_of_mem_drop h
    have := h3 l hm
    unfold bareN
    rw [List.length_map]
    exact this
theorem less_mem (hr : rightPat NS LS = true) {r : List Int} (h : r ∈ rowsP V E NS LS) : r ∈ rowsP V E (bareN NS) (LS.take k ++ LS.drop (k + 1)) := by
  obtain ⟨_, _, h3⟩ := rightPat_iff.1 hr
  obtain ⟨_, _, h3'⟩ := rightPat_iff.1 (less_right (k := k) hr)
  obtain ⟨b1, b2, b3, b4⟩ := (mem_rowsP h3 r).1 h
  refine (mem_rowsP h3' r).2 ⟨by unfold bareN; simpa using b1, fun i v hv => ?_, b3, fun l hl => b4 l ?_⟩
  · have hi := (List.getElem?_eq_some_iff.1 hv).1
    have hx : NS[i]? = some NS[i] := List.getElem?_eq_getElem (by omega)
    have h1 := b2 i v hv
    unfold candP at h1 ⊢
    unfold bareN
    rw [List.getElem?_map, hx]
    rw [hx] at h1
    show v ∈ fitL _ _ _ _ _
    unfold fitL at h1 ⊢
    simp only [List.mem_map, List.mem_filter] at h1 ⊢
    obtain ⟨y, ⟨hy, hf⟩, rfl⟩ := h1
    refine ⟨y, ⟨hy, ?_⟩, rfl⟩
    unfold fitP at hf ⊢
    simp only [Bool.and_eq_true] at hf
    simp [hf.1, ByteArray.toList_eq]
  · rcases List.mem_append.1 hl with h | h
    · exact List.mem_of_mem_take h
    · exact List.mem_of_mem_drop h
theorem less_rows (hs : SortB Vt.id V) (hr : rightPat NS LS = true) : (rowsP V E NS LS).length ≤ (rowsP V E (bareN NS) (LS.take k ++ LS.drop (k + 1))).length :=
  nodup_lenG (rowsP_nodup hs E NS LS) (fun _ h => less_mem hr h)
end
end Go.Proofs.YtonilojjahfboaaGreat
namespace Go.Proofs.YtonilojjahfboaaGreat

/-- the rows behind a row by the first j of a list -/
def doneR (cand : Nat → List Int) (tied : List Int → Bool) (m : Nat) (row L : List Int) (j : Nat) : List (List Int) := ((L.take j).filter (stepOk tied row)).flatMap (fun v => fullR cand tied m (row ++ [v]))
section
variable {cand : Nat → List Int} {tied : List Int → Bool} {m : Nat} {row L : List Int} {j : Nat} {v : Int}
theorem doneR_zero : doneR cand tied m row L 0 = [] := by unfold doneR; simp
theorem doneR_yes (hv : L[j]? = some v) (h : stepOk tied row v = true) : doneR cand tied m row L (j + 1) = doneR cand tied m row L j ++ fullR cand tied m (row ++ [v]) := by
  unfold doneR
  rw [List.take_add_one, hv, List.filter_append, List.flatMap_append]
  simp [h]
theorem doneR_no (hv : L[j]? = some v) (h : stepOk tied row v = false) : doneR cand tied m row L (j + 1) = doneR cand tied m row L j := by
  unfold doneR
  rw [List.take_add_one, hv, List.filter_append, List.flatMap_append]
  simp [h]
theorem doneR_all (hL : L = cand row.length) (hj : L.length ≤ j) : doneR cand tied m row L j = fullR cand tied (m + 1) row := by
  unfold doneR
  rw [List.take_of_length_le hj, hL]
  show _ = (extR cand tied row).flatMap (fullR cand tied m)
  unfold extR
  rw [List.flatMap_map]
theorem doneR_pre (hL : L = cand row.length) (j : Nat) : ∃ x, doneR cand tied m row L j ++ x = fullR cand tied (m + 1) row := by
  refine ⟨((L.drop j).filter (stepOk tied row)).flatMap (fun v => fullR cand tied m (row ++ [v])), ?_⟩
  rw [← doneR_all (m := m) (j := L.length) hL (Nat.le_refl _)]
  unfold doneR
  rw [← List.flatMap_append, ← List.filter_append, List.take_append_drop, List.take_length]
end
/-- all of a list is there, or too many -/
def Here (most : Nat) (out' want : List (List Int)) : Prop := out' = want ∨ (most < out'.length ∧ ∃ x, out' ++ x = want)
theorem Here.more {most : Nat} {a b c : List (List Int)} (h : Here most a b) (hm : most < a.length) (hb : ∃ x, b ++ x = c) : Here most a c := by
  obtain ⟨x, rfl⟩ := hb
  rcases h with rfl | ⟨_, y, rfl⟩
  · exact .inr ⟨hm, x, rfl⟩
  · exact .inr ⟨hm, y ++ x, by rw [List.append_assoc]⟩
theorem Here.few {most : Nat} {a b : List (List Int)} (h : Here most a b) (hm : a.length ≤ most) : a = b := by
  rcases h with h | ⟨h, _⟩
  · exact h
  · omega
/-- what going on gives -/
def OnR (cand : Nat → List Int) (tied : List Int → Bool) (c most m : Nat) (row : List Int) (st st' : Option Nat) (p p' : Nat) (out out' : List (List Int)) : Prop :=
  out'.length ≤ most + 1 ∧ ((st' = none ∧ ∀ r, st = some r → r < payT c m + p) ∨ ∃ r r', st = some r ∧ st' = some r' ∧ r + p' ≤ r' + payT c m + p ∧ Here most out' (out ++ fullR cand tied m row))
/-- .. after j vertices -/
def LpR (cand : Nat → List Int) (tied : List Int → Bool) (c most m : Nat) (row L : List Int) (j : Nat) (st0 st : Option Nat) (p0 p : Nat) (out0 out : List (List Int)) : Prop :=
  out.length ≤ most + 1 ∧ ((st = none ∧ ∀ r, st0 = some r → r < payT c (m + 1) + p0) ∨ ∃ r0 r, st0 = some r0 ∧ st = some r ∧ r0 + p ≤ r + j * (1 + payT c m) + p0 ∧ Here most out (out0 ++ doneR cand tied m row L j))
/-- what the look at the links gives -/
def FitR (t : Bool) (b : Bool) (st st' : Option Nat) (p p' : Nat) : Prop := (st' = none ∧ b = false ∧ ∀ r, st = some r → r < p) ∨ ∃ r r', st = some r ∧ st' = some r' ∧ r + p' ≤ r' + p ∧ b = t
section
variable {cand : Nat → List Int} {tied : List Int → Bool} {c most m k : Nat} {row L : List Int} {j : Nat} {v : Int} {st0 st st2 st3 : Option Nat} {p0 p p2 p3 : Nat} {out0 out out2 : List (List Int)}
theorem payT_row (hj : j < L.length) (hc : L.length ≤ c) : (j + 1) * (1 + payT c m) ≤ payT c (m + 1) := Nat.mul_le_mul_right _ (by omega)
theorem LpR.start (h : out0.length ≤ most + 1) : LpR cand tied c most m row L 0 st0 st0 p0 p0 out0 out0 := by
  refine ⟨h, ?_⟩
  cases st0 with
  | none => exact .inl ⟨rfl, fun r h => by cases h⟩
  | some r => exact .inr ⟨r, r, rfl, rfl, by omega, .inl (by rw [doneR_zero, List.append_nil])⟩
/-- too many -/
theorem LpR.many (h : LpR cand tied c most m row L j st0 st p0 p out0 out) (hL : L = cand row.length) (hc : L.length ≤ c) (hj : j ≤ L.length) (hm : most < out.length) : OnR cand tied c most (m + 1) row st0 st p0 p out0 out := by
  refine ⟨h.1, ?_⟩
  rcases h.2 with ⟨h1, h2⟩ | ⟨r0, r, h1, h2, h3, h4⟩
  · exact .inl ⟨h1, h2⟩
  · refine .inr ⟨r0, r, h1, h2, ?_, h4.more hm ?_⟩
    · have : j * (1 + payT c m) ≤ c * (1 + payT c m) := Nat.mul_le_mul_right _ (by omega)
      show r0 + p ≤ r + c * (1 + payT c m) + p0
      omega
    · obtain ⟨x, hx⟩ := doneR_pre (cand := cand) (tied := tied) (m := m) hL j
      exact ⟨x, by rw [List.append_assoc, hx]⟩
/-- all are done -/
theorem LpR.fin (h : LpR cand tied c most m row L j st0 st p0 p out0 out) (hL : L = cand row.length) (hc : L.length ≤ c) (hj : j = L.length) : OnR cand tied c most (m + 1) row st0 st p0 p out0 out := by
  refine ⟨h.1, ?_⟩
  rcases h.2 with ⟨h1, h2⟩ | ⟨r0, r, h1, h2, h3, h4⟩
  · exact .inl ⟨h1, h2⟩
  · refine .inr ⟨r0, r, h1, h2, ?_, ?_⟩
    · have : j * (1 + payT c m) ≤ c * (1 + payT c m) := Nat.mul_le_mul_right _ (by omega)
      show r0 + p ≤ r + c * (1 + payT c m) + p0
      omega
    · rw [doneR_all hL (by omega)] at h4
      exact h4
/-- no step is left -/
theorem LpR.spent (h : LpR cand tied c most m row L j st0 st p0 p out0 out) (hc : L.length ≤ c) (hj : j < L.length) (hs : st = none ∨ st = some 0) : OnR cand tied c most (m + 1) row st0 none p0 p out0 out := by
  refine ⟨h.1, .inl ⟨rfl, ?_⟩⟩
  rcases h.2 with ⟨_, h2⟩ | ⟨r0, r, h1, h2, h3, _⟩
  · exact h2
  · intro x hx
    rw [h1] at hx
    cases hx
    rcases hs with rfl | rfl
    · cases h2
    · cases h2
      have := payT_row (m := m) hj hc
      rw [Nat.succ_mul] at this
      omega
/-- it stands in the row -/
theorem LpR.skip (h : LpR cand tied c most m row L j st0 (some (k + 1)) p0 p out0 out) (hm : out.length ≤ most) (hv : L[j]? = some v) (hr : row.contains v = true) : LpR cand tied c most m row L (j + 1) st0 (some k) p0 p out0 out := by
  refine ⟨h.1, ?_⟩
  rcases h.2 with ⟨h1, _⟩ | ⟨r0, r, h1, h2, h3, h4⟩
  · cases h1
  · cases h2
    refine .inr ⟨r0, k, h1, rfl, by rw [Nat.succ_mul]; omega, .inl ?_⟩
    rw [h4.few hm, doneR_no hv (by unfold stepOk; rw [hr]; rfl)]
/-- it doesn't fit -/
theorem LpR.unfit (h : LpR cand tied c most m row L j st0 (some (k + 1)) p0 p out0 out) (hm : out.length ≤ most) (hc : L.length ≤ c) (hv : L[j]? = some v) (hf : FitR (tied (row ++ [v])) false (some k) st2 p p2) : LpR cand tied c most m row L (j + 1) st0 st2 p0 p2 out0 out := by
  have hj := (List.getElem?_eq_some_iff.1 hv).1
  have hp := payT_row (m := m) hj hc
  refine ⟨h.1, ?_⟩
  rcases h.2 with ⟨h1, _⟩ | ⟨r0, r, h1, h2, h3, h4⟩
  · cases h1
  · cases h2
    rcases hf with ⟨e1, _, e2⟩ | ⟨r, r', e1, e2, e3, e4⟩
    · refine .inl ⟨e1, fun x hx => ?_⟩
      rw [h1] at hx
      cases hx
      have := e2 k rfl
      rw [Nat.succ_mul] at hp
      omega
    · cases e1
      refine .inr ⟨r0, r', h1, e2, by rw [Nat.succ_mul]; omega, .inl ?_⟩
      rw [h4.few hm, doneR_no hv (by unfold stepOk; rw [← e4]; simp)]
/-- it fits, and one goes on -/
theorem LpR.sub (h : LpR cand tied c most m row L j st0 (some (k + 1)) p0 p out0 out) (hm : out.length ≤ most) (hc : L.length ≤ c) (hv : L[j]? = some v) (hr : row.contains v = false) (hf : FitR (tied (row ++ [v])) true (some k) st2 p p2)
    (ho : OnR cand tied c most m (row ++ [v]) st2 st3 p2 p3 out out2) : LpR cand tied c most m row L (j + 1) st0 st3 p0 p3 out0 out2 := by
  have hj := (List.getElem?_eq_some_iff.1 hv).1
  have hp := payT_row (m := m) hj hc
  refine ⟨ho.1, ?_⟩
  rcases h.2 with ⟨h1, _⟩ | ⟨r0, r, h1, h2, h3, h4⟩
  · cases h1
  · cases h2
    rcases hf with ⟨_, e1, _⟩ | ⟨r, r', e1, e2, e3, e4⟩
    · cases e1
    · cases e1
      rcases ho.2 with ⟨f1, f2⟩ | ⟨a, b, f1, f2, f3, f4⟩
      · refine .inl ⟨f1, fun x hx => ?_⟩
        rw [h1] at hx
        cases hx
        have := f2 r' e2
        rw [Nat.succ_mul] at hp
        omega
      · rw [e2] at f1
        cases f1
        refine .inr ⟨r0, b, h1, f2, by rw [Nat.succ_mul]; omega, ?_⟩
        rw [doneR_yes hv (by unfold stepOk; rw [hr, ← e4]; rfl), ← List.append_assoc, ← h4.few hm]
        exact f4
/-- a whole row -/
theorem OnR.whole (h : out.length ≤ most) : OnR cand tied c most 0 row st st p p out (out ++ [row]) := by
  refine ⟨by simp; omega, ?_⟩
  cases st with
  | none => exact .inl ⟨rfl, fun r h => by cases h⟩
  | some r => exact .inr ⟨r, r, rfl, rfl, by simp [payT], .inl rfl⟩
end
end Go.Proofs.YtonilojjahfboaaGreat
