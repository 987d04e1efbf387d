/- Texts tell labels and properties; entries tell ids: plain facts. Conditions: each lemma's own premises. -/
import Derived.Test.YtcafedfldmcbiaaWb16
namespace Go.Proofs.Ytcafedfldmcbiaa
open Go.RowKit Go.Maps

theorem u8_inj {a b : Nat} (ha : a < 256) (hb : b < 256) (h : UInt8.ofNat a = UInt8.ofNat b) : a = b := by
  have := congrArg UInt8.toNat h
  simp at this
  omega
theorem ba_of_list {a b : ByteArray} (h : a.data.toList = b.data.toList) : a = b := by
  apply ByteArray.ext
  exact Array.ext' h
theorem ba_len (a : ByteArray) : a.data.toList.length = a.size := rfl
theorem fiveL_inj {a b : Nat} (ha : a < 1099511627776) (hb : b < 1099511627776) (h : fiveL a = fiveL b) : a = b := by
  rw [← numL_five ha, h, numL_five hb]
theorem five_len (a : Nat) : (fiveL a).length = 5 := rfl
/-- bytes of right values are apart -/
theorem bytes_inj {a b : Vl} (ha : a.Ok) (hb : b.Ok) (ra : a.right = true) (rb : b.right = true) {x y : List UInt8} (h : a.bytes ++ x = b.bytes ++ y) : a = b ∧ x = y := by
  have e : a = b := by
    by_cases e : a = b
    · exact e
    · have := bytes_order a b ha hb ra rb e x y
      rw [h, cmpB_self] at this
      exact Vl.cmp_zero this.symm
  subst e
  exact ⟨rfl, List.append_cancel_left h⟩
/-- a property that can be told from its bytes -/
structure Pr.Fit (p : Pr) : Prop where
  key : p.key.size ≤ 200
  ok : p.v.Ok
  right : p.v.right = true
theorem pr_inj {p q : Pr} (hp : p.Fit) (hq : q.Fit) {x y : List UInt8} (h : p.bytes ++ x = q.bytes ++ y) : p = q ∧ x = y := by
  unfold Pr.bytes at h
  rw [List.cons_append, List.cons_append, List.append_assoc, List.append_assoc] at h
  injection h with h1 h2
  have hk := u8_inj (by have := hp.key; omega) (by have := hq.key; omega) h1
  obtain ⟨h3, h4⟩ := List.append_inj h2 (by rw [ba_len, ba_len, hk])
  obtain ⟨h5, h6⟩ := bytes_inj hp.ok hq.ok hp.right hq.right h4
  refine ⟨?_, h6⟩
  cases p; cases q
  simp only at h3 h5
  rw [ba_of_list h3, h5]
theorem psB_inj : ∀ (a b : List Pr), a.length = b.length → (∀ p ∈ a, p.Fit) → (∀ p ∈ b, p.Fit) → psB a = psB b → a = b
  | [], [], _, _, _, _ => rfl
  | [], _ :: _, h, _, _, _ => by simp at h
  | _ :: _, [], h, _, _, _ => by simp at h
  | p :: a, q :: b, hl, ha, hb, h => by
    obtain ⟨rfl, h2⟩ := pr_inj (x := psB a) (y := psB b) (ha p (by simp)) (hb q (by simp)) h
    rw [psB_inj a b (by simpa using hl) (fun r hr => ha r (by simp [hr])) (fun r hr => hb r (by simp [hr])) h2]
theorem all_inj {a b : List Pr} (la : a.length ≤ 16) (lb : b.length ≤ 16) (ha : ∀ p ∈ a, p.Fit) (hb : ∀ p ∈ b, p.Fit) (h : Pr.all a = Pr.all b) : a = b := by
  unfold Pr.all at h
  injection h with h1 h2
  exact psB_inj a b (u8_inj (by omega) (by omega) h1) ha hb h2
theorem text_inj {l m : ByteArray} {a b : List Pr} (hl : l.size ≤ 200) (hm : m.size ≤ 200) (la : a.length ≤ 16) (lb : b.length ≤ 16) (ha : ∀ p ∈ a, p.Fit) (hb : ∀ p ∈ b, p.Fit) (h : textL l a = textL m b) : l = m ∧ a = b := by
  unfold textL at h
  injection h with h1 h2
  have hk := u8_inj (by omega) (by omega) h1
  obtain ⟨h3, h4⟩ := List.append_inj h2 (by rw [ba_len, ba_len, hk])
  exact ⟨ba_of_list h3, all_inj la lb ha hb h4⟩
/-- texts are one just if labels and properties are -/
theorem text_same {l m : ByteArray} {a b : List Pr} (hl : l.size ≤ 200) (hm : m.size ≤ 200) (la : a.length ≤ 16) (lb : b.length ≤ 16) (ha : ∀ p ∈ a, p.Fit) (hb : ∀ p ∈ b, p.Fit) :
    ((⟨(textL l a).toArray⟩ : ByteArray).toList == (⟨(textL m b).toArray⟩ : ByteArray).toList) = (l.toList == m.toList && sameP a b) := by
  by_cases h : l = m ∧ a = b
  · obtain ⟨rfl, rfl⟩ := h
    rw [sameP_yes rfl]
    simp
  · have h1 : (l.toList == m.toList && sameP a b) = false := by
      by_cases e : l = m
      · rw [sameP_no (fun e' => h ⟨e, e'⟩), Bool.and_false]
      · rw [ba_ne e, Bool.false_and]
    rw [h1]
    refine ba_ne (fun e => h ?_)
    have := congrArg (fun x : ByteArray => x.data.toList) e
    exact text_inj hl hm la lb ha hb this
theorem ends_same {f t : Nat} (hf : f < 1099511627776) (ht : t < 1099511627776) (x : List UInt8) :
    ((⟨(fiveL f ++ fiveL t ++ x).toArray⟩ : ByteArray).toList == (⟨(fiveL t ++ fiveL f ++ x).toArray⟩ : ByteArray).toList) = ((f : Int) == (t : Int)) := by
  by_cases h : f = t
  · subst h; simp
  · have h1 : ((f : Int) == (t : Int)) = false := by simp; omega
    rw [h1]
    refine ba_ne (fun e => h ?_)
    have e' : fiveL f ++ fiveL t ++ x = fiveL t ++ fiveL f ++ x := congrArg (fun x : ByteArray => x.data.toList) e
    rw [List.append_assoc, List.append_assoc] at e'
    exact fiveL_inj hf ht (List.append_inj e' rfl).1
theorem ent_tail {id : Nat} {label : ByteArray} {ps : List Pr} {e : ByteArray × ByteArray} (h : e ∈ entL id label ps) : ∃ x, e.2.data.toList = x ++ fiveL id := by
  unfold entL at h
  rcases List.mem_cons.1 h with rfl | h
  · exact ⟨[], rfl⟩
  · obtain ⟨p, _, rfl⟩ := List.mem_map.1 h
    exact ⟨p.v.bytes, rfl⟩
/-- entries of unlike ids are unlike -/
theorem ent_apart {a b : Nat} {l m : ByteArray} {x y : List Pr} {e f : ByteArray × ByteArray} (ha : a < 1099511627776) (hb : b < 1099511627776) (he : e ∈ entL a l x) (hf : f ∈ entL b m y) (hab : a ≠ b) : e.2 ≠ f.2 := fun h => by
  obtain ⟨p, hp⟩ := ent_tail he
  obtain ⟨q, hq⟩ := ent_tail hf
  rw [h, hq] at hp
  exact hab (fiveL_inj ha hb (List.append_inj' hp (by rw [five_len, five_len])).2.symm)
end Go.Proofs.Ytcafedfldmcbiaa
