/- WebTexts: plain laws: texts are taken as what they are of. Conditions: each lemma's own premises. -/
import Derived.Test.YtcafedfldmcbiaaWb30
namespace Go.Proofs.Ytcafedfldmcbiaa
open Go.RowKit Go.Maps Go.Lib

theorem u8_of {n : Nat} (h : n < 256) : (UInt8.ofNat n).toNat = n := by simp; omega
theorem ba_eta (a : ByteArray) : (⟨a.data.toList.toArray⟩ : ByteArray) = a := rfl
theorem tkP_bytes : ∀ (rest acc : List Pr) (n : Nat), (∀ p ∈ rest, p.key.size ≤ 200 ∧ p.v.Ok ∧ p.v.right = true ∧ badS p.key = false) → (∀ i, okAt (acc ++ rest) i) →
    tkP rest.length acc (psB rest) n = some (acc ++ rest, n + (psB rest).length)
  | [], acc, n, _, _ => by rw [List.length_nil, tkP_zero]; simp [psB]
  | p :: rest, acc, n, hp, ho => by
    obtain ⟨hk, hv, hr, hb⟩ := hp p (by simp)
    have hkn : (UInt8.ofNat p.key.size).toNat = p.key.size := u8_of (by omega)
    have hps : psB (p :: rest) = UInt8.ofNat p.key.size :: (p.key.data.toList ++ (p.v.bytes ++ psB rest)) := by simp [psB, Pr.bytes]
    have htk : (p.key.data.toList ++ (p.v.bytes ++ psB rest)).take p.key.size = p.key.data.toList := by
      rw [List.take_append_of_le_length (by rw [ba_len]; exact Nat.le_refl _)]
      exact List.take_of_length_le (by rw [ba_len]; exact Nat.le_refl _)
    have hdk : (p.key.data.toList ++ (p.v.bytes ++ psB rest)).drop p.key.size = p.v.bytes ++ psB rest := by
      conv => lhs; rw [← ba_len p.key]
      exact List.drop_left
    rw [hps, List.length_cons]
    rw [tkP_step (v := p.v) (m := p.v.bytes.length) (by rw [hkn]; simp) (by rw [hkn, htk, ba_eta]; exact hb) ?_ (by rw [hkn, hdk]; exact tkV_bytes hv hr _)]
    · rw [hkn, htk, ba_eta, ← List.drop_drop, hdk, List.drop_left]
      have e : acc ++ [⟨p.key, p.v⟩] = acc ++ [p] := rfl
      rw [e, tkP_bytes rest (acc ++ [p]) _ (fun q hq => hp q (by simp [hq])) (fun i => by rw [List.append_assoc]; exact ho i)]
      simp
      omega
    · rw [hkn, htk, ba_eta]
      unfold lateK
      cases hl : acc.getLast? with
      | none => rfl
      | some q =>
        have hne : acc ≠ [] := fun e => by rw [e] at hl; cases hl
        have hpos : 0 < acc.length := List.length_pos_iff.2 hne
        have hq : (acc ++ p :: rest)[acc.length - 1]? = some q := by
          rw [List.getElem?_append_left (by omega), ← List.getLast?_eq_getElem?, hl]
        have := (ho acc.length p (by rw [List.getElem?_append_right (Nat.le_refl _)]; simp)).2.2 q hpos hq
        simp
        omega
theorem okAt_all {ps : List Pr} (hr : rightPs ps = true) (i : Nat) : okAt ps i := by
  by_cases hi : i < ps.length
  · exact (rightPs_yes hr).1 i hi
  · intro p hp
    rw [List.getElem?_eq_none (by omega)] at hp
    cases hp
theorem tkA_bytes {ps : List Pr} (hr : rightPs ps = true) (hk : ∀ p ∈ ps, p.key.size ≤ 200 ∧ p.v.Ok) : tkA (Pr.all ps) = some (ps, (Pr.all ps).length) := by
  have h16 := (rightPs_yes hr).2
  have hn : (UInt8.ofNat ps.length).toNat = ps.length := u8_of (by omega)
  unfold Pr.all tkA
  simp only [hn]
  rw [if_neg (by omega), tkP_bytes ps [] 1 (fun p hp => ⟨(hk p hp).1, (hk p hp).2, (right_mem hr hp).1, (right_mem hr hp).2⟩) (fun i => okAt_all hr i)]
  simp
  omega
theorem ba_get0 {l : List UInt8} {b : UInt8} {r : List UInt8} (h : l = b :: r) (h0 : 0 < (⟨l.toArray⟩ : ByteArray).size) : (⟨l.toArray⟩ : ByteArray)[0] = b := by
  subst h
  rfl
theorem parseP_text {label : ByteArray} {ps : List Pr} (hl : label.size ≤ 200) (hr : rightPs ps = true) (hk : ∀ p ∈ ps, p.key.size ≤ 200 ∧ p.v.Ok) : parseP ⟨(textL label ps).toArray⟩ = some (label, ps) := by
  have hls : (UInt8.ofNat label.size).toNat = label.size := u8_of (by omega)
  have hsz : (⟨(textL label ps).toArray⟩ : ByteArray).size = 1 + label.size + (Pr.all ps).length := by
    show (textL label ps).length = _
    unfold textL
    simp
    omega
  have h0 : 0 < (⟨(textL label ps).toArray⟩ : ByteArray).size := by omega
  have hg : (⟨(textL label ps).toArray⟩ : ByteArray)[0] = UInt8.ofNat label.size := ba_get0 (by unfold textL; rfl) h0
  have he : ((⟨(textL label ps).toArray⟩ : ByteArray).extract (1 + label.size) (⟨(textL label ps).toArray⟩ : ByteArray).size).data.toList = Pr.all ps := by
    rw [hsz]
    simp [textL]
    rw [Nat.add_comm 1 label.size, List.drop_succ_cons]
    conv => lhs; rw [← ba_len label]
    rw [List.drop_left]
    simp
  have hx : (⟨(textL label ps).toArray⟩ : ByteArray).extract 1 (1 + label.size) = label := by
    apply ba_of_list
    simp [textL]
  unfold parseP
  rw [dif_pos h0, hg, hls, if_neg (by omega), he, tkA_bytes hr hk]
  simp only []
  rw [if_pos (by omega), hx]
theorem vertexP_text {id : Int} {label : ByteArray} {ps : List Pr} (hl : label.size ≤ 200) (hc : checkR label ps [id] = 0) (hk : ∀ p ∈ ps, p.key.size ≤ 200 ∧ p.v.Ok) : vertexP id ⟨(textL label ps).toArray⟩ = some (label, ps) :=
  vertexP_good (parseP_text hl (checkR_ok hc).2.2 hk) hc
theorem checkR_one {label : ByteArray} {ps : List Pr} {id : Int} {ids : List Int} (h : checkR label ps (id :: ids) = 0) : checkR label ps [id] = 0 := by
  obtain ⟨h1, h2, h3⟩ := checkR_ok h
  have : [id].any idB = false := by
    simp at h1 ⊢
    exact h1.1
  unfold checkR
  rw [this, h2, h3]
  rfl
theorem edge_ext (f t : Nat) (x : List UInt8) : (⟨(fiveL f ++ fiveL t ++ x).toArray⟩ : ByteArray).extract 10 (⟨(fiveL f ++ fiveL t ++ x).toArray⟩ : ByteArray).size = ⟨x.toArray⟩ := by
  apply ba_of_list
  have hs : (⟨(fiveL f ++ fiveL t ++ x).toArray⟩ : ByteArray).size = 10 + x.length := by
    show (fiveL f ++ fiveL t ++ x).length = _
    simp [five_len]
    omega
  rw [hs]
  simp [fiveL]
theorem edge_from {f : Nat} (hf : f < 1099511627776) (t : Nat) (x : List UInt8) : num5 ⟨(fiveL f ++ fiveL t ++ x).toArray⟩ = f := by
  unfold num5
  have : (⟨(fiveL f ++ fiveL t ++ x).toArray⟩ : ByteArray).data.toList.take 5 = fiveL f := by simp [fiveL]
  rw [this, numL_five hf]
theorem edge_to {t : Nat} (ht : t < 1099511627776) (f : Nat) (x : List UInt8) : num5 ((⟨(fiveL f ++ fiveL t ++ x).toArray⟩ : ByteArray).extract 5 (⟨(fiveL f ++ fiveL t ++ x).toArray⟩ : ByteArray).size) = t := by
  unfold num5
  have hs : (⟨(fiveL f ++ fiveL t ++ x).toArray⟩ : ByteArray).size = 10 + x.length := by
    show (fiveL f ++ fiveL t ++ x).length = _
    simp [five_len]
    omega
  have : ((⟨(fiveL f ++ fiveL t ++ x).toArray⟩ : ByteArray).extract 5 (⟨(fiveL f ++ fiveL t ++ x).toArray⟩ : ByteArray).size).data.toList.take 5 = fiveL t := by
    rw [hs]
    simp [fiveL]
    rw [show 10 + x.length - 5 = x.length + 5 by omega]
    rfl
  rw [this, numL_five ht]
theorem edgeP_text {id : Int} {f t : Nat} {label : ByteArray} {ps : List Pr} (hl : label.size ≤ 200) (hc : checkR label ps [id, (f : Int), (t : Int)] = 0) (hk : ∀ p ∈ ps, p.key.size ≤ 200 ∧ p.v.Ok) : edgeP id ⟨(fiveL f ++ fiveL t ++ textL label ps).toArray⟩ = some (label, ps) := by
  have hs : (⟨(fiveL f ++ fiveL t ++ textL label ps).toArray⟩ : ByteArray).size = 10 + (textL label ps).length := by
    show (fiveL f ++ fiveL t ++ textL label ps).length = _
    simp [five_len]
    omega
  unfold edgeP
  rw [if_neg (by omega), edge_ext, vertexP_text hl (checkR_one hc) hk]
theorem lastFive_tail {id : Nat} (h : id < 1099511627776) (x : List UInt8) (e : ByteArray) (he : e.data.toList = x ++ fiveL id) : 5 ≤ e.size ∧ lastFive e = id := by
  have hs : e.size = x.length + 5 := by
    show e.data.toList.length = _
    rw [he, List.length_append, five_len]
  refine ⟨by omega, ?_⟩
  unfold lastFive num5
  have : (e.extract (e.size - 5) e.size).data.toList.take 5 = fiveL id := by
    rw [hs]
    simp
    rw [he, List.drop_left]
    rfl
  rw [this, numL_five h]
theorem ent_last {id : Nat} {label : ByteArray} {ps : List Pr} {e : ByteArray × ByteArray} (h : id < 1099511627776) (he : e ∈ entL id label ps) : 5 ≤ e.2.size ∧ lastFive e.2 = id := by
  obtain ⟨x, hx⟩ := ent_tail he
  exact lastFive_tail h x e.2 hx
end Go.Proofs.Ytcafedfldmcbiaa
