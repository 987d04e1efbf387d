/- web.parse, cobwebref21.body. Conditions: each contract's own premises. -/
import Derived.Test.YtcafedfldmcbiaaWb28
namespace Go.Proofs.Ytcafedfldmcbiaa
open Go.RowKit Go.Maps Go.Lib

/-- a label and properties, of a text -/
def parseP (s : ByteArray) : Option (ByteArray × List Pr) :=
  if h : 0 < s.size then
    if s.size < 1 + s[0].toNat then none else
    match tkA (s.extract (1 + s[0].toNat) s.size).data.toList with
    | some x => if 1 + s[0].toNat + x.2 = s.size then some (s.extract 1 (1 + s[0].toNat), x.1) else none
    | none => none
  else none
def PaPost (w : World) (s : ByteArray) (e : Ending) (w' : World) : Prop :=
  Below w.heap.size w w' ∧ ∃ (l : ByteArray) (v : Value) (ok : Bool) (ps : List Pr), e = .returned (.tuple #[.string l, v, .bool ok]) ∧ ((ok = true ∧ parseP s = some (l, ps) ∧ PsO w' w.heap.size v ps ∧ (∀ p ∈ ps, p.key.size ≤ 255 ∧ p.v.Ok) ∧ ps.length ≤ 16 ∧ l.size ≤ 255) ∨ (ok = false ∧ parseP s = none))
set_option maxRecDepth 100000 in
set_option maxHeartbeats 2000000 in
theorem parse_any (s : ByteArray) (w : World) (hs : s.size ≤ 1000000) : Calls Try.prog 45 #[.string s] w (PaPost w s) := by
  by_cases h0 : 0 < s.size
  · obtain ⟨b, hb⟩ : ∃ b, s[0] = b := ⟨_, rfl⟩
    have hb256 : b.toNat < 256 := b.toNat_lt
    have he : (s.toList == ([] : List UInt8)) = false := by
      rw [ByteArray.toList_eq]
      cases hd : s.data.toList with
      | nil =>
        have h2 : s.size = 0 := by rw [show s.size = s.data.toList.length from rfl, hd]; rfl
        omega
      | cons => rfl
    by_cases h1 : s.size < 1 + b.toNat
    · have HN : Hid (parseP s = none) := Lib.hid (by unfold parseP; rw [dif_pos h0, hb, if_pos h1])
      go_enter Try.func45, Try.ntmps45
      go_wp2_with fail
      go_ret3
      exact ⟨Below.refl _ _, _, _, false, [], rfl, .inr ⟨rfl, HN.out⟩⟩
    · obtain ⟨t, ht⟩ : ∃ t, s.extract (1 + b.toNat) s.size = t := ⟨_, rfl⟩
      have hts : t.size = s.size - (1 + b.toNat) := by rw [← ht]; simp
      have HP : Hid (parseP s = match tkA t.data.toList with
        | some x => if 1 + b.toNat + x.2 = s.size then some (s.extract 1 (1 + b.toNat), x.1) else none
        | none => none) := Lib.hid (by unfold parseP; rw [dif_pos h0, hb, if_neg h1, ht])
      have hlx : (s.extract 1 (1 + b.toNat)).size ≤ 255 := by simp; omega
      have HLX := Lib.hid hlx
      clear hlx
      go_enter Try.func45, Try.ntmps45
      go_wp2_with (first | (refine wpList_toBytes _ rfl (.tmp 27) rfl _ rfl ?_; intro w1 cap hb1 bel z1 hcap) | fail)
      try rw [ht] at hb1 hcap
      have hpt := ptake_any w.heap.size 0 cap t.data.toList w1 hb1 (by rw [show t.data.toList.length = t.size from rfl]; omega) (by rw [show t.data.toList.length = t.size from rfl]; exact hcap)
      rw [show t.data.toList.length = t.size from rfl, hts] at hpt
      try (rw [show s.size - (b.toNat + 1) = s.size - (1 + b.toNat) by omega])
      refine hpt.mono ?_
      rintro e w2 ⟨hb2, v, n, k, ps, rfl, hor⟩
      have hB2 := below_then bel hb2
      have HX := Lib.hid ht
      clear hpt hb1 hb2
      rcases hor with ⟨rfl, hA, hO⟩ | ⟨hkk, hA, rfl⟩
      · obtain ⟨hok, h16, hnl⟩ := tkA_ok hA
        have hnt : n ≤ t.size := hnl
        have HO := Lib.hid (hO.mono (B' := w.heap.size) bel.size)
        have HOK := Lib.hid hok
        by_cases hq : 1 + b.toNat + n = s.size
        · have HN : Hid (parseP s = some (s.extract 1 (1 + b.toNat), ps)) := Lib.hid (by rw [HP.out, hA]; simp only []; rw [if_pos hq])
          have ht1 : ((1 : Int) + (b.toNat : Int) + (n : Int) == (s.size : Int)) = true := by simp; omega
          clear hA hO hq hok hnl HX ht
          go_wp2_with fail
          go_ret3
          exact ⟨hB2, _, _, true, ps, rfl, .inl ⟨rfl, HN.out, HO.out, HOK.out, h16, HLX.out⟩⟩
        · have HN : Hid (parseP s = none) := Lib.hid (by rw [HP.out, hA]; simp only []; rw [if_neg hq])
          have ht1 : ((1 : Int) + (b.toNat : Int) + (n : Int) == (s.size : Int)) = false := by simp; omega
          clear hA hO hq hok hnl HX ht
          go_wp2_with fail
          go_ret3
          exact ⟨hB2, _, _, false, [], rfl, .inr ⟨rfl, HN.out⟩⟩
      · have HN : Hid (parseP s = none) := Lib.hid (by rw [HP.out, hA])
        have hk' : (k == 0) = false := by simpa using hkk
        clear hA hkk HX ht
        go_wp2_with fail
        go_ret3
        exact ⟨hB2, _, _, false, [], rfl, .inr ⟨rfl, HN.out⟩⟩
  · have hse : s = ⟨#[]⟩ := by
      apply ByteArray.ext
      apply Array.ext'
      exact List.eq_nil_of_length_eq_zero (show s.size = 0 by omega)
    subst hse
    have HN : Hid (parseP ⟨#[]⟩ = none) := Lib.hid rfl
    clear h0
    go_enter Try.func45, Try.ntmps45
    go_wp2_with fail
    go_ret3
    exact ⟨Below.refl _ _, _, _, false, [], rfl, .inr ⟨rfl, HN.out⟩⟩
set_option maxRecDepth 100000 in
set_option maxHeartbeats 2000000 in
theorem r21b_any (s : ByteArray) (w : World) (hs : s.size ≤ 1000000) : Calls Try.prog 47 #[.string s] w (PaPost w s) := by
  by_cases h0 : 0 < s.size
  · obtain ⟨b, hb⟩ : ∃ b, s[0] = b := ⟨_, rfl⟩
    have hb256 : b.toNat < 256 := b.toNat_lt
    by_cases h1 : s.size < 1 + b.toNat
    · have HN : Hid (parseP s = none) := Lib.hid (by unfold parseP; rw [dif_pos h0, hb, if_pos h1])
      go_enter Try.func47, Try.ntmps47
      go_wp2_with fail
      go_ret3
      exact ⟨Below.refl _ _, _, _, false, [], rfl, .inr ⟨rfl, HN.out⟩⟩
    · obtain ⟨t, ht⟩ : ∃ t, s.extract (b.toNat + 1) s.size = t := ⟨_, rfl⟩
      have hts : t.size = s.size - (b.toNat + 1) := by rw [← ht]; simp
      have HP : Hid (parseP s = match tkA t.data.toList with
        | some x => if 1 + b.toNat + x.2 = s.size then some (s.extract 1 (b.toNat + 1), x.1) else none
        | none => none) := Lib.hid (by unfold parseP; rw [dif_pos h0, hb, if_neg h1, Nat.add_comm 1 b.toNat, ht])
      have hlx : (s.extract 1 (b.toNat + 1)).size ≤ 255 := by simp; omega
      have HLX := Lib.hid hlx
      clear hlx
      go_enter Try.func47, Try.ntmps47
      go_wp2_with (first | (refine wpList_toBytes _ rfl (.tmp 24) rfl _ rfl ?_; intro w1 cap hb1 bel z1 hcap) | fail)
      try rw [ht] at hb1 hcap
      have hpt := r3take_any w.heap.size 0 cap t.data.toList w1 hb1 (by rw [show t.data.toList.length = t.size from rfl]; omega) (by rw [show t.data.toList.length = t.size from rfl]; exact hcap)
      rw [show t.data.toList.length = t.size from rfl, hts] at hpt
      refine hpt.mono ?_
      rintro e w2 ⟨hb2, v, n, k, ps, rfl, hor⟩
      have hB2 := below_then bel hb2
      have HX := Lib.hid ht
      clear hpt hb1 hb2
      rcases hor with ⟨rfl, hA, hO⟩ | ⟨hkk, hA, rfl⟩
      · obtain ⟨hok, h16, hnl⟩ := tkA_ok hA
        have hnt : n ≤ t.size := hnl
        have HO := Lib.hid (hO.mono (B' := w.heap.size) bel.size)
        have HOK := Lib.hid hok
        by_cases hq : 1 + b.toNat + n = s.size
        · have HN : Hid (parseP s = some (s.extract 1 (b.toNat + 1), ps)) := Lib.hid (by rw [HP.out, hA]; simp only []; rw [if_pos hq])
          have ht1 : ((n : Int) == (s.size : Int) - (b.toNat : Int) - 1) = true := by simp; omega
          clear hA hO hq hok hnl HX ht
          go_wp2_with fail
          go_ret3
          exact ⟨hB2, _, _, true, ps, rfl, .inl ⟨rfl, HN.out, HO.out, HOK.out, h16, HLX.out⟩⟩
        · have HN : Hid (parseP s = none) := Lib.hid (by rw [HP.out, hA]; simp only []; rw [if_neg hq])
          have ht1 : ((n : Int) == (s.size : Int) - (b.toNat : Int) - 1) = false := by simp; omega
          clear hA hO hq hok hnl HX ht
          go_wp2_with fail
          go_ret3
          exact ⟨hB2, _, _, false, [], rfl, .inr ⟨rfl, HN.out⟩⟩
      · have HN : Hid (parseP s = none) := Lib.hid (by rw [HP.out, hA])
        have hk' : (k == 0) = false := by simpa using hkk
        clear hA hkk HX ht
        go_wp2_with fail
        go_ret3
        exact ⟨hB2, _, _, false, [], rfl, .inr ⟨rfl, HN.out⟩⟩
  · have hse : s = ⟨#[]⟩ := by
      apply ByteArray.ext
      apply Array.ext'
      exact List.eq_nil_of_length_eq_zero (show s.size = 0 by omega)
    subst hse
    have HN : Hid (parseP ⟨#[]⟩ = none) := Lib.hid rfl
    clear h0
    go_enter Try.func47, Try.ntmps47
    go_wp2_with fail
    go_ret3
    exact ⟨Below.refl _ _, _, _, false, [], rfl, .inr ⟨rfl, HN.out⟩⟩
end Go.Proofs.Ytcafedfldmcbiaa
