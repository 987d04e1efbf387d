/- cobwebref01.Compare. Conditions: the contract's own premises. -/
import Derived.Test.YtonilojjahfboaaGreatGc3
namespace Go.Proofs.YtonilojjahfboaaGreat
open Go.RowKit Go.Maps Go.Lib

theorem cmpL_short {a b : List Int} {k : Nat} (ha : ¬ k < a.length) (hka : k ≤ a.length) (hb : k < b.length) : cmpL (a.drop k) (b.drop k) = -1 := by
  rw [cmpL_end (by omega) (by omega), if_pos (by omega)]
theorem cmpL_both {a b : List Int} {k : Nat} (hka : k = a.length) (hkb : k = b.length) : cmpL (a.drop k) (b.drop k) = 0 := by
  rw [cmpL_end (by omega) hka, if_neg (by omega)]
def CmRel (w2 : World) (x y : List Int) (z : Int) (i : Value) (wr : World) : Prop :=
  (∃ n, wr = w2.drewN n) ∧ ∃ k : Nat, k ≤ x.length ∧ k ≤ y.length ∧ i = .int .i64 (k : Int) ∧ Hid (z = cmpL (x.drop k) (y.drop k))
set_option maxRecDepth 100000 in
set_option maxHeartbeats 2000000 in
theorem r1compare_any (s t : ByteArray) (w : World) (hs : s.size ≤ 2000000) (ht : t.size ≤ 2000000) :
    Calls Tryz.prog 338 #[.string s, .string t] w fun e w' => e = .returned (.int .i64 (cmpL (runes s) (runes t))) ∧ Below w.heap.size w w' := by
  have hlx : (runes s).length ≤ 2000000 := Nat.le_trans (runes_len s) hs
  have hly : (runes t).length ≤ 2000000 := Nat.le_trans (runes_len t) ht
  obtain ⟨z, hz⟩ : ∃ z, z = cmpL (runes s) (runes t) := ⟨_, rfl⟩
  rw [← hz]
  have HZ := Lib.hid hz
  clear hz
  go_enter Tryz.func338, Tryz.ntmps338
  go_wp2_with fail
  refine (r1runes_any s w hs).mono ?_
  rintro e w1 ⟨v, rfl, hO, hb1⟩
  have HO := Lib.hid hO
  clear hO
  go_wp2_with fail
  refine (r1runes_any t w1 ht).mono ?_
  rintro e w2 ⟨u, rfl, hO2, hb2⟩
  obtain ⟨a, cap, hv, hat⟩ := (HO.out.below hb2).at'
  obtain ⟨a', cap', hu, hat'⟩ := hO2.at'
  subst hv hu
  have HAT := Lib.hid hat
  have HAT' := Lib.hid hat'
  have HB := Lib.hid (below_then hb1 hb2)
  obtain ⟨x, hx⟩ : ∃ x, x = runes s := ⟨_, rfl⟩
  obtain ⟨y, hy⟩ : ∃ y, y = runes t := ⟨_, rfl⟩
  rw [← hx] at HZ HAT hlx ⊢
  rw [← hy] at HZ HAT' hly ⊢
  clear hO2 hat hat' hx hy HO hb1 hb2
  have HS : Hid (CmRel w2 x y z (.int .i64 0) w2) := Lib.hid ⟨⟨0, rfl⟩, 0, Nat.zero_le _, Nat.zero_le _, rfl, by simpa using HZ⟩
  go_wp2_with fail
  go_loopw [7] (fun i wr => CmRel w2 x y z i wr) (fun i _ => x.length - (intOf i).toNat)
  case atStart => exact HS.out
  case round =>
    obtain ⟨⟨n, rfl⟩, k, hk1, hk2, rfl, HT⟩ := hrel
    by_cases h1 : k < x.length
    · by_cases h2 : k < y.length
      · obtain ⟨b1, ha1, hR1⟩ := HAT.out (fun e => by rw [e] at h1; simp at h1)
        obtain ⟨b2, ha2, hR2⟩ := HAT'.out (fun e => by rw [e] at h2; simp at h2)
        subst ha1 ha2
        have q1 := hR1.cells k x[k] (List.getElem?_eq_getElem h1)
        have q2 := hR2.cells k y[k] (List.getElem?_eq_getElem h2)
        have l1 := hR1.lt
        have l2 := hR2.lt
        have hd := cmpL_drop h1 h2
        obtain ⟨p, hp⟩ : ∃ p, x[k] = p := ⟨_, rfl⟩
        obtain ⟨q, hq⟩ : ∃ q, y[k] = q := ⟨_, rfl⟩
        rw [hp, hq] at hd
        rw [hp] at q1
        rw [hq] at q2
        have HD := Lib.hid hd
        clear hd hp hq hR1 hR2
        by_cases h3 : p < q
        · have HE : Hid (z = -1) := Lib.hid (by
            rw [HT.out, HD.out]
            have : cmpI p q = -1 := by unfold cmpI; rw [if_pos h3]
            rw [this]; rfl)
          go_wp2_with fail
          go_quiet (fail)
          go_wp2_with fail
          go_ret
          exact ⟨by rw [HE.out]; rfl, below_drewN' (below_drewN' HB.out _) _⟩
        · by_cases h4 : q < p
          · have HE : Hid (z = 1) := Lib.hid (by
              rw [HT.out, HD.out]
              have : cmpI p q = 1 := by unfold cmpI; rw [if_neg h3, if_pos h4]
              rw [this]; rfl)
            go_wp2_with fail
            go_quiet (fail)
            go_wp2_with fail
            go_quiet (fail)
            go_wp2_with fail
            go_ret
            exact ⟨by rw [HE.out]; rfl, below_drewN' (below_drewN' (below_drewN' HB.out _) _) _⟩
          · have HE : Hid (z = cmpL (x.drop (k + 1)) (y.drop (k + 1))) := Lib.hid (by
              rw [HT.out, HD.out]
              have : cmpI p q = 0 := by unfold cmpI; rw [if_neg h3, if_neg h4]
              rw [this]; rfl)
            go_wp2_with fail
            go_quiet (fail)
            go_wp2_with fail
            go_quiet (fail)
            go_wp2_with fail
            exact ⟨⟨⟨_, rfl⟩, k + 1, by omega, by omega, by go_num, HE⟩, by simp [intOf]; omega⟩
      · have HE : Hid (z = 1) := Lib.hid (by rw [HT.out, cmpL_long h1 h2])
        go_wp2_with fail
        go_ret
        exact ⟨by rw [HE.out]; rfl, below_drewN' HB.out _⟩
    · by_cases h2 : k < y.length
      · have HE : Hid (z = -1) := Lib.hid (by rw [HT.out, cmpL_short h1 hk1 h2])
        go_wp2_with fail
        go_ret
        exact ⟨by rw [HE.out]; rfl, below_drewN' HB.out _⟩
      · have HE : Hid (z = 0) := Lib.hid (by rw [HT.out, cmpL_both (by omega) (by omega)])
        go_wp2_with fail
        go_ret
        exact ⟨by rw [HE.out]; rfl, below_drewN' HB.out _⟩
end Go.Proofs.YtonilojjahfboaaGreat
