/- cobwebref14.Replay. Conditions: each contract's own premises. -/
import Derived.Test.YtcghgnncmnoalaaRp5
import Derived.Test.YtcghgnncmnoalaaRp6
import Derived.Test.YtcghgnncmnoalaaRf1
namespace Go.Proofs.Ytcghgnncmnoalaa
open Go.RowKit Go.Maps

theorem wlay_mem (w : Wr) : ∀ (l : List Wr) (d : Bool) (y : Wr), y ∈ wlay w d l → y = w ∨ y ∈ l
  | [], d, y, h => by
    unfold wlay at h
    split at h
    · simp at h
    · exact .inl (List.mem_singleton.1 h)
  | z :: l, d, y, h => by
    have i1 := wlay_mem w l true y
    have i2 := wlay_mem w l d y
    unfold wlay at h
    split at h
    · rcases List.mem_cons.1 h with h | h
      · exact .inl h
      · rcases List.mem_cons.1 h with h | h
        · exact .inr (by simp [h])
        · exact (i1 h).imp id (fun q => by simp [q])
    · split at h
      · split at h
        · exact (i1 h).imp id (fun q => by simp [q])
        · rcases List.mem_cons.1 h with h | h
          · exact .inl h
          · exact (i1 h).imp id (fun q => by simp [q])
      · rcases List.mem_cons.1 h with h | h
        · exact .inr (by simp [h])
        · exact (i2 h).imp id (fun q => by simp [q])
theorem wputs_mem : ∀ (W l : List Wr) (y : Wr), y ∈ W.foldl wput l → y ∈ W ∨ y ∈ l
  | [], _, _, h => .inr h
  | w :: W, l, y, h => by
    rcases wputs_mem W (wput l w) y h with h | h
    · exact .inl (by simp [h])
    · rcases wlay_mem w l _ y h with h | h
      · exact .inl (by simp [h])
      · exact .inr h
theorem wputs_len : ∀ (W l : List Wr), (W.foldl wput l).length ≤ l.length + W.length
  | [], _ => Nat.le_refl _
  | w :: W, l => by
    have h1 := wputs_len W (wput l w)
    have h2 := wput_len l w
    simp only [List.foldl_cons, List.length_cons]
    omega
/-- the records so far, by rising stamps -/
structure PutI (w wr : World) (rs : List Rv) (i : Nat) (a : Option Addr) (n c : Nat) : Prop where
  b : Below w.heap.size w wr
  nn : n = (Srt.sortK Rv.stamp (rs.take i)).length
  v : RsV wr a (Srt.sortK Rv.stamp (rs.take i))
  z : a = none → c = 0
  cc : n ≤ c
theorem sortK_snoc {rs : List Rv} {i : Nat} {x : Rv} (hx : rs[i]? = some x) : Srt.sortK Rv.stamp (rs.take (i + 1)) = putL true (Srt.sortK Rv.stamp (rs.take i)) x := by
  obtain ⟨hk', e⟩ := List.getElem?_eq_some_iff.1 hx
  rw [List.take_succ_eq_append_getElem hk', e]
  unfold Srt.sortK putL
  rw [List.foldl_append, if_pos rfl]
  rfl
def R14RPost (w : World) (W : List Wr) (e : Ending) (w' : World) : Prop := ∃ v, e = .returned v ∧ kW.Own w' w.heap.size v (W.foldl wput []) ∧ Below w.heap.size w w'
set_option maxRecDepth 100000 in
set_option maxHeartbeats 8000000 in
theorem r14Replay_any (a : Option Addr) (cap : Nat) (rs : List Rv) (w : World) (h : RsV w a rs) (hl : rs.length ≤ 1000) (hW : (wsAll (Srt.sortK Rv.stamp rs)).length ≤ 1000000) (hk : ∀ y ∈ wsAll (Srt.sortK Rv.stamp rs), y.k.s.size ≤ maxLen) :
    Calls Try.prog 72 #[.slice a rs.length cap] w (R14RPost w (wsAll (Srt.sortK Rv.stamp rs))) := by
  have HR := Lib.hid h
  have HW := Lib.hid hW
  have HKK := Lib.hid hk
  obtain ⟨n, hn⟩ : ∃ n, n = rs.length := ⟨_, rfl⟩
  rw [← hn] at hl ⊢
  have HN := Lib.hid hn
  clear h hW hk hn
  have HP0 : Hid (PutI w w rs 0 none 0 0) := Lib.hid ⟨Below.refl _ _, rfl, fun e => absurd rfl e, fun _ => rfl, Nat.le_refl _⟩
  go_enter Try.func72, Try.ntmps72
  go_wp2_with fail
  go_loopw [3, 4] (fun s3 vi wr => ∃ i : Nat, i ≤ n ∧ vi = .int .i64 i ∧ ∃ pa pn pc, s3 = .slice pa pn pc ∧ Hid (PutI w wr rs i pa pn pc)) (fun _ vi _ => n - (intOf vi).toNat)
  case atStart => exact ⟨0, Nat.zero_le _, rfl, _, _, _, rfl, HP0⟩
  case round =>
    obtain ⟨i, hi, rfl, pa, pn, pc, rfl, HP⟩ := hrel
    by_cases hlt : i < n
    · have hltz : (i : Int) < (n : Int) := by omega
      obtain ⟨x, hx⟩ : ∃ x, rs[i]? = some x := ⟨_, List.getElem?_eq_getElem (by have := HN.out; omega)⟩
      obtain ⟨g, off, hae, hat⟩ := (HR.out.below HP.out.b) (fun e => by rw [e] at hx; simp at hx)
      subst hae
      obtain ⟨hok, c0, c1⟩ := hat.cells i x hx
      have HX := Lib.hid hx
      have HC : Hid (Calls Try.prog 83 #[.slice pa pn pc, .agg #[.int .u64 x.stamp, .slice x.a x.ws.length x.cap], .bool true] wr (RvPost wr pa (Srt.sortK Rv.stamp (rs.take i)) (putL true (Srt.sortK Rv.stamp (rs.take i)) x))) := Lib.hid (by
        have hq := put_any pa pc (Srt.sortK Rv.stamp (rs.take i)) x true wr HP.out.v hok (by rw [sortK_len, List.length_take]; omega) (by rw [← HP.out.nn]; exact HP.out.cc) HP.out.z
        rw [← HP.out.nn] at hq
        exact hq)
      obtain ⟨st, xa, xc, xs⟩ := x
      simp only [] at c0 c1
      obtain ⟨xn, hxn⟩ : ∃ xn, xn = xs.length := ⟨_, rfl⟩
      rw [← hxn] at c1
      have HXN := Lib.hid hxn
      clear hx hat hok hxn
      go_wp2_with fail
      rw [HXN.out]
      refine HC.out.mono ?_
      rintro e w1 ⟨qa, qc, rfl, v1, z1, k1, b1, _⟩
      obtain ⟨qn, hqn⟩ : ∃ qn, qn = (putL true (Srt.sortK Rv.stamp (rs.take i)) ⟨st, xa, xc, xs⟩).length := ⟨_, rfl⟩
      rw [← hqn]
      have HNX : Hid (PutI w w1 rs (i + 1) qa qn qc) := Lib.hid ⟨below_then HP.out.b b1, by rw [sortK_snoc HX.out]; exact hqn, by rw [sortK_snoc HX.out]; exact v1, z1, by rw [hqn]; exact k1⟩
      clear v1 z1 k1 b1 hqn c0 c1
      go_wp2_with fail
      exact ⟨⟨i + 1, by omega, by go_num, _, _, _, rfl, HNX⟩, by simp [intOf]; omega⟩
    · obtain rfl : i = n := by omega
      obtain ⟨L, hL⟩ : ∃ L, L = Srt.sortK Rv.stamp rs := ⟨_, rfl⟩
      have HLV : Hid (RsV wr pa L ∧ pn = L.length) := Lib.hid (by
        have h1 := HP.out.v
        have h2 := HP.out.nn
        rw [HN.out, List.take_length, ← hL] at h1 h2
        exact ⟨h1, h2⟩)
      have HBW := Lib.hid HP.out.b
      rw [← hL] at HW HKK
      have HLE := Lib.hid hL
      have hp6 : pn ≤ 1000000 := by rw [HLV.out.2, hL, sortK_len]; have := HN.out; omega
      clear hL HP
      obtain ⟨wo, rfl⟩ : ∃ wo : World, wo = wr := ⟨_, rfl⟩
      have HO0 : Hid (kW.Own wo wo.heap.size (.slice none 0 0) ((wsAll (L.take 0)).foldl wput []) ∧ Below wo.heap.size wo wo) := Lib.hid ⟨RowK.Own.nil kW _ _, Below.refl _ _⟩
      go_wp2_with fail
      go_loopw [5, 6] (fun s5 vi wq => ∃ j : Nat, j ≤ pn ∧ vi = .int .i64 j ∧ ∃ v5, v5 = s5 ∧ Hid (kW.Own wq wo.heap.size v5 ((wsAll (L.take j)).foldl wput []) ∧ Below wo.heap.size wo wq)) (fun _ vi _ => pn - (intOf vi).toNat)
      case atStart => exact ⟨0, Nat.zero_le _, rfl, _, rfl, HO0⟩
      case round =>
        obtain ⟨j, hj, rfl, v5, rfl, HO⟩ := hrel
        by_cases hjl : j < pn
        · have hjz : (j : Int) < (pn : Int) := by omega
          obtain ⟨x, hx⟩ : ∃ x, L[j]? = some x := ⟨_, List.getElem?_eq_getElem (by have := HLV.out.2; omega)⟩
          obtain ⟨g, off, hae, hat0⟩ := HLV.out.1 (fun e => by rw [e] at hx; simp at hx)
          subst hae
          have HAT : Hid (∀ u, Below wo.heap.size wo u → x.Ok u ∧ u.cell? ⟨g, off + j * 2, none⟩ = some (.int .u64 x.stamp) ∧ u.cell? ⟨g, off + j * 2 + 1, none⟩ = some (.slice x.a x.ws.length x.cap)) := Lib.hid (fun u hu => (hat0.below hu).cells j x hx)
          have HX := Lib.hid hx
          have HPRE := Lib.hid (wsAll_pre hx)
          have HTK := Lib.hid (wsAll_take hx)
          have HSUB : Hid (∀ k, ∀ y ∈ (wsAll (L.take j) ++ x.ws.take k).foldl wput [], y.k.s.size ≤ maxLen) := Lib.hid (fun k y hy => by
            rcases wputs_mem _ _ y hy with h1 | h1
            · refine HKK.out y ?_
              rcases List.mem_append.1 h1 with h2 | h2
              · obtain ⟨r, hr, hyr⟩ := List.mem_flatMap.1 h2
                exact List.mem_flatMap.2 ⟨r, List.mem_of_mem_take hr, hyr⟩
              · exact List.mem_flatMap.2 ⟨x, List.mem_of_getElem? HX.out, List.mem_of_mem_take h2⟩
            · simp at h1)
          obtain ⟨m, hm⟩ : ∃ m, m = x.ws.length := ⟨_, rfl⟩
          have HMM := Lib.hid hm
          have hm6 : m ≤ 1000000 := by rw [hm]; have := HPRE.out x.ws.length; rw [List.take_length, List.length_append] at this; have := HW.out; omega
          have HO1 : Hid (kW.Own wr wo.heap.size v5 ((wsAll (L.take j) ++ x.ws.take 0).foldl wput []) ∧ Below wo.heap.size wo wr) := Lib.hid (by rw [List.take_zero, List.append_nil]; exact HO.out)
          clear hx hat0 hm HO
          go_wp2_with fail
          go_loopw [5, 7] (fun s5 vk wq => ∃ k : Nat, k ≤ m ∧ vk = .int .i64 k ∧ ∃ v6, v6 = s5 ∧ Hid (kW.Own wq wo.heap.size v6 ((wsAll (L.take j) ++ x.ws.take k).foldl wput []) ∧ Below wo.heap.size wo wq)) (fun _ vk _ => m - (intOf vk).toNat)
          case atStart => exact ⟨0, Nat.zero_le _, rfl, _, rfl, HO1⟩
          case round =>
            obtain ⟨k, hk, rfl, v6, rfl, HQ⟩ := hrel
            obtain ⟨hok, c0, c1⟩ := HAT.out _ HQ.out.2
            rw [← HMM.out] at c1
            by_cases hkm : k < m
            · have hkz : (k : Int) < (m : Int) := by omega
              obtain ⟨y, hy⟩ : ∃ y, x.ws[k]? = some y := ⟨_, List.getElem?_eq_getElem (by have := HMM.out; omega)⟩
              obtain ⟨gb, go, hxa, hyt⟩ := hok.ws (fun e => by rw [e] at hy; simp at hy)
              rw [hxa] at c1
              obtain ⟨d0, d1, d2, d3, d4, d5⟩ := hyt.six hy
              have HTY : Hid ((wsAll (L.take j) ++ x.ws.take (k + 1)).foldl wput [] = wput ((wsAll (L.take j) ++ x.ws.take k).foldl wput []) y) := Lib.hid (by
                obtain ⟨hk', e⟩ := List.getElem?_eq_some_iff.1 hy
                rw [List.take_succ_eq_append_getElem hk', e, ← List.append_assoc, List.foldl_append]; rfl)
              obtain ⟨ua, uc, hus⟩ := HQ.out.1.shape
              obtain ⟨un, hun⟩ : ∃ un, un = ((wsAll (L.take j) ++ x.ws.take k).foldl wput []).length := ⟨_, rfl⟩
              have HCL := Lib.hid (r14write_any ua uc _ y wr (by have := HQ.out.1; rw [hus] at this; exact this.toV) (HSUB.out k) (by have h1 := wputs_len (wsAll (L.take j) ++ x.ws.take k) []; have h2 := HPRE.out k; have h3 := HW.out; simp only [List.length_nil] at h1; omega))
              rw [← hun] at hus HCL
              subst hus
              clear hok hy hxa hyt hun
              go_wp2_with fail
              refine HCL.out.mono ?_
              rintro e w3 ⟨v7, rfl, o7, b7⟩
              have HQ2 : Hid (kW.Own w3 wo.heap.size v7 ((wsAll (L.take j) ++ x.ws.take (k + 1)).foldl wput []) ∧ Below wo.heap.size wo w3) := Lib.hid (by
                rw [HTY.out]
                exact ⟨o7.mono HQ.out.2.size, below_then HQ.out.2 b7⟩)
              clear o7 b7 HCL c0 c1 d0 d1 d2 d3 d4 d5
              go_wp2_with fail
              exact ⟨⟨k + 1, by omega, by go_num, _, rfl, HQ2⟩, by simp [intOf]; omega⟩
            · obtain rfl : k = m := by omega
              have HNX : Hid (kW.Own wr wo.heap.size v6 ((wsAll (L.take (j + 1))).foldl wput []) ∧ Below wo.heap.size wo wr) := Lib.hid (by
                have h9 := HQ.out
                rw [HMM.out, List.take_length, ← HTK.out] at h9
                exact h9)
              clear hok
              go_wp2_with fail
              exact ⟨⟨j + 1, by omega, by go_num, _, rfl, HNX⟩, by simp [intOf]; omega⟩
        · obtain rfl : j = pn := by omega
          go_wp2_with fail
          go_ret
          have h9 := HO.out.1
          rw [HLV.out.2, List.take_length] at h9
          rw [HLE.out] at h9
          exact ⟨_, rfl, h9.mono HBW.out.size, HBW.out.trans (HO.out.2.mono HBW.out.size)⟩
end Go.Proofs.Ytcghgnncmnoalaa
