/- Layer 19: path.back, the walk. Conditions: each contract's own premises. -/
import Derived.Test.YtaanohgkdpohhaaPa4
import Derived.Deep.Cut
namespace Go.Proofs.Ytaanohgkdpohhaa
open Go.RowKit Go.Maps
theorem next_len (E : List Eg) (out : Bool) (lab : ByteArray) (n : Int) : (nextL E out lab n).length ≤ E.length := by
  have h1 : (nextL E out lab n).Nodup := (next_inc E out lab n).imp (fun h => by omega)
  have h2 := nodup_len (m := (idsE E (sideP out n)).flatMap (nx E out lab)) h1 (fun x hx => by unfold nextL at hx; exact ((setI_spec _).2 _).1 hx)
  exact Nat.le_trans h2 (Nat.le_trans (nx_len _ _ _ _) (idsE_len _ _))
set_option maxRecDepth 100000 in
set_option maxHeartbeats 4000000 in
theorem back_any (w0 w : World) (wb gb vb eb : Nat) (q : Bq) (fr : Int) (most : Nat) (hG : GrC w0 gb vb eb q.V q.E) (h : WkS w0 w wb gb q.st0) (hE : q.E.length ≤ 1000000) (hV : q.V.length ≤ 1000000) (hm : most ≤ 64) (hf : I64 fr) (ht : I64 q.t) :
    Calls Try.prog 122 #[.pointer (some ⟨wb, 0, none⟩), .agg #[.int .i64 fr, .int .i64 q.t, .string q.lab, .int .i64 most]] w (BkPost w0 w wb gb q fr most) := by
  have HG := Lib.hid hG
  have H0 := Lib.hid h
  have HE := Lib.hid hE
  have HV := Lib.hid hV
  have HM := Lib.hid hm
  have HF := Lib.hid hf
  have HT := Lib.hid ht
  clear hG h hE hV hm hf ht
  have hmm := @run_makeMap Try.prog
  obtain ⟨bx, hbx⟩ : ∃ bx, bx = Obj.cells #[.int .i64 fr, .int .i64 q.t, .string q.lab, .int .i64 (most : Int)] 107 := ⟨_, rfl⟩
  have m0 : mapR ((w.alloc bx).alloc (.map #[] 0)) Try.prog 3 (w.heap.size + 1) 0 (fun _ => none) := by
    have := mapR_made (w.alloc bx) Try.prog 3
    rw [size_alloc] at this
    exact this
  obtain ⟨w2, hst, m2, t2⟩ := m0.store (val := .int .i64 0) lawI Try.underlying153 (by decide) (keyI HT.out)
  have HS1 : Hid (BkC w0 w w2 wb gb q.V q.t (pAsk fr q.t q.lab most) q.st0 [(q.t, 0)]) := Lib.hid (by
    have hd0 : DmC ((w.alloc bx).alloc (.map #[] 0)) (w.heap.size + 1) [] := ⟨_, m0, fun n _ => rfl⟩
    have hd : DmC w2 (w.heap.size + 1) ([] ++ [(q.t, 0)]) := DmC.put (f := fun _ => none) (fun n _ => rfl) (by simp [keysD]) HT.out m2
    have hb : Below w.heap.size w ((w.alloc bx).alloc (.map #[] 0)) := (below_box w bx).alloc (by simp) _
    have h1 : BkC w0 w ((w.alloc bx).alloc (.map #[] 0)) wb gb q.V q.t (pAsk fr q.t q.lab most) q.st0 [] :=
      ⟨H0.out.below hb, hd0, Chg.of_below hb _, List.nodup_nil, (fun v hv => by cases hv), by rw [Below.heap_alloc _ _ _ (by simp), heap_new, hbx]; rfl, H0.out.lt⟩
    exact h1.turn t2 hd (by simp [keysD]) (fun v hv => .inl (by simpa [keysD] using hv)))
  have HZ2 : Hid (w2.heap.size = w.heap.size + 2) := Lib.hid (by rw [turned_size t2]; simp)
  subst hbx
  obtain ⟨_, d1, _, _⟩ := HS1.out.cells
  clear m0 m2 t2
  go_enter Try.func122, Try.ntmps122
  go_wp2_with fail
  clear d1
  go_loopw [6, 7] (fun rv nv wr => OutR w0 w wb gb q fr most rv nv wr) (fun _ n _ => 66 - (intOf n).toNat)
  case atStart =>
    refine ⟨[q.t], 1, q.st0, [(q.t, 0)], rfl, by omega, ⟨HS1.out.below (below_box _ _), ?_, RowK.Own.nil kI _ _, RowK.Own.nil kI _ _, (fun j e => by cases e), (fun j e => by cases e)⟩, q.start⟩
    exact RowK.Own.new (k := kI) (heap_new _ _) (by rw [HZ2.out]; exact Nat.le_refl _) rfl (by show 1 ≤ maxLen; decide)
  case round =>
    obtain ⟨row, n, st, d, rfl, hn, hI, hO⟩ := hrel
    obtain ⟨ra, rc, rfl⟩ := hI.or.shape
    obtain ⟨d0, d1, d2, d3⟩ := hI.bk.cells
    have hsz := hI.bk.size
    have hMo := HM.out
    by_cases hnm : n ≤ most
    · by_cases hrow : row = []
      · subst hrow
        have HI := Lib.hid hI
        have HO := Lib.hid hO
        have HN := Lib.hid hn
        have HNM := Lib.hid hnm
        clear hI hO
        go_wp2_with fail
        go_ret
        exact ⟨d, st, rfl, HI.out.bk.dm, HI.out.bk.wk, HI.out.bk.chg, HO.out.end' hn (.inr (.inl rfl))⟩
      · have hrl : 0 < row.length := by cases row with | nil => exact absurd rfl hrow | cons _ _ => simp
        have hrl' : row.length ≤ 1000001 := by
          have h1 := nodup_len hO.2.1 hO.2.2.1
          have h2 := hI.bk.cnt
          have h3 := HV.out
          unfold keysD at h1
          rw [List.length_map] at h1
          omega
        have hlk := hI.bk.dm.look HF.out
        have HI := Lib.hid hI
        have HO := Lib.hid hO
        have HN := Lib.hid hn
        have HNM := Lib.hid hnm
        have HROW := Lib.hid hrow
        clear hI hO hrow
        cases hff : lookD d fr with
        | some kf =>
          rw [hff] at hlk
          have HFF := Lib.hid hff
          clear hff
          go_wp2_with fail
          go_ret
          exact ⟨d, st, rfl, HI.out.bk.dm, HI.out.bk.wk, HI.out.bk.chg, HO.out.end' hn (.inr (.inr (mem_keysD.2 ⟨kf, HFF.out⟩)))⟩
        | none =>
          rw [hff] at hlk
          have HFF := Lib.hid hff
          clear hff
          go_wp2_with fail
          obtain ⟨X, hX⟩ := HO.out.open'
          have HX := Lib.hid hX
          clear hX hlk
          obtain ⟨wo, rfl⟩ : ∃ wo : World, wo = wr := ⟨_, rfl⟩
          clear d0 d1 d2 d3
          go_loopw [10, 45] (fun nv iv wr => MidR w0 w wb gb q fr most X row n (.slice ra row.length rc) nv iv wr) (fun _ i _ => row.length - (intOf i).toNat)
          case atStart => exact ⟨0, [], st, d, rfl, Nat.zero_le _, ⟨HI.out.bk, HI.out.or, RowK.Own.nil kI _ _, RowK.Own.nil kI _ _, (fun j e => by cases e), (fun j e => by cases e)⟩, HX.out⟩
          case round =>
            obtain ⟨k, next, st, d, rfl, hk, hI, hM⟩ := hrel
            obtain ⟨na, nc, rfl⟩ := hI.on.shape
            obtain ⟨d0, d1, d2, d3⟩ := hI.bk.cells
            have hsz := hI.bk.size
            have HI := Lib.hid hI
            have HIM := Lib.hid hM
            clear hI hM
            by_cases hlt : k < row.length
            · obtain ⟨y, hy⟩ : ∃ y, row[k]? = some y := ⟨_, List.getElem?_eq_getElem hlt⟩
              obtain ⟨lb, lc, hsl, hlb, _, hat⟩ := HI.out.or.at' HROW.out
              injection hsl with e1 e2 e3
              subst e1 e3
              have q0 := hat.cells k y hy 0 _ rfl
              have e4 : 0 + k * kI.size + 0 = k := by show 0 + k * 1 + 0 = k; omega
              rw [e4] at q0
              have hlbl := hat.lt
              have HY := Lib.hid hy
              clear hat hy hlb
              go_wp2_with fail
              refine (wnext_any w0 wr wb gb vb eb q.V q.E st y false q.lab HG.out HI.out.bk.wk HE.out).mono ?_
              rintro e w3 ⟨lv, rfl, o3, s3, k3⟩
              have HI2 := Lib.hid (HI.out.call s3 k3 o3)
              obtain ⟨la, lcap, rfl⟩ := o3.shape
              have hII := fun L => HIM.out.open' (L := L) HY.out
              clear s3 k3 o3 q0
              obtain ⟨st', hst'⟩ : ∃ s, s = payS st (1 + (idsE q.E (sideP false y)).length) := ⟨_, rfl⟩
              rw [← hst'] at HI2 hII ⊢
              obtain ⟨L, hL⟩ : ∃ L : List Int, L = if st'.isSome then nextL q.E false q.lab y else [] := ⟨_, rfl⟩
              rw [← hL] at HI2 ⊢
              have HII := Lib.hid (hII L)
              clear hII
              have HL := Lib.hid hL
              have HST := Lib.hid hst'
              clear hL hst'
              go_wp2_with fail
              obtain ⟨wo2, rfl⟩ : ∃ wo2 : World, wo2 = w3 := ⟨_, rfl⟩
              clear d0 d1 d2 d3
              go_loopw [10, 55] (fun nv jv wr => InnR w0 w wb gb q fr most X row n k st' L (.slice (some ⟨lb, 0, none⟩) row.length rc) (.slice la L.length lcap) nv jv wr) (fun _ j _ => L.length - (intOf j).toNat)
              case atStart => exact ⟨0, next, d, rfl, Nat.zero_le _, HI2.out, HII.out⟩
              case round =>
                obtain ⟨j, next, d, rfl, hj, hI, hM⟩ := hrel
                obtain ⟨na, nc, rfl⟩ := hI.on.shape
                obtain ⟨d0, d1, d2, d3⟩ := hI.bk.cells
                have hsz := hI.bk.size
                have HI := Lib.hid hI
                have HIM := Lib.hid hM
                have hnl : next.length ≤ 1000001 := by
                  have h1 := nodup_len hM.2.1 hM.2.2.1
                  have h2 := hI.bk.cnt
                  have h3 := HV.out
                  unfold keysD at h1
                  rw [List.length_map] at h1
                  omega
                have hLl : L.length ≤ 1000000 := by
                  have h1 := HL.out
                  split at h1
                  · rw [h1]; exact Nat.le_trans (next_len _ _ _ _) HE.out
                  · rw [h1]; exact Nat.zero_le _
                clear hI hM
                by_cases hlj : j < L.length
                · obtain ⟨x, hx⟩ : ∃ x, L[j]? = some x := ⟨_, List.getElem?_eq_getElem hlj⟩
                  have HLN : Hid (L ≠ []) := Lib.hid (fun e => by rw [e] at hlj; simp at hlj)
                  obtain ⟨lb2, lc2, hsl, hlb, _, hat⟩ := HI.out.ol.at' HLN.out
                  injection hsl with e1 e2 e3
                  subst e1 e3
                  have q0 := hat.cells j x hx 0 _ rfl
                  have e4 : 0 + j * kI.size + 0 = j := by show 0 + j * 1 + 0 = j; omega
                  rw [e4] at q0
                  have hlbl := hat.lt
                  have HX := Lib.hid hx
                  have HSS : Hid (st'.isSome = true ∧ L = nextL q.E false q.lab y) := Lib.hid (by
                    have h1 := HL.out
                    split at h1
                    · rename_i h2; exact ⟨h2, h1⟩
                    · exact absurd h1 HLN.out)
                  have HR : Hid (edB q.E q.lab x y) := Lib.hid (by
                    have h1 := List.mem_of_getElem? hx
                    rw [HSS.out.2, mem_next HG.out.ok.se] at h1
                    simpa using h1)
                  have HXI : Hid (I64 x ∧ ∃ u ∈ q.V, u.id = x) := Lib.hid (by
                    obtain ⟨ed, he, e1, _, _⟩ := HR.out
                    obtain ⟨⟨u, hu, e2⟩, _⟩ := HG.out.ok.ends ed he
                    exact ⟨e1 ▸ checkR_ids (HG.out.ok.e ed he) (by simp), u, hu, e2.trans e1⟩)
                  have hlk := HI.out.bk.dm.look HXI.out.1
                  clear hat hx hlb
                  cases hff : lookD d x with
                  | some kf =>
                    rw [hff] at hlk
                    have HFF := Lib.hid hff
                    clear hff
                    as_aux_lemma =>
                      go_wp2_with fail
                      refine ⟨⟨j + 1, next, d, by simp, hlj, HI.out, HIM.out.seen HX.out (mem_keysD.2 ⟨_, HFF.out⟩)⟩, by simp [intOf]; omega⟩
                  | none =>
                    rw [hff] at hlk
                    have HFF := Lib.hid (lookD_none.1 hff)
                    clear hff
                    obtain ⟨w5, hst5, hC5, hz5⟩ := HI.out.store (n := n) HFF.out HXI.out.1 HXI.out.2 HV.out
                    have HC5 := Lib.hid hC5
                    have HZ5 := Lib.hid hz5
                    have HXV := Lib.hid (int_new w5 w5.heap.size rfl x)
                    have HCA := Lib.hid (hC5.alloc (.cells #[.int .i64 x] 3))
                    clear hC5 hz5
                    as_aux_lemma =>
                      go_wp2_with (first | (at_builtin; refine RowK.wpList_app (k := kI) rfl (.tmp 70) (.tmp 72) rfl rfl HCA.out.on (some ⟨w5.heap.size, 0, none⟩) 1 [x] 1 rfl rfl HXV.out (fun e => by cases e) (by simp; omega) (by have := HZ5.out; simp; omega) ?_; intro v8 w8 hA; have HA8 := Lib.hid hA; clear hA) | fail)
                      obtain ⟨oA, gA, kA⟩ := HA8.out
                      refine ⟨⟨j + 1, next ++ [x], _, by simp, hlj, HCA.out.app oA gA kA, HIM.out.put HX.out HFF.out HY.out (fun _ => HR.out)⟩, by simp [intOf]; omega⟩
                · obtain rfl : j = L.length := by omega
                  go_wp2_with fail
                  refine ⟨⟨k + 1, next, st', d, by simp, hlt, HI.out.noL, HIM.out.done HY.out (fun hs => by have h1 := HL.out; rw [if_pos hs] at h1; exact h1)⟩, by simp [intOf]; omega⟩
            · obtain rfl : k = row.length := by omega
              go_wp2_with fail
              refine ⟨⟨next, n + 1, st, d, by simp, by omega, HI.out.turn, HIM.out.done⟩, by simp [intOf]; omega⟩
    · obtain rfl : n = most + 1 := by omega
      have HI := Lib.hid hI
      have HO := Lib.hid hO
      clear hI hO
      go_wp2_with fail
      go_ret
      exact ⟨d, st, rfl, HI.out.bk.dm, HI.out.bk.wk, HI.out.bk.chg, HO.out.end' hn (.inl rfl)⟩
end Go.Proofs.Ytaanohgkdpohhaa
