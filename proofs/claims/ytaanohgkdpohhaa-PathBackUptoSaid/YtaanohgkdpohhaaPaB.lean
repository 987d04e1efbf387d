/- Layer 19: path.back, the walk. Conditions: each contract's own premises. Layer 19, plainly: the way forth, from the first one, by what back has told. No program here beyond plain lists. Layer 19: what path.Run keeps. Conditions: each lemma's own premises. -/
import Derived.Test.YtaanohgkdpohhaaPaA
import Derived.Deep.Cut
namespace Go.Proofs.Ytaanohgkdpohhaa
open Go.RowKit Go.Maps
theorem next_len (E : List Eg) (out : Bool) (lab : ByteArray) (n : Int) : (nextL E out lab n).length ≤ E.length := by
  have h1 : (nextL E out lab n).Nodup := (next_inc E out lab n).imp (fun h => by omega)
  have h2 := nodup_len (m := (idsE E (sideP out n)).flatMap (nx E out lab)) h1 (fun x hx => by unfold nextL at hx; exact ((setI_spec _).2 _).1 hx)
  exact Nat.le_trans h2 (Nat.le_trans (nx_len _ _ _ _) (idsE_len _ _))
set_option maxRecDepth 100000 in
set_option maxHeartbeats 4000000 in
theorem back_any (w0 w : World) (wb gb vb eb : Nat) (q : Bq) (fr : Int) (most : Nat) (hG : GrC w0 gb vb eb q.V q.E) (h : WkS w0 w wb gb q.st0) (hE : q.E.length ≤ 1000000) (hV : q.V.length ≤ 1000000) (hm : most ≤ 64) (hf : I64 fr) (ht : I64 q.t) :
    Calls Try.prog 122 #[.pointer (some ⟨wb, 0, none⟩), .agg #[.int .i64 fr, .int .i64 q.t, .string q.lab, .int .i64 most]] w (BkPost w0 w wb gb q fr most) := by
  have HG := Lib.hid hG
  have H0 := Lib.hid h
  have HE := Lib.hid hE
  have HV := Lib.hid hV
  have HM := Lib.hid hm
  have HF := Lib.hid hf
  have HT := Lib.hid ht
  clear hG h hE hV hm hf ht
  have hmm := @run_makeMap Try.prog
  obtain ⟨bx, hbx⟩ : ∃ bx, bx = Obj.cells #[.int .i64 fr, .int .i64 q.t, .string q.lab, .int .i64 (most : Int)] 107 := ⟨_, rfl⟩
  have m0 : mapR ((w.alloc bx).alloc (.map #[] 0)) Try.prog 3 (w.heap.size + 1) 0 (fun _ => none) := by
    have := mapR_made (w.alloc bx) Try.prog 3
    rw [size_alloc] at this
    exact this
  obtain ⟨w2, hst, m2, t2⟩ := m0.store (val := .int .i64 0) lawI Try.underlying153 (by decide) (keyI HT.out)
  have HS1 : Hid (BkC w0 w w2 wb gb q.V q.t (pAsk fr q.t q.lab most) q.st0 [(q.t, 0)]) := Lib.hid (by
    have hd0 : DmC ((w.alloc bx).alloc (.map #[] 0)) (w.heap.size + 1) [] := ⟨_, m0, fun n _ => rfl⟩
    have hd : DmC w2 (w.heap.size + 1) ([] ++ [(q.t, 0)]) := DmC.put (f := fun _ => none) (fun n _ => rfl) (by simp [keysD]) HT.out m2
    have hb : Below w.heap.size w ((w.alloc bx).alloc (.map #[] 0)) := (below_box w bx).alloc (by simp) _
    have h1 : BkC w0 w ((w.alloc bx).alloc (.map #[] 0)) wb gb q.V q.t (pAsk fr q.t q.lab most) q.st0 [] :=
      ⟨H0.out.below hb, hd0, Chg.of_below hb _, List.nodup_nil, (fun v hv => by cases hv), by rw [Below.heap_alloc _ _ _ (by simp), heap_new, hbx]; rfl, H0.out.lt⟩
    exact h1.turn t2 hd (by simp [keysD]) (fun v hv => .inl (by simpa [keysD] using hv)))
  have HZ2 : Hid (w2.heap.size = w.heap.size + 2) := Lib.hid (by rw [turned_size t2]; simp)
  subst hbx
  obtain ⟨_, d1, _, _⟩ := HS1.out.cells
  clear m0 m2 t2
  go_enter Try.func122, Try.ntmps122
  go_wp2_with fail
  clear d1
  go_loopw [6, 7] (fun rv nv wr => OutR w0 w wb gb q fr most rv nv wr) (fun _ n _ => 66 - (intOf n).toNat)
  case atStart =>
    refine ⟨[q.t], 1, q.st0, [(q.t, 0)], rfl, by omega, ⟨HS1.out.below (below_box _ _), ?_, RowK.Own.nil kI _ _, RowK.Own.nil kI _ _, (fun j e => by cases e), (fun j e => by cases e)⟩, q.start⟩
    exact RowK.Own.new (k := kI) (heap_new _ _) (by rw [HZ2.out]; exact Nat.le_refl _) rfl (by show 1 ≤ maxLen; decide)
  case round =>
    obtain ⟨row, n, st, d, rfl, hn, hI, hO⟩ := hrel
    obtain ⟨ra, rc, rfl⟩ := hI.or.shape
    obtain ⟨d0, d1, d2, d3⟩ := hI.bk.cells
    have hsz := hI.bk.size
    have hMo := HM.out
    by_cases hnm : n ≤ most
    · by_cases hrow : row = []
      · subst hrow
        have HI := Lib.hid hI
        have HO := Lib.hid hO
        have HN := Lib.hid hn
        have HNM := Lib.hid hnm
        clear hI hO
        go_wp2_with fail
        go_ret
        exact ⟨d, st, rfl, HI.out.bk.dm, HI.out.bk.wk, HI.out.bk.chg, HO.out.end' hn (.inr (.inl rfl))⟩
      · have hrl : 0 < row.length := by cases row with | nil => exact absurd rfl hrow | cons _ _ => simp
        have hrl' : row.length ≤ 1000001 := by
          have h1 := nodup_len hO.2.1 hO.2.2.1
          have h2 := hI.bk.cnt
          have h3 := HV.out
          unfold keysD at h1
          rw [List.length_map] at h1
          omega
        have hlk := hI.bk.dm.look HF.out
        have HI := Lib.hid hI
        have HO := Lib.hid hO
        have HN := Lib.hid hn
        have HNM := Lib.hid hnm
        have HROW := Lib.hid hrow
        clear hI hO hrow
        cases hff : lookD d fr with
        | some kf =>
          rw [hff] at hlk
          have HFF := Lib.hid hff
          clear hff
          go_wp2_with fail
          go_ret
          exact ⟨d, st, rfl, HI.out.bk.dm, HI.out.bk.wk, HI.out.bk.chg, HO.out.end' hn (.inr (.inr (mem_keysD.2 ⟨kf, HFF.out⟩)))⟩
        | none =>
          rw [hff] at hlk
          have HFF := Lib.hid hff
          clear hff
          go_wp2_with fail
          obtain ⟨X, hX⟩ := HO.out.open'
          have HX := Lib.hid hX
          clear hX hlk
          obtain ⟨wo, rfl⟩ : ∃ wo : World, wo = wr := ⟨_, rfl⟩
          clear d0 d1 d2 d3
          go_loopw [10, 45] (fun nv iv wr => MidR w0 w wb gb q fr most X row n (.slice ra row.length rc) nv iv wr) (fun _ i _ => row.length - (intOf i).toNat)
          case atStart => exact ⟨0, [], st, d, rfl, Nat.zero_le _, ⟨HI.out.bk, HI.out.or, RowK.Own.nil kI _ _, RowK.Own.nil kI _ _, (fun j e => by cases e), (fun j e => by cases e)⟩, HX.out⟩
          case round =>
            obtain ⟨k, next, st, d, rfl, hk, hI, hM⟩ := hrel
            obtain ⟨na, nc, rfl⟩ := hI.on.shape
            obtain ⟨d0, d1, d2, d3⟩ := hI.bk.cells
            have hsz := hI.bk.size
            have HI := Lib.hid hI
            have HIM := Lib.hid hM
            clear hI hM
            by_cases hlt : k < row.length
            · obtain ⟨y, hy⟩ : ∃ y, row[k]? = some y := ⟨_, List.getElem?_eq_getElem hlt⟩
              obtain ⟨lb, lc, hsl, hlb, _, hat⟩ := HI.out.or.at' HROW.out
              injection hsl with e1 e2 e3
              subst e1 e3
              have q0 := hat.cells k y hy 0 _ rfl
              have e4 : 0 + k * kI.size + 0 = k := by show 0 + k * 1 + 0 = k; omega
              rw [e4] at q0
              have hlbl := hat.lt
              have HY := Lib.hid hy
              clear hat hy hlb
              go_wp2_with fail
              refine (wnext_any w0 wr wb gb vb eb q.V q.E st y false q.lab HG.out HI.out.bk.wk HE.out).mono ?_
              rintro e w3 ⟨lv, rfl, o3, s3, k3⟩
              have HI2 := Lib.hid (HI.out.call s3 k3 o3)
              obtain ⟨la, lcap, rfl⟩ := o3.shape
              have hII := fun L => HIM.out.open' (L := L) HY.out
              clear s3 k3 o3 q0
              obtain ⟨st', hst'⟩ : ∃ s, s = payS st (1 + (idsE q.E (sideP false y)).length) := ⟨_, rfl⟩
              rw [← hst'] at HI2 hII ⊢
              obtain ⟨L, hL⟩ : ∃ L : List Int, L = if st'.isSome then nextL q.E false q.lab y else [] := ⟨_, rfl⟩
              rw [← hL] at HI2 ⊢
              have HII := Lib.hid (hII L)
              clear hII
              have HL := Lib.hid hL
              have HST := Lib.hid hst'
              clear hL hst'
              go_wp2_with fail
              obtain ⟨wo2, rfl⟩ : ∃ wo2 : World, wo2 = w3 := ⟨_, rfl⟩
              clear d0 d1 d2 d3
              go_loopw [10, 55] (fun nv jv wr => InnR w0 w wb gb q fr most X row n k st' L (.slice (some ⟨lb, 0, none⟩) row.length rc) (.slice la L.length lcap) nv jv wr) (fun _ j _ => L.length - (intOf j).toNat)
              case atStart => exact ⟨0, next, d, rfl, Nat.zero_le _, HI2.out, HII.out⟩
              case round =>
                obtain ⟨j, next, d, rfl, hj, hI, hM⟩ := hrel
                obtain ⟨na, nc, rfl⟩ := hI.on.shape
                obtain ⟨d0, d1, d2, d3⟩ := hI.bk.cells
                have hsz := hI.bk.size
                have HI := Lib.hid hI
                have HIM := Lib.hid hM
                have hnl : next.length ≤ 1000001 := by
                  have h1 := nodup_len hM.2.1 hM.2.2.1
                  have h2 := hI.bk.cnt
                  have h3 := HV.out
                  unfold keysD at h1
                  rw [List.length_map] at h1
                  omega
                have hLl : L.length ≤ 1000000 := by
                  have h1 := HL.out
                  split at h1
                  · rw [h1]; exact Nat.le_trans (next_len _ _ _ _) HE.out
                  · rw [h1]; exact Nat.zero_le _
                clear hI hM
                by_cases hlj : j < L.length
                · obtain ⟨x, hx⟩ : ∃ x, L[j]? = some x := ⟨_, List.getElem?_eq_getElem hlj⟩
                  have HLN : Hid (L ≠ []) := Lib.hid (fun e => by rw [e] at hlj; simp at hlj)
                  obtain ⟨lb2, lc2, hsl, hlb, _, hat⟩ := HI.out.ol.at' HLN.out
                  injection hsl with e1 e2 e3
                  subst e1 e3
                  have q0 := hat.cells j x hx 0 _ rfl
                  have e4 : 0 + j * kI.size + 0 = j := by show 0 + j * 1 + 0 = j; omega
                  rw [e4] at q0
                  have hlbl := hat.lt
                  have HX := Lib.hid hx
                  have HSS : Hid (st'.isSome = true ∧ L = nextL q.E false q.lab y) := Lib.hid (by
                    have h1 := HL.out
                    split at h1
                    · rename_i h2; exact ⟨h2, h1⟩
                    · exact absurd h1 HLN.out)
                  have HR : Hid (edB q.E q.lab x y) := Lib.hid (by
                    have h1 := List.mem_of_getElem? hx
                    rw [HSS.out.2, mem_next HG.out.ok.se] at h1
                    simpa using h1)
                  have HXI : Hid (I64 x ∧ ∃ u ∈ q.V, u.id = x) := Lib.hid (by
                    obtain ⟨ed, he, e1, _, _⟩ := HR.out
                    obtain ⟨⟨u, hu, e2⟩, _⟩ := HG.out.ok.ends ed he
                    exact ⟨e1 ▸ checkR_ids (HG.out.ok.e ed he) (by simp), u, hu, e2.trans e1⟩)
                  have hlk := HI.out.bk.dm.look HXI.out.1
                  clear hat hx hlb
                  cases hff : lookD d x with
                  | some kf =>
                    rw [hff] at hlk
                    have HFF := Lib.hid hff
                    clear hff
                    as_aux_lemma =>
                      go_wp2_with fail
                      refine ⟨⟨j + 1, next, d, by simp, hlj, HI.out, HIM.out.seen HX.out (mem_keysD.2 ⟨_, HFF.out⟩)⟩, by simp [intOf]; omega⟩
                  | none =>
                    rw [hff] at hlk
                    have HFF := Lib.hid (lookD_none.1 hff)
                    clear hff
                    obtain ⟨w5, hst5, hC5, hz5⟩ := HI.out.store (n := n) HFF.out HXI.out.1 HXI.out.2 HV.out
                    have HC5 := Lib.hid hC5
                    have HZ5 := Lib.hid hz5
                    have HXV := Lib.hid (int_new w5 w5.heap.size rfl x)
                    have HCA := Lib.hid (hC5.alloc (.cells #[.int .i64 x] 3))
                    clear hC5 hz5
                    as_aux_lemma =>
                      go_wp2_with (first | (at_builtin; refine RowK.wpList_app (k := kI) rfl (.tmp 70) (.tmp 72) rfl rfl HCA.out.on (some ⟨w5.heap.size, 0, none⟩) 1 [x] 1 rfl rfl HXV.out (fun e => by cases e) (by simp; omega) (by have := HZ5.out; simp; omega) ?_; intro v8 w8 hA; have HA8 := Lib.hid hA; clear hA) | fail)
                      obtain ⟨oA, gA, kA⟩ := HA8.out
                      refine ⟨⟨j + 1, next ++ [x], _, by simp, hlj, HCA.out.app oA gA kA, HIM.out.put HX.out HFF.out HY.out (fun _ => HR.out)⟩, by simp [intOf]; omega⟩
                · obtain rfl : j = L.length := by omega
                  go_wp2_with fail
                  refine ⟨⟨k + 1, next, st', d, by simp, hlt, HI.out.noL, HIM.out.done HY.out (fun hs => by have h1 := HL.out; rw [if_pos hs] at h1; exact h1)⟩, by simp [intOf]; omega⟩
            · obtain rfl : k = row.length := by omega
              go_wp2_with fail
              refine ⟨⟨next, n + 1, st, d, by simp, by omega, HI.out.turn, HIM.out.done⟩, by simp [intOf]; omega⟩
    · obtain rfl : n = most + 1 := by omega
      have HI := Lib.hid hI
      have HO := Lib.hid hO
      clear hI hO
      go_wp2_with fail
      go_ret
      exact ⟨d, st, rfl, HI.out.bk.dm, HI.out.bk.wk, HI.out.bk.chg, HO.out.end' hn (.inl rfl)⟩
end Go.Proofs.Ytaanohgkdpohhaa
namespace Go.Proofs.Ytaanohgkdpohhaa
open Go.RowKit Go.Maps

/-- on the way -/
structure Fw (R : Int → Int → Prop) (fr t : Int) (kf : Nat) (vis : List Int) (at' : Int) (left : Nat) : Prop where
  near : Dist R left at' t
  off : ∀ v ∈ vis, ∃ j, left < j ∧ Dist R j v t
  nd : vis.Nodup
  least : ∀ rest, Least R left at' t (at' :: rest) → Least R kf fr t (vis ++ at' :: rest)
section
variable {R : Int → Int → Prop} {fr t at' x : Int} {kf n : Nat} {vis : List Int}
theorem Fw.start (h : Dist R kf fr t) : Fw R fr t kf [] fr kf := ⟨h, (fun v hv => by cases hv), List.nodup_nil, fun rest hl => hl⟩
theorem Fw.step (h : Fw R fr t kf vis at' (n + 1)) (hx : R at' x) (hd : Dist R n x t) (hmin : ∀ y, R at' y → Dist R n y t → x ≤ y) : Fw R fr t kf (vis ++ [at']) x n := by
  refine ⟨hd, fun v hv => ?_, List.nodup_append.2 ⟨h.nd, by simp, fun a ha b hb e => ?_⟩, fun rest hl => ?_⟩
  · rcases List.mem_append.1 hv with hv | hv
    · obtain ⟨j, hj, h2⟩ := h.off v hv
      exact ⟨j, by omega, h2⟩
    · obtain rfl : v = at' := by simpa using hv
      exact ⟨n + 1, by omega, h.near⟩
  · obtain rfl : b = at' := by simpa using hb
    obtain ⟨j, hj, h2⟩ := h.off a ha
    rw [e] at h2
    have := h2.uniq h.near
    omega
  · have := h.least (x :: rest) (Least.greedy h.near hx hmin hl)
    rw [List.append_assoc]
    exact this
theorem Fw.end' (h : Fw R fr t kf vis at' 0) : Least R kf fr t (vis ++ [at']) := by
  have e := (dist_zero at' t).1 h.near
  subst e
  exact h.least [] (Least.zero at')
theorem Fw.here (h : Fw R fr t kf vis at' (n + 1)) : Fw R fr t kf vis at' (n + 1) ∧ ∃ y, R at' y ∧ Dist R n y t := ⟨h, h.near.step⟩
end
def FwM (q : Bq) (fr : Int) (kf c left : Nat) (out : List Int) (at' : Int) (st : Option Nat) : Prop :=
  left + out.length = kf + 1 ∧ (st = none → Sp q.st0 (2 * (q.V.length + q.E.length))) ∧ (st.isSome = true → ∃ vis, out = vis ++ [at'] ∧ Fw (edB q.E q.lab) fr q.t kf vis at' left ∧ payS q.st0 (c + cost q.E true vis) = st)
section
variable {q : Bq} {fr at' x : Int} {kf c left n : Nat} {out : List Int} {st : Option Nat}
theorem FwM.start (hs : st.isSome = true) (hc : payS q.st0 c = st) (hd : Dist (edB q.E q.lab) kf fr q.t) : FwM q fr kf c kf [fr] fr st :=
  ⟨rfl, fun h => by rw [h] at hs; (cases hs), fun _ => ⟨[], rfl, Fw.start hd, by rw [← hc]; rfl⟩⟩
theorem fw_cost {vis : List Int} {left : Nat} (hf : Fw (edB q.E q.lab) fr q.t kf vis at' left) : cost q.E true vis ≤ q.V.length + q.E.length :=
  cost_cb true hf.nd (fun v hv => by
    obtain ⟨j, hj, h2⟩ := hf.off v hv
    obtain ⟨i, rfl⟩ : ∃ i, j = i + 1 := ⟨j - 1, by omega⟩
    obtain ⟨y, ⟨ed, he, e1, _, _⟩, _⟩ := h2.step
    obtain ⟨⟨u, hu, e2⟩, _⟩ := q.ok.ends ed he
    exact ⟨u, hu, e2.trans e1⟩)
theorem fw_pay {vis : List Int} (he : payS q.st0 (c + cost q.E true vis) = st) : payS st (1 + (idsE q.E (sideP true at')).length) = payS q.st0 (c + cost q.E true (vis ++ [at'])) := by
  rw [← he, payS_add, cost_app, cost_one]
  congr 1
  omega
/-- it is spent at a vertex -/
theorem FwM.spent (h : FwM q fr kf c (n + 1) out at' st) (hs : st.isSome = true) (hc : c ≤ q.V.length + q.E.length) (hp : payS st (1 + (idsE q.E (sideP true at')).length) = none) (z : Int) : FwM q fr kf c n (out ++ [z]) z none := by
  obtain ⟨h1, _, h3⟩ := h
  obtain ⟨vis, rfl, hf, he⟩ := h3 hs
  refine ⟨by simp at h1 ⊢; omega, fun _ => ?_, fun h => by cases h⟩
  rw [fw_pay he] at hp
  have hf' : cost q.E true (vis ++ [at']) ≤ q.V.length + q.E.length := by
    refine cost_cb true ?_ ?_
    · refine List.nodup_append.2 ⟨hf.nd, by simp, fun a ha b hb e => ?_⟩
      obtain rfl : b = at' := by simpa using hb
      obtain ⟨j, hj, h2⟩ := hf.off a ha
      rw [e] at h2
      have := h2.uniq hf.near
      omega
    · intro v hv
      have hd : ∃ j, 1 ≤ j ∧ Dist (edB q.E q.lab) j v q.t := by
        rcases List.mem_append.1 hv with hv | hv
        · obtain ⟨j, hj, h2⟩ := hf.off v hv
          exact ⟨j, by omega, h2⟩
        · obtain rfl : v = at' := by simpa using hv
          exact ⟨n + 1, by omega, hf.near⟩
      obtain ⟨j, hj, h2⟩ := hd
      obtain ⟨i, rfl⟩ : ∃ i, j = i + 1 := ⟨j - 1, by omega⟩
      obtain ⟨y, ⟨ed, he, e1, _, _⟩, _⟩ := h2.step
      obtain ⟨⟨u, hu, e2⟩, _⟩ := q.ok.ends ed he
      exact ⟨u, hu, e2.trans e1⟩
  exact Sp.of hp (fun k _ => by omega)
/-- one step forth -/
theorem FwM.next (h : FwM q fr kf c (n + 1) out at' st) (hs : (payS st (1 + (idsE q.E (sideP true at')).length)).isSome = true) (hx : edB q.E q.lab at' x) (hd : Dist (edB q.E q.lab) n x q.t) (hmin : ∀ y, edB q.E q.lab at' y → Dist (edB q.E q.lab) n y q.t → x ≤ y) :
    FwM q fr kf c n (out ++ [x]) x (payS st (1 + (idsE q.E (sideP true at')).length)) := by
  obtain ⟨h1, _, h3⟩ := h
  obtain ⟨vis, rfl, hf, he⟩ := h3 (payS_isSome hs)
  exact ⟨by simp at h1 ⊢; omega, fun h => by rw [h] at hs; (cases hs), fun _ => ⟨vis ++ [at'], rfl, hf.step hx hd hmin, (fw_pay he).symm⟩⟩
end
/-- the least of those next that are so far off, among some that rise -/
theorem first_least {L : List Int} (hi : IncI L) {j : Nat} {x : Int} (hx : L[j]? = some x) {p : Int → Prop} (hno : ∀ i, i < j → ∀ z, L[i]? = some z → ¬ p z) {y : Int} (hy : y ∈ L) (hp : p y) : x ≤ y := by
  obtain ⟨i, hil, hiy⟩ := List.getElem_of_mem hy
  have hiy' : L[i]? = some y := by rw [List.getElem?_eq_getElem hil, hiy]
  rcases Nat.lt_trichotomy i j with h | h | h
  · exact absurd hp (hno i h y hiy')
  · subst h
    rw [hx] at hiy'
    injection hiy' with e
    omega
  · have hjl := (List.getElem?_eq_some_iff.1 hx)
    obtain ⟨hjl, hjx⟩ := hjl
    have := List.pairwise_iff_getElem.1 hi j i hjl hil h
    rw [hjx, hiy] at this
    omega
/-- what Run answers -/
def RunM (V : List Vt) (E : List Eg) (lab : ByteArray) (fr t : Int) (most : Nat) (st0 : Option Nat) (code : Int) (l : List Int) : Prop :=
  (code = 101 ∧ l = [] ∧ ¬ (HasV V fr ∧ HasV V t)) ∨
  (code = 41 ∧ l = [] ∧ Sp st0 (2 + 2 * (V.length + E.length)) ∧ st0.isSome = true) ∨
  (code = 190 ∧ l = [] ∧ HasV V fr ∧ HasV V t ∧ ∀ k, k ≤ most → ¬ Dist (edB E lab) k fr t) ∨
  (code = 0 ∧ HasV V fr ∧ HasV V t ∧ ∃ k, k ≤ most ∧ Dist (edB E lab) k fr t ∧ Least (edB E lab) k fr t l)
end Go.Proofs.Ytaanohgkdpohhaa
namespace Go.Proofs.Ytaanohgkdpohhaa
open Go.RowKit Go.Maps

theorem find_hasV {V : List Vt} {n : Int} : (findB Vt.id V n).isSome = true ↔ HasV V n := by
  cases hf : findB Vt.id V n with
  | none =>
    refine ⟨(fun h => by cases h), fun ⟨u, hu, e⟩ => absurd e (findB_none.1 hf u hu)⟩
  | some u =>
    obtain ⟨h1, h2⟩ := findB_some hf
    exact ⟨fun _ => ⟨u, h1, h2⟩, fun _ => rfl⟩
theorem find_noV {V : List Vt} {n : Int} (h : (findB Vt.id V n).isSome = false) : ¬ HasV V n := fun hv => by
  rw [find_hasV.2 hv] at h
  cases h
/-- what Run has in memory on the way forth -/
structure FwC (w0 w w1 wr : World) (wb gb : Nat) (cs : Array Value) (st : Option Nat) (d : DM) (ov : Value) (out : List Int) : Prop where
  wk : WkS w0 wr wb gb st
  dm : DmC wr (w1.heap.size + 1) d
  chg : Chg w wr (fun i => i = wb)
  box : wr.heap[w.heap.size]? = some (.cells cs 107 (0, 0))
  lt : wb < w.heap.size
  le : w.heap.size < w1.heap.size
  oo : kI.Own wr (w1.heap.size + 2) ov out
section
variable {w0 w w1 wr w' : World} {wb gb : Nat} {cs : Array Value} {st st' : Option Nat} {d : DM} {ov v8 : Value} {out X : List Int}
theorem FwC.size (h : FwC w0 w w1 wr wb gb cs st d ov out) : w1.heap.size + 2 ≤ wr.heap.size := by
  have := h.dm.lt
  omega
theorem FwC.alloc (h : FwC w0 w w1 wr wb gb cs st d ov out) (X : Obj) : FwC w0 w w1 (wr.alloc X) wb gb cs st d ov out := by
  have hb := below_box wr X
  exact ⟨h.wk.below hb, h.dm.of_block (hb.block _ h.dm.lt), h.chg.andBelow (hb.mono h.chg.size), (hb.block _ (Array.getElem?_eq_some_iff.1 h.box).1).trans h.box, h.lt, h.le, h.oo.alloc X⟩
theorem FwC.call (h : FwC w0 w w1 wr wb gb cs st d ov out) (hs : WkS w0 w' wb gb st') (hc : Chg wr w' (fun i => i = wb)) : FwC w0 w w1 w' wb gb cs st' d ov out := by
  have hl := h.lt
  have hl2 := h.le
  exact ⟨hs, h.dm.of_block (hc.block _ h.dm.lt (by omega)), h.chg.trans hc (fun _ _ e => e), (hc.block _ (Array.getElem?_eq_some_iff.1 h.box).1 (by omega)).trans h.box, h.lt, h.le,
    h.oo.chg hc (fun j hj e => by have := (h.oo.lt j hj).1; omega)⟩
theorem FwC.app (h : FwC w0 w w1 wr wb gb cs st d ov out) (ho : kI.Own w' (w1.heap.size + 2) v8 X) (hg : wr.grownBy w' ov.ownBlock) : FwC w0 w w1 w' wb gb cs st d v8 X := by
  have hl := h.lt
  have hl2 := h.le
  have hr : ∀ j, ov.ownBlock = some j → w1.heap.size + 2 ≤ j := fun j hj => (h.oo.lt j hj).1
  have n1 : some wb ≠ ov.ownBlock := fun e => by have := hr wb e.symm; omega
  have n2 : some (w1.heap.size + 1) ≠ ov.ownBlock := fun e => by have := hr _ e.symm; omega
  have n3 : some w.heap.size ≠ ov.ownBlock := fun e => by have := hr _ e.symm; omega
  exact ⟨⟨h.wk.bel.grown hg h.wk.bel.size (fun j hj => by have := hr j hj; have := h.wk.new; omega), h.wk.new, (hg.block _ h.wk.lt n1).trans h.wk.blk, h.wk.small⟩,
    h.dm.of_block (hg.block _ h.dm.lt n2), h.chg.grown hg (fun m hm hml => by have := hr m hm; omega), (hg.block _ (Array.getElem?_eq_some_iff.1 h.box).1 n3).trans h.box, h.lt, h.le, ho⟩
theorem FwC.cells {fr t' : Int} {lab : ByteArray} {most : Nat} (h : FwC w0 w w1 wr wb gb (pAsk fr t' lab most) st d ov out) :
    wr.cell? ⟨w.heap.size, 0, none⟩ = some (.int .i64 fr) ∧ wr.cell? ⟨w.heap.size, 1, none⟩ = some (.int .i64 t') ∧ wr.cell? ⟨w.heap.size, 2, none⟩ = some (.string lab) ∧ wr.cell? ⟨w.heap.size, 3, none⟩ = some (.int .i64 (most : Int)) :=
  ⟨by rw [cell_of_blk h.box]; rfl, by rw [cell_of_blk h.box]; rfl, by rw [cell_of_blk h.box]; rfl, by rw [cell_of_blk h.box]; rfl⟩
end
section
variable {q : Bq} {fr at' x : Int} {kf c m left n : Nat} {out : List Int} {st : Option Nat} {d : DM}
/-- where the walk is not spent, one is found -/
theorem FwM.hit (h : FwM q fr kf c (n + 1) out at' st) (hw : Whole (edB q.E q.lab) q.t m d) (hk : kf ≤ m) (hs : st.isSome = true) : ∃ y ∈ nextL q.E true q.lab at', lookD d y = some n := by
  obtain ⟨h1, _, h3⟩ := h
  obtain ⟨vis, rfl, hf, he⟩ := h3 hs
  obtain ⟨_, y, hy, hd⟩ := hf.here
  refine ⟨y, (mem_next q.ok.se).2 (by simpa using hy), (hw.all y n).2 ⟨?_, hd⟩⟩
  simp at h1
  omega
/-- the first one that is found is the next one -/
theorem FwM.go (h : FwM q fr kf c (n + 1) out at' st) (hw : Whole (edB q.E q.lab) q.t m d) (hs : (payS st (1 + (idsE q.E (sideP true at')).length)).isSome = true) (hk : kf ≤ m) {j : Nat} (hx : (nextL q.E true q.lab at')[j]? = some x) (hl : lookD d x = some n)
    (hno : ∀ i, i < j → ∀ z, (nextL q.E true q.lab at')[i]? = some z → ¬ lookD d z = some n) : FwM q fr kf c n (out ++ [x]) x (payS st (1 + (idsE q.E (sideP true at')).length)) := by
  have h1 := h.1
  refine h.next hs ?_ ((hw.all x n).1 hl).2 (fun y hy hd => first_least (p := fun z => lookD d z = some n) (next_inc q.E true q.lab at') hx hno ((mem_next q.ok.se).2 (by simpa using hy)) ?_)
  · have := (mem_next q.ok.se).1 (List.mem_of_getElem? hx)
    simpa using this
  · refine (hw.all y n).2 ⟨?_, hd⟩
    obtain ⟨vis, e, _, _⟩ := h.2.2 (payS_isSome hs)
    rw [e] at h1
    simp at h1
    omega
end
/-- what Run leaves -/
def RunPost (w0 w : World) (wb gb : Nat) (V : List Vt) (E : List Eg) (lab : ByteArray) (fr t : Int) (most : Nat) (st0 : Option Nat) (e : Ending) (w' : World) : Prop :=
  ∃ v l code st, e = .returned (.tuple #[v, .int .i64 code]) ∧ kI.Own w' w.heap.size v l ∧ WkS w0 w' wb gb st ∧ Chg w w' (fun i => i = wb) ∧ RunM V E lab fr t most st0 code l
theorem pay2 (st : Option Nat) : payS (payS st 1) 1 = payS st 2 := payS_add st 1 1
theorem Sp.two {st : Option Nat} {c : Nat} (h : Sp (payS st 2) c) : Sp st (2 + c) := fun k hk => by
  subst hk
  by_cases h2 : 2 ≤ k
  · have := h (k - 2) (by simp [payS, h2])
    omega
  · omega
theorem Sp.mono {st : Option Nat} {c c' : Nat} (h : Sp st c) (hc : c ≤ c') : Sp st c' := fun k hk => Nat.lt_of_lt_of_le (h k hk) hc
end Go.Proofs.Ytaanohgkdpohhaa
