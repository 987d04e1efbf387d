/- redo.Replay. Conditions: each contract's own premises. -/
import Derived.Test.YtcghgnncmnoalaaRp4
import Derived.Test.YtcghgnncmnoalaaSrt7
import Derived.Test.YtcghgnncmnoalaaRowL
namespace Go.Proofs.Ytcghgnncmnoalaa
open Go.RowKit Go.Maps

theorem MpX.dropped {β : Type} {w' : World} {b n' : Nat} {enc : β → Value} {g : Ky → Option β} {k : Ky} {F : Lit → Option Value} (hF : ∀ k : Ky, k.Ok → F k.lit = (g k).map enc) (hk : k.Ok) (h : mapR w' Try.prog 62 b n' (upd F k.lit none)) : MpX w' b n' enc (updK g k none) := by
  refine ⟨_, h, fun y hy => ?_⟩
  unfold upd updK
  by_cases e : y = k
  · subst e; simp
  · rw [if_neg e, if_neg (fun h => e (lit_inj hy hk h))]
    exact hF y hy
theorem agg_inj {a b : Wr} (h : a.agg = b.agg) : a = b := by
  obtain ⟨⟨a1, a2, a3, a4⟩, a5, a6⟩ := a
  obtain ⟨⟨b1, b2, b3, b4⟩, b5, b6⟩ := b
  unfold Wr.agg at h
  simp at h
  obtain ⟨rfl, rfl, rfl, rfl, rfl, rfl⟩ := h
  rfl
/-- records are not touched by a turn of a map -/
theorem wsV_map {w w' : World} {m : Nat} {a : Option Addr} {ws : List Wr} (h : WsV w a ws) (hm : ∃ es ck, w.heap[m]? = some (Obj.map es ck)) (hc : Chg w w' (fun j => j = m)) : WsV w' a ws := fun hn => by
  obtain ⟨b, off, e, hat⟩ := h hn
  refine ⟨b, off, e, hat.of_block (hc.block b hat.lt (fun hb => ?_))⟩
  obtain ⟨x, hx⟩ : ∃ x, ws[0]? = some x := by
    cases ws with
    | nil => exact absurd rfl hn
    | cons y l => exact ⟨y, rfl⟩
  have h0 := (hat.six hx).1
  obtain ⟨es, ck, hm⟩ := hm
  rw [hb] at h0
  simp [World.cell?, hm] at h0
theorem rsV_map {w w' : World} {m : Nat} {a : Option Addr} {l : List Rv} (h : RsV w a l) (hm : ∃ es ck, w.heap[m]? = some (Obj.map es ck)) (hc : Chg w w' (fun j => j = m)) : RsV w' a l := fun hn => by
  obtain ⟨b, off, e, hat⟩ := h hn
  have hb : b ≠ m := fun hb => by
    obtain ⟨x, hx⟩ : ∃ x, l[0]? = some x := by
      cases l with
      | nil => exact absurd rfl hn
      | cons y l => exact ⟨y, rfl⟩
    have h0 := (hat.cells 0 x hx).2.1
    obtain ⟨es, ck, hm⟩ := hm
    rw [hb] at h0
    simp [World.cell?, hm] at h0
  have hbk := hc.block b hat.lt hb
  refine ⟨b, off, e, ⟨fun i x hx => ?_, (Array.getElem?_eq_some_iff.1 (hbk.trans (Array.getElem?_eq_getElem hat.lt))).1⟩⟩
  obtain ⟨hok, h1, h2⟩ := hat.cells i x hx
  exact ⟨⟨hok.stamp, wsV_map hok.ws hm hc, hok.len⟩, (World.cell?_of_block (a := ⟨b, off + i * 2, none⟩) hbk).trans h1, (World.cell?_of_block (a := ⟨b, off + i * 2 + 1, none⟩) hbk).trans h2⟩
/-- all writes of records -/
def wsAll (l : List Rv) : List Wr := l.flatMap Rv.ws
noncomputable def gAll (W : List Wr) : Ky → Option Wr := W.foldl wstep (fun _ => none)
theorem gAll_snoc (W : List Wr) (x : Wr) : gAll (W ++ [x]) = wstep (gAll W) x := by unfold gAll; rw [List.foldl_append]; rfl
theorem updK_updK {g : Ky → Option Wr} {k : Ky} {a c : Option Wr} : updK (updK g k a) k c = updK g k c := by
  funext j
  unfold updK
  by_cases e : j = k
  · rw [if_pos e, if_pos e]
  · rw [if_neg e, if_neg e, if_neg e]
theorem gAll_ok (W : List Wr) (hW : ∀ x ∈ W, x.k.Ok) (k : Ky) (y : Wr) (h : gAll W k = some y) : k.Ok := by
  have : ∀ (W : List Wr) (g : Ky → Option Wr), (∀ x ∈ W, x.k.Ok) → (∀ k y, g k = some y → k.Ok) → ∀ k y, W.foldl wstep g k = some y → k.Ok := by
    intro W
    induction W with
    | nil => intro g _ hg k y h; exact hg k y h
    | cons w W ih =>
      intro g hw hg k y h
      refine ih (wstep g w) (fun x hx => hw x (by simp [hx])) (fun j z hj => ?_) k y h
      unfold wstep updK at hj
      by_cases e : j = w.k
      · rw [e]; exact hw w (by simp)
      · rw [if_neg e] at hj; exact hg j z hj
  exact this W _ hW (fun _ _ h => by cases h) k y h
/-- the map as it is filled -/
structure FillI (w2 wr : World) (b : Nat) (W : List Wr) : Prop where
  ex : ∃ n, MpX wr b n Wr.agg (gAll W) ∧ n ≤ W.length
  c : Chg w2 wr (fun j => j = b)
theorem FillI.below {w2 wr u : World} {b : Nat} {W : List Wr} (h : FillI w2 wr b W) (hb : Below wr.heap.size wr u) : FillI w2 u b W := by
  obtain ⟨n, h1, h2⟩ := h.ex
  exact ⟨⟨n, h1.of_block (hb.block _ h1.lt), h2⟩, h.c.trans (Chg.of_below hb _) (fun _ _ h => h)⟩
theorem wsAll_take {l : List Rv} {i : Nat} {x : Rv} (hx : l[i]? = some x) : wsAll (l.take (i + 1)) = wsAll (l.take i) ++ x.ws := by
  obtain ⟨hk', e⟩ := List.getElem?_eq_some_iff.1 hx
  rw [List.take_succ_eq_append_getElem hk', e]
  simp [wsAll]
theorem wsAll_pre {l : List Rv} {i : Nat} {x : Rv} (hx : l[i]? = some x) (k : Nat) : (wsAll (l.take i) ++ x.ws.take k).length ≤ (wsAll l).length := by
  have h1 : wsAll l = wsAll (l.take i) ++ wsAll (l.drop i) := by rw [← List.take_append_drop i l, List.take_append_drop]; simp only [wsAll, ← List.flatMap_append, List.take_append_drop]
  obtain ⟨hk', e⟩ := List.getElem?_eq_some_iff.1 hx
  have h2 : l.drop i = x :: l.drop (i + 1) := by rw [List.drop_eq_getElem_cons hk', e]
  have h3 : wsAll (l.drop i) = x.ws ++ wsAll (l.drop (i + 1)) := by rw [h2]; rfl
  rw [h1, h3]
  simp only [List.length_append, List.length_take]
  omega
def ReplayPost (w : World) (W : List Wr) (e : Ending) (w' : World) : Prop := ∃ v ws, e = .returned v ∧ Rep ws (gAll W) ∧ (∀ x ∈ ws, x.k.Ok) ∧ kW.Own w' w.heap.size v ws ∧ Below w.heap.size w w'
set_option maxRecDepth 100000 in
set_option maxHeartbeats 8000000 in
theorem replay_any (a : Option Addr) (cap : Nat) (zs : List Rv) (w : World) (hz : RsV w a zs) (hl : zs.length ≤ 1000) (hW : (wsAll (Srt.sortK Rv.stamp zs)).length ≤ 1000000) :
    Calls Try.prog 71 #[.slice a zs.length cap] w (ReplayPost w (wsAll (Srt.sortK Rv.stamp zs))) := by
  have hmm := @run_makeMap Try.prog
  obtain ⟨V, hV⟩ : ∃ V, w.alloc (.map #[] 0) = V := ⟨_, rfl⟩
  obtain ⟨b, hb⟩ : ∃ x, x = w.heap.size := ⟨_, rfl⟩
  have bV : Below w.heap.size w V := by rw [← hV]; exact below_box _ _
  have HM0 : Hid (MpX V b 0 Wr.agg (fun _ => none)) := Lib.hid (by rw [← hV, hb]; exact MpX.made w Wr.agg)
  have HS := Lib.hid (dsorted_any a cap zs (by omega) V (hz.below bV))
  have HBV := Lib.hid bV
  have HV := Lib.hid (And.intro hV hb)
  obtain ⟨L, hL⟩ : ∃ L, L = Srt.sortK Rv.stamp zs := ⟨_, rfl⟩
  rw [← hL] at HS hW ⊢
  have HW := Lib.hid hW
  have HLL : Hid (L.length ≤ 1000000) := Lib.hid (by rw [hL, sortK_len]; omega)
  have HWOK : Hid (∀ x ∈ wsAll L, x.k.Ok) := Lib.hid (fun x hx => by
    obtain ⟨r, hr, hxr⟩ := List.mem_flatMap.1 hx
    rw [hL] at hr
    have hr2 := sortK_mem hr
    obtain ⟨i, hi⟩ := List.getElem?_of_mem hr2
    obtain ⟨_, _, _, hat⟩ := hz (fun e => by rw [e] at hr2; simp at hr2)
    have hok := (hat.cells i r hi).1.ws
    obtain ⟨j, hj⟩ := List.getElem?_of_mem hxr
    obtain ⟨_, _, _, hat2⟩ := hok (fun e => by rw [e] at hxr; simp at hxr)
    exact (hat2.cells j x hj).1.k)
  clear hz hW bV hV hb hl
  go_enter Try.func71, Try.ntmps71
  go_wp2_with fail
  rw [HV.out.1, ← HV.out.2]
  refine HS.out.mono ?_
  rintro e w2 ⟨v2, rfl, n2, k2, b2⟩
  obtain ⟨sa, sc, hsv, hsr⟩ := n2.shape
  subst hsv
  have HR := Lib.hid (hsr k2)
  have HB2 := Lib.hid (below_then HBV.out b2)
  have HI0 : Hid (FillI w2 w2 b (wsAll (L.take 0))) := Lib.hid ⟨⟨0, HM0.out.of_block (b2.block _ HM0.out.lt), Nat.zero_le _⟩, Chg.refl _ _⟩
  have HMP : Hid (∃ es ck, w2.heap[b]? = some (Obj.map es ck)) := Lib.hid (by obtain ⟨n, h1, _⟩ := HI0.out.ex; exact h1.map)
  have HBB : Hid (w.heap.size ≤ b ∧ b < w2.heap.size) := Lib.hid ⟨by rw [HV.out.2]; exact Nat.le_refl _, by obtain ⟨n, h1, _⟩ := HI0.out.ex; exact h1.lt⟩
  obtain ⟨n, hn⟩ : ∃ n, n = L.length := ⟨_, rfl⟩
  rw [← hn]
  have HN := Lib.hid hn
  have hn6 : n ≤ 1000000 := by rw [hn]; exact HLL.out
  clear n2 k2 b2 hsr hn hL hmm
  go_wp2_with fail
  go_loopw [12] (fun vi wr => ∃ i : Nat, i ≤ n ∧ vi = .int .i64 i ∧ Hid (FillI w2 wr b (wsAll (L.take i)))) (fun vi _ => n - (intOf vi).toNat)
  case atStart => exact ⟨0, Nat.zero_le _, rfl, HI0⟩
  case round =>
    obtain ⟨i, hi, rfl, HI⟩ := hrel
    by_cases hlt : i < n
    · have hltz : (i : Int) < (n : Int) := by omega
      obtain ⟨x, hx⟩ : ∃ x, L[i]? = some x := ⟨_, List.getElem?_eq_getElem (by have := HN.out; omega)⟩
      obtain ⟨g, off, hsa, hat⟩ := (rsV_map HR.out HMP.out HI.out.c) (fun e => by rw [e] at hx; simp at hx)
      subst hsa
      obtain ⟨_, c0, c1⟩ := hat.cells i x hx
      obtain ⟨_, off0, hsa0, hat0⟩ := HR.out (fun e => by rw [e] at hx; simp at hx)
      have HXO := Lib.hid (hat0.cells i x hx).1
      have HX := Lib.hid hx
      have HPRE := Lib.hid (wsAll_pre hx)
      obtain ⟨st, xa, xc, xs⟩ := x
      simp only [] at c0 c1
      obtain ⟨m, hm⟩ : ∃ m, m = xs.length := ⟨_, rfl⟩
      rw [← hm] at c1
      have HM := Lib.hid hm
      have hm6 : m ≤ 1000000 := by rw [hm]; have := HPRE.out m; simp only [List.length_append, List.length_take] at this; have := HW.out; omega
      obtain ⟨Y, hY⟩ : ∃ Y, wr.alloc (.cells #[.int .u64 st, .slice xa m xc] 35) = Y := ⟨_, rfl⟩
      have bY : Below wr.heap.size wr Y := by rw [← hY]; exact below_box _ _
      have HK0 : Hid (FillI w2 Y b (wsAll (L.take i) ++ xs.take 0)) := Lib.hid (by rw [List.take_zero, List.append_nil]; exact HI.out.below bY)
      have HY := Lib.hid hY
      clear hx hat hat0 hsa0 hm bY hY
      go_wp2_with fail
      rw [HY.out]
      clear c0 c1
      go_loopw [19] (fun vk wq => ∃ k : Nat, k ≤ m ∧ vk = .int .i64 k ∧ Hid (FillI w2 wq b (wsAll (L.take i) ++ xs.take k))) (fun vk _ => m - (intOf vk).toNat)
      case atStart => exact ⟨0, Nat.zero_le _, rfl, HK0⟩
      case round =>
        obtain ⟨k, hk, rfl, HK⟩ := hrel
        by_cases hlk : k < m
        · as_aux_lemma =>
            have hkz : (k : Int) < (m : Int) := by omega
            obtain ⟨y, hy⟩ : ∃ y, xs[k]? = some y := ⟨_, List.getElem?_eq_getElem (by have := HM.out; omega)⟩
            obtain ⟨gb, go, hxa, hyt⟩ := (wsV_map HXO.out.ws HMP.out HK.out.c) (fun e => by rw [show xs = [] from e] at hy; simp at hy)
            have hxa' : xa = some ⟨gb, go, none⟩ := hxa
            subst hxa'
            obtain ⟨d0, d1, d2, d3, d4, d5⟩ := hyt.six hy
            have HYK := Lib.hid (hyt.cells k y hy).1.k
            have HTK : Hid (xs.take (k + 1) = xs.take k ++ [y]) := Lib.hid (by
              obtain ⟨hk', e⟩ := List.getElem?_eq_some_iff.1 hy
              rw [List.take_succ_eq_append_getElem hk', e])
            have HLEN : Hid ((wsAll (L.take i) ++ xs.take k).length ≤ 1000000) := Lib.hid (Nat.le_trans (HPRE.out k) HW.out)
            obtain ⟨⟨yk, ya, yb, ys⟩, yv, yh⟩ := y
            obtain ⟨Z, hZ⟩ : ∃ Z, wr.alloc (.cells #[.int .i64 yk, .int .i64 ya, .int .i64 yb, .string ys, .string yv, .bool yh] 80) = Z := ⟨_, rfl⟩
            obtain ⟨zb, hzb⟩ : ∃ z, z = wr.heap.size := ⟨_, rfl⟩
            have bZ : Below wr.heap.size wr Z := by rw [← hZ]; exact below_box _ _
            have eZ : Z.heap[zb]? = some (.cells #[.int .i64 yk, .int .i64 ya, .int .i64 yb, .string ys, .string yv, .bool yh] 80) := by rw [← hZ, hzb]; exact heap_new _ _
            have HKZ := Lib.hid (HK.out.below bZ)
            have HEZ := Lib.hid eZ
            have HZ := Lib.hid (And.intro hZ hzb)
            clear hy hyt hxa bZ eZ hZ hzb
            simp only [] at d0 d1 d2 d3 d4 d5
            go_upto_region 8 with fail
            rw [HZ.out.1, ← HZ.out.2]
            clear d0 d1 d2 d3 d4 d5
            have z0 := cell_of_blk HEZ.out 0
            have z1 := cell_of_blk HEZ.out 1
            have z2 := cell_of_blk HEZ.out 2
            have z3 := cell_of_blk HEZ.out 3
            have z4 := cell_of_blk HEZ.out 4
            have z5 := cell_of_blk HEZ.out 5
            simp at z0 z1 z2 z3 z4 z5
            obtain ⟨nn, hMX, hnn⟩ := HKZ.out.ex
            obtain ⟨es, ck, hmm⟩ := hMX.map
            have hzne : zb ≠ b := fun e => by
              have h9 := HEZ.out
              rw [e, hmm] at h9
              cases h9
            have HZN := Lib.hid hzne
            obtain ⟨F, hm2, hF⟩ := hMX
            have HF := Lib.hid hF
            have hnl : nn < maxLen := by have := HLEN.out; unfold maxLen; omega
            have HNN := Lib.hid hnn
            clear hmm hzne hF hnn
            go_upto_region 9 with (at_mapUpdate; refine wpList_store _ rfl _ _ _ 182 rfl 62 80 lawKey Try.underlying182 b nn F rfl hm2 hnl _ (.agg #[.int .i64 yk, .int .i64 ya, .int .i64 yb, .string ys, .string yv, .bool yh]) _ rfl rfl (keyK HYK.out) ?_; intro w3 m3 t3 c3 f3 z9)
            have hx3 : MpX w3 b (if (F (⟨yk, ya, yb, ys⟩ : Ky).lit).isSome = true then nn else nn + 1) Wr.agg (updK (gAll (wsAll (L.take i) ++ xs.take k)) ⟨yk, ya, yb, ys⟩ (some ⟨⟨yk, ya, yb, ys⟩, yv, yh⟩)) := MpX.stored (enc := Wr.agg) HF.out HYK.out m3
            have HX3 := Lib.hid hx3
            have HE3 : Hid (w3.heap[zb]? = some (.cells #[.int .i64 yk, .int .i64 ya, .int .i64 yb, .string ys, .string yv, .bool yh] 80)) := Lib.hid ((turned_block t3 HZN.out).trans HEZ.out)
            have HC3 : Hid (Chg w2 w3 (fun j => j = b)) := Lib.hid (HKZ.out.c.turned t3 (fun _ => rfl))
            have HN3 := Lib.hid (len_if nn (F (⟨yk, ya, yb, ys⟩ : Ky).lit).isSome)
            obtain ⟨n3, hn3⟩ : ∃ n3, n3 = (if (F (⟨yk, ya, yb, ys⟩ : Ky).lit).isSome = true then nn else nn + 1) := ⟨_, rfl⟩
            rw [← hn3] at HX3 HN3
            clear m3 t3 c3 f3 z9 hx3 hn3 hm2 hnl z0 z1 z2 z3 z4 z5
            have z0 := cell_of_blk HE3.out 0
            have z1 := cell_of_blk HE3.out 1
            have z2 := cell_of_blk HE3.out 2
            have z3 := cell_of_blk HE3.out 3
            have z5 := cell_of_blk HE3.out 5
            simp at z0 z1 z2 z3 z5
            cases yh
            · as_aux_lemma =>
                obtain ⟨F2, hm4, hF2⟩ := HX3.out
                have HF2 := Lib.hid hF2
                clear hF2
                go_wp2_with (at_delete; refine wpList_drop _ rfl _ _ 182 62 rfl 80 lawKey Try.underlying182 b n3 F2 rfl hm4 _ _ rfl (keyK HYK.out) ?_; intro w4 n' hn' m4 t4 d4 f4 z9)
                have HFI : Hid (FillI w2 w4 b (wsAll (L.take i) ++ xs.take (k + 1))) := Lib.hid ⟨⟨n', by
                  rw [HTK.out, ← List.append_assoc, gAll_snoc]
                  have := MpX.dropped (enc := Wr.agg) HF2.out HYK.out m4
                  rw [updK_updK] at this
                  exact this, by rw [HTK.out, ← List.append_assoc, List.length_append]; have := HNN.out; have := HN3.out; simp only [List.length_cons, List.length_nil]; omega⟩, HC3.out.turned t4 (fun _ => rfl)⟩
                clear hn' m4 t4 d4 f4 z9
                exact ⟨⟨k + 1, by omega, by go_num, HFI⟩, by simp [intOf]; omega⟩
            · as_aux_lemma =>
                have HFI : Hid (FillI w2 w3 b (wsAll (L.take i) ++ xs.take (k + 1))) := Lib.hid ⟨⟨n3, by
                  rw [HTK.out, ← List.append_assoc, gAll_snoc]
                  exact HX3.out, by rw [HTK.out, ← List.append_assoc, List.length_append]; have := HNN.out; have := HN3.out; simp only [List.length_cons, List.length_nil]; omega⟩, HC3.out⟩
                go_wp2_with fail
                exact ⟨⟨k + 1, by omega, by go_num, HFI⟩, by simp [intOf]; omega⟩
        · obtain rfl : k = m := by omega
          have HNX : Hid (FillI w2 wr b (wsAll (L.take (i + 1)))) := Lib.hid (by
            have := HK.out
            rw [HM.out, List.take_length] at this
            rw [wsAll_take HX.out]
            exact this)
          go_wp2_with fail
          exact ⟨⟨i + 1, by omega, by go_num, HNX⟩, by simp [intOf]; omega⟩
    · as_aux_lemma =>
        obtain rfl : i = n := by omega
        have HIE : Hid (FillI w2 wr b (wsAll L)) := Lib.hid (by have := HI.out; rw [HN.out, List.take_length] at this; exact this)
        obtain ⟨nn, hMX, hnn⟩ := HIE.out.ex
        obtain ⟨F, hmr, hF⟩ := hMX
        have HREP : Hid (Rep ((wsAll L).foldl wput []) (gAll (wsAll L))) := Lib.hid (Rep.steps _ Rep.start)
        have hfw : ∀ (k : Ky) c, k.Ok → F k.lit = some c → ∃ y : Wr, y.k = k ∧ c = y.agg := fun k c hk hc => by
          rw [hF k hk] at hc
          cases hg : gAll (wsAll L) k with
          | none => rw [hg] at hc; cases hc
          | some y =>
            rw [hg] at hc
            injection hc with hc
            exact ⟨y, (HREP.out.b k y hg).2, hc.symm⟩
        have HF := Lib.hid hF
        have HMR := Lib.hid hmr
        have HFW := Lib.hid hfw
        have HNN : Hid (nn ≤ 1000000) := Lib.hid (by have := HW.out; omega)
        clear hmr hF hfw hnn HI
        go_wp2_with fail
        refine (valsW_any (some b) wr).mono ?_
        rintro e w5 ⟨rfl, hw5⟩
        have b5 : Below wr.heap.size wr w5 := by rw [hw5]; exact below_box _ _
        have HB5 := Lib.hid b5
        have HS5 := Lib.hid (sortedW_any wr.heap.size b nn F HFW.out HNN.out w5 (by rw [hw5, size_alloc]; omega) (by rw [hw5]; exact cell_of_blk (heap_new wr _) 0) (HMR.out.of_block (b5.block _ HMR.out.lt)))
        clear hw5 b5
        go_wp2_with fail
        refine HS5.out.mono ?_
        rintro e w6 ⟨v6, ws, rfl, s6, k6, o6, b6⟩
        have HO := Lib.hid (And.intro s6 (And.intro k6 (And.intro o6 b6)))
        clear s6 k6 o6 b6 HS5
        go_wp2_with fail
        go_ret
        have hbw : Below w.heap.size w wr := HB2.out.trans (HIE.out.c.below HB2.out.size (fun j hj => by rw [hj]; exact HBB.out.1))
        obtain ⟨s6, k6, o6, b6⟩ := HO.out
        refine ⟨v6, ws, rfl, ⟨s6, fun y hy => ?_, fun k y hk => ?_⟩, fun y hy => k6.1.2.1 y.k (List.mem_map_of_mem hy), o6.mono (Nat.le_trans hbw.size HB5.out.size), hbw.trans ((below_then HB5.out b6).mono hbw.size)⟩
        · have h1 := k6.2 y hy
          rw [HF.out y.k (k6.1.2.1 y.k (List.mem_map_of_mem hy))] at h1
          cases hg : gAll (wsAll L) y.k with
          | none => rw [hg] at h1; cases h1
          | some z =>
            rw [hg] at h1
            injection h1 with h1
            rw [agg_inj h1]
        · have hky := (HREP.out.b k y hk).2
          have hkok : k.Ok := by
            have := gAll_ok (wsAll L) HWOK.out k y hk
            exact this
          have hm : k ∈ ws.map Wr.k := (k6.1.2.2.2 k hkok).2 (by rw [HF.out k hkok, hk]; rfl)
          obtain ⟨z, hz, hzk⟩ := List.mem_map.1 hm
          have h1 := k6.2 z hz
          rw [hzk, HF.out k hkok, hk] at h1
          injection h1 with h1
          rw [agg_inj h1]
          exact ⟨hz, hzk⟩
end Go.Proofs.Ytcghgnncmnoalaa
