/- slices.SortFunc, slices.SortedFunc of writes by their keys. Conditions: each contract's own premises. -/
import Derived.Test.YtcghgnncmnoalaaRpA
import Derived.Test.YtcghgnncmnoalaaKq5
namespace Go.Proofs.Ytcghgnncmnoalaa
open Go.RowKit Go.Maps Go.Sort Go.Shelf

instance : Inhabited Wr := ⟨⟨⟨0, 0, 0, ByteArray.empty⟩, ByteArray.empty, false⟩⟩
def Wr.cmp (a b : Wr) : Int := a.k.cmp b.k
theorem drewN_alloc (w : World) (o : Obj) (q : Nat) : (w.alloc o).drewN q = (w.drewN q).alloc o := rfl
set_option maxRecDepth 100000 in
set_option maxHeartbeats 400000 in
/-- by keys, and what it leaves -/
theorem cmpW_g (a b : Wr) (w : World) :
    Calls Try.prog 118 #[a.agg, b.agg] w fun e w' => e = .returned (.int .i64 (a.cmp b)) ∧ ∃ q os, w' = grow (w.drewN q) os := by
  unfold Wr.agg Wr.cmp
  go_enter Try.func118, Try.ntmps118
  go_wp2_with fail
  refine (order_g a.k b.k _).mono ?_
  rintro e w' ⟨rfl, q, os, rfl⟩
  go_wp2_with fail
  go_ret
  refine ⟨rfl, q, ?_⟩
  rw [drewN_alloc, drewN_alloc]
  simp only [Sort.alloc_eq_grow, grow_grow]
  exact ⟨_, rfl⟩
theorem wr_cmp (size : Nat) (w : World) (g : Nat) : CmpLays Try.prog 118 #[] Wr.cells 6 Wr.cmp g 0 size w := fun _ _ _ _ x y => cmpW_g x y _
theorem wr_swo : SWO (ltOf Wr.cmp) where
  irrefl := fun x => ky_swo.irrefl x.k
  trans := fun x y z h1 h2 => ky_swo.trans x.k y.k z.k h1 h2
  ntrans := fun x y z h1 h2 => ky_swo.ntrans x.k y.k z.k h1 h2
theorem permIn_perm {α : Type} [Inhabited α] {d d' : Array α} (h : PermIn 0 d.size d d') : d'.toList.Perm d.toList := by
  obtain ⟨h1, _, h3⟩ := h
  have e1 : d.extract 0 d.size = d := by simp
  have e2 : d'.extract 0 d.size = d' := by rw [← h1]; simp
  rw [e1, e2] at h3
  exact h3
/-- writes by their keys, each key but once -/
theorem wr_sorted {d : Array Wr} {ws : List Wr} (hn : (ws.map Wr.k).Nodup) (hp : d.toList.Perm ws) (hs : SortedIn (ltOf Wr.cmp) 0 ws.length d) : KySorted (d.toList.map Wr.k) := by
  have hl : d.toList.length = ws.length := hp.length_eq
  have hnd : (d.toList.map Wr.k).Nodup := ((hp.map Wr.k).nodup_iff).2 hn
  show (d.toList.map Wr.k).Pairwise _
  rw [List.pairwise_iff_getElem]
  intro i j hi hj hij
  simp only [List.length_map] at hi hj
  have h1 := hs i j (Nat.zero_le _) hij (by omega)
  have hjs : j < d.size := by simpa using hj
  have his : i < d.size := by simpa using hi
  rw [getElem!_pos d j hjs, getElem!_pos d i his] at h1
  unfold ltOf Wr.cmp at h1
  simp only [decide_eq_false_iff_not] at h1
  simp only [List.getElem_map, Array.getElem_toList]
  have hne : d[i].k.cmp d[j].k ≠ 0 := fun e => by
    have e := (Ky.cmp_zero _ _).1 e
    have h2 := (List.pairwise_iff_getElem.1 hnd) i j (by simpa using hi) (by simpa using hj) hij
    simp only [List.getElem_map, Array.getElem_toList] at h2
    exact h2 e
  have := Ky.cmp_neg d[i].k d[j].k
  omega
theorem sortW_any {w : World} {B n cap g : Nat} {ws : List Wr} (h : kW.Own w B (.slice (some ⟨g, 0, none⟩) n cap) ws) (hn : (ws.map Wr.k).Nodup) (hl : ws.length ≤ 1000000) :
    Calls Try.prog 145 #[.slice (some ⟨g, 0, none⟩) n cap, .func (.func 118) #[] #[]] w fun e w' => e = .returned (.tuple #[]) ∧ ∃ ws', ws'.Perm ws ∧ KySorted (ws'.map Wr.k) ∧ kW.Own w' B (.slice (some ⟨g, 0, none⟩) n cap) ws' ∧ Below B w w' := by
  obtain ⟨hH, hg, hB, rfl⟩ := own_holds kW h
  have hsz : ws.length < 4611686018427387904 := by omega
  exact (AnyQ.slices_SortFunc laySW 6 Try.isAgg80 Try.sizeOf80 Wr.cells (fun _ => rfl) kW.one Wr.cmp wr_swo 118 #[] g 0 cap ws.toArray w (enters_of Try.func118 (by kernel_rfl) rfl) (wr_cmp _ _ _) hH hg (by simpa using hsz)).mono (fun e w' ⟨he, d', m, os, hp, hs, hw⟩ => by
    have hp2 : d'.toList.Perm ws := permIn_perm hp
    obtain ⟨o1, o2⟩ := own_sorted kW (m := m) (os := os) h hp2.length_eq
    rw [Array.toArray_toList] at o1 o2
    refine ⟨he, d'.toList, hp2, wr_sorted hn hp2 (by simpa using hs), ?_, ?_⟩
    · rw [hw]; exact o1
    · rw [hw]; exact o2)
/-- whatever was collected -/
theorem sortW_own {w : World} {B : Nat} {v : Value} {ws : List Wr} (h : kW.Own w B v ws) (hn : (ws.map Wr.k).Nodup) (hl : ws.length ≤ 1000000) :
    Calls Try.prog 145 #[v, .func (.func 118) #[] #[]] w fun e w' => e = .returned (.tuple #[]) ∧ ∃ ws', ws'.Perm ws ∧ KySorted (ws'.map Wr.k) ∧ kW.Own w' B v ws' ∧ Below B w w' := by
  rcases h.2 with ⟨rfl, h0⟩ | ⟨g, cap, cur, rfl, _⟩
  · have : ws = [] := List.eq_nil_of_length_eq_zero h0
    subst this
    refine (AnyF.slices_SortFunc_none laySW none 0 _ w).mono ?_
    rintro e w' ⟨he, rfl⟩
    exact ⟨he, [], List.Perm.refl _, List.Pairwise.nil, h, Below.refl _ _⟩
  · exact sortW_any h hn hl
/-- what slices.SortedFunc(maps.Values(m), by keys) leaves -/
def SortedWPost (f : Lit → Option Value) (nn : Nat) (w : World) (e : Ending) (w' : World) : Prop := ∃ v ws, e = .returned v ∧ KySorted (ws.map Wr.k) ∧ WsOf f nn ws ∧ kW.Own w' w.heap.size v ws ∧ Below w.heap.size w w'
theorem WsOf.perm {f : Lit → Option Value} {n : Nat} {ws ws' : List Wr} (h : WsOf f n ws) (hp : ws'.Perm ws) : WsOf f n ws' := by
  obtain ⟨⟨h1, h2, h3, h4⟩, h5⟩ := h
  have hm := hp.map Wr.k
  exact ⟨⟨hm.nodup_iff.2 h1, fun k hk => h2 k (hm.mem_iff.1 hk), by rw [hm.length_eq]; exact h3, fun k hk => by rw [hm.mem_iff]; exact h4 k hk⟩, fun y hy => h5 y (hp.mem_iff.1 hy)⟩
set_option maxRecDepth 100000 in
theorem sortedW_any (Bm b nn : Nat) (f : Lit → Option Value) (hfw : ∀ (k : Ky) c, k.Ok → f k.lit = some c → ∃ y : Wr, y.k = k ∧ c = y.agg) (hN : nn ≤ 1000000) (w : World) (hBm : Bm < w.heap.size) (hm : w.cell? ⟨Bm, 0, none⟩ = some (.map (some b))) (hmap : mapR w Try.prog 62 b nn f) :
    Calls Try.prog 116 #[.func (.func 146) #[] #[.pointer (some ⟨Bm, 0, none⟩)], .func (.func 118) #[] #[]] w (SortedWPost f nn w) := by
  have hc := colW_any Bm b nn f hfw hN w hBm hm hmap
  clear hm hmap
  go_enter Try.func116, Try.ntmps116
  go_wp2_with fail
  refine hc.mono ?_
  rintro e w1 ⟨v, ks, rfl, k1, o1, b1⟩
  obtain ⟨a, cap, rfl⟩ := o1.shape
  have HS := Lib.hid (sortW_own o1 k1.1.1 (Nat.le_trans (by have := k1.1.2.2.1; rw [List.length_map] at this; exact this) hN))
  have HK := Lib.hid k1
  have HB := Lib.hid b1
  obtain ⟨n, hn⟩ : ∃ n, n = ks.length := ⟨_, rfl⟩
  rw [← hn] at HS ⊢
  clear k1 o1 b1 hc hn
  go_wp2_with fail
  refine HS.out.mono ?_
  rintro e w2 ⟨rfl, ws, hp, hs, o2, b2⟩
  have HO := Lib.hid (And.intro hp (And.intro hs (And.intro o2 b2)))
  clear hp hs o2 b2 HS
  go_wp2_with fail
  go_ret
  exact ⟨_, ws, rfl, HO.out.2.1, HK.out.perm HO.out.1, HO.out.2.2.1, HB.out.trans HO.out.2.2.2⟩
end Go.Proofs.Ytcghgnncmnoalaa
