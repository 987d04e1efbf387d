/- The graph's look-ups behind an interface. Conditions: none. A walk: Find. Conditions: each contract's own premises. -/
import Derived.Test.YtonilojjahfboaaGreatGr8
import Derived.Test.YtonilojjahfboaaGreatWkA
import Derived.Test.YtonilojjahfboaaGreatGr7
import Derived.Test.YtonilojjahfboaaGreatGlA
import Derived.Deep.Cut
import Derived.Deep.CutRange
import Derived.Deep.RegionHeld3
namespace Go.Proofs.YtonilojjahfboaaGreat
open Go.RowKit Go.Maps

theorem mLabeled (p : Value) (w : World) : (method 619 24 p "Labeled").run Tryz.prog w = .ok (62, p) w := by kernel_rfl
theorem mValued (p : Value) (w : World) : (method 619 24 p "Valued").run Tryz.prog w = .ok (58, p) w := by kernel_rfl
end Go.Proofs.YtonilojjahfboaaGreat
namespace Go.Proofs.YtonilojjahfboaaGreat
open Go.RowKit Go.Maps Go.Sort Go.Shelf

theorem sortV_any {w : World} {B b cap : Nat} {l : List Int} {cur : Array Value} (hB : B ≤ b) (hg : w.heap[b]? = some (.cells cur 3 (0, 0))) (hc : ∀ (i : Nat) (x : Int), l[i]? = some x → cur[i]? = some (Value.int .i64 x)) (hl : l.length ≤ 1000000) :
    Calls Tryz.prog 118 #[.slice (some ⟨b, 0, none⟩) l.length cap] w fun e w' => e = .returned (.tuple #[]) ∧ FreshI B w' (some ⟨b, 0, none⟩) (sortI l) ∧ Below B w w' := by
  have hlen : (sortI l).length = l.length := (sortI_perm l).length_eq
  have hlt := (Array.getElem?_eq_some_iff.1 hg).1
  have hH : Holds (Value.int .i64) w b 0 l.toArray := fun j hj => by
    simp only [List.size_toArray] at hj
    refine ⟨?_, frozen_of_blk hg _⟩
    have h1 : cur[j]? = (l.map (Value.int .i64))[j]? := by
      rw [List.getElem?_map, List.getElem?_eq_getElem hj]
      exact hc j _ (List.getElem?_eq_getElem hj)
    rw [cell_of_blk hg, Nat.zero_add, h1]
    simp [hj]
  refine (Any.slices_Sort_int laySI b 0 cap l w hH hlt (by omega)).mono ?_
  rintro e w' ⟨he, q, os, hw⟩
  have hheap : ∀ i, i < w.heap.size → (grow (putRow (Value.int .i64) (Sort.ahead w q) b 0 (sortI l).toArray) os).heap[i]? = if i = b then some (.cells (putCells (Value.int .i64) 0 (sortI l).toArray cur) 3 (0, 0)) else w.heap[i]? := fun i hi => by
    unfold grow putRow mapBlock Sort.ahead
    simp only
    rw [Array.getElem?_append_left (by simpa using hi), Array.getElem?_modify]
    by_cases e : i = b
    · subst e
      rw [if_pos rfl, if_pos rfl, hg]
      rfl
    · rw [if_neg (fun e2 => e e2.symm), if_neg e]
  have hsz : w.heap.size ≤ (grow (putRow (Value.int .i64) (Sort.ahead w q) b 0 (sortI l).toArray) os).heap.size := by
    unfold grow putRow mapBlock Sort.ahead
    simp
  have hw2 : w' = grow (putRow (Value.int .i64) (Sort.ahead w q) b 0 (sortI l).toArray) os := hw
  rw [hw2]
  refine ⟨he, .inr ⟨b, putCells (Value.int .i64) 0 (sortI l).toArray cur, rfl, hB, ?_, fun i x hx => ?_⟩, ⟨rfl, rfl, rfl, hsz, fun i hi => ?_⟩⟩
  · have := hheap b hlt
    rw [if_pos rfl] at this
    exact this
  · have hi := (List.getElem?_eq_some_iff.1 hx).1
    have hcs : i < cur.size := (Array.getElem?_eq_some_iff.1 (hc i _ (List.getElem?_eq_getElem (by omega)))).1
    have hx' := (List.getElem?_eq_some_iff.1 hx).2
    unfold putCells
    rw [Array.getElem?_mapIdx, Array.getElem?_eq_getElem hcs]
    simp [hi, hx']
  · rw [hheap i (by omega), if_neg (by omega)]
/-- does a vertex fit a node? -/
def fitP (lab key : ByteArray) (low high : Vl) (y : Vt) : Bool := decide (y.label = lab) && (key.toList.isEmpty || !outS (vo y key) (vq y key) low high)
def fitL (V : List Vt) (lab key : ByteArray) (low high : Vl) : List Int := (V.filter (fitP lab key low high)).map Vt.id
theorem fitL_inc {V : List Vt} (hs : SortB Vt.id V) (lab key : ByteArray) (low high : Vl) : IncI (fitL V lab key low high) := List.pairwise_map.2 (hs.filter _)
theorem fitL_len (V : List Vt) (lab key : ByteArray) (low high : Vl) : (fitL V lab key low high).length ≤ V.length := by
  unfold fitL; rw [List.length_map]; exact List.length_filter_le _ _
theorem labL_fit {key : ByteArray} (h : key.toList = []) (V : List Vt) (lab : ByteArray) (low high : Vl) : labL V lab = fitL V lab key low high := by
  unfold labL fitL
  congr 1
  refine List.filter_congr fun y _ => ?_
  unfold fitP
  rw [h]
  simp
theorem valL_fit {V : List Vt} (hs : SortB Vt.id V) {key : ByteArray} (h : key.toList ≠ []) (lab : ByteArray) (low high : Vl) : sortI (valL V lab key low high) = fitL V lab key low high := by
  have hn : (labL V lab).Nodup := (List.pairwise_map.2 (hs.filter _) : IncI (labL V lab)).imp (fun h => by omega)
  have hn2 : (valL V lab key low high).Nodup := (sortK_perm _ _).nodup_iff.2 (hn.filter _)
  refine incI_uniq (sortI_inc hn2) (fitL_inc hs lab key low high) (fun k => ?_)
  rw [(sortI_perm _).mem_iff]
  constructor
  · intro hk
    have h1 : k ∈ labL V lab := (List.mem_filter.1 ((sortK_perm _ _).mem_iff.1 hk)).1
    obtain ⟨y, hy, rfl⟩ := labL_mem h1
    obtain ⟨h2, h3⟩ := (valL_iff hs hy lab key low high).1 hk
    refine List.mem_map.2 ⟨y, List.mem_filter.2 ⟨hy, ?_⟩, rfl⟩
    unfold fitP
    rw [h3, decide_eq_true h2]
    simp
  · intro hk
    obtain ⟨y, hy, rfl⟩ := List.mem_map.1 hk
    obtain ⟨hy, hf⟩ := List.mem_filter.1 hy
    unfold fitP at hf
    refine (valL_iff hs hy lab key low high).2 ?_
    have he : key.toList.isEmpty = false := by simpa using h
    rw [he] at hf
    simpa using hf
theorem FreshI.of_own {w : World} {B n cap : Nat} {a : Option Addr} {l : List Int} (h : kI.Own w B (.slice a n cap) l) : FreshI B w a l := by
  rcases h.2 with ⟨hv, h0⟩ | ⟨g, cap', cur', hv, hB, _⟩
  · injection hv with e1 _ _
    exact .inl ⟨e1, List.eq_nil_of_length_eq_zero h0⟩
  · injection hv with e1 _ _
    subst e1
    obtain ⟨cur, hg, hs, hn, _, hB2, _, ht⟩ := ownI_blk h
    refine .inr ⟨g, cur, rfl, hB2, hg, fun i x hx => ?_⟩
    have hi := (List.getElem?_eq_some_iff.1 hx).1
    have h1 : (cur.toList.take l.length)[i]? = (l.map (Value.int .i64))[i]? := by rw [ht]
    rw [List.getElem?_take_of_lt hi, Array.getElem?_toList, List.getElem?_map, hx] at h1
    exact h1
theorem FreshI.chg {B : Nat} {w w' : World} {S : Nat → Prop} {a : Option Addr} {l : List Int} (h : FreshI B w a l) (hc : Chg w w' S) (hS : ∀ j, S j → j < B) : FreshI B w' a l := by
  rcases h with h | ⟨g, cur, rfl, hB, hg, h2⟩
  · exact .inl h
  · exact .inr ⟨g, cur, rfl, hB, (hc.block g (Array.getElem?_eq_some_iff.1 hg).1 (fun hs => by have := hS g hs; omega)).trans hg, h2⟩
theorem FreshI.below {B : Nat} {w w' : World} {a : Option Addr} {l : List Int} (h : FreshI B w a l) (hb : Below w.heap.size w w') : FreshI B w' a l := h.chg (Chg.of_below hb (fun _ => False)) (fun _ h => h.elim)
theorem FreshI.mono {B B' : Nat} {w : World} {a : Option Addr} {l : List Int} (h : FreshI B w a l) (hB : B' ≤ B) : FreshI B' w a l := by
  rcases h with h | ⟨g, cur, rfl, hB2, h⟩
  · exact .inl h
  · exact .inr ⟨g, cur, rfl, Nat.le_trans hB hB2, h⟩
/-- what Find leaves -/
def FdPost (w0 w : World) (wb gb : Nat) (st : Option Nat) (l : List Int) (e : Ending) (w' : World) : Prop :=
  ∃ a cap l', e = .returned (.slice a l'.length cap) ∧ l' = (if (payS st 1).isSome then l else []) ∧ FreshI w.heap.size w' a l' ∧ WkS w0 w' wb gb (payS st 1) ∧ Chg w w' (fun i => i = wb)
set_option maxRecDepth 100000 in
set_option maxHeartbeats 1000000 in
theorem wfind_any (w0 w : World) (wb gb vb eb : Nat) (V : List Vt) (E : List Eg) (st : Option Nat) (lab key : ByteArray) (low high : Vl) (hG : GrC w0 gb vb eb V E) (h : WkS w0 w wb gb st) (hV : V.length ≤ 1000000) :
    Calls Tryz.prog 41 #[.pointer (some ⟨wb, 0, none⟩), .agg #[.string lab, .string key, .int .i64 low.kind, .int .i64 low.n, .string low.s, .int .i64 high.kind, .int .i64 high.n, .string high.s]] w (FdPost w0 w wb gb st (fitL V lab key low high)) := by
  have HB0 := Lib.hid (below_box w (.cells #[.string lab, .string key, .int .i64 low.kind, .int .i64 low.n, .string low.s, .int .i64 high.kind, .int .i64 high.n, .string high.s] 100))
  have HR := Lib.hid (heap_new w (.cells #[.string lab, .string key, .int .i64 low.kind, .int .i64 low.n, .string low.s, .int .i64 high.kind, .int .i64 high.n, .string high.s] 100))
  have H0 := Lib.hid (h.below HB0.out)
  have HG := Lib.hid hG
  have HV := Lib.hid hV
  have hlw := Lib.hid h.lt
  have HL0 : Hid (w0.heap.size ≤ w.heap.size) := Lib.hid h.bel.size
  clear h hG hV
  go_enter Tryz.func41, Tryz.ntmps41
  go_wp2_with fail
  refine (pay_any w0 _ wb gb st H0.out).mono ?_
  rintro e w1 ⟨rfl, s1, k1⟩
  have S1 := Lib.hid s1
  have K1 : Hid (Chg w w1 (fun i => i = wb)) := Lib.hid ((Chg.of_below HB0.out _).trans k1 (fun i _ h => h))
  have x1 := (k1.block w.heap.size (by simp) (by have := hlw.out; omega)).trans HR.out
  have hz : w.heap.size < w1.heap.size := (Array.getElem?_eq_some_iff.1 x1).1
  have HKS : Hid (w.heap.size ≤ w1.heap.size) := Lib.hid (Nat.le_of_lt hz)
  clear s1 k1
  obtain ⟨b, hb⟩ : ∃ b, (payS st 1).isSome = b := ⟨_, rfl⟩
  have HBB := Lib.hid hb
  clear hb
  cases b
  · have HP : Hid (FdPost w0 w wb gb st (fitL V lab key low high) (.returned (.slice none 0 0)) w1) := Lib.hid ⟨none, 0, [], rfl, by rw [HBB.out]; rfl, .inl ⟨rfl, rfl⟩, S1.out, K1.out⟩
    rw [HBB.out]
    clear x1 hz
    go_wp2_with fail
    go_ret
    exact HP.out
  · rw [HBB.out]
    have GW := Lib.hid (HG.out.below (S1.out.bel.trans ((below_drewN (Below.refl w1.heap.size w1) 1).mono S1.out.bel.size)))
    have HND : Hid (∀ u, Below w1.heap.size w1 u → u.cell? ⟨wb, 0, none⟩ = some (.iface 24 (.pointer (some ⟨gb, 0, none⟩))) ∧ (u.cell? ⟨w.heap.size, 0, none⟩ = some (.string lab) ∧ u.cell? ⟨w.heap.size, 1, none⟩ = some (.string key) ∧ u.cell? ⟨w.heap.size, 2, none⟩ = some (.int .i64 low.kind) ∧ u.cell? ⟨w.heap.size, 3, none⟩ = some (.int .i64 low.n) ∧ u.cell? ⟨w.heap.size, 4, none⟩ = some (.string low.s) ∧ u.cell? ⟨w.heap.size, 5, none⟩ = some (.int .i64 high.kind) ∧ u.cell? ⟨w.heap.size, 6, none⟩ = some (.int .i64 high.n) ∧ u.cell? ⟨w.heap.size, 7, none⟩ = some (.string high.s)) ∧ wb < u.heap.size ∧ w.heap.size < u.heap.size) := Lib.hid (fun u hu => by
      obtain ⟨c0, _⟩ := (S1.out.below hu).cells
      have e := (hu.block _ hz).trans x1
      exact ⟨c0, ⟨by rw [cell_of_blk e]; rfl, by rw [cell_of_blk e]; rfl, by rw [cell_of_blk e]; rfl, by rw [cell_of_blk e]; rfl, by rw [cell_of_blk e]; rfl, by rw [cell_of_blk e]; rfl, by rw [cell_of_blk e]; rfl, by rw [cell_of_blk e]; rfl⟩, (S1.out.below hu).lt, (Array.getElem?_eq_some_iff.1 e).1⟩)
    clear x1 hz
    obtain ⟨c0, ⟨r0, r1, r2, r3, r4, r5, r6, r7⟩, hwl, hnl⟩ := HND.out w1 (Below.refl _ _)
    have hm := mLabeled (.pointer (some ⟨gb, 0, none⟩)) w1.drew
    have hm2 := mValued (.pointer (some ⟨gb, 0, none⟩)) w1.drew
    have HSD := Lib.hid (HND.out w1.drew (below_drewN (Below.refl _ _) 1))
    have S1 := Lib.hid (S1.out.below (below_drewN (Below.refl w1.heap.size w1) 1))
    have K1 : Hid (Chg w (w1.drewN 1) (fun i => i = wb)) := Lib.hid (K1.out.trans (Chg.of_below (below_drewN (Below.refl w1.heap.size w1) 1) (fun _ => False)) (fun _ _ e => e.elim))
    have HKS : Hid (w.heap.size ≤ (w1.drewN 1).heap.size) := Lib.hid K1.out.size
    by_cases hk : key.toList = []
    · have t1 : key.toList.isEmpty = true := by simp [hk]
      have HK := Lib.hid hk
      clear hk
      go_upto_region 4 with fail
      have HLB := Lib.hid (glabeled_any gb vb eb V E lab w1.drew GW.out HV.out)
      go_region_held3 (fun u => u.cell? ⟨wb, 0, none⟩ = some (.iface 24 (.pointer (some ⟨gb, 0, none⟩))) ∧ (u.cell? ⟨w.heap.size, 0, none⟩ = some (.string lab) ∧ u.cell? ⟨w.heap.size, 1, none⟩ = some (.string key) ∧ u.cell? ⟨w.heap.size, 2, none⟩ = some (.int .i64 low.kind) ∧ u.cell? ⟨w.heap.size, 3, none⟩ = some (.int .i64 low.n) ∧ u.cell? ⟨w.heap.size, 4, none⟩ = some (.string low.s) ∧ u.cell? ⟨w.heap.size, 5, none⟩ = some (.int .i64 high.kind) ∧ u.cell? ⟨w.heap.size, 6, none⟩ = some (.int .i64 high.n) ∧ u.cell? ⟨w.heap.size, 7, none⟩ = some (.string high.s)) ∧ wb < u.heap.size ∧ w.heap.size < u.heap.size)
        (first | exact HSD.out | exact HSE.out)
        (first | (go_at_call 62; (with_reducible refine HLB.out.mono ?_); rintro e w2 ⟨v, rfl, o2, b2⟩; have HO2 := Lib.hid o2; have HB2 := Lib.hid b2; have HSE := Lib.hid (HND.out w2 (below_then (below_drewN (Below.refl _ _) 1) b2)); obtain ⟨a, cap, rfl⟩ := o2.shape; clear o2 b2) | fail)
      all_goals
        have HF : Hid (FdPost w0 w wb gb st (fitL V lab key low high) (.returned (.slice a (labL V lab).length cap)) w2) := Lib.hid (by
          refine ⟨a, cap, labL V lab, rfl, by rw [HBB.out, if_pos rfl]; exact labL_fit HK.out V lab low high, (FreshI.of_own HO2.out).mono HKS.out, S1.out.below HB2.out, K1.out.trans (Chg.of_below HB2.out (fun _ => False)) (fun _ _ e => e.elim)⟩)
        clear r0 r1 r2 r3 r4 r5 r6 r7
        go_wp2_with fail
        go_ret
        exact HF.out
    · have t1 : key.toList.isEmpty = false := by simpa using hk
      have HK := Lib.hid hk
      clear hk
      go_upto_region 5 with fail
      have HGV := Lib.hid (gvalued2_any gb vb eb V E lab key low high w1.drew GW.out HV.out)
      obtain ⟨l, hl⟩ : ∃ l, l = valL V lab key low high := ⟨_, rfl⟩
      have HVL : Hid (l.length ≤ 1000000) := Lib.hid (by rw [hl]; exact Nat.le_trans (valL_len V lab key low high) HV.out)
      have HFL : Hid (sortI l = fitL V lab key low high) := Lib.hid (by rw [hl]; exact valL_fit HG.out.ok.sv HK.out lab low high)
      rw [← hl] at HGV
      clear hl
      go_cut [5] from 21 to 33 (fun s5 wc => ∃ (a : Option Addr) (cap : Nat) (u : World), u = wc ∧ s5 = .slice a l.length cap ∧ Hid (FreshI (w1.drewN 1).heap.size u a l ∧ Below (w1.drewN 1).heap.size (w1.drewN 1) u))
      case first =>
        go_region_held3 (fun u => u.cell? ⟨wb, 0, none⟩ = some (.iface 24 (.pointer (some ⟨gb, 0, none⟩))) ∧ (u.cell? ⟨w.heap.size, 0, none⟩ = some (.string lab) ∧ u.cell? ⟨w.heap.size, 1, none⟩ = some (.string key) ∧ u.cell? ⟨w.heap.size, 2, none⟩ = some (.int .i64 low.kind) ∧ u.cell? ⟨w.heap.size, 3, none⟩ = some (.int .i64 low.n) ∧ u.cell? ⟨w.heap.size, 4, none⟩ = some (.string low.s) ∧ u.cell? ⟨w.heap.size, 5, none⟩ = some (.int .i64 high.kind) ∧ u.cell? ⟨w.heap.size, 6, none⟩ = some (.int .i64 high.n) ∧ u.cell? ⟨w.heap.size, 7, none⟩ = some (.string high.s)) ∧ wb < u.heap.size ∧ w.heap.size < u.heap.size)
          (first | exact HSD.out | exact HSE.out)
          (first | (go_at_call 58; (with_reducible refine HGV.out.mono ?_); rintro e w2 ⟨a, cap, rfl, f2, b2⟩; have HF2 := Lib.hid (And.intro f2 b2); have HSE := Lib.hid (HND.out w2 (below_then (below_drewN (Below.refl _ _) 1) b2)); clear f2 b2) | fail)
        all_goals
          go_wp2_with fail
          go_meet
          exact ⟨a, cap, _, rfl, rfl, HF2⟩
      case rest =>
      obtain ⟨a, cap, w2, rfl, rfl, HF2⟩ := hcut
      have HB2 := Lib.hid HF2.out.2
      have S2 := Lib.hid (S1.out.below HB2.out)
      have K2 : Hid (Chg w w2 (fun i => i = wb)) := Lib.hid (K1.out.trans (Chg.of_below HB2.out (fun _ => False)) (fun _ _ e => e.elim))
      clear c0 r0 r1 r2 r3 r4 r5 r6 r7 hwl hnl hm hm2
      rcases HF2.out.1 with ⟨rfl, rfl⟩ | ⟨g, cur, rfl, hB, hg, hc⟩
      · have HF : Hid (FdPost w0 w wb gb st (fitL V lab key low high) (.returned (.slice none 0 cap)) w2) := Lib.hid (by
          refine ⟨none, cap, [], rfl, by rw [HBB.out, if_pos rfl, ← HFL.out]; exact List.mergeSort_nil.symm, .inl ⟨rfl, rfl⟩, S2.out, K2.out⟩)
        simp only [List.length_nil]
        go_wp2_with fail
        refine (Any.slices_Sort_int_none laySI none cap w2).mono ?_
        rintro e w' ⟨rfl, rfl⟩
        go_wp2_with fail
        go_ret
        exact HF.out
      · have HSV := Lib.hid (sortV_any (cap := cap) hB hg hc HVL.out)
        have HL2 : Hid ((sortI l).length = l.length) := Lib.hid (sortI_perm l).length_eq
        clear hg hc
        go_wp2_with fail
        refine HSV.out.mono ?_
        rintro e w3 ⟨rfl, f3, b3⟩
        have HF : Hid (FdPost w0 w wb gb st (fitL V lab key low high) (.returned (.slice (some ⟨g, 0, none⟩) l.length cap)) w3) := Lib.hid (by
          refine ⟨_, cap, sortI l, by rw [HL2.out], by rw [HBB.out, if_pos rfl]; exact HFL.out, f3.mono HKS.out, ?_, ?_⟩
          · exact ⟨S2.out.bel.trans (b3.mono (Nat.le_trans HL0.out HKS.out)), S2.out.new, (b3.block wb (S1.out.lt)).trans S2.out.blk, S2.out.small⟩
          · exact K2.out.andBelow (b3.mono HKS.out))
        clear f3 b3
        go_wp2_with fail
        go_ret
        exact HF.out
end Go.Proofs.YtonilojjahfboaaGreat
