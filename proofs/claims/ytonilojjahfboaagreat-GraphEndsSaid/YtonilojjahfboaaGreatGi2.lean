/- slices.Sorted of what slices.Values, maps.Keys hand back, of ints. Conditions: each contract's own premises. -/
import Derived.Test.YtonilojjahfboaaGreatGi1
namespace Go.Proofs.YtonilojjahfboaaGreat
open Go.RowKit Go.Maps

/-- slices.Collect(slices.Values(l)) -/
theorem icolB_any (Bs : Nat) (a : Option Addr) (cap : Nat) (zs : List Int) (hlen : zs.length ≤ 1000000) (w : World) (hBs : Bs < w.heap.size) (hc : w.cell? ⟨Bs, 0, none⟩ = some (.slice a zs.length cap)) (hz : kI.V w a zs) :
    Calls Tryz.prog 172 #[.func (.func 266) #[] #[.pointer (some ⟨Bs, 0, none⟩)]] w fun e W' => ∃ v, e = .returned v ∧ kI.Own W' w.heap.size v zs ∧ Below w.heap.size w W' := by
  have hB0 : Below w.heap.size w (w.alloc (.cells #[.slice none 0 0] 42)) := below_box w _
  refine ((callsIn_wide (n := 4)).1 (colIB_in _ 4 trivial trivial rfl (by omega) 266 _ trivial (enters_of Tryz.func266 (by kernel_rfl) rfl) _ _ zs.length hlen w (ival_stops _ _ trivial rfl (by omega) Bs w.heap.size a cap zs hlen _ (by simp; omega) (by simp) ((hB0.cell (p := ⟨Bs, 0, none⟩) hBs).trans hc) (fun hne => by
    obtain ⟨b, off, e, hat⟩ := hz hne
    exact ⟨b, off, e, hat.lt, hat.below hB0⟩)))).mono ?_
  rintro e W' ⟨v, ks, rfl, rfl, ho, hb⟩
  exact ⟨v, rfl, ho, hb⟩
/-- slices.Collect(maps.Keys(m)) -/
theorem icolV_any (Bm b nn : Nat) (f : Lit → Option Value) (hN : nn ≤ 1000000) (w : World) (hBm : Bm < w.heap.size) (hm : w.cell? ⟨Bm, 0, none⟩ = some (.map (some b))) (hmap : mapR w Tryz.prog 3 b nn f) :
    Calls Tryz.prog 172 #[.func (.func 173) #[] #[.pointer (some ⟨Bm, 0, none⟩)]] w fun e W' => ∃ v ks, e = .returned v ∧ KsI f nn ks ∧ kI.Own W' w.heap.size v ks ∧ Below w.heap.size w W' :=
  (callsIn_wide (n := 4)).1 (colIW_in _ 4 trivial trivial rfl (by omega) 173 _ trivial (enters_of Tryz.func173 (by kernel_rfl) rfl) _ _ nn hN w (keysV_stops _ _ trivial rfl (by omega) Bm b nn f w hBm hm hmap))
theorem icolE_any (Bm b nn : Nat) (f : Lit → Option Value) (hN : nn ≤ 1000000) (w : World) (hBm : Bm < w.heap.size) (hm : w.cell? ⟨Bm, 0, none⟩ = some (.map (some b))) (hmap : mapR w Tryz.prog 3 b nn f) :
    Calls Tryz.prog 172 #[.func (.func 175) #[] #[.pointer (some ⟨Bm, 0, none⟩)]] w fun e W' => ∃ v ks, e = .returned v ∧ KsI f nn ks ∧ kI.Own W' w.heap.size v ks ∧ Below w.heap.size w W' :=
  (callsIn_wide (n := 4)).1 (colIW_in _ 4 trivial trivial rfl (by omega) 175 _ trivial (enters_of Tryz.func175 (by kernel_rfl) rfl) _ _ nn hN w (keysE_stops _ _ trivial rfl (by omega) Bm b nn f w hBm hm hmap))
theorem ikeysV_any (mb : Option Nat) (w : World) : Calls Tryz.prog 90 #[.map mb] w fun e w' => e = .returned (.func (.func 173) #[] #[.pointer (some ⟨w.heap.size, 0, none⟩)]) ∧ w' = w.alloc (.cells #[.map mb] 163) :=
  (callsIn_wide (n := 4)).1 (keysV_in _ 4 trivial rfl mb w)
theorem ikeysE_any (mb : Option Nat) (w : World) : Calls Tryz.prog 92 #[.map mb] w fun e w' => e = .returned (.func (.func 175) #[] #[.pointer (some ⟨w.heap.size, 0, none⟩)]) ∧ w' = w.alloc (.cells #[.map mb] 164) :=
  (callsIn_wide (n := 4)).1 (keysE_in _ 4 trivial rfl mb w)
theorem ivals_any (a : Option Addr) (len cap : Nat) (w : World) :
    Calls Tryz.prog 163 #[.slice a len cap] w fun e w' => e = .returned (.func (.func 266) #[] #[.pointer (some ⟨w.heap.size, 0, none⟩)]) ∧ w' = w.alloc (.cells #[.slice a len cap] 42) :=
  (callsIn_wide (n := 4)).1 (ival_in _ 4 trivial rfl a len cap w)
set_option maxHeartbeats 1000000 in
/-- slices.Sorted, whatever Collect gives -/
theorem isorted_of (fv : Value) (S : List Int → Prop) (w : World) (hS : ∀ ks, S ks → ks.length ≤ 1000000) (h : Calls Tryz.prog 172 #[fv] w fun e W' => ∃ v ks, e = .returned v ∧ S ks ∧ kI.Own W' w.heap.size v ks ∧ Below w.heap.size w W') :
    Calls Tryz.prog 89 #[fv] w fun e W' => ∃ v ks, e = .returned v ∧ S ks ∧ kI.Own W' w.heap.size v (sortI ks) ∧ Below w.heap.size w W' := by
  have H := Lib.hid h
  have HS := Lib.hid hS
  clear h hS
  go_enter Tryz.func89, Tryz.ntmps89
  go_wp2_with fail
  refine H.out.mono ?_
  rintro e w1 ⟨v, ks, rfl, hs, ho, hb⟩
  have HKS := Lib.hid hs
  have HO := Lib.hid ho
  have HB := Lib.hid hb
  clear hs ho hb
  go_wp2_with fail
  refine (sortI_any HO.out (HS.out ks HKS.out)).mono ?_
  rintro e w2 ⟨rfl, o2, b2⟩
  have HO2 := Lib.hid o2
  have HB2 := Lib.hid (HB.out.trans b2)
  clear o2 b2
  go_wp2_with fail
  go_ret
  exact ⟨v, ks, rfl, HKS.out, HO2.out, HB2.out⟩
theorem isortedB_any (Bs : Nat) (a : Option Addr) (cap : Nat) (zs : List Int) (hlen : zs.length ≤ 1000000) (w : World) (hBs : Bs < w.heap.size) (hc : w.cell? ⟨Bs, 0, none⟩ = some (.slice a zs.length cap)) (hz : kI.V w a zs) :
    Calls Tryz.prog 89 #[.func (.func 266) #[] #[.pointer (some ⟨Bs, 0, none⟩)]] w fun e W' => ∃ v, e = .returned v ∧ kI.Own W' w.heap.size v (sortI zs) ∧ Below w.heap.size w W' := by
  refine (isorted_of _ (fun ks => ks = zs) w (fun ks h => by rw [h]; exact hlen) ((icolB_any Bs a cap zs hlen w hBs hc hz).mono ?_)).mono ?_
  · rintro e W' ⟨v, rfl, ho, hb⟩
    exact ⟨v, zs, rfl, rfl, ho, hb⟩
  · rintro e W' ⟨v, ks, rfl, rfl, ho, hb⟩
    exact ⟨v, rfl, ho, hb⟩
/-- the ids of a list by rising ids -/
theorem ids_sorted {α : Type} {key : α → Int} {L : List α} {f : Lit → Option Value} {n : Nat} {ks : List Int} (hs : SortB key L) (hi : ∀ x ∈ L, I64 (key x)) (hf : ∀ k, I64 k → ((f (.int .i64 k)).isSome = (findB key L k).isSome)) (h : KsI f n ks) : sortI ks = L.map key := by
  refine incI_uniq (sortI_inc h.1) (sortB_nodup hs) (fun k => ?_)
  rw [(sortI_perm ks).mem_iff, List.mem_map]
  constructor
  · intro hk
    have h1 := (h.2.2.2 k (h.2.1 k hk)).1 hk
    rw [hf k (h.2.1 k hk)] at h1
    obtain ⟨x, hx⟩ := Option.isSome_iff_exists.1 h1
    exact ⟨x, findB_some hx⟩
  · rintro ⟨x, hx, rfl⟩
    refine (h.2.2.2 _ (hi x hx)).2 ?_
    rw [hf _ (hi x hx), findB_mem hs hx]
    rfl
theorem VmOk.some {w : World} {f : Lit → Option Value} {V : List Vt} (h : VmOk w f V) {k : Int} (hk : I64 k) : (f (.int .i64 k)).isSome = (findB Vt.id V k).isSome := by
  cases hf : findB Vt.id V k with
  | none => rw [h.no k hk hf]; rfl
  | some y =>
    obtain ⟨h1, h2⟩ := findB_some hf
    obtain ⟨a, c, h3, _⟩ := h.yes y h1
    rw [h2] at h3
    rw [h3]; rfl
theorem EmOk.some {w : World} {f : Lit → Option Value} {E : List Eg} (h : EmOk w f E) {k : Int} (hk : I64 k) : (f (.int .i64 k)).isSome = (findB Eg.id E k).isSome := by
  cases hf : findB Eg.id E k with
  | none => rw [h.no k hk hf]; rfl
  | some y =>
    obtain ⟨h1, h2⟩ := findB_some hf
    obtain ⟨a, c, h3, _⟩ := h.yes y h1
    rw [h2] at h3
    rw [h3]; rfl
/-- slices.Sorted(maps.Keys(vertices)) -/
theorem isortedV_any (Bm : Nat) {gb vb eb : Nat} {V : List Vt} {E : List Eg} (w : World) (h : GrC w gb vb eb V E) (hN : V.length ≤ 1000000) (hBm : Bm < w.heap.size) (hm : w.cell? ⟨Bm, 0, none⟩ = some (.map (some vb))) :
    Calls Tryz.prog 89 #[.func (.func 173) #[] #[.pointer (some ⟨Bm, 0, none⟩)]] w fun e W' => ∃ v, e = .returned v ∧ kI.Own W' w.heap.size v (V.map Vt.id) ∧ Below w.heap.size w W' := by
  obtain ⟨f, m, hf⟩ := h.vm
  refine (isorted_of _ (KsI f V.length) w (fun ks h => by have := h.2.2.1; omega) (icolV_any Bm vb V.length f hN w hBm hm m)).mono ?_
  rintro e W' ⟨v, ks, rfl, hk, ho, hb⟩
  rw [ids_sorted h.ok.sv (fun x hx => checkR_ids (h.ok.v x hx) (by simp)) (fun k hk => hf.some hk) hk] at ho
  exact ⟨v, rfl, ho, hb⟩
theorem isortedE_any (Bm : Nat) {gb vb eb : Nat} {V : List Vt} {E : List Eg} (w : World) (h : GrC w gb vb eb V E) (hN : E.length ≤ 1000000) (hBm : Bm < w.heap.size) (hm : w.cell? ⟨Bm, 0, none⟩ = some (.map (some eb))) :
    Calls Tryz.prog 89 #[.func (.func 175) #[] #[.pointer (some ⟨Bm, 0, none⟩)]] w fun e W' => ∃ v, e = .returned v ∧ kI.Own W' w.heap.size v (E.map Eg.id) ∧ Below w.heap.size w W' := by
  obtain ⟨f, m, hf⟩ := h.em
  refine (isorted_of _ (KsI f E.length) w (fun ks h => by have := h.2.2.1; omega) (icolE_any Bm eb E.length f hN w hBm hm m)).mono ?_
  rintro e W' ⟨v, ks, rfl, hk, ho, hb⟩
  rw [ids_sorted h.ok.se (fun x hx => checkR_ids (h.ok.e x hx) (by simp)) (fun k hk => hf.some hk) hk] at ho
  exact ⟨v, rfl, ho, hb⟩
end Go.Proofs.YtonilojjahfboaaGreat
