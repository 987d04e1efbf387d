/- slices.SortFunc, slices.SortedFunc of keys. Conditions: each contract's own premises. -/
import Derived.Test.YtkhkdedjffkhdaaGreatKq4
import Derived.Test.YtkhkdedjffkhdaaGreatLkR4
namespace Go.Proofs.YtkhkdedjffkhdaaGreat
open Go.RowKit Go.Maps Go.Sort Go.Shelf

instance : Inhabited Ky := ⟨⟨0, 0, 0, ByteArray.empty⟩⟩
def sortKy (ks : List Ky) : List Ky := ks.mergeSort fun x y => !(ltOf Ky.cmp) y x
theorem ky_cmp (size : Nat) (w : World) (g : Nat) : CmpLays Tryz.prog 75 #[] Ky.enc 4 Ky.cmp g 0 size w := fun _ _ _ _ x y => order_g x y _
theorem sortK_any {w : World} {B n cap g : Nat} {ks : List Ky} (h : kK.Own w B (.slice (some ⟨g, 0, none⟩) n cap) ks) (hl : ks.length ≤ 1000000) :
    Calls Tryz.prog 74 #[.slice (some ⟨g, 0, none⟩) n cap, .func (.func 75) #[] #[]] w fun e w' => e = .returned (.tuple #[]) ∧ kK.Own w' B (.slice (some ⟨g, 0, none⟩) n cap) (sortKy ks) ∧ Below B w w' := by
  obtain ⟨hH, hg, hB, rfl⟩ := own_holds kK h
  have hlen : (sortKy ks).length = ks.length := List.length_mergeSort ks
  have hsz : ks.length < 4611686018427387904 := by omega
  exact (AnyQ.slices_SortFunc_total laySK 4 Tryz.isAgg47 Tryz.sizeOf47 Ky.enc (fun _ => rfl) kK.one Ky.cmp ky_swo 75 #[] g 0 cap ks.toArray w (enters_of Tryz.func75 (by kernel_rfl) rfl) (ky_cmp _ _ _) hH hg (by simpa using hsz) ky_total).mono (fun e w' ⟨he, m, os, hw⟩ => by
    obtain ⟨o1, o2⟩ := own_sorted kK (m := m) (os := os) h hlen
    rw [hw]
    exact ⟨he, o1, o2⟩)
theorem sortK_nil {w : World} {cap : Nat} (a : Option Addr) : Calls Tryz.prog 74 #[.slice a 0 cap, .func (.func 75) #[] #[]] w fun e w' => e = .returned (.tuple #[]) ∧ w' = w :=
  AnyF.slices_SortFunc_none laySK a cap _ w
/-- whatever was collected -/
theorem sortK_own {w : World} {B : Nat} {v : Value} {ks : List Ky} (h : kK.Own w B v ks) (hl : ks.length ≤ 1000000) :
    Calls Tryz.prog 74 #[v, .func (.func 75) #[] #[]] w fun e w' => e = .returned (.tuple #[]) ∧ kK.Own w' B v (sortKy ks) ∧ Below B w w' := by
  rcases h.2 with ⟨rfl, h0⟩ | ⟨g, cap, cur, rfl, _⟩
  · have : ks = [] := List.eq_nil_of_length_eq_zero h0
    subst this
    refine (sortK_nil none).mono ?_
    rintro e w' ⟨he, rfl⟩
    have e2 : sortKy [] = [] := List.mergeSort_nil
    rw [e2]
    exact ⟨he, h, Below.refl _ _⟩
  · exact sortK_any h hl
theorem sortKy_ok {f : Lit → Option Value} {n : Nat} {ks : List Ky} (h : KsOf f n ks) : KySorted (sortKy ks) ∧ KsOf f n (sortKy ks) := by
  obtain ⟨h1, h2, h3, h4⟩ := h
  obtain ⟨s1, s2⟩ := merge_sorted h1
  change KySorted (sortKy ks) at s1
  change (sortKy ks).Perm ks at s2
  exact ⟨s1, s2.nodup_iff.2 h1, fun k hk => h2 k (s2.mem_iff.1 hk), by rw [s2.length_eq]; exact h3, fun k hk => by rw [s2.mem_iff]; exact h4 k hk⟩
/-- what slices.SortedFunc(maps.Keys(m), cell.Order) leaves -/
def SortedPost (f : Lit → Option Value) (nn : Nat) (w : World) (e : Ending) (w' : World) : Prop := ∃ v ks, e = .returned v ∧ KySorted ks ∧ KsOf f nn ks ∧ kK.Own w' w.heap.size v ks ∧ Below w.heap.size w w'
theorem sortedFK_any (fn : Nat) (lb : Array Value) (f : Lit → Option Value) (nn : Nat) (w : World)
    (hnn : nn ≤ 1000000) (hc : Calls Tryz.prog 106 #[.func (.func fn) #[] lb] w fun e W' => ∃ v ks, e = .returned v ∧ KsOf f nn ks ∧ kK.Own W' w.heap.size v ks ∧ Below w.heap.size w W') :
    Calls Tryz.prog 81 #[.func (.func fn) #[] lb, .func (.func 75) #[] #[]] w (SortedPost f nn w) := by
  go_enter Tryz.func81, Tryz.ntmps81
  go_wp2_with fail
  refine hc.mono ?_
  rintro e w1 ⟨v, ks, rfl, k1, o1, b1⟩
  obtain ⟨a, cap, rfl⟩ := o1.shape
  have HK := Lib.hid k1
  have HB := Lib.hid b1
  have HS := Lib.hid (sortK_own o1 (Nat.le_trans k1.2.2.1 hnn))
  have HL : Hid ((sortKy ks).length = ks.length) := Lib.hid (List.length_mergeSort ks)
  clear k1 o1 b1 hc
  go_wp2_with fail
  refine HS.out.mono ?_
  rintro e w2 ⟨rfl, o2, b2⟩
  have HO := Lib.hid (And.intro o2 b2)
  clear o2 b2
  go_wp2_with fail
  go_ret
  obtain ⟨s1, s2⟩ := sortKy_ok HK.out
  exact ⟨_, sortKy ks, rfl, s1, s2, HO.out.1, HB.out.trans HO.out.2⟩
/-- slices.SortedFunc(maps.Keys(m), cell.Order), at what was seen -/
theorem sortedS_any (Bm b nn : Nat) (f : Lit → Option Value) (hN : nn ≤ 1000000) (w : World) (hBm : Bm < w.heap.size) (hm : w.cell? ⟨Bm, 0, none⟩ = some (.map (some b))) (hmap : mapR w Tryz.prog 47 b nn f) :
    Calls Tryz.prog 81 #[.func (.func 108) #[] #[.pointer (some ⟨Bm, 0, none⟩)], .func (.func 75) #[] #[]] w (SortedPost f nn w) :=
  sortedFK_any 108 _ f nn w hN (colKS_any Bm b nn f hN w hBm hm hmap)
/-- .., at what would be written -/
theorem sortedT_any (Bm b nn : Nat) (f : Lit → Option Value) (hN : nn ≤ 1000000) (w : World) (hBm : Bm < w.heap.size) (hm : w.cell? ⟨Bm, 0, none⟩ = some (.map (some b))) (hmap : mapR w Tryz.prog 47 b nn f) :
    Calls Tryz.prog 81 #[.func (.func 107) #[] #[.pointer (some ⟨Bm, 0, none⟩)], .func (.func 75) #[] #[]] w (SortedPost f nn w) :=
  sortedFK_any 107 _ f nn w hN (colKT_any Bm b nn f hN w hBm hm hmap)
end Go.Proofs.YtkhkdedjffkhdaaGreat
