/- slices.Sort, slices.Sorted of texts: of what slices.Values, maps.Keys hand back. Conditions: each contract's own premises. -/
import Derived.Test.YtkbmipmegljidaaGreatSs1
import Derived.Test.YtkbmipmegljidaaGreatLkT
import Derived.Test.YtkbmipmegljidaaGreatWsA
namespace Go.Proofs.YtkbmipmegljidaaGreat
open Go.RowKit Go.Maps Go.Sort Go.Shelf

theorem tsort_any {w : World} {B : Nat} {v : Value} {l : List (List UInt8)} (h : kT.Own w B v l) (hl : l.length ≤ 1000000) :
    Calls Tryz.prog 74 #[v] w fun e w' => e = .returned (.tuple #[]) ∧ (∃ l', l'.length = l.length ∧ kT.Own w' B v l') ∧ Below B w w' := by
  have h2 := h.2
  rw [kT_cells] at h2
  rcases h2 with ⟨rfl, hz⟩ | ⟨gb, cap, cur, rfl, hbase, hgb, r1, r2, r3, r4⟩
  · have e : l = [] := List.eq_nil_of_length_eq_zero hz
    subst e
    refine (AnyM.slices_Sort_string_none laySS none 0 w).mono ?_
    rintro e w' ⟨he, rfl⟩
    exact ⟨he, ⟨[], rfl, h⟩, Below.refl _ _⟩
  · have hH : Holds encStr w gb 0 l.toArray := holds_of_block hgb (by rw [show l.length * kT.size = l.length from Nat.mul_one _] at r4; exact r4)
    have hgl : gb < w.heap.size := (Array.getElem?_eq_some_iff.1 hgb).1
    refine (AnyM.slices_Sort_string laySS gb 0 cap l w hH hgl (by omega)).mono ?_
    rintro e w' ⟨he, q, os, rfl⟩
    have hml : (l.mergeSort fun x y => decide (x ≤ y)).length = l.length := List.length_mergeSort _
    refine ⟨he, ⟨l.mergeSort fun x y => decide (x ≤ y), hml, ?_⟩, (Below.refl _ w).grown (grownBy_sorted _) ?_ (fun j hj => by cases hj; exact hbase)⟩
    · have := ownsRow_sorted (n := q) (os := os) hml hbase hgb r1 r2 r3
      unfold RowK.Own
      rw [kT_cells, hml]
      exact this
    · omega
set_option maxHeartbeats 1000000 in
/-- slices.Sorted(slices.Values(l)): as many as there were -/
theorem tsorted_any (Bs : Nat) (a : Option Addr) (cap : Nat) (zs : List (List UInt8)) (hlen : zs.length ≤ 1000000) (w : World) (hBs : Bs < w.heap.size) (hc : w.cell? ⟨Bs, 0, none⟩ = some (.slice a zs.length cap)) (hz : kT.V w a zs) :
    Calls Tryz.prog 35 #[.func (.func 81) #[] #[.pointer (some ⟨Bs, 0, none⟩)]] w fun e W' => ∃ v zs', e = .returned v ∧ zs'.length = zs.length ∧ kT.Own W' w.heap.size v zs' ∧ Below w.heap.size w W' := by
  have H := Lib.hid (tcol_any Bs a cap zs hlen w hBs hc hz)
  have HL := Lib.hid hlen
  clear hc hz hBs hlen
  go_enter Tryz.func35, Tryz.ntmps35
  go_wp2_with fail
  refine H.out.mono ?_
  rintro e w1 ⟨v, rfl, ho, hb⟩
  have HO := Lib.hid ho
  have HB := Lib.hid hb
  clear ho hb
  go_wp2_with fail
  refine (tsort_any HO.out HL.out).mono ?_
  rintro e w2 ⟨rfl, ⟨l', e2, o2⟩, b2⟩
  have HO2 := Lib.hid o2
  have HE := Lib.hid e2
  have HB2 := Lib.hid (HB.out.trans b2)
  clear o2 b2 e2
  go_wp2_with fail
  go_ret
  exact ⟨v, l', rfl, HE.out, HO2.out, HB2.out⟩
/-- slices.Sort's two contracts, at the fence that asks nothing -/
theorem sortsT (m : Nat) : AnyZ.SortsIn Tryz.prog laySD_ren Fence.wide m :=
  ⟨fun blk off cap ss W hH hblk hsz => callsIn_wide.2 (AnyM.slices_Sort_string laySS blk off cap ss W hH hblk hsz),
   fun p cap W => callsIn_wide.2 (AnyM.slices_Sort_string_none laySS p cap W)⟩
theorem tkeys_any (mb : Option Nat) (w : World) : Calls Tryz.prog 36 #[.map mb] w fun e w' => e = .returned (.func (.func 75) #[] #[.pointer (some ⟨w.heap.size, 0, none⟩)]) ∧ w' = w.alloc (.cells #[.map mb] 87) :=
  (callsIn_wide (n := 6)).1 (AnyZ.keys_in layMK Fence.wide 6 trivial rfl mb w)
theorem strKeys_len {H : Type} {w : World} {b n : Nat} {R : Value → Option (DataW H × List MemPlace)} {D0 : DataW H} (h : w.ownsMap Tryz.prog 9 R b n D0) : (strKeys D0).length = Maps.size D0 := by
  obtain ⟨es, rfl, _⟩ := h.keysOf
  simp [strKeys, Maps.size]
theorem mem_strKeys {w : World} {b n : Nat} {R : Value → Option (DataW Value × List MemPlace)} {D0 : DataW Value} (h : w.ownsMap Tryz.prog 9 R b n D0) {x : List UInt8} (hx : x ∈ strKeys D0) : Maps.has D0 (.string x) = true := by
  obtain ⟨es, rfl, hko⟩ := h.keysOf
  obtain ⟨p, hp, rfl⟩ := List.mem_map.1 hx
  obtain ⟨v, hv⟩ := hko p hp
  obtain ⟨y, _, hy, hl⟩ := Maps.keyOf_str Tryz.underlying9 hv
  rw [has_eq, List.any_eq_true]
  exact ⟨p, hp, by rw [hy]; simp [Lit.sameKey, strOf]⟩
set_option maxHeartbeats 1000000 in
/-- slices.Sorted(maps.Keys(m)): as many as the map has, each of them a key -/
theorem tsortedK_any (Bm b nn : Nat) (f : Lit → Option Value) (w : World) (hBm : Bm < w.heap.size) (hm : w.cell? ⟨Bm, 0, none⟩ = some (.map (some b))) (hmap : mapR w Tryz.prog 9 b nn f) (hN : nn ≤ 1000000) :
    Calls Tryz.prog 35 #[.func (.func 75) #[] #[.pointer (some ⟨Bm, 0, none⟩)]] w fun e w' => ∃ v ss, e = .returned v ∧ ss.length = nn ∧ (∀ s ∈ ss, (f (.string s)).isSome = true ∧ s.length ≤ maxLen) ∧ kT.Own w' w.heap.size v ss ∧ Below w.heap.size w w' := by
  obtain ⟨D0, hown, hsz, hhas, _⟩ := hmap.open'
  have hseq : SeqGives Fence.wide 3 Tryz.prog 75 #[.pointer (some ⟨Bm, 0, none⟩)] encStr (fun ss => ss.Perm (strKeys D0)) (Maps.size D0) w :=
    AnyZ.keys_gives (ρ := layMK_ren) { layMK with } Fence.wide _ trivial rfl (by omega) Bm b nn D0 w hBm hm hown
  refine ((callsIn_wide (n := 6)).1 (AnyZ.sorted_in laySD Fence.wide 6 trivial trivial trivial trivial rfl (by omega) (sortsT _) (enters_of Tryz.func74 (by kernel_rfl) rfl) 75 #[.pointer (some ⟨Bm, 0, none⟩)] trivial (enters_of Tryz.func75 (by kernel_rfl) rfl) _ _ (by rw [hsz]; unfold maxLen; omega) (by rw [hsz]; omega) w hseq)).mono ?_
  rintro e w' ⟨v, ss, rfl, hS, hrow, _, hb⟩
  have hml : (ss.mergeSort fun x y => decide (x ≤ y)).length = ss.length := List.length_mergeSort _
  refine ⟨v, ss.mergeSort fun x y => decide (x ≤ y), rfl, ?_, fun s hs => ?_, ?_, hb⟩
  · rw [hml, hS.length_eq, strKeys_len hown, hsz]
  · have h1 : s ∈ ss := (List.mergeSort_perm ss _).mem_iff.1 hs
    have h2 := mem_strKeys hown (hS.mem_iff.1 h1)
    obtain ⟨es, hD, hko⟩ := hown.keysOf
    rw [hhas _ ?_] at h2
    · exact ⟨h2, strKeys_le hown Tryz.underlying9 s (hS.mem_iff.1 h1)⟩
    · obtain ⟨p, hp, rfl⟩ := List.mem_map.1 (show s ∈ es.map fun p => strOf p.1 by have := hS.mem_iff.1 h1; rw [hD] at this; exact this)
      obtain ⟨kv, hkv⟩ := hko p hp
      obtain ⟨y, _, hy, _⟩ := Maps.keyOf_str Tryz.underlying9 hkv
      rw [hy] at hkv ⊢
      exact (string_keyed Tryz.underlying9).key hkv
  · unfold RowK.Own
    rw [kT_cells, hml]
    exact hrow
end Go.Proofs.YtkbmipmegljidaaGreat
