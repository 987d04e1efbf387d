/- web.Sound of a graph's own cells: sound just if there is none; of cells of which two have one key: not sound. Conditions: each contract's own premises. web.Sound of a graph's own cells: sound just if there is none. Conditions: each contract's own premises. (Printed by gen_sw13.py.) -/
import Derived.Test.YtkbmipmegljidaaGreatWsY
import Derived.Test.YtkbmipmegljidaaGreatSw11
import Derived.Test.YtkbmipmegljidaaGreatGr8
import Derived.Test.YtkbmipmegljidaaGreatWsS
namespace Go.Proofs.YtkbmipmegljidaaGreat
open Go.RowKit Go.Maps

def WsdPost (w : World) (q : Bool) (e : Ending) (w' : World) : Prop := e = .returned (.bool q) ∧ Below w.heap.size w w'
set_option maxRecDepth 100000 in
theorem sound_dup (a : Option Addr) (cap : Nat) (zs : List Wr) (w : World) (hv : kW.V w a zs) (hl : zs.length ≤ 100000) (hh : ∀ x ∈ zs, x.has = true) (hd : adjW (srtW zs)) :
    Calls Tryz.prog 15 #[.slice a zs.length cap] w (WsdPost w false) := by
  have HS := Lib.hid (graph_dup a cap zs w hv hl hh hd)
  clear hv hl hh hd
  go_enter Tryz.func15, Tryz.ntmps15
  go_wp2_with fail
  refine HS.out.mono ?_
  rintro e w1 ⟨rfl, hb⟩
  have HB := Lib.hid hb
  clear hb
  go_wp2_with fail
  go_ret
  exact ⟨rfl, HB.out⟩
theorem vr_cells {w : World} {b off i : Nat} {VL : List Vr} {x : Vr} (h : kVr.At w b off VL) (hx : VL[i]? = some x) :
    w.cell? ⟨b, off + i * 3, none⟩ = some (.int .i64 x.v.id) ∧ w.cell? ⟨b, off + i * 3 + 1, none⟩ = some (.string x.v.label) ∧ w.cell? ⟨b, off + i * 3 + 2, none⟩ = some (.slice x.a x.v.ps.length x.c) :=
  ⟨h.cells i x hx 0 _ rfl, h.cells i x hx 1 _ rfl, h.cells i x hx 2 _ rfl⟩
theorem er_cells {w : World} {b off i : Nat} {EL : List Er} {x : Er} (h : kEr.At w b off EL) (hx : EL[i]? = some x) :
    w.cell? ⟨b, off + i * 5, none⟩ = some (.int .i64 x.e.id) ∧ w.cell? ⟨b, off + i * 5 + 1, none⟩ = some (.string x.e.label) ∧ w.cell? ⟨b, off + i * 5 + 2, none⟩ = some (.int .i64 x.e.fr) ∧ w.cell? ⟨b, off + i * 5 + 3, none⟩ = some (.int .i64 x.e.to) ∧ w.cell? ⟨b, off + i * 5 + 4, none⟩ = some (.slice x.a x.e.ps.length x.c) :=
  ⟨h.cells i x hx 0 _ rfl, h.cells i x hx 1 _ rfl, h.cells i x hx 2 _ rfl, h.cells i x hx 3 _ rfl, h.cells i x hx 4 _ rfl⟩
theorem en_cells {w : World} {B b n c : Nat} {l : List (ByteArray × ByteArray)} (h : EnO w B (.slice (some ⟨b, 0, none⟩) n c) l) {j : Nat} {e : ByteArray × ByteArray} (he : l[j]? = some e) :
    w.cell? ⟨b, j * 2, none⟩ = some (.string e.1) ∧ w.cell? ⟨b, j * 2 + 1, none⟩ = some (.string e.2) ∧ b < w.heap.size := by
  obtain ⟨b', cap, h1, h2, h3, h4⟩ := h.at' (fun hn => by rw [hn] at he; simp at he)
  injection h1 with e1 _ _
  injection e1 with e1
  injection e1 with e1
  subst e1
  exact ⟨(h4 j e he).1, (h4 j e he).2, h3⟩
theorem psV_chg {w w' : World} {S : Nat → Prop} {a : Option Addr} {l : List Pr} (h : PsV w a l) (hc : Chg w w' S) (hS : ∀ j, S j → ∀ o, w.cell? ⟨j, o, none⟩ = none) : PsV w' a l := fun hn => by
  obtain ⟨b, off, e, hat⟩ := h hn
  refine ⟨b, off, e, hat.of_block (hc.block b hat.lt (fun hb => ?_))⟩
  cases l with
  | nil => exact hn rfl
  | cons p l =>
    have := (hat.cells 0 p rfl).1
    rw [hS b hb] at this
    cases this
theorem below_turned {B m : Nat} {a b b' : World} (h : Below B a b) (hB : B ≤ a.heap.size) (ht : b.mapTurned b' m) (hm : B ≤ m) : Below B a b' := by
  have h1 : Chg a b (fun i => B ≤ i) := ⟨h.os, h.tape, h.output, Nat.le_trans (Nat.le_refl _) h.size, fun k _ hk => h.block k (by omega)⟩
  exact (h1.turned ht (fun _ => hm)).below hB (fun i hi => hi)
/-- after k cells were taken in -/
def So1 (w1 : World) (cb nb k : Nat) (wr : World) : Prop := (∃ n f, mapR wr Tryz.prog 41 cb n f ∧ CIf f ∧ n ≤ k) ∧ mapR wr Tryz.prog 9 nb 0 (fun _ => none) ∧ Below w1.heap.size w1 wr
theorem so1_none (w1 : World) : So1 w1 w1.heap.size (w1.heap.size + 1) 0 ((w1.alloc (.map #[] 0)).alloc (.map #[] 0)) := by
  have b1 := below_box w1 (.map #[] 0)
  have b2 := below_box (w1.alloc (.map #[] 0)) (.map #[] 0)
  have m1 := mapR_made w1 Tryz.prog 41
  have m2 := mapR_made (w1.alloc (.map #[] 0)) Tryz.prog 9
  rw [size_alloc] at m2
  exact ⟨⟨0, _, m1.of_block (b2.block _ m1.lt), fun _ _ _ _ => rfl, Nat.le_refl _⟩, m2, below_then b1 b2⟩
open Classical in
theorem So1.store {w1 wr w2 : World} {cb k n n' : Nat} {f : Lit → Option Value} {x : Wr} {o : Value} (h : So1 w1 cb (cb + 1) k wr) (hcb : cb = w1.heap.size) (hc : CIf f) (hn : n ≤ k) (hx : x.k.Ok) (hk : x.k.kind = 1 ∨ x.k.kind = 2) (X : Obj)
    (hm : mapR w2 Tryz.prog 41 cb n' (upd f x.k.lit (some o))) (hn' : n' = if (f x.k.lit).isSome then n else n + 1) (ht : (wr.alloc X).mapTurned w2 cb) : So1 w1 cb (cb + 1) (k + 1) w2 := by
  obtain ⟨_, m2, hb⟩ := h
  refine ⟨⟨n', _, hm, hc.upd hx hk _, by rw [hn']; split <;> omega⟩, m2.of_block ?_, ?_⟩
  · rw [turned_block ht (by omega)]
    exact (below_box wr X).block _ m2.lt
  · exact below_turned (hb.alloc hb.size X) (Nat.le_refl _) ht (by omega)
theorem i64_one : I64 1 := ⟨by decide, by decide⟩
theorem i64_two : I64 2 := ⟨by decide, by decide⟩
theorem ky_two {n : Int} (h : I64 n) : (⟨2, n, 0, ⟨#[]⟩⟩ : Ky).Ok := ⟨i64_two, h, i64_zero, Nat.zero_le _⟩
theorem ky_one {n : Int} (h : I64 n) : (⟨1, n, 0, ⟨#[]⟩⟩ : Ky).Ok := ⟨i64_one, h, i64_zero, Nat.zero_le _⟩
theorem chK_ok {n : Int} (h : I64 n) (out : Bool) : (chK n out).Ok ∧ (chK n out).kind ≠ 1 ∧ (chK n out).kind ≠ 2 := by
  cases out
  · exact ⟨⟨i64_four, h, i64_zero, Nat.zero_le _⟩, by show (4 : Int) ≠ 1; decide, by show (4 : Int) ≠ 2; decide⟩
  · exact ⟨⟨i64_three, h, i64_zero, Nat.zero_le _⟩, by show (3 : Int) ≠ 1; decide, by show (3 : Int) ≠ 2; decide⟩
theorem rtK_ok {s : ByteArray} (h : s.size ≤ maxLen) : (rtK s).Ok ∧ (rtK s).kind ≠ 1 ∧ (rtK s).kind ≠ 2 :=
  ⟨⟨i64_five, i64_zero, i64_zero, h⟩, by show (5 : Int) ≠ 1; decide, by show (5 : Int) ≠ 2; decide⟩
theorem entL_facts {id : Nat} {label : ByteArray} {ps : List Pr} (hl : label.size ≤ 200) (hk : ∀ p ∈ ps, p.key.size ≤ 200) (_hn : ps.length ≤ 16) : (entL id label ps).length = ps.length + 1 ∧ ∀ e ∈ entL id label ps, e.1.size ≤ 1000 := by
  unfold entL
  refine ⟨by simp, fun e he => ?_⟩
  rcases List.mem_cons.1 he with rfl | he
  · simp only [size_app]
    have : (⟨#[76]⟩ : ByteArray).size = 1 := rfl
    omega
  · obtain ⟨p, hp, rfl⟩ := List.mem_map.1 he
    have := hk p hp
    simp only [size_app]
    have e1 : (⟨#[80]⟩ : ByteArray).size = 1 := rfl
    have e2 : (⟨#[32]⟩ : ByteArray).size = 1 := rfl
    omega
/-- the entries of a vertex are laid by names: so far -/
def So4 (wa : World) (cb nb n cnt B b c nl : Nat) (L : List (ByteArray × ByteArray)) (wr : World) : Prop := SoJ wa cb nb n cnt wr ∧ EnO wr B (.slice (some ⟨b, 0, none⟩) nl c) L
theorem so4_put {wa wr W4 : World} {cb nb n cnt B b c nl yb : Nat} {L : List (ByteArray × ByteArray)} {q1 q2 : ByteArray} (h : So4 wa cb nb n cnt B b c nl L wr) (hcn : cb < nb ∧ nb < wa.heap.size) (hq : q1.size ≤ 1000) (hcnt : cnt ≤ 100000)
    (hW : W4 = wr.alloc (.cells #[.string q1, .string q2] 58)) (hyb : yb = wr.heap.size) : ∃ v4 l4, (∀ u : World, Below W4.heap.size W4 u → (Instr.lookup 87 (.map (some nb)) (.string q1) false).run Tryz.prog u = .ok v4 u) ∧ kT.Own W4 wa.heap.size v4 l4 ∧ l4.length + [q2.data.toList].length ≤ 4000000 ∧
      (∀ u v5 u5, Below W4.heap.size W4 u → kT.App u wa.heap.size v4 (l4 ++ [q2.data.toList]) v5 u5 → u5.cell? ⟨yb, 0, none⟩ = some (.string q1) ∧ u5.cell? ⟨yb, 1, none⟩ = some (.string q2)) ∧
      ∀ u v5 u5, Below W4.heap.size W4 u → kT.App u wa.heap.size v4 (l4 ++ [q2.data.toList]) v5 u5 → ∃ t1, (Instr.mapUpdate 87 (.map (some nb)) (.string q1) v5).run Tryz.prog u5 = .ok () t1 ∧ So4 wa cb nb n (cnt + 1) B b c nl L t1 ∧ t1.cell? ⟨yb, 0, none⟩ = some (.string q1) ∧ t1.cell? ⟨yb, 1, none⟩ = some (.string q2) := by
  obtain ⟨hj, hen⟩ := h
  have hbx := below_box wr (.cells #[.string q1, .string q2] 58)
  rw [← hW] at hbx
  have e4 : W4.heap[yb]? = some (.cells #[.string q1, .string q2] 58) := by rw [hW, hyb]; exact heap_new _ _
  obtain ⟨m, g, hnm⟩ := hj.nm
  have hs : q1.size ≤ maxLen := by unfold maxLen; omega
  obtain ⟨v4, l4, hlk, hown, hll, hn0, hn1⟩ := hnm.look hs
  have hown4 := hown.below hbx
  have hnbl := hnm.map.lt
  have hyl : yb < W4.heap.size := (Array.getElem?_eq_some_iff.1 e4).1
  have hS5 : ∀ u v5 u5, Below W4.heap.size W4 u → kT.App u wa.heap.size v4 (l4 ++ [q2.data.toList]) v5 u5 → u5.heap[yb]? = some (.cells #[.string q1, .string q2] 58) := fun u v5 u5 hu hA => by
    rw [hA.2.1.block yb (Nat.lt_of_lt_of_le hyl hu.size) (fun e => by have := (hown.lt yb e.symm).2; omega), hu.block yb hyl, e4]
  refine ⟨v4, l4, fun u hu => hlk u ((hu.block nb (Nat.lt_of_lt_of_le hnbl hbx.size)).trans (hbx.block nb hnbl)), hown4, by simp; omega, fun u v5 u5 hu hA => ?_, fun u v5 u5 hu hA => ?_⟩
  · have e5 := hS5 u v5 u5 hu hA
    exact ⟨by simpa using cell_of_blk e5 0, by simpa using cell_of_blk e5 1⟩
  · have e5 := hS5 u v5 u5 hu hA
    have hbu : Below wr.heap.size wr u := below_then hbx hu
    have hnu := hnm.below hbu
    have hou := hown.below hbu
    have hnb5 : u5.heap[nb]? = u.heap[nb]? := hA.2.1.block nb hnu.map.lt (fun e => by have := (hown.lt nb e.symm).1; omega)
    have m5 := hnu.map.of_block hnb5
    obtain ⟨t1, hrun, m1, t9⟩ := m5.store (val := v5) (string_keyed Tryz.underlying9) Tryz.underlying87 (by have := hnm.num; unfold maxLen; omega) (keyTxt hs)
    have hju := hj.below hbu
    refine ⟨t1, hrun, ⟨hju.put hcn.1 hnu hou hll (fun hg => hn0 hg) (fun y hy => (hn1 y hy).1) hA.1 hA.2.1 hA.2.2 m1 rfl t9, ?_⟩, ?_, ?_⟩
    · have heu := hen.below hbu
      refine ownsRow_of_block heu (fun j hjb => ?_)
      have hjl := heu.lt j hjb
      have hcell : ∃ cur, u.heap[j]? = some (.cells cur 58 (0, 0)) := by
        rcases heu.2 with ⟨h1, _⟩ | ⟨g1, cap, cur, h1, h2, h3, _⟩
        · cases h1
        · rw [h1] at hjb
          injection hjb with hjb
          subst hjb
          exact ⟨cur, h3⟩
      obtain ⟨cur, hcur⟩ := hcell
      rw [turned_block t9 (fun e => by
        subst e
        have := map_no_cell hnu.map 0
        obtain ⟨D, ⟨es, clock, hb, _⟩, _⟩ := hnu.map
        rw [hb] at hcur; cases hcur)]
      refine hA.2.1.block j hjl.2 (fun e => ?_)
      rcases hou.2 with ⟨h1, _⟩ | ⟨g1, cap, cur1, h1, h2, h3, _⟩
      · rw [h1] at e; cases e
      · rw [h1] at e
        injection e with e
        subst e
        rw [h3] at hcur
        injection hcur with hcur
        injection hcur with _ ht
        exact absurd ht (by decide)
    · rw [turned_cell t9, cell_of_blk e5]; rfl
    · rw [turned_cell t9, cell_of_blk e5]; rfl
end Go.Proofs.YtkbmipmegljidaaGreat
namespace Go.Proofs.YtkbmipmegljidaaGreat
open Go.RowKit Go.Maps

set_option maxRecDepth 100000 in
set_option maxHeartbeats 8000000 in
theorem sound_ok (a : Option Addr) (cap : Nat) (V : List Vt) (E : List Eg) (w : World) (hv : kW.V w a (wsOf V E)) (hP : PGo V E) (hf : FitG V E) (h1 : V.length ≤ 1000) (h2 : E.length ≤ 1000) :
    Calls Tryz.prog 15 #[.slice a (wsOf V E).length cap] w (WsdPost w ((wsOf V E).length == 0)) := by
  have HGR := Lib.hid (graph_ok a cap V E w hv hP hf h1 h2)
  obtain ⟨zs, hzs⟩ : ∃ zs, zs = wsOf V E := ⟨_, rfl⟩
  have hlen : zs.length = V.length + E.length := by rw [hzs]; exact wsOf_len V E
  have HZ : Hid (∀ x ∈ zs, x.has = true ∧ x.k.Ok ∧ (x.k.kind = 1 ∨ x.k.kind = 2)) := Lib.hid fun x hx => by
    rw [hzs] at hx
    rcases List.mem_append.1 hx with h | h
    · obtain ⟨v, hvm, rfl⟩ := List.mem_map.1 h
      exact ⟨rfl, ky_one (checkR_ids (hP.v v hvm) (by simp)), .inl rfl⟩
    · obtain ⟨e, hem, rfl⟩ := List.mem_map.1 h
      exact ⟨rfl, ky_two (checkR_ids (hP.e e hem) (by simp)), .inr rfl⟩
  have HV : Hid (kW.V w a zs) := Lib.hid (by rw [hzs]; exact hv)
  rw [← hzs] at HGR ⊢
  obtain ⟨n, hn⟩ : ∃ n, n = zs.length := ⟨_, rfl⟩
  have hn2 : n ≤ 2000 := by omega
  have HN : Hid (n = zs.length ∧ n = V.length + E.length) := Lib.hid ⟨hn, by omega⟩
  have HLE : Hid (V.length ≤ 1000 ∧ E.length ≤ 1000) := Lib.hid ⟨h1, h2⟩
  have HP := Lib.hid hP
  have HFT := Lib.hid hf
  rw [← hn] at HGR ⊢
  obtain ⟨q0, hq0⟩ : ∃ q, q = (n == 0) := ⟨_, rfl⟩
  have HQ := Lib.hid hq0
  rw [← hq0]
  clear hv hP hf h1 h2 hzs hlen hn hq0
  go_enter Tryz.func15, Tryz.ntmps15
  go_wp2_with fail
  refine HGR.out.mono ?_
  rintro e w1 ⟨gb, vb, eb, rfl, hg1, hb1, hgl⟩
  have HG1 := Lib.hid hg1
  have HB1 := Lib.hid hb1
  obtain ⟨cb, hcb⟩ : ∃ cb, cb = w1.heap.size := ⟨_, rfl⟩
  have HCB := Lib.hid hcb
  have HI0 : Hid (So1 w1 cb (cb + 1) 0 ((w1.alloc (.map #[] 0)).alloc (.map #[] 0))) := Lib.hid (by rw [hcb]; exact so1_none w1)
  clear hg1 hb1 hgl hcb HGR
  have hmm := @run_makeMap Tryz.prog
  go_wp2_with fail
  clear hmm
  rw [← HCB.out]
  go_loopw [36] (fun i wr => ∃ k : Nat, k ≤ n ∧ i = .int .i64 k ∧ Hid (So1 w1 cb (cb + 1) k wr)) (fun i _ => n - (intOf i).toNat)
  case atStart => exact ⟨0, by omega, rfl, HI0⟩
  case round =>
    obtain ⟨k, hk, rfl, HR⟩ := hrel
    clear HI0
    by_cases hlt : k < n
    · as_aux_lemma =>
        obtain ⟨x, hx⟩ : ∃ x, zs[k]? = some x := ⟨_, List.getElem?_eq_getElem (by rw [← HN.out.1]; exact hlt)⟩
        obtain ⟨hhas, hok, hkd⟩ := HZ.out x (List.mem_of_getElem? hx)
        obtain ⟨⟨n0, f0, m0, ci0, le0⟩, _, hb0⟩ := HR.out
        obtain ⟨b, off, rfl, hat⟩ := (HV.out.below (HB1.out.trans (hb0.mono HB1.out.size))) (fun e => by rw [e] at hx; simp at hx)
        obtain ⟨d0, d1, d2, d3, d4, d5⟩ := kW_cells hat hx
        rw [hhas] at d5
        have z5 : ¬ x.k.kind = 5 := by omega
        obtain ⟨X, hX⟩ : ∃ X, X = Obj.cells #[.int .i64 x.k.kind, .int .i64 x.k.a, .int .i64 x.k.b, .string x.k.s, .string x.val, .bool true] 44 (0, 0) := ⟨_, rfl⟩
        have HM : Hid (mapR (wr.alloc X) Tryz.prog 41 cb n0 f0) := Lib.hid (m0.of_block ((below_box wr X).block _ m0.lt))
        have HX := Lib.hid hX
        rw [hX] at HM
        have HK := Lib.hid (keyK hok)
        have hnl : n0 < maxLen := by unfold maxLen; omega
        have HS := Lib.hid (And.intro ci0 (And.intro le0 (And.intro hok hkd)))
        clear hx hhas hok hkd m0 ci0 le0 hb0 hat hX
        go_wp2_with (first | (at_mapUpdate; refine wpList_store _ rfl _ _ _ 86 rfl 41 9 lawKey Tryz.underlying86 cb n0 f0 rfl HM.out hnl _ (.string x.val) _ rfl rfl HK.out ?_; intro w2 m2 t2 c2 f2 z2) | fail)
        have HF : Hid (So1 w1 cb (cb + 1) (k + 1) w2) := Lib.hid (HR.out.store HCB.out HS.out.1 HS.out.2.1 HS.out.2.2.1 HS.out.2.2.2 X m2 rfl (by rw [HX.out]; exact t2))
        exact ⟨⟨k + 1, by omega, by go_num, HF⟩, by simp [intOf]; omega⟩
    · obtain rfl : k = n := by omega
      clear hlt
      go_wp2_with fail
      refine (gall_any gb vb eb V E wr (HG1.out.below HR.out.2.2) (by have := HLE.out; omega) (by have := HLE.out; omega)).mono ?_
      rintro e wa ⟨v1, v2, VL, EL, rfl, rv, re, hVL, hEL, hba⟩
      obtain ⟨a1, c1, rfl⟩ := rv.o.shape
      obtain ⟨a2, c2, rfl⟩ := re.o.shape
      obtain ⟨nb, hnb⟩ : ∃ nb, nb = cb + 1 := ⟨_, rfl⟩
      have hSo := HR.out
      rw [← hnb] at hSo ⊢
      obtain ⟨⟨n0, f0, m0, ci0, le0⟩, mn0, hb0⟩ := hSo
      have hnbl := mn0.lt
      have hw1a : Below w1.heap.size w1 wa := hb0.trans (hba.mono hb0.size)
      have hma := mn0.of_block (hba.block _ hnbl)
      have hmc := m0.of_block (hba.block _ m0.lt)
      have HCN : Hid (cb < nb ∧ nb < wa.heap.size) := Lib.hid ⟨by omega, Nat.lt_of_lt_of_le hnbl hba.size⟩
      have HBX : Hid (∀ u, Chg wa u (fun i => i = cb ∨ i = nb) → Below w1.heap.size w1 u) := Lib.hid fun u hu => hw1a.trans (hu.below hw1a.size (fun i hi => by have := HCB.out; omega))
      have HBW : Hid (∀ u, Chg wa u (fun i => i = cb ∨ i = nb) → Below w.heap.size w u) := Lib.hid fun u hu => HB1.out.trans ((HBX.out u hu).mono HB1.out.size)
      have HGX : Hid (∀ u, Chg wa u (fun i => i = cb ∨ i = nb) → GrC u gb vb eb V E) := Lib.hid fun u hu => HG1.out.below (HBX.out u hu)
      have HVX : Hid (∀ u, Chg wa u (fun i => i = cb ∨ i = nb) → kVr.V u a1 VL ∧ ∀ x ∈ VL, PsV u x.a x.v.ps) := Lib.hid fun u hu =>
        ⟨(rv.o.chg hu (fun j hj hS => by have := (rv.o.lt j hj).1; omega)).toV, fun x hx => psV_chg (rv.p x hx).1.v hu (fun j hj o => by
          rcases hj with rfl | rfl
          · exact map_no_cell hmc o
          · exact map_no_cell hma o)⟩
      have HEX : Hid (∀ u, Chg wa u (fun i => i = cb ∨ i = nb) → kEr.V u a2 EL) := Lib.hid fun u hu => (re.o.chg hu (fun j hj hS => by have := (re.o.lt j hj).1; omega)).toV
      have HJ0 : Hid (SoJ wa cb nb k 0 wa) := Lib.hid ⟨⟨n0, f0, hmc, ci0, le0⟩, ⟨0, _, NmW.made0 hma HCN.out.2⟩, Chg.refl _ _⟩
      obtain ⟨nv, hnv⟩ : ∃ nv, nv = VL.length := ⟨_, rfl⟩
      obtain ⟨ne, hne⟩ : ∃ ne, ne = EL.length := ⟨_, rfl⟩
      have hvl : VL.length = V.length := by rw [← hVL]; simp
      have hel : EL.length = E.length := by rw [← hEL]; simp
      have hnv2 : nv ≤ 1000 := by have := HLE.out; omega
      have hne2 : ne ≤ 1000 := by have := HLE.out; omega
      have HNV : Hid (nv = VL.length ∧ ne = EL.length ∧ k = nv + ne ∧ (nv = 0 → ne = 0)) := Lib.hid ⟨hnv, hne, by have := HN.out.2; omega, fun h0 => by
        have hV0 : V = [] := List.eq_nil_of_length_eq_zero (by omega)
        have := wsOf_nil HP.out hV0
        rw [this] at hel
        simp at hel
        rw [hne, hel]; rfl⟩
      have HVI : Hid (∀ x ∈ VL, x.v ∈ V) := Lib.hid fun x hx => by rw [← hVL]; exact List.mem_map_of_mem hx
      have HEI : Hid (∀ x ∈ EL, I64 x.e.id) := Lib.hid fun x hx => by
        have : x.e ∈ E := by rw [← hEL]; exact List.mem_map_of_mem hx
        exact checkR_ids (HP.out.e _ this) (by simp)
      rw [← hnv, ← hne]
      clear rv re hVL hEL hba hnb hnbl m0 ci0 le0 mn0 hb0 hw1a hma hmc hnv hne hvl hel HR HG1 HB1 HCB HZ HV HLE
      go_wp2_with fail
      go_loopw [67] (fun i wr => ∃ j : Nat, j ≤ ne ∧ i = .int .i64 j ∧ Hid (SoJ wa cb nb k 0 wr)) (fun i _ => ne - (intOf i).toNat)
      case atStart => exact ⟨0, by omega, rfl, HJ0⟩
      case round =>
        obtain ⟨j, hj, rfl, HR2⟩ := hrel
        clear HJ0
        by_cases hlt : j < ne
        · as_aux_lemma =>
            obtain ⟨x, hx⟩ : ∃ x, EL[j]? = some x := ⟨_, List.getElem?_eq_getElem (by rw [← HNV.out.2.1]; exact hlt)⟩
            obtain ⟨b, off, rfl, hat⟩ := (HEX.out _ HR2.out.chg) (fun e => by rw [e] at hx; simp at hx)
            obtain ⟨d0, d1, d2, d3, d4⟩ := er_cells hat hx
            have HID := Lib.hid (ky_two (HEI.out x (List.mem_of_getElem? hx)))
            obtain ⟨id, lab, fr, to', pa, pn, pc, hxe⟩ : ∃ id lab fr to' pa pn pc, x.e.id = id ∧ x.e.label = lab ∧ x.e.fr = fr ∧ x.e.to = to' ∧ x.a = pa ∧ x.e.ps.length = pn ∧ x.c = pc := ⟨_, _, _, _, _, _, _, rfl, rfl, rfl, rfl, rfl, rfl, rfl⟩
            obtain ⟨i1, i2, i3, i4, i5, i6, i7⟩ := hxe
            rw [i1] at d0 HID
            rw [i2] at d1
            rw [i3] at d2
            rw [i4] at d3
            rw [i5, i6, i7] at d4
            have HBB := Lib.hid (below_box wr (.cells #[.int .i64 id, .string lab, .int .i64 fr, .int .i64 to', .slice pa pn pc] 32))
            clear hx hat i1 i2 i3 i4 i5 i6 i7 HEX HVX HGX HVI HEI
            go_wp2_with fail
            refine (edgeKey_any id _).mono ?_
            rintro e w5 ⟨rfl, hb5⟩
            have hJ5 := HR2.out.below (below_then HBB.out hb5)
            obtain ⟨n5, f5, m5, ci5, le5⟩ := hJ5.ex
            have HJ5 := Lib.hid hJ5
            have HC5 := Lib.hid (And.intro ci5 le5)
            have HK5 := Lib.hid (keyK HID.out)
            have HM5 := Lib.hid m5
            clear hJ5 ci5 le5 m5 hb5 d0 d1 d2 d3 d4
            go_wp2_with (first | (at_delete; refine wpList_drop _ rfl _ _ 86 41 rfl 9 lawKey Tryz.underlying86 cb n5 f5 rfl HM5.out _ _ rfl HK5.out ?_; intro w2 n' hn' m2 t2 d2 f2 z2) | fail)
            have HF : Hid (SoJ wa cb nb k 0 w2) := Lib.hid (HJ5.out.drop HCN.out.1 HC5.out.1 HC5.out.2 HID.out (.inr rfl) hn' m2 t2)
            exact ⟨⟨j + 1, by omega, by go_num, HF⟩, by simp [intOf]; omega⟩
        · obtain rfl : j = ne := by omega
          clear hlt
          have HJ1 := HR2
          clear HR2 HEX HEI
          go_wp2_with fail
          go_loopw [78] (fun i wr => ∃ j cnt : Nat, j ≤ nv ∧ i = .int .i64 j ∧ Hid (SoJ wa cb nb k cnt wr ∧ j ≤ cnt ∧ cnt ≤ j * 17)) (fun i _ => nv - (intOf i).toNat)
          case atStart => exact ⟨0, 0, by omega, rfl, Lib.hid ⟨HJ1.out, Nat.le_refl _, by omega⟩⟩
          case round =>
            obtain ⟨j, cnt, hj, rfl, HR3⟩ := hrel
            clear HJ1
            by_cases hlt : j < nv
            · as_aux_lemma =>
                obtain ⟨x, hx⟩ : ∃ x, VL[j]? = some x := ⟨_, List.getElem?_eq_getElem (by rw [← HNV.out.1]; exact hlt)⟩
                obtain ⟨b, off, rfl, hat⟩ := (HVX.out _ HR3.out.1.chg).1 (fun e => by rw [e] at hx; simp at hx)
                obtain ⟨d0, d1, d2⟩ := vr_cells hat hx
                have hxm : x ∈ VL := List.mem_of_getElem? hx
                have hxv := HVI.out x hxm
                have hck := HP.out.v _ hxv
                obtain ⟨hfl, hfk⟩ := HFT.out.v _ hxv
                obtain ⟨vi, hvi, hvl⟩ : ∃ m : Nat, x.v.id = m ∧ m < 1099511627776 := idB_ok (by have := (checkR_zero hck).1; simpa using this)
                have HPX : Hid (∀ u, Chg wa u (fun i => i = cb ∨ i = nb) → PsV u x.a x.v.ps) := Lib.hid fun u hu => (HVX.out u hu).2 x hxm
                have hps16 := checkR_ps hck
                have hid0 : I64 x.v.id := checkR_ids hck (by simp)
                have hq0 : q0 = false := by
                  rw [HQ.out]
                  have := HNV.out.2.2.1
                  simp; omega
                obtain ⟨L, hL⟩ : ∃ L, L = entL vi x.v.label x.v.ps := ⟨_, rfl⟩
                obtain ⟨hLl, hLs⟩ := entL_facts (id := vi) hfl (fun p hp => (hfk p hp).1) hps16
                rw [← hL] at hLl hLs
                have HLL0 : Hid (1 ≤ L.length ∧ L.length ≤ 17 ∧ ∀ e ∈ L, e.1.size ≤ 1000) := Lib.hid ⟨by omega, by omega, hLs⟩
                have HE : Hid (∀ u, Chg wa u (fun i => i = cb ∨ i = nb) → Calls Tryz.prog 16 #[.agg #[.int .i64 x.v.id, .string x.v.label, .slice x.a x.v.ps.length x.c]] u (EnPost u L)) := Lib.hid fun u hu => by
                  rw [hvi, hL]
                  exact entries_any vi x.v.label x.a x.c x.v.ps u hfl (HPX.out u hu) (by omega) (fun p hp => (hfk p hp).1) (by rw [← hvi]; exact hck)
                obtain ⟨id, lab, pa, pn, pc, i1, i2, i5, i6, i7⟩ : ∃ id lab pa pn pc, x.v.id = id ∧ x.v.label = lab ∧ x.a = pa ∧ x.v.ps.length = pn ∧ x.c = pc := ⟨_, _, _, _, _, rfl, rfl, rfl, rfl, rfl⟩
                rw [i1] at d0 hid0
                rw [i2] at d1
                rw [i5, i6, i7] at d2
                rw [i1, i2, i5, i6, i7] at HE
                obtain ⟨W0, hW0⟩ : ∃ W0, W0 = wr.alloc (.cells #[.int .i64 id, .string lab, .slice pa pn pc] 30) := ⟨_, rfl⟩
                obtain ⟨xb, hxb⟩ : ∃ xb, xb = wr.heap.size := ⟨_, rfl⟩
                have hbx : Below wr.heap.size wr W0 := by rw [hW0]; exact below_box wr _
                have e0 : W0.heap[xb]? = some (.cells #[.int .i64 id, .string lab, .slice pa pn pc] 30 (0, 0)) := by rw [hW0, hxb]; exact heap_new _ _
                have hxc : cb < xb := by
                  obtain ⟨_, _, m, _⟩ := HR3.out.1.ex
                  rw [hxb]; exact m.lt
                have HX0 : Hid (∀ u, Chg W0 u (fun i => i = cb) → u.cell? ⟨xb, 0, none⟩ = some (.int .i64 id) ∧ u.cell? ⟨xb, 1, none⟩ = some (.string lab) ∧ u.cell? ⟨xb, 2, none⟩ = some (.slice pa pn pc)) := Lib.hid fun u hu => by
                  have e := (hu.block xb (Array.getElem?_eq_some_iff.1 e0).1 (by omega)).trans e0
                  exact ⟨by simpa using cell_of_blk e 0, by simpa using cell_of_blk e 1, by simpa using cell_of_blk e 2⟩
                have HJ00 := Lib.hid (HR3.out.1.below hbx)
                have HW0 := Lib.hid hW0
                have HXB := Lib.hid hxb
                have HKO := Lib.hid (ky_one hid0)
                have HCHT := Lib.hid (chK_ok hid0 true)
                have HCHF := Lib.hid (chK_ok hid0 false)
                have HID := Lib.hid hid0
                have HCNT : Hid (j ≤ cnt ∧ cnt ≤ j * 17) := Lib.hid HR3.out.2
                have HE2 : Hid (E.length ≤ 1000000) := Lib.hid (by have h1 := HN.out; have h2 := HNV.out; omega)
                clear hx hat hxm hxv hck hfl hfk hvi hvl hps16 hid0 hL hLl hLs i1 i2 i5 i6 i7 hW0 hxb hbx e0 hxc HR3 HPX HVI HVX HP HFT
                go_wp2_with fail
                rw [← HXB.out, ← HW0.out]
                refine (vertexKey_any id _).mono ?_
                rintro e w5 ⟨rfl, hb5⟩
                have hJ5 := HJ00.out.below hb5
                obtain ⟨n5, f5, m5, ci5, le5⟩ := hJ5.ex
                have c5 := (HX0.out w5 (Chg.of_below hb5 _)).1
                have HJ5 := Lib.hid hJ5
                have HC5 := Lib.hid (And.intro ci5 le5)
                have HK5 := Lib.hid (keyK HKO.out)
                have HM5 := Lib.hid m5
                have HB5 := Lib.hid hb5
                clear hJ5 ci5 le5 m5 hb5 d0 d1 d2
                go_wp2_with (first | (at_delete; refine wpList_drop _ rfl _ _ 86 41 rfl 9 lawKey Tryz.underlying86 cb n5 f5 rfl HM5.out _ _ rfl HK5.out ?_; intro w6 n' hn' m2 t2 dd2 f2 z2) | fail)
                have hJ6 := HJ5.out.drop HCN.out.1 HC5.out.1 HC5.out.2 HKO.out (.inl rfl) hn' m2 t2
                have HC6 : Hid (Chg W0 w6 (fun i => i = cb)) := Lib.hid ((Chg.of_below HB5.out _).turned t2 (fun _ => rfl))
                obtain ⟨n6, f6, m6, ci6, le6⟩ := hJ6.ex
                have HJ6 := Lib.hid hJ6
                have HCC : Hid (Calls Tryz.prog 31 #[.map (some cb), .int .i64 id, .bool true] w6 fun e w' => e = .returned (.tuple #[.slice none 0 0, .bool true]) ∧ Below w6.heap.size w6 w') := Lib.hid (chain_no id true _ m6 HID.out (ci6 _ HCHT.out.1 HCHT.out.2.1 HCHT.out.2.2))
                clear hJ6 hn' m2 t2 dd2 f2 z2 c5 m6 ci6 le6 HJ5 HC5 HK5 HM5 HB5
                refine HCC.out.mono ?_
                rintro e w7 ⟨rfl, hb7⟩
                have hJ7 := HJ6.out.below hb7
                have HC7 : Hid (Chg W0 w7 (fun i => i = cb)) := Lib.hid (HC6.out.trans (Chg.of_below hb7 _) (fun _ _ h => h))
                have c7 := (HX0.out w7 HC7.out).1
                obtain ⟨n7, f7, m7, ci7, le7⟩ := hJ7.ex
                have HJ7 := Lib.hid hJ7
                have HCD : Hid (Calls Tryz.prog 31 #[.map (some cb), .int .i64 id, .bool false] w7 fun e w' => e = .returned (.tuple #[.slice none 0 0, .bool true]) ∧ Below w7.heap.size w7 w') := Lib.hid (chain_no id false _ m7 HID.out (ci7 _ HCHF.out.1 HCHF.out.2.1 HCHF.out.2.2))
                clear hJ7 hb7 m7 ci7 le7 HJ6 HC6 HCC
                go_wp2_with fail
                refine HCD.out.mono ?_
                rintro e w8 ⟨rfl, hb8⟩
                have HJ8 := Lib.hid (HJ7.out.below hb8)
                have HC8 : Hid (Chg W0 w8 (fun i => i = cb)) := Lib.hid (HC7.out.trans (Chg.of_below hb8 _) (fun _ _ h => h))
                have c8 := (HX0.out w8 HC8.out).1
                clear hb8 c7 HJ7 HC7 HCD
                go_wp2_with fail
                refine (gout_any gb vb eb V E id _ (HGX.out w8 HJ8.out.chg) HE2.out).mono ?_
                rintro e w9 ⟨v9, rfl, ho9, hb9⟩
                obtain ⟨a9, c9, rfl⟩ := ho9.shape
                obtain ⟨l9, hl9⟩ : ∃ l9, (idsE E (outP id)).length = l9 := ⟨_, rfl⟩
                rw [hl9]
                have HJ9 := Lib.hid (HJ8.out.below hb9)
                have HC9 : Hid (Chg W0 w9 (fun i => i = cb)) := Lib.hid (HC8.out.trans (Chg.of_below hb9 _) (fun _ _ h => h))
                have c09 := (HX0.out w9 HC9.out).1
                clear hb9 c8 ho9 hl9 HJ8 HC8
                go_wp2_with fail
                refine (equalI_nil a9 l9 c9 _).mono ?_
                rintro e w9' ⟨rfl, hw9⟩
                subst hw9
                obtain ⟨q9, hq9⟩ : ∃ q, (l9 == 0) = q := ⟨_, rfl⟩
                rw [hq9]
                clear hq9
                cases q9
                · as_aux_lemma =>
                    go_wp2_with fail
                    go_ret
                    exact ⟨by rw [hq0]; rfl, HBW.out _ HJ9.out.chg⟩
                · go_wp2_with fail
                  refine (gin_any gb vb eb V E id _ (HGX.out _ HJ9.out.chg) HE2.out).mono ?_
                  rintro e w10 ⟨v10, rfl, ho10, hb10⟩
                  obtain ⟨a10, c10, rfl⟩ := ho10.shape
                  obtain ⟨l10, hl10⟩ : ∃ l10, (idsE E (inP id)).length = l10 := ⟨_, rfl⟩
                  rw [hl10]
                  have HJ10 := Lib.hid (HJ9.out.below hb10)
                  have HC10 : Hid (Chg W0 w10 (fun i => i = cb)) := Lib.hid (HC9.out.trans (Chg.of_below hb10 _) (fun _ _ h => h))
                  obtain ⟨e0, e1, e2⟩ := HX0.out w10 HC10.out
                  clear hb10 c09 ho10 hl10 HJ9 HC9
                  go_wp2_with fail
                  refine (equalI_nil a10 l10 c10 _).mono ?_
                  rintro e w10' ⟨rfl, hw10⟩
                  subst hw10
                  obtain ⟨q10, hq10⟩ : ∃ q, (l10 == 0) = q := ⟨_, rfl⟩
                  rw [hq10]
                  clear hq10
                  cases q10
                  · as_aux_lemma =>
                      go_wp2_with fail
                      go_ret
                      exact ⟨by rw [hq0]; rfl, HBW.out _ HJ10.out.chg⟩
                  · go_wp2_with fail
                    refine (HE.out _ HJ10.out.chg).mono ?_
                    rintro e w12 ⟨r, rfl, hen, hb12⟩
                    obtain ⟨b12, c12, hr, hB12, hlt12, _⟩ := hen.at' (fun e => by have := HLL0.out.1; rw [e] at this; simp at this)
                    obtain ⟨nl, hnl⟩ : ∃ nl, nl = L.length := ⟨_, rfl⟩
                    have hnl17 : nl ≤ 17 := by rw [hnl]; exact HLL0.out.2.1
                    rw [← hnl] at hr
                    rw [hr]
                    rw [hr] at hen
                    obtain ⟨B, hB⟩ : ∃ B, B = w10'.heap.size := ⟨_, rfl⟩
                    rw [← hB] at hen
                    have HNL := Lib.hid hnl
                    have HI4 : Hid (So4 wa cb nb k (cnt + 0) B b12 c12 nl L w12) := Lib.hid ⟨HJ10.out.below hb12, hen⟩
                    clear hr hB12 hlt12 hen hnl hB hb12 e0 e1 e2 HJ10 HC10
                    go_wp2_with fail
                    go_loopw [127] (fun i wr => ∃ i4 : Nat, i4 ≤ nl ∧ i = .int .i64 i4 ∧ Hid (So4 wa cb nb k (cnt + i4) B b12 c12 nl L wr)) (fun i _ => nl - (intOf i).toNat)
                    case atStart => exact ⟨0, by omega, rfl, HI4⟩
                    case round =>
                      obtain ⟨i4, hi4, rfl, HR4⟩ := hrel
                      clear HI4
                      by_cases hl4 : i4 < nl
                      · as_aux_lemma =>
                          obtain ⟨⟨q1, q2⟩, hq⟩ : ∃ e, L[i4]? = some e := ⟨_, List.getElem?_eq_getElem (by rw [← HNL.out]; exact hl4)⟩
                          obtain ⟨g0, g1, g2⟩ := en_cells HR4.out.2 hq
                          simp only at g0 g1
                          obtain ⟨W4, hW4⟩ : ∃ W4, W4 = wr.alloc (.cells #[.string q1, .string q2] 58) := ⟨_, rfl⟩
                          obtain ⟨yb, hyb⟩ : ∃ yb, yb = wr.heap.size := ⟨_, rfl⟩
                          have e4 : W4.heap[yb]? = some (.cells #[.string q1, .string q2] 58 (0, 0)) := by rw [hW4, hyb]; exact heap_new _ _
                          have HS : Hid (∀ u, Below W4.heap.size W4 u → u.cell? ⟨yb, 0, none⟩ = some (.string q1) ∧ u.cell? ⟨yb, 1, none⟩ = some (.string q2)) := Lib.hid fun u hu => by
                            have e := (hu.block yb (Array.getElem?_eq_some_iff.1 e4).1).trans e4
                            exact ⟨by simpa using cell_of_blk e 0, by simpa using cell_of_blk e 1⟩
                          obtain ⟨v4, l4, hlk, hown, hll, hs5, hput⟩ := so4_put (yb := yb) (W4 := W4) (q1 := q1) (q2 := q2) HR4.out HCN.out (HLL0.out.2.2 _ (List.mem_of_getElem? hq)) (by have h1 := HCNT.out; have h2 := HLL0.out.2.1; have h3 := HNL.out; omega) hW4 hyb
                          have HLK := Lib.hid hlk
                          have HOW := Lib.hid hown
                          have HLL := Lib.hid hll
                          have HS5 := Lib.hid hs5
                          have HPUT := Lib.hid hput
                          have HBA : Hid (wa.heap.size ≤ W4.heap.size) := Lib.hid (by rw [hW4, size_alloc]; have := HR4.out.1.chg.size; omega)
                          have HW4 := Lib.hid hW4
                          have HYB := Lib.hid hyb
                          clear hq e4 hlk hown hll hs5 hput hW4 hyb HLL0 HNL HCNT HE HX0 HJ00
                          go_upto_region 30 with fail
                          rw [← HYB.out, ← HW4.out]
                          refine wp_region_held_drew (S := (fun w' : World => w'.cell? ⟨yb, 0, none⟩ = some (.string q1) ∧ w'.cell? ⟨yb, 1, none⟩ = some (.string q2))) (by kernel_rfl) (HS.out _ (below_drewN (Below.refl _ _) 1)) (fun hHeld => ?_)
                          obtain ⟨X4, hGen⟩ : ∃ u, u = World.drew W4 := ⟨_, rfl⟩
                          rw [← hGen] at hHeld ⊢
                          have HX4 : Hid (Below W4.heap.size W4 X4) := Lib.hid (by rw [hGen]; exact below_drewN (Below.refl _ _) 1)
                          clear hGen
                          refine wpAnyH_take (i := 0) (oi := ⟨some 131, _, _, _, _, _⟩) (v := ?vvz1) rfl (by kernel_rfl) (by kernel_rfl) (by kernel_rfl) (fun _ _ _ h => h) (Or.inl ⟨by rfl, ?yyz1⟩) hHeld ?rrz1
                          case yyz1 => (intro wq hSw; (try dsimp only at hSw); go_simp; first | done | with_reducible rfl)
                          simp only [Act.put, List.setIfInBounds_toArray, List.set_cons_zero, List.set_cons_succ]
                          refine wpAnyH_take (i := 1) (oi := ⟨some 132, _, _, _, _, _⟩) (v := ?vvz2) rfl (by kernel_rfl) (by kernel_rfl) (by kernel_rfl) (fun _ _ _ h => h) (Or.inl ⟨by rfl, ?yyz2⟩) hHeld ?rrz2
                          case yyz2 => (intro wq hSw; (try dsimp only at hSw); go_simp; first | done | with_reducible rfl)
                          simp only [Act.put, List.setIfInBounds_toArray, List.set_cons_zero, List.set_cons_succ]
                          refine wpAnyH_take (i := 2) (oi := ⟨some 133, _, _, _, _, _⟩) (v := ?vvz3) rfl (by kernel_rfl) (by kernel_rfl) (by kernel_rfl) (fun _ _ _ h => h) (Or.inl ⟨by rfl, ?yyz3⟩) hHeld ?rrz3
                          case yyz3 => (intro wq hSw; (try dsimp only at hSw); go_simp; first | done | with_reducible rfl)
                          simp only [Act.put, List.setIfInBounds_toArray, List.set_cons_zero, List.set_cons_succ]
                          refine wpAnyH_take (i := 3) (oi := ⟨some 134, _, _, _, _, _⟩) (v := ?vvz4) rfl (by kernel_rfl) (by kernel_rfl) (by kernel_rfl) (fun _ _ _ h => h) (Or.inl ⟨by rfl, ?yyz4⟩) hHeld ?rrz4
                          case yyz4 => (intro wq hSw; (try dsimp only at hSw); go_simp; first | done | with_reducible rfl)
                          simp only [Act.put, List.setIfInBounds_toArray, List.set_cons_zero, List.set_cons_succ]
                          refine wpAnyH_take (i := 4) (oi := ⟨some 135, _, _, _, _, _⟩) (v := ?vvz5) rfl (by kernel_rfl) (by kernel_rfl) (by kernel_rfl) (fun _ _ _ h => h) (Or.inl ⟨by rfl, ?yyz5⟩) hHeld ?rrz5
                          case yyz5 => (intro wq hSw; (try dsimp only at hSw); go_simp; first | done | with_reducible rfl)
                          simp only [Act.put, List.setIfInBounds_toArray, List.set_cons_zero, List.set_cons_succ]
                          refine wpAnyH_take (i := 5) (oi := ⟨some 136, _, _, _, _, _⟩) (v := ?vvz6) rfl (by kernel_rfl) (by kernel_rfl) (by kernel_rfl) (fun _ _ _ h => h) (Or.inl ⟨by rfl, ?yyz6⟩) hHeld ?rrz6
                          case yyz6 => (intro wq hSw; (try dsimp only at hSw); go_simp; first | done | with_reducible rfl)
                          simp only [Act.put, List.setIfInBounds_toArray, List.set_cons_zero, List.set_cons_succ]
                          refine wpAnyH_take (i := 7) (oi := ⟨some 138, _, _, _, _, _⟩) (v := ?vvz7) rfl (by kernel_rfl) (by kernel_rfl) (by kernel_rfl) (fun _ _ _ h => h) (Or.inl ⟨by rfl, ?yyz7⟩) hHeld ?rrz7
                          case yyz7 => (intro wq hSw; (try dsimp only at hSw); go_simp; first | done | with_reducible rfl)
                          simp only [Act.put, List.setIfInBounds_toArray, List.set_cons_zero, List.set_cons_succ]
                          refine wpAnyH_take (i := 8) (oi := ⟨some 139, _, _, _, _, _⟩) (v := ?vvz8) rfl (by kernel_rfl) (by kernel_rfl) (by kernel_rfl) (fun _ _ _ h => h) (Or.inl ⟨by rfl, ?yyz8⟩) hHeld ?rrz8
                          case yyz8 => (intro wq hSw; (try dsimp only at hSw); go_simp; first | done | with_reducible rfl)
                          simp only [Act.put, List.setIfInBounds_toArray, List.set_cons_zero, List.set_cons_succ]
                          refine wpAnyH_ready (rs := [6, 9]) (by kernel_rfl) (by simp) ?_
                          refine AllReadyH.cons (o := ⟨some 137, _, _, _, _, _⟩) rfl (fun K hK => ?_) (AllReadyH.cons (o := ⟨some 140, _, _, _, _, _⟩) rfl (fun K hK => ?_) AllReadyH.nil)
                          · have hlk := HLK.out _ HX4.out
                            go_simp
                            clear hlk
                            try dsimp only
                            refine hK.out _ _ ?ssz9 (fun hHeld => ?_)
                            case ssz9 => (exact HS.out _ HX4.out)
                            clear hK K
                            try simp only [Act.put, List.setIfInBounds_toArray, List.set_cons_zero, List.set_cons_succ]
                            refine wpAnyH_ready (rs := [9]) (by kernel_rfl) (by simp) ?_
                            refine AllReadyH.cons (o := ⟨some 140, _, _, _, _, _⟩) rfl (fun K hK => ?_) AllReadyH.nil
                            go_simp
                            obtain ⟨n9, hn⟩ : ∃ u, u = X4.alloc (.cells #[.string q2] 9) := ⟨_, rfl⟩
                            obtain ⟨g9, hg⟩ : ∃ g, g = X4.heap.size := ⟨_, rfl⟩
                            rw [← hn, ← hg]
                            have HA9 : Hid (Below W4.heap.size W4 n9) := Lib.hid (by rw [hn]; exact below_then HX4.out (below_box _ _))
                            have HV9 : Hid (kT.V n9 (some ⟨g9, 0, none⟩) [q2.data.toList]) := Lib.hid (fun _ => ⟨_, 0, rfl, RowK.new_at (k := kT) (by rw [hn, hg]; exact heap_new _ _) rfl⟩)
                            clear hn hg
                            try dsimp only
                            refine hK.out _ _ ?ssz10 (fun hHeld => ?_)
                            case ssz10 => (exact HS.out _ HA9.out)
                            clear hK K
                            try simp only [Act.put, List.setIfInBounds_toArray, List.set_cons_zero, List.set_cons_succ]
                            refine wpAnyH_ready (rs := [10]) (by kernel_rfl) (by simp) ?_
                            refine AllReadyH.cons (o := ⟨some 141, _, _, _, _, _⟩) rfl (fun K hK => ?_) AllReadyH.nil
                            refine RowK.step_app (k := kT) (B := wa.heap.size) (v := v4) (l := l4) rfl (.tmp 137) (.tmp 140) rfl rfl (HOW.out.below HA9.out) (some ⟨g9, 0, none⟩) 1 [q2.data.toList] 1 rfl rfl HV9.out (fun e => by cases e) HLL.out (Nat.le_trans HBA.out HA9.out.size) ?_
                            intro v5 u5 hA5
                            have HA5 := Lib.hid hA5
                            have HS5 := Lib.hid (HS5.out _ _ _ HA9.out hA5)
                            clear hA5
                            try dsimp only
                            refine hK.out _ _ ?ssz11 (fun hHeld => ?_)
                            case ssz11 => (exact HS5.out)
                            clear hK K
                            try simp only [Act.put, List.setIfInBounds_toArray, List.set_cons_zero, List.set_cons_succ]
                            refine wpAnyH_ready (rs := [11]) (by kernel_rfl) (by simp) ?_
                            refine AllReadyH.cons (o := ⟨none, _, _, _, _, _⟩) rfl (fun K hK => ?_) AllReadyH.nil
                            obtain ⟨t1, hrun, hj9, hs9⟩ := HPUT.out _ _ _ HA9.out HA5.out
                            have HJ9 := Lib.hid hj9
                            have HS9 := Lib.hid hs9
                            clear hj9 hs9
                            go_simp
                            try dsimp only
                            refine hK.out _ _ ?ssz12 (fun hHeld => ?_)
                            case ssz12 => (exact HS9.out)
                            clear hK K
                            try simp only [Act.put, List.setIfInBounds_toArray, List.set_cons_zero, List.set_cons_succ]
                            refine wpAnyH_done (by kernel_rfl) ?_ _
                            clear hHeld
                            go_wp2_with fail
                            exact ⟨⟨i4 + 1, by omega, by go_num, HJ9⟩, by simp [intOf]; omega⟩
                          · go_simp
                            obtain ⟨n9, hn⟩ : ∃ u, u = X4.alloc (.cells #[.string q2] 9) := ⟨_, rfl⟩
                            obtain ⟨g9, hg⟩ : ∃ g, g = X4.heap.size := ⟨_, rfl⟩
                            rw [← hn, ← hg]
                            have HA9 : Hid (Below W4.heap.size W4 n9) := Lib.hid (by rw [hn]; exact below_then HX4.out (below_box _ _))
                            have HV9 : Hid (kT.V n9 (some ⟨g9, 0, none⟩) [q2.data.toList]) := Lib.hid (fun _ => ⟨_, 0, rfl, RowK.new_at (k := kT) (by rw [hn, hg]; exact heap_new _ _) rfl⟩)
                            clear hn hg
                            try dsimp only
                            refine hK.out _ _ ?ssz13 (fun hHeld => ?_)
                            case ssz13 => (exact HS.out _ HA9.out)
                            clear hK K
                            try simp only [Act.put, List.setIfInBounds_toArray, List.set_cons_zero, List.set_cons_succ]
                            refine wpAnyH_ready (rs := [6]) (by kernel_rfl) (by simp) ?_
                            refine AllReadyH.cons (o := ⟨some 137, _, _, _, _, _⟩) rfl (fun K hK => ?_) AllReadyH.nil
                            have hlk := HLK.out _ HA9.out
                            go_simp
                            clear hlk
                            try dsimp only
                            refine hK.out _ _ ?ssz14 (fun hHeld => ?_)
                            case ssz14 => (exact HS.out _ HA9.out)
                            clear hK K
                            try simp only [Act.put, List.setIfInBounds_toArray, List.set_cons_zero, List.set_cons_succ]
                            refine wpAnyH_ready (rs := [10]) (by kernel_rfl) (by simp) ?_
                            refine AllReadyH.cons (o := ⟨some 141, _, _, _, _, _⟩) rfl (fun K hK => ?_) AllReadyH.nil
                            refine RowK.step_app (k := kT) (B := wa.heap.size) (v := v4) (l := l4) rfl (.tmp 137) (.tmp 140) rfl rfl (HOW.out.below HA9.out) (some ⟨g9, 0, none⟩) 1 [q2.data.toList] 1 rfl rfl HV9.out (fun e => by cases e) HLL.out (Nat.le_trans HBA.out HA9.out.size) ?_
                            intro v5 u5 hA5
                            have HA5 := Lib.hid hA5
                            have HS5 := Lib.hid (HS5.out _ _ _ HA9.out hA5)
                            clear hA5
                            try dsimp only
                            refine hK.out _ _ ?ssz15 (fun hHeld => ?_)
                            case ssz15 => (exact HS5.out)
                            clear hK K
                            try simp only [Act.put, List.setIfInBounds_toArray, List.set_cons_zero, List.set_cons_succ]
                            refine wpAnyH_ready (rs := [11]) (by kernel_rfl) (by simp) ?_
                            refine AllReadyH.cons (o := ⟨none, _, _, _, _, _⟩) rfl (fun K hK => ?_) AllReadyH.nil
                            obtain ⟨t1, hrun, hj9, hs9⟩ := HPUT.out _ _ _ HA9.out HA5.out
                            have HJ9 := Lib.hid hj9
                            have HS9 := Lib.hid hs9
                            clear hj9 hs9
                            go_simp
                            try dsimp only
                            refine hK.out _ _ ?ssz16 (fun hHeld => ?_)
                            case ssz16 => (exact HS9.out)
                            clear hK K
                            try simp only [Act.put, List.setIfInBounds_toArray, List.set_cons_zero, List.set_cons_succ]
                            refine wpAnyH_done (by kernel_rfl) ?_ _
                            clear hHeld
                            go_wp2_with fail
                            exact ⟨⟨i4 + 1, by omega, by go_num, HJ9⟩, by simp [intOf]; omega⟩
                      · obtain rfl : i4 = nl := by omega
                        have HF : Hid (SoJ wa cb nb k (cnt + i4) wr ∧ j + 1 ≤ cnt + i4 ∧ cnt + i4 ≤ (j + 1) * 17) := Lib.hid ⟨HR4.out.1, by have h1 := HCNT.out; have h2 := HLL0.out; have h3 := HNL.out; omega, by have h1 := HCNT.out; have h2 := HLL0.out; have h3 := HNL.out; omega⟩
                        clear hl4
                        go_wp2_with fail
                        exact ⟨⟨j + 1, cnt + i4, by omega, by go_num, HF⟩, by simp [intOf]; omega⟩
            · as_aux_lemma =>
                obtain rfl : j = nv := by omega
                obtain ⟨m3, g3, hnm3⟩ := HR3.out.1.nm
                have hcn3 := HR3.out.2
                have HNM : Hid (NmW wr wa.heap.size nb m3 cnt g3) := Lib.hid hnm3
                have hm3 : m3 ≤ 20000 := by have := hnm3.num; omega
                have HM3 : Hid (m3 = 0 → j = 0) := Lib.hid fun h0 => by
                  have := hnm3.pos
                  omega
                have HM4 : Hid (m3 ≠ 0 → k ≠ 0) := Lib.hid fun h0 => by
                  have h1 := hnm3.num
                  have h2 := HNV.out.2.2.1
                  omega
                have hcnt3 : cnt ≤ 20000 := by omega
                have HW5 : Hid (∀ u, Below wr.heap.size wr u → Below w.heap.size w u) := Lib.hid fun u hu => HBW.out u (HR3.out.1.chg.trans (Chg.of_below hu _) (fun _ _ h => h))
                have HJ5 : Hid (SoJ wa cb nb k cnt wr) := Lib.hid HR3.out.1
                have HKQ := Lib.hid (tsortedK_any wr.heap.size nb m3 g3 (wr.alloc (.cells #[.map (some nb)] 87)) (by simp) (by rw [cell_of_blk (heap_new _ _)]; rfl) (hnm3.map.of_block ((below_box wr _).block _ hnm3.map.lt)) (by omega))
                clear hnm3 hcn3 hlt HR3 HVX HGX HVI HP HFT HBW
                go_wp2_with fail
                refine (tkeys_any (some nb) _).mono ?_
                rintro e w20 ⟨rfl, rfl⟩
                go_wp2_with fail
                refine HKQ.out.mono ?_
                rintro e w21 ⟨v, ss, rfl, hsl, hss, ho, hb⟩
                obtain ⟨a3, c3, rfl⟩ := ho.shape
                have hbw : Below wr.heap.size wr w21 := below_then (below_box wr _) hb
                have HT : Hid (kT.V w21 a3 ss) := Lib.hid ho.toV
                have HSS := Lib.hid hss
                have HSL := Lib.hid hsl
                have HN5 : Hid (NmW w21 wa.heap.size nb m3 cnt g3) := Lib.hid (HNM.out.below hbw)
                have HJ21 := Lib.hid (HJ5.out.below hbw)
                have HW21 : Hid (∀ u, Below w21.heap.size w21 u → Below w.heap.size w u) := Lib.hid fun u hu => HW5.out u (below_then hbw hu)
                rw [hsl]
                clear hsl hss ho hb hbw HNM HJ5 HW5 HKQ
                go_wp2_with fail
                go_loopw [148] (fun i wr => i = .int .i64 0 ∧ wr = w21) (fun _ _ => 0)
                case atStart => exact ⟨rfl, rfl⟩
                case round =>
                  obtain ⟨rfl, rfl⟩ := hrel
                  by_cases hm0 : m3 = 0
                  · as_aux_lemma =>
                      have hj0 := HM3.out hm0
                      have hk0 : k = 0 := by have := HNV.out; omega
                      subst hm0
                      obtain ⟨n6, f6, m6, _, le6⟩ := HJ21.out.ex
                      obtain rfl : n6 = 0 := by omega
                      have hml := m6.len Tryz.underlying86
                      have HQ0 : Hid (q0 = true) := Lib.hid (by rw [HQ.out, hk0]; rfl)
                      clear m6 le6
                      go_wp2_with fail
                      go_ret
                      exact ⟨by rw [HQ0.out]; rfl, HW21.out _ (Below.refl _ _)⟩
                  · as_aux_lemma =>
                      have z0 : (0 : Int) < (m3 : Int) := by omega
                      obtain ⟨s, hs⟩ : ∃ s, ss[0]? = some s := ⟨_, List.getElem?_eq_getElem (by rw [HSL.out]; omega)⟩
                      obtain ⟨b, off, rfl, hat⟩ := HT.out (fun e => by rw [e] at hs; simp at hs)
                      obtain ⟨hgs, hsm⟩ := HSS.out s (List.mem_of_getElem? hs)
                      obtain ⟨qs, hqs⟩ : ∃ qs : ByteArray, qs = ⟨s.toArray⟩ := ⟨_, rfl⟩
                      have d0 : wr.cell? ⟨b, off, none⟩ = some (.string qs) := by
                        have := hat.cells 0 s hs 0 _ rfl
                        rw [hqs]
                        simpa using this
                      have hqz : qs.size ≤ maxLen := by rw [hqs]; show s.toArray.size ≤ maxLen; rw [List.size_toArray]; exact hsm
                      have hqk : qs.data.toList = s := by rw [hqs]
                      obtain ⟨n6, f6, m6, ci6, le6⟩ := HJ21.out.ex
                      obtain ⟨h51, h52, h53⟩ := rtK_ok hqz
                      have HIX := Lib.hid (index_no qs wr m6 hqz (ci6 _ h51 h52 h53))
                      obtain ⟨v4, l4, hlk, hown, hll, _, hn1⟩ := HN5.out.look hqz
                      rw [hqk] at hn1
                      obtain ⟨y, hy⟩ := Option.isSome_iff_exists.1 hgs
                      have hne := (hn1 y hy).2
                      obtain ⟨a4, c4, rfl⟩ := hown.shape
                      obtain ⟨l4n, hl4n⟩ : ∃ l4n, l4n = l4.length := ⟨_, rfl⟩
                      have hlp : l4n ≠ 0 := by rw [hl4n]; intro e; exact hne (List.eq_nil_of_length_eq_zero e)
                      have hnbl := HN5.out.map.lt
                      have HLK : Hid (∀ u, Below wr.heap.size wr u → (Instr.lookup 87 (.map (some nb)) (.string qs) false).run Tryz.prog u = .ok (.slice a4 l4n c4) u) := Lib.hid fun u hu => by rw [hl4n]; exact hlk u (hu.block nb hnbl)
                      have HO4 : Hid (∀ u, Below wr.heap.size wr u → kT.V u a4 l4) := Lib.hid fun u hu => hown.toV.below hu
                      have HL4 : Hid (l4n = l4.length ∧ l4.length ≤ 1000000) := Lib.hid ⟨hl4n, by have := HJ21.out; omega⟩
                      have hq0 : q0 = false := by
                        rw [HQ.out]
                        have h3 := HM4.out hm0
                        simpa using h3
                      clear hs hat hgs hsm hqs hqz hqk m6 ci6 le6 h51 h52 h53 hlk hown hll hn1 hy hne hl4n hnbl HT HSS HSL HN5
                      go_wp2_with fail
                      refine HIX.out.mono ?_
                      rintro e w22 ⟨rfl, hb22⟩
                      have hr22 := HLK.out _ hb22
                      have HB22 := Lib.hid hb22
                      clear hb22 HIX d0
                      go_wp2_with fail
                      refine (tvals_any a4 l4n c4 _).mono ?_
                      rintro e w23 ⟨rfl, rfl⟩
                      have HSO : Hid (Calls Tryz.prog 35 #[.func (.func 81) #[] #[.pointer (some ⟨w22.heap.size, 0, none⟩)]] (w22.alloc (.cells #[.slice a4 l4n c4] 88)) fun e W' => ∃ v zs', e = .returned v ∧ zs'.length = l4n ∧ kT.Own W' (w22.heap.size + 1) v zs' ∧ Below (w22.heap.size + 1) (w22.alloc (.cells #[.slice a4 l4n c4] 88)) W') := Lib.hid (by
                        have h := tsorted_any w22.heap.size a4 c4 l4 HL4.out.2 (w22.alloc (.cells #[.slice a4 l4n c4] 88)) (by simp) (by rw [cell_of_blk (heap_new _ _), HL4.out.1]; rfl) (HO4.out _ (below_then HB22.out (below_box _ _)))
                        rw [size_alloc, ← HL4.out.1] at h
                        exact h)
                      clear hr22
                      go_wp2_with fail
                      refine HSO.out.mono ?_
                      rintro e w24 ⟨v5, zs5, rfl, hz5, ho5, hb5⟩
                      obtain ⟨a5, c5, rfl⟩ := ho5.shape
                      rw [hz5]
                      have HB24 : Hid (Below wr.heap.size wr w24) := Lib.hid (below_then (below_then HB22.out (below_box _ _)) (by rw [size_alloc]; exact hb5))
                      clear ho5 hb5 hz5 HSO
                      go_wp2_with fail
                      refine (equalS_nil a5 l4n c5 _).mono ?_
                      rintro e w25 ⟨rfl, hw25⟩
                      subst hw25
                      have e25 : (l4n == 0) = false := by simpa using hlp
                      rw [e25]
                      clear e25
                      go_wp2_with fail
                      go_ret
                      exact ⟨by rw [hq0]; rfl, HW21.out _ HB24.out⟩
end Go.Proofs.YtkbmipmegljidaaGreat
