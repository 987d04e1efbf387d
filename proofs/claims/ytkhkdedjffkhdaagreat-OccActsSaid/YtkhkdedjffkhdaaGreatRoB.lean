/- Reference 13, a sets of its own place: Write, Mark, See. Conditions: each contract's own premises. Reference 13, a sets of its own place: Mark. Conditions: each contract's own premises. Reference 4: Parts, Pack, Next. Conditions: each contract's own premises. A reference transaction beside its store, in memory; over, Abort. Conditions: each contract's own premises. -/
import Derived.Test.YtkhkdedjffkhdaaGreatRoA
import Derived.Test.YtkhkdedjffkhdaaGreatSxC
import Derived.Test.YtkhkdedjffkhdaaGreatOcR
import Derived.Test.YtkhkdedjffkhdaaGreatRcB
set_option linter.unusedVariables false
set_option linter.unusedSimpArgs false
namespace Go.Proofs.YtkhkdedjffkhdaaGreat
open Go.RowKit Go.Maps

/-- the reference's sets in memory, with their row's place -/
structure SrV (w : World) (rb : Nat) (a : Option Addr) (cap : Nat) (L : List Rx) : Prop where
  blk : w.heap[rb]? = some (.cells #[.slice a L.length cap] 41)
  o : kX.Own w 0 (.slice a L.length cap) L
  ne : (Value.slice a L.length cap).ownBlock ≠ some rb
  n : L.length ≤ 1000000
section
variable {w w' : World} {rb cap : Nat} {a : Option Addr} {L : List Rx}
theorem SrV.x (h : SrV w rb a cap L) : SrX w rb 0 L := ⟨⟨a, cap, h.blk, h.o, h.ne⟩, h.n⟩
theorem SrV.lt (h : SrV w rb a cap L) : rb < w.heap.size := (Array.getElem?_eq_some_iff.1 h.blk).1
theorem SrV.chg {S : Nat → Prop} (h : SrV w rb a cap L) (hc : Chg w w' S) (h1 : ¬ S rb) (h2 : ∀ j, ownB a j → ¬ S j) : SrV w' rb a cap L :=
  ⟨(hc.block _ h.lt h1).trans h.blk, RowK.Own.chg h.o hc (fun j hj => h2 j (ownB_iff.1 hj)), h.ne, h.n⟩
theorem SrV.below (h : SrV w rb a cap L) (hb : Below w.heap.size w w') : SrV w' rb a cap L := h.chg (Chg.of_below hb (fun _ => False)) (fun e => e) (fun _ _ e => e)
end
/-- what See leaves -/
def SeeV (w : World) (rb : Nat) (a : Option Addr) (cap : Nat) (L : List Rx) (k : Ky) (v : Sn) (e : Ending) (w' : World) : Prop :=
  if v.val.size ≠ 0 ∧ v.has = false then e = .returned (.int .i64 2) ∧ Below w.heap.size w w'
  else ((∃ x ∈ L, x.k = k) ∧ e = .returned (.int .i64 31) ∧ Below w.heap.size w w') ∨
    ((∀ x ∈ L, x.k ≠ k) ∧ e = .returned (.int .i64 0) ∧ ∃ n a' cap', AtX L k n ∧ SrV w' rb a' cap' (insX L n (Rx.of k v)) ∧ (∀ j, ownB a' j → w.heap.size ≤ j) ∧ Chg w w' (fun j => j = rb))
theorem r13See_v {w : World} {rb cap : Nat} {a : Option Addr} {L : List Rx} (h : SrV w rb a cap L) (hL : L.length < 1000000) (hok : ∀ x ∈ L, x.k.Ok) (k : Ky) (v : Sn) :
    Calls Tryz.prog 56 #[.pointer (some ⟨rb, 0, none⟩), .agg #[.int .i64 k.kind, .int .i64 k.a, .int .i64 k.b, .string k.s], .agg #[.int .u64 v.word, .string v.val, .bool v.has]] w (SeeV w rb a cap L k v) := by
  refine (r13See_any h.x (Nat.le_refl _) hL hok k v).mono ?_
  intro e w' hp
  unfold See13 at hp
  unfold SeeV
  by_cases hb : v.val.size ≠ 0 ∧ v.has = false
  · rw [if_pos hb] at hp ⊢
    exact hp
  · rw [if_neg hb] at hp ⊢
    rcases hp with hp | ⟨h1, h2, n, h3, h4, h5⟩
    · exact .inl hp
    · obtain ⟨a', cap', e1, e2, e3⟩ := h4.ex
      exact .inr ⟨h1, h2, n, a', cap', h3, ⟨e1, e2.mono (Nat.zero_le _), e3, h4.n⟩, fun j hj => (e2.lt j (ownB_iff.2 hj)).1, h5⟩
/-- in a round of Write -/
structure WvI (w wr : World) (rb : Nat) (a : Option Addr) (cap : Nat) (L : List Rx) (t : Tx) (ks : List Ky) (i : Nat) : Prop where
  s : SrV wr rb a cap (setXs t (ks.take i) L)
  c : Chg w wr (fun j => ownB a j)
def WriteV (w : World) (rb : Nat) (a : Option Addr) (cap : Nat) (L : List Rx) (t : Tx) (ks : List Ky) (e : Ending) (w' : World) : Prop :=
  ((∃ k ∈ ks, ∀ x ∈ L, x.k ≠ k) ∧ e = .returned (.int .i64 101) ∧ Below w.heap.size w w') ∨
    ((∀ k ∈ ks, ∃ x ∈ L, x.k = k) ∧ e = .returned (.int .i64 0) ∧ SrV w' rb a cap (setXs t ks L) ∧ Chg w w' (fun j => ownB a j))
set_option maxRecDepth 100000 in
set_option maxHeartbeats 4000000 in
theorem r13Write_v {w : World} {rb cap : Nat} {a : Option Addr} {L : List Rx} (h : SrV w rb a cap L) (hs : KySorted (L.map Rx.k)) (ka : Option Addr) (kcap : Nat) (ks : List Ky) (hv : kK.V w ka ks) (hl : ks.length ≤ 1000000)
    (hap : ks ≠ [] → ∀ b off, ka = some ⟨b, off, none⟩ → ¬ ownB a b) (t : Tx) :
    Calls Tryz.prog 58 #[.pointer (some ⟨rb, 0, none⟩), .slice ka ks.length kcap, .string t.val, .bool t.has] w (WriteV w rb a cap L t ks) := by
  have HS := Lib.hid h
  have HSO := Lib.hid hs
  have HV := Lib.hid hv
  have HAP := Lib.hid hap
  obtain ⟨n, hn⟩ : ∃ n, n = ks.length := ⟨_, rfl⟩
  rw [← hn] at hl ⊢
  have HN := Lib.hid hn
  clear h hs hv hap hn
  go_enter Tryz.func58, Tryz.ntmps58
  go_wp2_with fail
  go_loopw [9] (fun i wr => ∃ k : Nat, k ≤ n ∧ i = .int .i64 k ∧ Hid (∀ j ∈ ks.take k, ∃ x ∈ L, x.k = j) ∧ Hid (Below w.heap.size w wr)) (fun i _ => n - (intOf i).toNat)
  case atStart => exact ⟨0, Nat.zero_le _, rfl, Lib.hid (fun j hj => by simp at hj), Lib.hid (Below.refl _ _)⟩
  case round =>
    obtain ⟨k, hk, rfl, HI, HB⟩ := hrel
    by_cases hlt : k < n
    · have hltz : (k : Int) < (n : Int) := by omega
      obtain ⟨x, hx⟩ : ∃ x, ks[k]? = some x := ⟨_, List.getElem?_eq_getElem (by have := HN.out; omega)⟩
      obtain ⟨b, off, rfl, hat⟩ := HV.out (fun e => by rw [e] at hx; simp at hx)
      have hat2 := hat.below HB.out
      have c0 := hat2.cells k x hx 0 _ rfl
      have c1 := hat2.cells k x hx 1 _ rfl
      have c2 := hat2.cells k x hx 2 _ rfl
      have c3 := hat2.cells k x hx 3 _ rfl
      simp [kK] at c0 c1 c2 c3
      have HS2 : Hid (SrV wr rb a cap L) := Lib.hid (HS.out.below HB.out)
      have HX := Lib.hid hx
      clear hx hat hat2
      go_wp2_with fail
      refine (r13Find_any HS2.out.x x).mono ?_
      rintro e w1 ⟨fv, rfl, hf, b1⟩
      have HB1 := Lib.hid (below_then HB.out b1)
      clear b1 c0 c1 c2 c3
      rcases hf with ⟨rfl, hno⟩ | ⟨fj, fx, rfl, hfx, hfk⟩
      · have HNO := Lib.hid hno
        clear hno
        go_wp2_with fail
        go_ret
        exact .inl ⟨⟨x, List.mem_of_getElem? HX.out, HNO.out⟩, rfl, HB1.out⟩
      · have t5 : decide ((fj : Int) < 0) = false := decide_eq_false (by omega)
        have HF : Hid (∃ x' ∈ L, x'.k = x) := Lib.hid ⟨fx, List.mem_of_getElem? hfx, hfk⟩
        clear hfx hfk
        go_wp2_with fail
        refine ⟨⟨k + 1, by omega, by go_num, Lib.hid (fun j hj => ?_), HB1⟩, by simp [intOf]; omega⟩
        rw [take_snocK HX.out] at hj
        rcases List.mem_append.1 hj with hj | hj
        · exact HI.out j hj
        · rw [List.mem_singleton.1 hj]; exact HF.out
    · obtain rfl : k = n := by omega
      have HALL : Hid (∀ j ∈ ks, ∃ x ∈ L, x.k = j) := Lib.hid (by have := HI.out; rw [HN.out, List.take_length] at this; exact this)
      have HW0 : Hid (WvI w wr rb a cap L t ks 0) := Lib.hid ⟨HS.out.below HB.out, Chg.of_below HB.out _⟩
      clear HI HB
      go_wp2_with fail
      go_loopw [10] (fun i wq => ∃ j : Nat, j ≤ k ∧ i = .int .i64 j ∧ Hid (WvI w wq rb a cap L t ks j)) (fun i _ => k - (intOf i).toNat)
      case atStart => exact ⟨0, Nat.zero_le _, rfl, HW0⟩
      case round =>
        obtain ⟨j, hj, rfl, HI⟩ := hrel
        by_cases hlt2 : j < k
        · have hltz : (j : Int) < (k : Int) := by omega
          obtain ⟨x, hx⟩ : ∃ x, ks[j]? = some x := ⟨_, List.getElem?_eq_getElem (by have := HN.out; omega)⟩
          obtain ⟨b, off, rfl, hat⟩ := HV.out (fun e => by rw [e] at hx; simp at hx)
          have HAT : Hid (∀ u, Chg w u (fun j => ownB a j) → kK.At u b off ks) := Lib.hid (fun u hu => hat.of_block (hu.block b hat.lt (HAP.out (fun e => by rw [e] at hx; simp at hx) b off rfl)))
          have hat2 := HAT.out _ HI.out.c
          have c0 := hat2.cells j x hx 0 _ rfl
          have c1 := hat2.cells j x hx 1 _ rfl
          have c2 := hat2.cells j x hx 2 _ rfl
          have c3 := hat2.cells j x hx 3 _ rfl
          simp [kK] at c0 c1 c2 c3
          have HX := Lib.hid hx
          clear hx hat hat2
          go_wp2_with fail
          refine (r13Find_any HI.out.s.x x).mono ?_
          rintro e w1 ⟨fv, rfl, hf, b1⟩
          have hS1 : SrV w1 rb a cap (setXs t (ks.take j) L) := HI.out.s.below b1
          have HC1 : Hid (Chg w w1 (fun j => ownB a j)) := Lib.hid (HI.out.c.trans (Chg.of_below b1 _) (fun _ _ h => h))
          clear b1 c0 c1 c2 c3
          obtain ⟨L1, hL1⟩ : ∃ M, M = setXs t (ks.take j) L := ⟨_, rfl⟩
          rw [← hL1] at hf hS1
          have hK1 : L1.map Rx.k = L.map Rx.k := by rw [hL1]; exact setXs_keys _ _ _
          rcases hf with ⟨rfl, hno⟩ | ⟨fj, fx, rfl, hfx, hfk⟩
          · exfalso
            have h1 := mem_keys.1 (HALL.out x (List.mem_of_getElem? HX.out))
            rw [← hK1] at h1
            obtain ⟨y, hy, hyk⟩ := mem_keys.2 h1
            exact hno y hy hyk
          · have e1 := hS1.blk
            have e2 := hS1.o
            have e3 := hS1.ne
            obtain ⟨g, cp, hve, _, _, _⟩ := e2.at' (fun e => by rw [e] at hfx; simp at hfx)
            injection hve with hv1 hv2 hv3
            subst hv1
            have HG9 : Hid (ownB (some ⟨g, 0, none⟩) g) := Lib.hid rfl
            obtain ⟨m, hm⟩ : ∃ m, m = L1.length := ⟨_, rfl⟩
            rw [← hm] at e1 e2 e3
            have hfl : fj < m := by rw [hm]; exact (List.getElem?_eq_some_iff.1 hfx).1
            have hflz : (fj : Int) < (m : Int) := by omega
            have hne : rb ≠ g := fun e => e3 (by rw [e]; rfl)
            have q0 := cell_of_blk e1 0
            obtain ⟨cur, hg, hrest⟩ := e2.blk
            clear hrest
            have th7 := e2.there (i := fj) (r := 7) (m := 1) (by rw [← hm]; exact hfl) (by show 7 + 1 ≤ 21; omega)
            obtain ⟨c7, f7⟩ := th7 0 (by omega)
            obtain ⟨u7, hu7⟩ := Option.isSome_iff_exists.1 c7
            have hu8 : w1.cell? ⟨g, fj * 21 + 7, none⟩ = some u7 := hu7
            have f8 : w1.frozen? ⟨g, fj * 21 + 7, none⟩ = false := f7
            simp at q0
            obtain ⟨y1, hy1⟩ : ∃ y : Rx, y = { fx with wrote := true } := ⟨_, rfl⟩
            have o1 := e2.upd (i := fj) (r := 7) (x := fx) (x' := y1) hfx [.bool true] (by show 7 + 1 ≤ 21; omega) (fun i => by
              rw [hy1, show kX.enc { fx with wrote := true } = (kX.enc fx).take 7 ++ [.bool true] ++ (kX.enc fx).drop (7 + [Value.bool true].length) from rfl]
              exact splice_at (by rw [kX.len]; show 7 + 1 ≤ 21; omega) i)
            obtain ⟨V, hV⟩ : ∃ V, V = w1.setCell ⟨g, fj * 21 + 7, none⟩ (.bool true) := ⟨_, rfl⟩
            have hVs : w1.setCells g (fj * 21 + 7) [.bool true] = V := by rw [hV]; rfl
            change kX.Own (w1.setCells g (fj * 21 + 7) [.bool true]) _ _ _ at o1
            rw [hVs] at o1
            have cV : Chg w1 V (fun j => ownB (some ⟨g, 0, none⟩) j) := by rw [hV]; exact (Chg.refl w1 (fun j => ownB (some ⟨g, 0, none⟩) j)).setCell (p := ⟨g, fj * 21 + 7, none⟩) (fun _ => HG9.out) _
            have HCV : Hid (Chg w V (fun j => ownB (some ⟨g, 0, none⟩) j)) := Lib.hid (HC1.out.trans cV (fun _ _ e => e))
            have eV : V.heap[rb]? = some (.cells #[.slice (some ⟨g, 0, none⟩) m cap] 41) := by rw [hV, Below.heap_setCell _ _ _ _ hne]; exact e1
            have HEV := Lib.hid eV
            have HO1 := Lib.hid o1
            have HY1 : Hid ((L1.set fj y1)[fj]? = some y1) := Lib.hid (List.getElem?_set_self (by rw [← hm]; exact hfl))
            have HSL : Hid ((L1.set fj y1).length = m) := Lib.hid (by rw [List.length_set, hm])
            have HNE := Lib.hid hne
            have HV9 := Lib.hid hV
            obtain ⟨y2, hy2⟩ : ∃ y : Rx, y = { y1 with w := ⟨x, t.val, t.has⟩ } := ⟨_, rfl⟩
            have HFIN : Hid ((L1.set fj y1).set fj y2 = setXs t (ks.take (j + 1)) L) := Lib.hid (by
              rw [take_snocK HX.out, setXs_append, ← hL1]
              show _ = L1.map (setX x t)
              rw [map_setX t (by rw [hK1]; exact HSO.out) hfx hfk, List.set_set, hy2, hy1])
            have HY2 := Lib.hid hy2
            have HM : Hid (m ≤ 1000000) := Lib.hid (by rw [hm]; exact hS1.n)
            have HE3 := Lib.hid e3
            clear hVs cV eV o1 hV hy1 hy2 hfx hfk hL1 hK1 hS1 e1 e2 e3 hm hg hv2 hv3 c7 f7 th7 hne hu7
            have t6 : decide ((fj : Int) < 0) = false := decide_eq_false (by omega)
            go_upto_region 11 with fail
            rw [← HV9.out]
            clear q0 hu8 f8
            have q0 := cell_of_blk HEV.out 0
            have hat2 := HAT.out _ HCV.out
            have c0 := hat2.cells j x HX.out 0 _ rfl
            have c1 := hat2.cells j x HX.out 1 _ rfl
            have c2 := hat2.cells j x HX.out 2 _ rfl
            have c3 := hat2.cells j x HX.out 3 _ rfl
            simp [kK] at c0 c1 c2 c3
            simp at q0
            clear hat2
            have HTH : Hid (V.drew.there g (fj * 21 + 9) 6) := Lib.hid (HO1.out.drew.there (i := fj) (r := 9) (m := 6) (by rw [HSL.out]; exact hfl) (by show 9 + 6 ≤ 21; omega))
            refine wp_region_still_tail 14 (by kernel_rfl) (by kernel_rfl) ?_
            change wpStill _ _ (World.drew _) (fun a' => wpList _ _ _ _ a' (World.drew _)) _ _
            simp only [List.take_succ_cons, List.take_zero, List.drop_succ_cons, List.drop_zero]
            repeat still_step
            refine wpStill_nil ?_
            refine wpList_store_mid (op := ⟨none, _, _, _, _, _⟩) rfl 94 (.tmp 57) (.tmp 55) rfl g (fj * 21 + 9) #[.int .i64 x.kind, .int .i64 x.a, .int .i64 x.b, .string x.s, .string t.val, .bool t.has] rfl rfl HTH.out (by kernel_rfl) (all_oneCell_toArray (kW.one ⟨x, t.val, t.has⟩)) ?_
            clear q0 c0 c1 c2 c3 t6
            obtain ⟨U, hU⟩ : ∃ U, U = V.drew.setCells g (fj * 21 + 9) [.int .i64 x.kind, .int .i64 x.a, .int .i64 x.b, .string x.s, .string t.val, .bool t.has] := ⟨_, rfl⟩
            have o2 := HO1.out.drew.upd (i := fj) (r := 9) (x := y1) (x' := y2) HY1.out [.int .i64 x.kind, .int .i64 x.a, .int .i64 x.b, .string x.s, .string t.val, .bool t.has] (by show 9 + 6 ≤ 21; omega) (fun i => by
              rw [HY2.out, show kX.enc { y1 with w := ⟨x, t.val, t.has⟩ } = (kX.enc y1).take 9 ++ [.int .i64 x.kind, .int .i64 x.a, .int .i64 x.b, .string x.s, .string t.val, .bool t.has] ++ (kX.enc y1).drop (9 + [Value.int .i64 x.kind, .int .i64 x.a, .int .i64 x.b, .string x.s, .string t.val, .bool t.has].length) from rfl]
              exact splice_at (by rw [kX.len]; show 9 + 6 ≤ 21; omega) i)
            change kX.Own (V.drew.setCells g (fj * 21 + 9) [.int .i64 x.kind, .int .i64 x.a, .int .i64 x.b, .string x.s, .string t.val, .bool t.has]) _ _ _ at o2
            show wpList _ _ _ _ _ (V.drew.setCells g (fj * 21 + 9) [.int .i64 x.kind, .int .i64 x.a, .int .i64 x.b, .string x.s, .string t.val, .bool t.has])
            rw [← hU] at o2 ⊢
            have cU : Chg V U (fun j => ownB (some ⟨g, 0, none⟩) j) := by
              rw [hU]
              simp only [World.setCells]
              exact ((((((((Chg.refl V (fun j => ownB (some ⟨g, 0, none⟩) j)).drew).setCell (p := ⟨g, _, none⟩) (fun _ => HG9.out) _).setCell (p := ⟨g, _, none⟩) (fun _ => HG9.out) _).setCell (p := ⟨g, _, none⟩) (fun _ => HG9.out) _).setCell (p := ⟨g, _, none⟩) (fun _ => HG9.out) _).setCell (p := ⟨g, _, none⟩) (fun _ => HG9.out) _).setCell (p := ⟨g, _, none⟩) (fun _ => HG9.out) _)
            have eU : U.heap[rb]? = some (.cells #[.slice (some ⟨g, 0, none⟩) m cap] 41) := by
              rw [hU]
              simp only [World.setCells]
              rw [Below.heap_setCell _ _ _ _ HNE.out, Below.heap_setCell _ _ _ _ HNE.out, Below.heap_setCell _ _ _ _ HNE.out, Below.heap_setCell _ _ _ _ HNE.out, Below.heap_setCell _ _ _ _ HNE.out, Below.heap_setCell _ _ _ _ HNE.out]
              exact HEV.out
            have HW' : Hid (WvI w U rb (some ⟨g, 0, none⟩) cap L t ks (j + 1)) := Lib.hid ⟨by
              rw [← HFIN.out]
              have hll : ((L1.set fj y1).set fj y2).length = m := by rw [List.length_set, HSL.out]
              exact ⟨by rw [hll]; exact eU, by rw [hll]; exact o2, by rw [hll]; exact HE3.out, by rw [hll]; exact HM.out⟩, HCV.out.trans cU (fun _ _ e => e)⟩
            clear hU o2 cU eU
            go_wp2_with fail
            exact ⟨⟨j + 1, by omega, by go_num, HW'⟩, by simp [intOf]; omega⟩
        · obtain rfl : j = k := by omega
          go_wp2_with fail
          go_ret
          have := HI.out.s
          rw [HN.out, List.take_length] at this
          exact .inr ⟨HALL.out, rfl, this, HI.out.c⟩
end Go.Proofs.YtkhkdedjffkhdaaGreat
namespace Go.Proofs.YtkhkdedjffkhdaaGreat
open Go.RowKit Go.Maps

/-- in a round of Mark -/
structure MvI (w wr : World) (rb : Nat) (a : Option Addr) (cap : Nat) (L M : List Rx) (back : Bool) (i : Nat) : Prop where
  s : SrV wr rb a cap M
  c : Chg w wr (fun j => ownB a j)
  n : M.length = L.length
  m : ∀ j, M[j]? = if j < i then (L[j]?).map (mbX back) else L[j]?
theorem MvI.end {w wr : World} {rb cap : Nat} {a : Option Addr} {L M : List Rx} {back : Bool} (h : MvI w wr rb a cap L M back L.length) : M = L.map (mbX back) := by
  apply List.ext_getElem?
  intro j
  rw [h.m j, List.getElem?_map]
  by_cases e : j < L.length
  · rw [if_pos e]
  · rw [if_neg e, List.getElem?_eq_none (by omega)]; rfl
def MarkV (w : World) (rb : Nat) (a : Option Addr) (cap : Nat) (L : List Rx) (back : Bool) (e : Ending) (w' : World) : Prop :=
  e = .returned (.tuple #[]) ∧ SrV w' rb a cap (L.map (mbX back)) ∧ Chg w w' (fun j => ownB a j)
set_option maxRecDepth 100000 in
set_option maxHeartbeats 4000000 in
theorem r13Mark_v {w : World} {rb cap : Nat} {a : Option Addr} {L : List Rx} (h : SrV w rb a cap L) (back : Bool) :
    Calls Tryz.prog 61 #[.pointer (some ⟨rb, 0, none⟩), .bool back] w (MarkV w rb a cap L back) := by
  have HI0 : Hid (MvI w w rb a cap L L back 0) := Lib.hid ⟨h, Chg.refl w _, rfl, fun j => by rw [if_neg (by omega)]⟩
  have HNL := Lib.hid h.n
  obtain ⟨n, hn⟩ : ∃ n, n = L.length := ⟨_, rfl⟩
  have HN := Lib.hid hn
  have hn6 : n ≤ 1000000 := by rw [hn]; exact h.n
  clear h hn
  go_enter Tryz.func61, Tryz.ntmps61
  go_wp2_with fail
  go_loopw [4] (fun i wr => ∃ j : Nat, j ≤ n ∧ i = .int .i64 j ∧ Hid (∃ M, MvI w wr rb a cap L M back j)) (fun i _ => n - (intOf i).toNat)
  case atStart => exact ⟨0, Nat.zero_le _, rfl, Lib.hid ⟨L, HI0.out⟩⟩
  case round =>
    obtain ⟨j, hj, rfl, HIX⟩ := hrel
    obtain ⟨M, hI⟩ := HIX.out
    have HI := Lib.hid hI
    have e1 := hI.s.blk
    have e2 := hI.s.o
    have e3 := hI.s.ne
    have hml : M.length = n := by rw [hI.n, HN.out]
    rw [hml] at e1 e2 e3
    have HE3 := Lib.hid e3
    clear hI
    by_cases hlt : j < n
    · have hltz : (j : Int) < (n : Int) := by omega
      have t6 : decide ((j : Int) < 0) = false := decide_eq_false (by omega)
      obtain ⟨x, hx⟩ : ∃ x, M[j]? = some x := ⟨_, List.getElem?_eq_getElem (by omega)⟩
      obtain ⟨g, cp, hve, _, _, hat⟩ := e2.at' (fun e => by rw [e] at hx; simp at hx)
      injection hve with hv1 hv2 hv3
      subst hv1
      have hne : rb ≠ g := fun e => e3 (by rw [e]; rfl)
      have HG9 : Hid (ownB (some ⟨g, 0, none⟩) g) := Lib.hid rfl
      clear hv2 hv3
      have hjM : j < M.length := by omega
      have q0 := cell_of_blk e1 0
      simp at q0
      have HNE := Lib.hid hne
      have HX := Lib.hid hx
      have HO0 := Lib.hid e2
      have HE1 := Lib.hid e1
      have HAT := Lib.hid hat
      have HLM : Hid (M.length = n) := Lib.hid hml
      have HLX : Hid (∀ y, mbX back x = y → ∀ U, SrV U rb (some ⟨g, 0, none⟩) cap (M.set j y) → Chg wr U (fun j => ownB (some ⟨g, 0, none⟩) j) → MvI w U rb (some ⟨g, 0, none⟩) cap L (M.set j y) back (j + 1)) := Lib.hid (fun y hy U h1 h2 => by
        refine ⟨h1, HI.out.c.trans h2 (fun _ _ e => e), by rw [List.length_set]; exact HI.out.n, fun i => ?_⟩
        rw [List.getElem?_set]
        have hm := HI.out.m
        by_cases e : j = i
        · subst e
          rw [if_pos rfl, if_pos (by rw [HLM.out]; exact hlt), if_pos (Nat.lt_succ_self _)]
          have := hm j
          rw [HX.out, if_neg (Nat.lt_irrefl _)] at this
          rw [← this, ← hy]; rfl
        · rw [if_neg e, hm i]
          by_cases e2 : i < j
          · rw [if_pos e2, if_pos (by omega)]
          · rw [if_neg e2, if_neg (by omega)])
      clear hx e1 e2 e3 hml hat hne
      cases back
      · obtain ⟨y1, hy1⟩ : ∃ y : Rx, y = { x with marked := x.wrote } := ⟨_, rfl⟩
        obtain ⟨y2, hy2⟩ : ∃ y : Rx, y = { y1 with m := y1.w } := ⟨_, rfl⟩
        have c7 := HAT.out.cells j x HX.out 7 _ rfl
        have th7 := HO0.out.there (i := j) (r := 8) (m := 1) hjM (by show 8 + 1 ≤ 21; omega)
        obtain ⟨c8, f8⟩ := th7 0 (by omega)
        obtain ⟨u8, hu8⟩ := Option.isSome_iff_exists.1 c8
        have hu9 : wr.cell? ⟨g, j * 21 + 8, none⟩ = some u8 := hu8
        have f9 : wr.frozen? ⟨g, j * 21 + 8, none⟩ = false := f8
        simp [kX] at c7
        clear c8 f8 th7 hu8
        go_upto_region 6 with fail
        refine wp_region_still_tail 15 (by kernel_rfl) (by kernel_rfl) ?_
        change wpStill _ _ (World.drew _) (fun a' => wpList _ _ _ _ a' (World.drew _)) _ _
        simp only [List.take_succ_cons, List.take_zero, List.drop_succ_cons, List.drop_zero]
        repeat still_step
        refine wpStill_nil ?_
        go_upto_region 7 with fail
        clear c7 hu9 f9 q0
        obtain ⟨V, hV⟩ : ∃ V, V = (wr.setCell ⟨g, j * 21 + 8, none⟩ (.bool x.wrote)).drew := ⟨_, rfl⟩
        rw [← hV]
        have o1 := HO0.out.drew.upd (i := j) (r := 8) (x := x) (x' := y1) HX.out [.bool x.wrote] (by show 8 + 1 ≤ 21; omega) (fun i => by
          rw [hy1, show kX.enc { x with marked := x.wrote } = (kX.enc x).take 8 ++ [.bool x.wrote] ++ (kX.enc x).drop (8 + [Value.bool x.wrote].length) from rfl]
          exact splice_at (by rw [kX.len]; show 8 + 1 ≤ 21; omega) i)
        have hVs : wr.drew.setCells g (j * 21 + 8) [.bool x.wrote] = V := by rw [hV]; rfl
        change kX.Own (wr.drew.setCells g (j * 21 + 8) [.bool x.wrote]) _ _ _ at o1
        rw [hVs] at o1
        have cV : Chg wr V (fun j => ownB (some ⟨g, 0, none⟩) j) := by rw [hV]; exact ((Chg.refl wr (fun j => ownB (some ⟨g, 0, none⟩) j)).setCell (p := ⟨g, j * 21 + 8, none⟩) (fun _ => HG9.out) _).drew
        have eV : V.heap[rb]? = some (.cells #[.slice (some ⟨g, 0, none⟩) n cap] 41) := by rw [hV]; show (wr.setCell _ _).heap[rb]? = _; rw [Below.heap_setCell _ _ _ _ HNE.out]; exact HE1.out
        have HEV := Lib.hid eV
        have HO1 := Lib.hid o1
        have HCV := Lib.hid cV
        have HY1 : Hid ((M.set j y1)[j]? = some y1) := Lib.hid (List.getElem?_set_self hjM)
        obtain ⟨m0, m1, m2, m3, m4, m5, hwk⟩ : ∃ m0 m1 m2 m3 m4 m5, y1.w = ⟨⟨m0, m1, m2, m3⟩, m4, m5⟩ := ⟨_, _, _, _, _, _, rfl⟩
        have hy2' : y2 = { y1 with m := ⟨⟨m0, m1, m2, m3⟩, m4, m5⟩ } := by rw [hy2, hwk]
        have HY2 := Lib.hid hy2'
        have HFX : Hid (mbX false x = y2) := Lib.hid (by rw [hy2, hy1]; rfl)
        obtain ⟨b1, cp1, hve1, _, _, hat1⟩ := o1.at' (fun e => by have := HY1.out; rw [e] at this; simp at this)
        injection hve1 with hv1 hv2 hv3
        injection hv1 with hv1
        injection hv1 with hv1
        subst hv1
        have d0 := hat1.cells j y1 HY1.out 9 (.int .i64 m0) (by show some (Value.int .i64 y1.w.k.kind) = _; rw [hwk])
        have d1 := hat1.cells j y1 HY1.out (9 + 1) (.int .i64 m1) (by show some (Value.int .i64 y1.w.k.a) = _; rw [hwk])
        have d2 := hat1.cells j y1 HY1.out (9 + 2) (.int .i64 m2) (by show some (Value.int .i64 y1.w.k.b) = _; rw [hwk])
        have d3 := hat1.cells j y1 HY1.out (9 + 3) (.string m3) (by show some (Value.string y1.w.k.s) = _; rw [hwk])
        have d4 := hat1.cells j y1 HY1.out (9 + 4) (.string m4) (by show some (Value.string y1.w.val) = _; rw [hwk])
        have d5 := hat1.cells j y1 HY1.out (9 + 5) (.bool m5) (by show some (Value.bool y1.w.has) = _; rw [hwk])
        have q0 := cell_of_blk HEV.out 0
        simp [kX] at d0 d1 d2 d3 d4 d5
        simp at q0
        have HTH : Hid (V.drew.there g (j * 21 + 15) 6) := Lib.hid (HO1.out.drew.there (i := j) (r := 15) (m := 6) (by rw [List.length_set]; exact hjM) (by show 15 + 6 ≤ 21; omega))
        clear hv2 hv3 hat1 hy2 hy2' hwk hy1 hV o1 hVs cV eV
        refine wp_region_still_tail 15 (by kernel_rfl) (by kernel_rfl) ?_
        change wpStill _ _ (World.drew _) (fun a' => wpList _ _ _ _ a' (World.drew _)) _ _
        simp only [List.take_succ_cons, List.take_zero, List.drop_succ_cons, List.drop_zero]
        repeat still_step
        refine wpStill_nil ?_
        refine wpList_store_mid (op := ⟨none, _, _, _, _, _⟩) rfl 94 (.tmp 74) (.tmp 72) rfl g (j * 21 + 15) #[.int .i64 m0, .int .i64 m1, .int .i64 m2, .string m3, .string m4, .bool m5] rfl rfl HTH.out (by kernel_rfl) (all_oneCell_toArray (kW.one ⟨⟨m0, m1, m2, m3⟩, m4, m5⟩)) ?_
        clear q0 d0 d1 d2 d3 d4 d5 t6
        obtain ⟨U, hU⟩ : ∃ U, U = V.drew.setCells g (j * 21 + 15) [.int .i64 m0, .int .i64 m1, .int .i64 m2, .string m3, .string m4, .bool m5] := ⟨_, rfl⟩
        have o2 := HO1.out.drew.upd (i := j) (r := 15) (x := y1) (x' := y2) HY1.out [.int .i64 m0, .int .i64 m1, .int .i64 m2, .string m3, .string m4, .bool m5] (by show 15 + 6 ≤ 21; omega) (fun i => by
          rw [HY2.out, show kX.enc { y1 with m := ⟨⟨m0, m1, m2, m3⟩, m4, m5⟩ } = (kX.enc y1).take 15 ++ [.int .i64 m0, .int .i64 m1, .int .i64 m2, .string m3, .string m4, .bool m5] ++ (kX.enc y1).drop (15 + [Value.int .i64 m0, .int .i64 m1, .int .i64 m2, .string m3, .string m4, .bool m5].length) from rfl]
          exact splice_at (by rw [kX.len]; show 15 + 6 ≤ 21; omega) i)
        change kX.Own (V.drew.setCells g (j * 21 + 15) [.int .i64 m0, .int .i64 m1, .int .i64 m2, .string m3, .string m4, .bool m5]) _ _ _ at o2
        show wpList _ _ _ _ _ (V.drew.setCells g (j * 21 + 15) [.int .i64 m0, .int .i64 m1, .int .i64 m2, .string m3, .string m4, .bool m5])
        rw [← hU] at o2 ⊢
        have cU : Chg V U (fun j => ownB (some ⟨g, 0, none⟩) j) := by
          rw [hU]
          simp only [World.setCells]
          exact ((((((((Chg.refl V (fun j => ownB (some ⟨g, 0, none⟩) j)).drew).setCell (p := ⟨g, _, none⟩) (fun _ => HG9.out) _).setCell (p := ⟨g, _, none⟩) (fun _ => HG9.out) _).setCell (p := ⟨g, _, none⟩) (fun _ => HG9.out) _).setCell (p := ⟨g, _, none⟩) (fun _ => HG9.out) _).setCell (p := ⟨g, _, none⟩) (fun _ => HG9.out) _).setCell (p := ⟨g, _, none⟩) (fun _ => HG9.out) _)
        have eU : U.heap[rb]? = some (.cells #[.slice (some ⟨g, 0, none⟩) n cap] 41) := by
          rw [hU]
          simp only [World.setCells]
          rw [Below.heap_setCell _ _ _ _ HNE.out, Below.heap_setCell _ _ _ _ HNE.out, Below.heap_setCell _ _ _ _ HNE.out, Below.heap_setCell _ _ _ _ HNE.out, Below.heap_setCell _ _ _ _ HNE.out, Below.heap_setCell _ _ _ _ HNE.out]
          exact HEV.out
        have HW' : Hid (∃ M', MvI w U rb (some ⟨g, 0, none⟩) cap L M' false (j + 1)) := Lib.hid ⟨_, HLX.out y2 HFX.out U (by
          rw [List.set_set] at o2
          have hll : (M.set j y2).length = n := by rw [List.length_set, HLM.out]
          exact ⟨by rw [hll]; exact eU, by rw [hll]; exact o2, by rw [hll]; exact HE3.out, by rw [hll]; exact hn6⟩) (HCV.out.trans cU (fun _ _ e => e))⟩
        clear hU o2 cU eU
        go_wp2_with fail
        exact ⟨⟨j + 1, by omega, by go_num, HW'⟩, by simp [intOf]; omega⟩
      · obtain ⟨y1, hy1⟩ : ∃ y : Rx, y = { x with wrote := x.marked } := ⟨_, rfl⟩
        obtain ⟨y2, hy2⟩ : ∃ y : Rx, y = { y1 with w := y1.m } := ⟨_, rfl⟩
        have c7 := HAT.out.cells j x HX.out 8 _ rfl
        have th7 := HO0.out.there (i := j) (r := 7) (m := 1) hjM (by show 7 + 1 ≤ 21; omega)
        obtain ⟨c8, f8⟩ := th7 0 (by omega)
        obtain ⟨u8, hu8⟩ := Option.isSome_iff_exists.1 c8
        have hu9 : wr.cell? ⟨g, j * 21 + 7, none⟩ = some u8 := hu8
        have f9 : wr.frozen? ⟨g, j * 21 + 7, none⟩ = false := f8
        simp [kX] at c7
        clear c8 f8 th7 hu8
        go_upto_region 4 with fail
        refine wp_region_still_tail 15 (by kernel_rfl) (by kernel_rfl) ?_
        change wpStill _ _ (World.drew _) (fun a' => wpList _ _ _ _ a' (World.drew _)) _ _
        simp only [List.take_succ_cons, List.take_zero, List.drop_succ_cons, List.drop_zero]
        repeat still_step
        refine wpStill_nil ?_
        go_upto_region 5 with fail
        clear c7 hu9 f9 q0
        obtain ⟨V, hV⟩ : ∃ V, V = (wr.setCell ⟨g, j * 21 + 7, none⟩ (.bool x.marked)).drew := ⟨_, rfl⟩
        rw [← hV]
        have o1 := HO0.out.drew.upd (i := j) (r := 7) (x := x) (x' := y1) HX.out [.bool x.marked] (by show 7 + 1 ≤ 21; omega) (fun i => by
          rw [hy1, show kX.enc { x with wrote := x.marked } = (kX.enc x).take 7 ++ [.bool x.marked] ++ (kX.enc x).drop (7 + [Value.bool x.marked].length) from rfl]
          exact splice_at (by rw [kX.len]; show 7 + 1 ≤ 21; omega) i)
        have hVs : wr.drew.setCells g (j * 21 + 7) [.bool x.marked] = V := by rw [hV]; rfl
        change kX.Own (wr.drew.setCells g (j * 21 + 7) [.bool x.marked]) _ _ _ at o1
        rw [hVs] at o1
        have cV : Chg wr V (fun j => ownB (some ⟨g, 0, none⟩) j) := by rw [hV]; exact ((Chg.refl wr (fun j => ownB (some ⟨g, 0, none⟩) j)).setCell (p := ⟨g, j * 21 + 7, none⟩) (fun _ => HG9.out) _).drew
        have eV : V.heap[rb]? = some (.cells #[.slice (some ⟨g, 0, none⟩) n cap] 41) := by rw [hV]; show (wr.setCell _ _).heap[rb]? = _; rw [Below.heap_setCell _ _ _ _ HNE.out]; exact HE1.out
        have HEV := Lib.hid eV
        have HO1 := Lib.hid o1
        have HCV := Lib.hid cV
        have HY1 : Hid ((M.set j y1)[j]? = some y1) := Lib.hid (List.getElem?_set_self hjM)
        obtain ⟨m0, m1, m2, m3, m4, m5, hwk⟩ : ∃ m0 m1 m2 m3 m4 m5, y1.m = ⟨⟨m0, m1, m2, m3⟩, m4, m5⟩ := ⟨_, _, _, _, _, _, rfl⟩
        have hy2' : y2 = { y1 with w := ⟨⟨m0, m1, m2, m3⟩, m4, m5⟩ } := by rw [hy2, hwk]
        have HY2 := Lib.hid hy2'
        have HFX : Hid (mbX true x = y2) := Lib.hid (by rw [hy2, hy1]; rfl)
        obtain ⟨b1, cp1, hve1, _, _, hat1⟩ := o1.at' (fun e => by have := HY1.out; rw [e] at this; simp at this)
        injection hve1 with hv1 hv2 hv3
        injection hv1 with hv1
        injection hv1 with hv1
        subst hv1
        have d0 := hat1.cells j y1 HY1.out 15 (.int .i64 m0) (by show some (Value.int .i64 y1.m.k.kind) = _; rw [hwk])
        have d1 := hat1.cells j y1 HY1.out (15 + 1) (.int .i64 m1) (by show some (Value.int .i64 y1.m.k.a) = _; rw [hwk])
        have d2 := hat1.cells j y1 HY1.out (15 + 2) (.int .i64 m2) (by show some (Value.int .i64 y1.m.k.b) = _; rw [hwk])
        have d3 := hat1.cells j y1 HY1.out (15 + 3) (.string m3) (by show some (Value.string y1.m.k.s) = _; rw [hwk])
        have d4 := hat1.cells j y1 HY1.out (15 + 4) (.string m4) (by show some (Value.string y1.m.val) = _; rw [hwk])
        have d5 := hat1.cells j y1 HY1.out (15 + 5) (.bool m5) (by show some (Value.bool y1.m.has) = _; rw [hwk])
        have q0 := cell_of_blk HEV.out 0
        simp [kX] at d0 d1 d2 d3 d4 d5
        simp at q0
        have HTH : Hid (V.drew.there g (j * 21 + 9) 6) := Lib.hid (HO1.out.drew.there (i := j) (r := 9) (m := 6) (by rw [List.length_set]; exact hjM) (by show 9 + 6 ≤ 21; omega))
        clear hv2 hv3 hat1 hy2 hy2' hwk hy1 hV o1 hVs cV eV
        refine wp_region_still_tail 15 (by kernel_rfl) (by kernel_rfl) ?_
        change wpStill _ _ (World.drew _) (fun a' => wpList _ _ _ _ a' (World.drew _)) _ _
        simp only [List.take_succ_cons, List.take_zero, List.drop_succ_cons, List.drop_zero]
        repeat still_step
        refine wpStill_nil ?_
        refine wpList_store_mid (op := ⟨none, _, _, _, _, _⟩) rfl 94 (.tmp 44) (.tmp 42) rfl g (j * 21 + 9) #[.int .i64 m0, .int .i64 m1, .int .i64 m2, .string m3, .string m4, .bool m5] rfl rfl HTH.out (by kernel_rfl) (all_oneCell_toArray (kW.one ⟨⟨m0, m1, m2, m3⟩, m4, m5⟩)) ?_
        clear q0 d0 d1 d2 d3 d4 d5 t6
        obtain ⟨U, hU⟩ : ∃ U, U = V.drew.setCells g (j * 21 + 9) [.int .i64 m0, .int .i64 m1, .int .i64 m2, .string m3, .string m4, .bool m5] := ⟨_, rfl⟩
        have o2 := HO1.out.drew.upd (i := j) (r := 9) (x := y1) (x' := y2) HY1.out [.int .i64 m0, .int .i64 m1, .int .i64 m2, .string m3, .string m4, .bool m5] (by show 9 + 6 ≤ 21; omega) (fun i => by
          rw [HY2.out, show kX.enc { y1 with w := ⟨⟨m0, m1, m2, m3⟩, m4, m5⟩ } = (kX.enc y1).take 9 ++ [.int .i64 m0, .int .i64 m1, .int .i64 m2, .string m3, .string m4, .bool m5] ++ (kX.enc y1).drop (9 + [Value.int .i64 m0, .int .i64 m1, .int .i64 m2, .string m3, .string m4, .bool m5].length) from rfl]
          exact splice_at (by rw [kX.len]; show 9 + 6 ≤ 21; omega) i)
        change kX.Own (V.drew.setCells g (j * 21 + 9) [.int .i64 m0, .int .i64 m1, .int .i64 m2, .string m3, .string m4, .bool m5]) _ _ _ at o2
        show wpList _ _ _ _ _ (V.drew.setCells g (j * 21 + 9) [.int .i64 m0, .int .i64 m1, .int .i64 m2, .string m3, .string m4, .bool m5])
        rw [← hU] at o2 ⊢
        have cU : Chg V U (fun j => ownB (some ⟨g, 0, none⟩) j) := by
          rw [hU]
          simp only [World.setCells]
          exact ((((((((Chg.refl V (fun j => ownB (some ⟨g, 0, none⟩) j)).drew).setCell (p := ⟨g, _, none⟩) (fun _ => HG9.out) _).setCell (p := ⟨g, _, none⟩) (fun _ => HG9.out) _).setCell (p := ⟨g, _, none⟩) (fun _ => HG9.out) _).setCell (p := ⟨g, _, none⟩) (fun _ => HG9.out) _).setCell (p := ⟨g, _, none⟩) (fun _ => HG9.out) _).setCell (p := ⟨g, _, none⟩) (fun _ => HG9.out) _)
        have eU : U.heap[rb]? = some (.cells #[.slice (some ⟨g, 0, none⟩) n cap] 41) := by
          rw [hU]
          simp only [World.setCells]
          rw [Below.heap_setCell _ _ _ _ HNE.out, Below.heap_setCell _ _ _ _ HNE.out, Below.heap_setCell _ _ _ _ HNE.out, Below.heap_setCell _ _ _ _ HNE.out, Below.heap_setCell _ _ _ _ HNE.out, Below.heap_setCell _ _ _ _ HNE.out]
          exact HEV.out
        have HW' : Hid (∃ M', MvI w U rb (some ⟨g, 0, none⟩) cap L M' true (j + 1)) := Lib.hid ⟨_, HLX.out y2 HFX.out U (by
          rw [List.set_set] at o2
          have hll : (M.set j y2).length = n := by rw [List.length_set, HLM.out]
          exact ⟨by rw [hll]; exact eU, by rw [hll]; exact o2, by rw [hll]; exact HE3.out, by rw [hll]; exact hn6⟩) (HCV.out.trans cU (fun _ _ e => e))⟩
        clear hU o2 cU eU
        go_wp2_with fail
        exact ⟨⟨j + 1, by omega, by go_num, HW'⟩, by simp [intOf]; omega⟩
    · obtain rfl : j = n := by omega
      have q0 := cell_of_blk e1 0
      simp at q0
      clear e1 e2 e3 hml
      go_wp2_with fail
      go_end0
      have hE := HI.out
      rw [HN.out] at hE
      refine ⟨rfl, ?_, hE.c⟩
      rw [← hE.end]
      exact hE.s
end Go.Proofs.YtkhkdedjffkhdaaGreat
namespace Go.Proofs.YtkhkdedjffkhdaaGreat
open Go.RowKit Go.Maps

set_option maxRecDepth 100000 in
theorem r4parts_any (x : Nat) (w : World) (hx : x < 4611686018427387904) :
    Calls Tryz.prog 95 #[.int .u64 x] w fun e w' => e = .returned (.tuple #[.bool false, .bool false, .int .u64 (x / 2147483648 : Nat), .int .u64 (x % 2147483648 : Nat)]) ∧ w = w' := by
  obtain ⟨e, he⟩ : ∃ e : Nat, e = x / 2147483648 := ⟨_, rfl⟩
  obtain ⟨s, hs⟩ : ∃ s : Nat, s = x % 2147483648 := ⟨_, rfl⟩
  have h1 : (x : Int).tmod 4611686018427387904 = (x : Int) := by
    rw [Int.tmod_eq_emod_of_nonneg (by omega)]; omega
  have h2 : (x : Int).tdiv 9223372036854775808 = 0 := by
    rw [Int.tdiv_eq_ediv_of_nonneg (by omega)]; omega
  have h3 : (x : Int).tdiv 4611686018427387904 = 0 := by
    rw [Int.tdiv_eq_ediv_of_nonneg (by omega)]; omega
  have h4 : (x : Int).tdiv 2147483648 = (e : Int) := by
    rw [Int.tdiv_eq_ediv_of_nonneg (by omega)]; omega
  have h5 : (x : Int).tmod 2147483648 = (s : Int) := by
    rw [Int.tmod_eq_emod_of_nonneg (by omega)]; omega
  rw [← he, ← hs]
  have w1 : IntKind.u64.wrap (e : Int) = (e : Int) := IntWalk.u64_in _ (by omega)
  have w2 : IntKind.u64.wrap (s : Int) = (s : Int) := IntWalk.u64_in _ (by omega)
  clear he hs
  go_enter Tryz.func95, Tryz.ntmps95
  go_wp2_with fail
  exact bodyPost_ret (v := .tuple #[.bool false, .bool false, .int .u64 e, .int .u64 s]) (by simp [results, Tryz.results95, go_sem]) rfl ⟨rfl, rfl⟩
set_option maxRecDepth 100000 in
theorem r4pack_any (e s : Nat) (w : World) (he : e ≤ 2147483647) (hs : s ≤ 1073741823) :
    Calls Tryz.prog 96 #[.agg #[.int .i64 e, .int .i64 s, .bool false, .bool false]] w fun r w' => r = .returned (.int .u64 (e * 2147483648 + s : Nat)) ∧ Below w.heap.size w w' := by
  go_enter Tryz.func96, Tryz.ntmps96
  go_wp2_with fail
  go_ret
  exact ⟨by simp, below_box _ _⟩
set_option maxRecDepth 100000 in
theorem r4next_any (x : Nat) (ep : Int) (w : World) (hx : x < 4611686018427387904) :
    Calls Tryz.prog 69 #[.int .u64 x, .int .i64 ep] w fun r w' => r = .returned (.tuple #[.int .u64 (nextW x ep).1, .int .i64 (nextW x ep).2]) ∧ Below w.heap.size w w' := by
  by_cases h1 : ep < 0
  · have HP : Hid (nextW x ep = (0, 2)) := Lib.hid (by unfold nextW; rw [if_pos (.inl h1)])
    go_enter Tryz.func69, Tryz.ntmps69
    go_wp2_with fail
    go_ret2
    exact ⟨by rw [HP.out]; rfl, Below.refl _ _⟩
  by_cases h2 : 2147483647 < ep
  · have HP : Hid (nextW x ep = (0, 2)) := Lib.hid (by unfold nextW; rw [if_pos (.inr h2)])
    go_enter Tryz.func69, Tryz.ntmps69
    go_wp2_with fail
    go_ret2
    exact ⟨by rw [HP.out]; rfl, Below.refl _ _⟩
  obtain ⟨e, rfl⟩ : ∃ e : Nat, ep = e := ⟨ep.toNat, by omega⟩
  have HPA := Lib.hid (r4parts_any x w hx)
  obtain ⟨q, hq⟩ : ∃ q : Nat, q = x / 2147483648 := ⟨_, rfl⟩
  obtain ⟨s, hs⟩ : ∃ s : Nat, s = x % 2147483648 := ⟨_, rfl⟩
  rw [← hq, ← hs] at HPA
  have hxx : x = q * 2147483648 + s := by omega
  have hs9 : s < 2147483648 := by omega
  have he9 : e ≤ 2147483647 := by omega
  obtain ⟨F, hF⟩ : ∃ F : Nat, F = e * 2147483648 + 1 := ⟨_, rfl⟩
  obtain ⟨M, hM⟩ : ∃ M : Nat, M = x + 1 := ⟨_, rfl⟩
  have HN : Hid (nextW x e = if e < q then (0, 40) else if q < e then (F, 0) else if 1073741823 ≤ s then (0, 40) else (M, 0)) := Lib.hid (by
    have hR : nextW x e = if F + 1073741822 < max F M then (0, 40) else (max F M, 0) := by
      unfold nextW
      rw [if_neg (by omega)]
      simp only [Int.toNat_natCast]
      rw [← hF, ← hM, show e * 2147483648 + 1073741823 = F + 1073741822 by omega]
    rw [hR]
    clear hR
    by_cases g1 : e < q
    · have a : F + 1073741822 < max F M := by omega
      rw [if_pos g1, if_pos a]
    · rw [if_neg g1]
      by_cases g2 : q < e
      · have a : ¬ F + 1073741822 < max F M := by omega
        have b : max F M = F := by omega
        rw [if_pos g2, if_neg a, b]
      · rw [if_neg g2]
        by_cases g3 : 1073741823 ≤ s
        · have a : F + 1073741822 < max F M := by omega
          rw [if_pos g3, if_pos a]
        · have a : ¬ F + 1073741822 < max F M := by omega
          have b : max F M = M := by omega
          rw [if_neg g3, if_neg a, b])
  have HK1 : Hid (Calls Tryz.prog 96 #[.agg #[.int .i64 e, .int .i64 1, .bool false, .bool false]] w fun r w' => r = .returned (.int .u64 F) ∧ Below w.heap.size w w') := Lib.hid (by
    have := r4pack_any e 1 w (by omega) (by omega)
    rw [← hF] at this
    exact this)
  have HK2 : Hid (q = e → s < 1073741823 → Calls Tryz.prog 96 #[.agg #[.int .i64 e, .int .i64 ((s : Int) + 1), .bool false, .bool false]] w fun r w' => r = .returned (.int .u64 M) ∧ Below w.heap.size w w') := Lib.hid (fun e1 e2 => by
    have := r4pack_any e (s + 1) w (by omega) (by omega)
    rw [show e * 2147483648 + (s + 1) = M by omega] at this
    exact this)
  clear hF hM
  clear hq hs hxx
  have we : IntKind.u64.wrap (e : Int) = (e : Int) := IntWalk.u64_in _ (by omega)
  by_cases g1 : e < q
  · have HP : Hid (nextW x e = (0, 40)) := Lib.hid (by rw [HN.out, if_pos g1])
    go_enter Tryz.func69, Tryz.ntmps69
    go_wp2_with (go_at_call 95; refine HPA.out.mono ?_; rintro r w1 ⟨rfl, rfl⟩)
    go_ret2
    exact ⟨by rw [HP.out]; rfl, Below.refl _ _⟩
  by_cases g2 : q < e
  · have HP : Hid (nextW x e = (F, 0)) := Lib.hid (by rw [HN.out, if_neg g1, if_pos g2])
    have HK := HK1
    clear HK2
    go_enter Tryz.func69, Tryz.ntmps69
    go_wp2_with (go_at_call 95; refine HPA.out.mono ?_; rintro r w1 ⟨rfl, rfl⟩)
    refine HK.out.mono ?_
    rintro r w1 ⟨rfl, hb⟩
    have HB := Lib.hid hb
    clear hb
    go_wp2_with fail
    go_ret2
    exact ⟨by rw [HP.out]; rfl, HB.out⟩
  by_cases g3 : 1073741823 ≤ s
  · have HP : Hid (nextW x e = (0, 40)) := Lib.hid (by rw [HN.out, if_neg g1, if_neg g2, if_pos g3])
    have t3 : decide ((1073741823 : Int) ≤ (s : Int)) = true := decide_eq_true (by omega)
    have t4 : decide ((s : Int) < (1073741823 : Int)) = false := decide_eq_false (by omega)
    clear g3 HK1 HK2 hs9 he9
    go_enter Tryz.func69, Tryz.ntmps69
    go_wp2_with (go_at_call 95; refine HPA.out.mono ?_; rintro r w1 ⟨rfl, rfl⟩)
    go_ret2
    exact ⟨by rw [HP.out]; rfl, Below.refl _ _⟩
  · have HP : Hid (nextW x e = (M, 0)) := Lib.hid (by rw [HN.out, if_neg g1, if_neg g2, if_neg g3])
    have HK := Lib.hid (HK2.out (by omega) (by omega))
    have hs8 : s < 1073741823 := by omega
    have t3 : decide ((1073741823 : Int) ≤ (s : Int)) = false := decide_eq_false (by omega)
    have t4 : decide ((s : Int) < (1073741823 : Int)) = true := decide_eq_true (by omega)
    clear HK1 HK2
    have ws : IntKind.i64.wrap (s : Int) = (s : Int) := IntWalk.i64_in _ (by omega)
    have ws1 : IntKind.i64.wrap ((s : Int) + 1) = (s : Int) + 1 := IntWalk.i64_in _ (by omega)
    clear g3 hs8 hs9 he9
    go_enter Tryz.func69, Tryz.ntmps69
    go_wp2_with (go_at_call 95; refine HPA.out.mono ?_; rintro r w1 ⟨rfl, rfl⟩)
    refine HK.out.mono ?_
    rintro r w1 ⟨rfl, hb⟩
    have HB := Lib.hid hb
    clear hb
    go_wp2_with fail
    go_ret2
    exact ⟨by rw [HP.out]; rfl, HB.out⟩
end Go.Proofs.YtkhkdedjffkhdaaGreat
namespace Go.Proofs.YtkhkdedjffkhdaaGreat
open Go.RowKit Go.Maps

/-- where a reference transaction lies, with its sets -/
structure Ra where
  m : Rm
  sa : Option Addr
  sc : Nat
def Ra.fp (a : Ra) (j : Nat) : Prop := j = a.m.tb ∨ j = a.m.sb ∨ ownB a.m.wa j ∨ ownB a.m.ra j ∨ ownB a.sa j
structure RqM (w : World) (a : Ra) (R : Rn) (X : List Rx) : Prop where
  c : RnC w a.m R
  s : SrV w a.m.sb a.sa a.sc X
  ap : ∀ j, ownB a.m.ra j → ¬ ownB a.sa j
/-- what kind of block it is -/
def Ty (w : World) (j : Nat) (t : TypeId) : Prop := ∃ cur z, w.heap[j]? = some (.cells cur t z)
theorem Ty.ne {w : World} {j : Nat} {t t' : TypeId} (h : Ty w j t) (h2 : Ty w j t') (ht : t ≠ t') : False := by
  obtain ⟨c, z, h⟩ := h
  obtain ⟨c2, z2, h2⟩ := h2
  rw [h] at h2
  injection h2 with h2
  injection h2 with e1 e2
  exact ht e2
theorem own_ty2 {P : Program} {α : Type} {k : RowK P α} {w : World} {B : Nat} {v : Value} {l : List α} (h : k.Own w B v l) {j : Nat} (hj : v.ownBlock = some j) : Ty w j k.e := by
  rcases h.2 with ⟨h1, _⟩ | ⟨g, cp, cur, h1, _, hg, _⟩
  · rw [h1] at hj; cases hj
  · rw [h1] at hj
    injection hj with hj
    subst hj
    exact ⟨cur, _, hg⟩
section
variable {w w' : World} {a a' : Ra} {R R' : Rn} {X X' : List Rx} {rb room : Nat} {v v' : Value} {L L' : List (Ky × Cl)}
theorem RqM.kind (h : RqM w a R X) {j : Nat} (hj : a.fp j) : Ty w j 45 ∨ Ty w j 41 ∨ Ty w j 94 ∨ Ty w j 133 := by
  rcases hj with rfl | rfl | hj | hj | hj
  · exact .inl ⟨_, _, h.c.blk⟩
  · exact .inr (.inl ⟨_, _, h.s.blk⟩)
  · exact .inr (.inr (.inl (own_ty2 h.c.wo (ownB_iff.2 hj))))
  · exact .inr (.inr (.inr (own_ty2 h.c.ro (ownB_iff.2 hj))))
  · exact .inr (.inr (.inr (own_ty2 h.s.o (ownB_iff.2 hj))))
theorem RqM.lt (h : RqM w a R X) {j : Nat} (hj : a.fp j) : j < w.heap.size := by
  rcases h.kind hj with ⟨_, _, e⟩ | ⟨_, _, e⟩ | ⟨_, _, e⟩ | ⟨_, _, e⟩ <;> exact (Array.getElem?_eq_some_iff.1 e).1
theorem RqM.keep {S : Nat → Prop} (h : RqM w a R X) (hc : Chg w w' S) (hS : ∀ j, a.fp j → ¬ S j) : RqM w' a R X :=
  ⟨⟨(hc.block _ h.c.lt (hS _ (.inl rfl))).trans h.c.blk,
    RowK.Own.chg h.c.wo hc (fun j hj => hS j (.inr (.inr (.inl (ownB_iff.1 hj))))),
    RowK.Own.chg h.c.ro hc (fun j hj => hS j (.inr (.inr (.inr (.inl (ownB_iff.1 hj))))))⟩,
   h.s.chg hc (hS _ (.inr (.inl rfl))) (fun j hj => hS j (.inr (.inr (.inr (.inr hj))))), h.ap⟩
theorem RqM.below (h : RqM w a R X) (hb : Below w.heap.size w w') : RqM w' a R X := h.keep (Chg.of_below hb (fun _ => False)) (fun _ _ e => e)
theorem RqM.tbne (h : RqM w a R X) {j : Nat} (hj : j = a.m.sb ∨ ownB a.m.wa j ∨ ownB a.m.ra j ∨ ownB a.sa j) : j ≠ a.m.tb := fun e => by
  subst e
  have ht : Ty w a.m.tb 45 := ⟨_, _, h.c.blk⟩
  rcases hj with hj | hj | hj | hj
  · have h2 : Ty w a.m.tb 41 := by rw [hj]; exact ⟨_, _, h.s.blk⟩
    exact ht.ne h2 (by decide)
  · exact ht.ne (own_ty2 h.c.wo (ownB_iff.2 hj)) (by decide)
  · exact ht.ne (own_ty2 h.c.ro (ownB_iff.2 hj)) (by decide)
  · exact ht.ne (own_ty2 h.s.o (ownB_iff.2 hj)) (by decide)
/-- beside its store -/
structure RqA (w : World) (a : Ra) (R : Rn) (X : List Rx) (rb room : Nat) (v : Value) (L : List (Ky × Cl)) : Prop where
  mm : RqM w a R X
  st : RO w rb 0 room v L
  cb : a.m.cb = rb
theorem rf_kind (h : RO w rb 0 room v L) {j : Nat} (hj : RF rb v j) : Ty w j 34 ∨ Ty w j 90 := by
  rcases hj with rfl | hj
  · exact .inl ⟨_, _, h.blk⟩
  · exact .inr (own_ty2 h.o hj)
theorem rf_lt (h : RO w rb 0 room v L) {j : Nat} (hj : RF rb v j) : j < w.heap.size := by
  rcases rf_kind h hj with ⟨_, _, e⟩ | ⟨_, _, e⟩ <;> exact (Array.getElem?_eq_some_iff.1 e).1
theorem RqM.apart (h : RqM w a R X) (hr : RO w rb 0 room v L) {j : Nat} (hj : a.fp j) : ¬ RF rb v j := fun hf => by
  rcases h.kind hj with e | e | e | e <;> rcases rf_kind hr hf with d | d <;> exact e.ne d (by decide)
theorem ro_keep {S : Nat → Prop} (h : RO w rb 0 room v L) (hc : Chg w w' S) (hS : ∀ j, RF rb v j → ¬ S j) : RO w' rb 0 room v L :=
  ⟨(hc.block _ h.lt (hS _ (.inl rfl))).trans h.blk, RowK.Own.chg h.o hc (fun j hj => hS j (.inr hj)), h.len⟩
/-- a turn of a reference transaction and its store -/
structure RqT (w w' : World) (a a' : Ra) (rb : Nat) (v v' : Value) : Prop where
  chg : Chg w w' (fun j => a.fp j ∨ RF rb v j)
  af : ∀ j, a'.fp j → a.fp j ∨ w.heap.size ≤ j
  vf : ∀ j, v'.ownBlock = some j → v.ownBlock = some j ∨ w.heap.size ≤ j
  tb : a'.m.tb = a.m.tb
  sb : a'.m.sb = a.m.sb
  cb : a'.m.cb = a.m.cb
theorem RqT.below (hb : Below w.heap.size w w') (a : Ra) (rb : Nat) (v : Value) : RqT w w' a a rb v v := ⟨Chg.of_below hb _, fun _ h => .inl h, fun _ h => .inl h, rfl, rfl, rfl⟩
theorem RqT.trans {w2 : World} {b c : Ra} {u t : Value} (h : RqT w w' a b rb v u) (k : RqT w' w2 b c rb u t) : RqT w w2 a c rb v t := by
  refine ⟨h.chg.trans k.chg (fun i hi hh => ?_), fun j hj => ?_, fun j hj => ?_, k.tb.trans h.tb, k.sb.trans h.sb, k.cb.trans h.cb⟩
  · rcases hh with hh | hh | hh
    · rcases h.af i hh with e | e
      · exact .inl e
      · omega
    · exact .inr (.inl hh)
    · rcases h.vf i hh with e | e
      · exact .inr (.inr e)
      · omega
  · rcases k.af j hj with e | e
    · exact h.af j e
    · exact .inr (Nat.le_trans h.chg.size e)
  · rcases k.vf j hj with e | e
    · exact h.vf j e
    · exact .inr (Nat.le_trans h.chg.size e)
theorem RqA.below (h : RqA w a R X rb room v L) (hb : Below w.heap.size w w') : RqA w' a R X rb room v L := ⟨h.mm.below hb, h.st.below hb, h.cb⟩
/-- the transaction's own block alone has changed -/
theorem RqA.own (h : RqA w a R X rb room v L) (ht : RnC w' a.m R') (hc : Chg w w' (fun j => j = a.m.tb)) : RqA w' a R' X rb room v L ∧ RqT w w' a a rb v v :=
  ⟨⟨⟨ht, h.mm.s.chg hc (h.mm.tbne (.inl rfl)) (fun j hj => h.mm.tbne (.inr (.inr (.inr hj)))), h.mm.ap⟩,
    ro_keep h.st hc (fun j hj e => h.mm.apart h.st (.inl e) hj), h.cb⟩,
   ⟨hc.mono (fun _ _ e => .inl (.inl e)), fun _ h => .inl h, fun _ h => .inl h, rfl, rfl, rfl⟩⟩
/-- the store alone has changed -/
theorem RqA.store (h : RqA w a R X rb room v L) (p : RPost w rb 0 room v L' w') : ∃ v', RqA w' a R X rb room v' L' ∧ RqT w w' a a rb v v' := by
  obtain ⟨v', h1, h2⟩ := p.ex
  exact ⟨v', ⟨h.mm.keep p.chg (fun j hj => h.mm.apart h.st hj), h1, h.cb⟩,
   ⟨p.chg.mono (fun _ _ e => .inr e), fun _ h => .inl h, h2, rfl, rfl, rfl⟩⟩
/-- another transaction of the same store -/
theorem RqA.other {b : Ra} {R2 : Rn} {X2 : List Rx} (h : RqM w b R2 X2) (hr : RO w rb 0 room v L) (ht : RqT w w' a a' rb v v') (hd : ∀ j, b.fp j → ¬ a.fp j) : RqM w' b R2 X2 ∧ ∀ j, b.fp j → ¬ a'.fp j :=
  ⟨h.keep ht.chg (fun j hj e => by
      rcases e with e | e
      · exact hd j hj e
      · exact h.apart hr hj e), fun j hj hf => by
    rcases ht.af j hf with e | e
    · exact hd j hj e
    · have := h.lt hj; omega⟩
/-- what a call of a reference transaction leaves -/
def RqP (w : World) (a : Ra) (R : Rn) (X : List Rx) (rb room : Nat) (v : Value) (L : List (Ky × Cl)) (w' : World) : Prop :=
  ∃ a' v', RqA w' a' R X rb room v' L ∧ RqT w w' a a' rb v v'
/-- what over leaves of the store -/
noncomputable def ovL (L : List (Ky × Cl)) (who : Int) : List (Ky × Cl) := (unlL L who (keysL (heldC who) L)).2
def OvR (w : World) (a : Ra) (R : Rn) (X : List Rx) (rb room : Nat) (v : Value) (L : List (Ky × Cl)) (e : Ending) (w' : World) : Prop :=
  e = .returned (.tuple #[]) ∧ RqP w a { R with ph := 6 } X rb room v (ovL L R.who) w'
theorem row_rv {u : World} (h : RO u rb 0 room v L) : ∃ aa cap, v = .slice aa L.length cap ∧ RV u rb aa cap room L := by
  obtain ⟨aa, cap, e⟩ := h.o.shape
  rw [e] at h
  exact ⟨aa, cap, e, h.rv.1⟩
set_option maxRecDepth 100000 in
set_option maxHeartbeats 4000000 in
theorem r20over_any (h : RqA w a R X rb room v L) (hok : ∀ q ∈ L, q.1.Ok) (hn : L.length ≤ 1000) : Calls Tryz.prog 68 #[.pointer (some ⟨a.m.tb, 0, none⟩)] w (OvR w a R X rb room v L) := by
  obtain ⟨tb, htb⟩ : ∃ b, b = a.m.tb := ⟨_, rfl⟩
  obtain ⟨who, hwho⟩ : ∃ b, b = R.who := ⟨_, rfl⟩
  obtain ⟨kl, hkl⟩ : ∃ x, x = keysL (heldC who) L := ⟨_, rfl⟩
  have HFC : Hid (∀ u, RqM u a R X → u.cell? ⟨tb, 0, none⟩ = some (.pointer (some ⟨rb, 0, none⟩)) ∧ u.cell? ⟨tb, 1, none⟩ = some (.int .i64 who) ∧ tb < u.heap.size) := Lib.hid (fun u hu => by
    obtain ⟨c0, c1, _, _, _, _, _, _, _, _, cl⟩ := hu.c.cell
    rw [htb, ← h.cb, hwho]
    exact ⟨c0, c1, cl⟩)
  have HH : Hid (∀ u, Below w.heap.size w u → Calls Tryz.prog 11 #[.pointer (some ⟨rb, 0, none⟩), .int .i64 0, .int .i64 who] u (RKs u (heldC who) L)) := Lib.hid (fun u hu => by
    obtain ⟨aa, cap, _, h2⟩ := row_rv (h.st.below hu)
    exact rkeys0_any rb cap room aa L who u h2 (fun q hq => (hok q hq).s))
  have HUN : Hid (∀ (u : World) (ka : Option Addr) (n kc : Nat), Below w.heap.size w u → kK.Own u w.heap.size (.slice ka n kc) kl → n = kl.length → Calls Tryz.prog 94 #[.pointer (some ⟨rb, 0, none⟩), .int .i64 who, .slice ka n kc] u (RUn u rb 0 room v L who kl)) := Lib.hid (fun u ka n kc hu ho hnk => by
    subst hnk
    have hm := mem_keysL (heldC who) L
    rw [← hkl] at hm
    have hl : kl.length ≤ L.length := by rw [hkl]; exact keysL_len _ _
    exact runlock_at rb 0 room v L who ka kc kl u (h.st.below hu) (Nat.zero_le _) (ksv_row ho (fun k hk => by
      obtain ⟨q, h1, h2, _⟩ := (hm k).1 hk
      rw [← h2]; exact hok q h1) (fun j hj => rf_lt h.st hj)) (by omega))
  have HA := Lib.hid h
  have HKL := Lib.hid hkl
  rw [← htb]
  have HTB : Hid (tb = a.m.tb ∧ who = R.who) := Lib.hid ⟨htb, hwho⟩
  clear h htb hwho hn hok hkl
  go_enter Tryz.func68, Tryz.ntmps68
  go_upto_region 0 with fail
  have HS0 : Hid (∀ u, Below w.heap.size w u → u.cell? ⟨tb, 0, none⟩ = some (.pointer (some ⟨rb, 0, none⟩)) ∧ u.cell? ⟨tb, 1, none⟩ = some (.int .i64 who) ∧ tb < u.heap.size) := Lib.hid (fun u hu => HFC.out u (HA.out.mm.below hu))
  go_region_held3 (fun u => u.cell? ⟨tb, 0, none⟩ = some (.pointer (some ⟨rb, 0, none⟩)) ∧ u.cell? ⟨tb, 1, none⟩ = some (.int .i64 who) ∧ tb < u.heap.size)
    (first | exact HS0.out _ (Below.refl _ _).drew | exact HS0.out _ HBC.out | exact HFC.out _ HA2.out.1.mm)
    ((first
      | (go_at_call 11; (refine (HH.out _ (Below.refl _ _).drew).mono ?_); rintro e wc ⟨v, rfl, g4, hbc⟩; have hB0 : Below w.heap.size w _ := (Below.refl _ _).drew; have HBC := Lib.hid (below_then hB0 hbc); have g5 := RowK.Own.mono g4 hB0.size; rw [← HKL.out] at g5; obtain ⟨ka, kc, rfl⟩ := RowK.Own.shape g5; obtain ⟨nk, hnk⟩ : ∃ n, n = kl.length := ⟨_, rfl⟩; rw [← hnk] at g5 ⊢; have HUC := Lib.hid (HUN.out wc ka nk kc HBC.out g5 hnk); clear g4 g5 hnk hbc hB0)
      | (go_at_call 94; refine HUC.out.mono ?_; rintro e w2 ⟨rfl, hp⟩; obtain ⟨v2, hv2⟩ := (HA.out.below HBC.out).store hp; have HA2 := Lib.hid hv2; clear hp hv2)))
  all_goals (
    have f3 := frozen_of_blk HA2.out.1.mm.c.blk 2
    have k3 := cell_of_blk HA2.out.1.mm.c.blk 2
    rw [← HTB.out.1] at f3 k3
    simp [Rm.cells] at k3
    go_wp2_with fail
    go_end0
    have hF := HA2.out.1.mm.c.setPh 6
    have hO := HA2.out.1.own hF.1 hF.2
    rw [← HTB.out.1] at hO
    have hL : (unlL L R.who (keysL (heldC R.who) L)).2 = (unlL L who kl).2 := by rw [HKL.out, HTB.out.2]
    unfold OvR ovL
    rw [hL]
    exact ⟨rfl, a, v2, hO.1, ((RqT.below HBC.out a rb v).trans HA2.out.2).trans hO.2⟩)
end
end Go.Proofs.YtkhkdedjffkhdaaGreat
