/- Stable sort of writes by any closure, 2: insertion, and merging where a part is one. Conditions: each contract's own premises. (Printed by gen_sw.py out of the sort of ints.) -/
import Derived.Test.YtkbmipmegljidaaGreatWsF
namespace Go.Proofs.YtkbmipmegljidaaGreat
open Go.RowKit Go.Maps

/-- how two are compared: only whether the first is lower is asked -/
def CmpPostW (w : World) (q : Bool) (e : Ending) (w' : World) : Prop := ∃ c : Int, e = .returned (.int .i64 c) ∧ decide (c < 0) = q ∧ Below w.heap.size w w'
/-- a closure that compares the writes of a list by their keys, whatever has been turned in block b -/
def CmpOkW (g : Nat) (cb : Array Value) (b n : Nat) (L : List Wr) (key : Nat → Nat) (w : World) : Prop :=
  ∀ u, Chg w u (fun k => k = b) → ∀ i j, i < n → j < n → Calls Tryz.prog g (#[(L[i]!).agg, (L[j]!).agg] ++ cb) u (CmpPostW u (decide (key i < key j)))
theorem CmpOkW.chg {g : Nat} {cb : Array Value} {b n : Nat} {L : List Wr} {key : Nat → Nat} {w w' : World} (h : CmpOkW g cb b n L key w) (hc : Chg w w' (fun k => k = b)) : CmpOkW g cb b n L key w' :=
  fun u hu => h u (hc.trans hu (fun _ _ h => h))
theorem CmpOkW.at' {g : Nat} {cb : Array Value} {b n : Nat} {L : List Wr} {key : Nat → Nat} {w wr u : World} (h : CmpOkW g cb b n L key w) (hc : Chg w wr (fun k => k = b)) (hu : Below wr.heap.size wr u) {i j : Nat} (hi : i < n) (hj : j < n) :
    Calls Tryz.prog g (#[(L[i]!).agg, (L[j]!).agg] ++ cb) u (CmpPostW u (decide (key i < key j))) :=
  h u (hc.trans (Chg.of_below hu _) (fun _ _ h => h)) i j hi hj
theorem WAt.below {w w' : World} {b off n : Nat} {L : List Wr} {s : Nat → Nat} (h : WAt w b off n L s) (hb : Below w.heap.size w w') : WAt w' b off n L s := h.of_block (hb.block b h.lt)
/-- what a function leaves that sorts a part of the row -/
def SrwPostX (key : Nat → Nat) (w : World) (b off n : Nat) (L : List Wr) (s : Nat → Nat) (a c : Nat) (e : Ending) (w' : World) : Prop :=
  e = .returned (.tuple #[]) ∧ ∃ t, WAt w' b off n L t ∧ Chg w w' (fun k => k = b) ∧ Srt.Into t s a c ∧ Srt.Srt key t a c
set_option maxRecDepth 100000 in
set_option maxHeartbeats 4000000 in
theorem insCW_any (g : Nat) (cb : Array Value) (key : Nat → Nat) (eg : ∀ args w, (callFunc g args).run Tryz.prog w = .ok (.enter g args) w) (b off cap n : Nat) (L : List Wr) (s : Nat → Nat) (a c : Nat) (w : World) (h : WAt w b off n L s) (hcm : CmpOkW g cb b n L key w) (hac : a ≤ c) (hc : c ≤ n) (hn : n ≤ 1000000) (hs : ∀ p q, a ≤ p → p < q → q < c → s p < s q) :
    Calls Tryz.prog 156 #[.slice (some ⟨b, off, none⟩) n cap, .int .i64 a, .int .i64 c, .func (.func g) #[] cb] w (SrwPostX key w b off n L s a c) := by
  have HCM := Lib.hid hcm
  have HS0 := Lib.hid h
  have HS := Lib.hid hs
  clear hcm
  clear h hs
  go_enter Tryz.func156, Tryz.ntmps156
  go_wp2_with fail
  go_loopw [8] (fun i wr => ∃ k : Nat, a + 1 ≤ k ∧ (k ≤ c ∨ k ≤ a + 1) ∧ i = .int .i64 k ∧ Hid (∃ t, WAt wr b off n L t ∧ Chg w wr (fun k => k = b) ∧ Srt.InsO key t s a k ∧ (k ≤ a + 1 → t = s))) (fun i _ => c - (intOf i).toNat)
  case atStart => exact ⟨a + 1, by omega, by omega, by go_num, Lib.hid ⟨s, HS0.out, Chg.refl _ _, Srt.InsO.start s a, fun _ => rfl⟩⟩
  case round =>
    obtain ⟨k, hk, hkc, rfl, HR⟩ := hrel
    by_cases hlt : k < c
    · obtain ⟨wo, rfl⟩ : ∃ wo : World, wo = wr := ⟨_, rfl⟩
      have HI : Hid (∃ t, WAt wo b off n L t ∧ Chg w wo (fun k => k = b) ∧ Srt.InsI key t s a k k) := Lib.hid (by
        obtain ⟨t, h1, h2, h3, h4⟩ := HR.out
        exact ⟨t, h1, h2, h3.first (by omega) hlt HS.out⟩)
      clear HR HS0
      go_wp2_with fail
      go_loopw [9] (fun i wr => ∃ j : Nat, a ≤ j ∧ j ≤ k ∧ i = .int .i64 j ∧ Hid (∃ t, WAt wr b off n L t ∧ Chg w wr (fun k => k = b) ∧ Srt.InsI key t s a k j)) (fun i _ => (intOf i).toNat)
      case atStart => exact ⟨k, by omega, Nat.le_refl _, rfl, HI⟩
      case round =>
        obtain ⟨j, hj, hjk, rfl, HR⟩ := hrel
        by_cases hja : a < j
        · obtain ⟨p, hp⟩ : ∃ p, p + 1 = j := ⟨j - 1, by omega⟩
          obtain ⟨t, hT⟩ := HR.out
          have HT := Lib.hid hT
          clear hT HR HI
          have hp1 : j < n := by omega
          have hp0 : p < n := by omega
          obtain ⟨q, hq⟩ : ∃ q, decide (key (t j) < key (t p)) = q := ⟨_, rfl⟩
          have hk := fun (u : World) (hu : Below wr.heap.size wr u) => HCM.out.at' HT.out.2.1 hu (HT.out.1.dom hp1) (HT.out.1.dom hp0)
          obtain ⟨A, hA⟩ : ∃ A, A = L[t j]! := ⟨_, rfl⟩
          obtain ⟨B, hB⟩ : ∃ B, B = L[t p]! := ⟨_, rfl⟩
          rw [hq, ← hA, ← hB] at hk
          have HK := Lib.hid hk
          clear hk
          have hks : ∀ w', Below wr.heap.size wr w' → Below wr.heap.size wr w' ∧ w'.cell? ⟨b, off + j * 6, none⟩ = some (.int .i64 A.k.kind) ∧ w'.cell? ⟨b, off + j * 6 + 1, none⟩ = some (.int .i64 A.k.a) ∧ w'.cell? ⟨b, off + j * 6 + 2, none⟩ = some (.int .i64 A.k.b) ∧ w'.cell? ⟨b, off + j * 6 + 3, none⟩ = some (.string A.k.s) ∧ w'.cell? ⟨b, off + j * 6 + 4, none⟩ = some (.string A.val) ∧ w'.cell? ⟨b, off + j * 6 + 5, none⟩ = some (.bool A.has) ∧ w'.cell? ⟨b, off + p * 6, none⟩ = some (.int .i64 B.k.kind) ∧ w'.cell? ⟨b, off + p * 6 + 1, none⟩ = some (.int .i64 B.k.a) ∧ w'.cell? ⟨b, off + p * 6 + 2, none⟩ = some (.int .i64 B.k.b) ∧ w'.cell? ⟨b, off + p * 6 + 3, none⟩ = some (.string B.k.s) ∧ w'.cell? ⟨b, off + p * 6 + 4, none⟩ = some (.string B.val) ∧ w'.cell? ⟨b, off + p * 6 + 5, none⟩ = some (.bool B.has) := fun w' hb => by
            have h' := HT.out.1.below hb
            rw [hA, hB]
            exact ⟨hb, h'.cell0 hp1, h'.cell1 hp1, h'.cell2 hp1, h'.cell3 hp1, h'.cell4 hp1, h'.cell5 hp1, h'.cell0 hp0, h'.cell1 hp0, h'.cell2 hp0, h'.cell3 hp0, h'.cell4 hp0, h'.cell5 hp0⟩
          have KS := Lib.hid hks
          have w1 : IntKind.i64.wrap ((j : Int) - 1) = (p : Int) := by rw [IntKind.wrap_i64]; omega
          have t1 : decide ((a : Int) < (j : Int)) = true := decide_eq_true (by omega)
          have z1 : (j : Int) < (n : Int) := by omega
          have z0 : (p : Int) < (n : Int) := by omega
          have HAB := Lib.hid (And.intro hA hB)
          have HQ := Lib.hid hq
          have HP := Lib.hid hp
          clear hks hA hB hq hp
          go_wp2_with fail
          go_region_held3 (fun w' => Below wr.heap.size wr w' ∧ w'.cell? ⟨b, off + j * 6, none⟩ = some (.int .i64 A.k.kind) ∧ w'.cell? ⟨b, off + j * 6 + 1, none⟩ = some (.int .i64 A.k.a) ∧ w'.cell? ⟨b, off + j * 6 + 2, none⟩ = some (.int .i64 A.k.b) ∧ w'.cell? ⟨b, off + j * 6 + 3, none⟩ = some (.string A.k.s) ∧ w'.cell? ⟨b, off + j * 6 + 4, none⟩ = some (.string A.val) ∧ w'.cell? ⟨b, off + j * 6 + 5, none⟩ = some (.bool A.has) ∧ w'.cell? ⟨b, off + p * 6, none⟩ = some (.int .i64 B.k.kind) ∧ w'.cell? ⟨b, off + p * 6 + 1, none⟩ = some (.int .i64 B.k.a) ∧ w'.cell? ⟨b, off + p * 6 + 2, none⟩ = some (.int .i64 B.k.b) ∧ w'.cell? ⟨b, off + p * 6 + 3, none⟩ = some (.string B.k.s) ∧ w'.cell? ⟨b, off + p * 6 + 4, none⟩ = some (.string B.val) ∧ w'.cell? ⟨b, off + p * 6 + 5, none⟩ = some (.bool B.has))
            (first | exact KS.out _ (Below.refl _ _).drew | (go_split_ands; refine KS.out _ (below_then ?_ hbc); assumption))
            ((go_at_fn g; refine (HK.out _ (by go_split_ands; assumption)).mono ?_; rintro e wc ⟨cc, rfl, hcc, hbc⟩))
          go_split_ands
          have hbz : Below wr.heap.size wr wc := by assumption
          have hS : WAt wc b off n L t := HT.out.1.below hbz
          have hC : Chg w wc (fun k => k = b) := HT.out.2.1.trans (Chg.of_below hbz (fun k => k = b)) (fun _ _ h => h)
          have f0 := hS.frozen (off + j * 6)
          have f1 := hS.frozen (off + j * 6 + 1)
          have f2 := hS.frozen (off + j * 6 + 2)
          have f3 := hS.frozen (off + j * 6 + 3)
          have f4 := hS.frozen (off + j * 6 + 4)
          have f5 := hS.frozen (off + j * 6 + 5)
          have g0 := hS.frozen (off + p * 6)
          have g1 := hS.frozen (off + p * 6 + 1)
          have g2 := hS.frozen (off + p * 6 + 2)
          have g3 := hS.frozen (off + p * 6 + 3)
          have g4 := hS.frozen (off + p * 6 + 4)
          have g5 := hS.frozen (off + p * 6 + 5)
          have HSC := Lib.hid (And.intro hS hC)
          clear hS hC hbz
          cases q
          · go_wp2_with fail
            have hd := HT.out.2.2.done (Or.inr (by
              have h1 := HQ.out
              rw [show j - 1 = p by have := HP.out; omega]
              exact of_decide_eq_false h1))
            exact ⟨⟨k + 1, by omega, by omega, by go_num, Lib.hid ⟨t, HSC.out.1, HSC.out.2, hd, fun h => absurd h (by omega)⟩⟩, by simp [intOf]; omega⟩
          · have hjp : j ≠ p := by have := HP.out; omega
            go_wp2_with fail
            go_big_region
            all_goals (
              go_wp2_with fail
              obtain ⟨hA, hB⟩ := HAB.out
              have hp := HP.out
              refine ⟨⟨p, by omega, by omega, rfl, Lib.hid ⟨Srt.swap2 t j p, ?_⟩⟩, by simp [intOf]; omega⟩
              have hd := HT.out.2.2
              have h1 := HQ.out
              rw [hA, hB]
              have hr := swapW_rel HSC.out.1 HSC.out.2 hp1 hp0 (show j ≠ p by omega) rfl
              subst hp
              exact ⟨hr.1, hr.2, hd.step (by omega) (of_decide_eq_true h1)⟩)
        · obtain rfl : j = a := by omega
          have t1 : decide ((j : Int) < (j : Int)) = false := decide_eq_false (by omega)
          obtain ⟨t, hT⟩ := HR.out
          have HT := Lib.hid hT
          clear hT HR HI
          go_wp2_with fail
          go_big_region
          all_goals (
            go_wp2_with fail
            exact ⟨⟨k + 1, by omega, by omega, by go_num, Lib.hid ⟨t, HT.out.1.of_block rfl, HT.out.2.1.drew, HT.out.2.2.done (Or.inl rfl), fun h => absurd h (by omega)⟩⟩, by simp [intOf]; omega⟩)
    · go_wp2_with fail
      go_end0
      obtain ⟨t, h1, h2, h3, h4⟩ := HR.out
      have h5 := h3.done hac (by omega) (by omega) h4
      exact ⟨rfl, t, h1, h2, h5.1, h5.2⟩

set_option maxRecDepth 100000 in
set_option maxHeartbeats 4000000 in
/-- the left part is one record -/
theorem symW_first (g : Nat) (cb : Array Value) (key : Nat → Nat) (eg : ∀ args w, (callFunc g args).run Tryz.prog w = .ok (.enter g args) w) (b off cap n : Nat) (L : List Wr) (s : Nat → Nat) (a c : Nat) (w : World) (h : WAt w b off n L s) (hcm : CmpOkW g cb b n L key w) (hc : c ≤ n) (hn : n ≤ 1000000) (P : Srt.Pre key s a (a + 1) c) :
    Calls Tryz.prog 157 #[.slice (some ⟨b, off, none⟩) n cap, .int .i64 a, .int .i64 ((a + 1 : Nat) : Int), .int .i64 c, .func (.func g) #[] cb] w (SrwPostX key w b off n L s a c) := by
  have hac := P.mb
  have HCM := Lib.hid hcm
  have HS0 := Lib.hid h
  have HP := Lib.hid P
  obtain ⟨m, hm⟩ : ∃ m, m = a + 1 := ⟨_, rfl⟩
  rw [← hm] at hac ⊢
  have e1 : IntKind.i64.wrap ((m : Int) - (a : Int)) = 1 := by rw [IntKind.wrap_i64]; omega
  have e2 : (m : Int) - (a : Int) = 1 := by omega
  have HM := Lib.hid hm
  have ham : a < m := by omega
  have han : a < n := by omega
  clear hcm
  clear h P hm
  go_enter Tryz.func157, Tryz.ntmps157
  go_wp2_with fail
  go_loopw [10, 11] (fun i j wr => ∃ x y : Nat, m ≤ x ∧ x ≤ y ∧ y ≤ c ∧ i = .int .i64 x ∧ j = .int .i64 y ∧ Hid (WAt wr b off n L s ∧ Chg w wr (fun k => k = b) ∧ (∀ h, m ≤ h → h < x → key (s h) < key (s a)) ∧ (∀ h, y ≤ h → h < c → ¬ key (s h) < key (s a)))) (fun i j _ => (intOf j).toNat - (intOf i).toNat)
  case atStart => exact ⟨m, c, by omega, by omega, by omega, rfl, rfl, Lib.hid ⟨HS0.out, Chg.refl _ _, fun h h1 h2 => absurd h1 (by omega), fun h h1 h2 => absurd h1 (by omega)⟩⟩
  case round =>
    obtain ⟨x, y, hx, hxy, hy, rfl, rfl, HR⟩ := hrel
    clear HS0
    by_cases hlt : x < y
    · obtain ⟨h, hh⟩ : ∃ h, h = (x + y) / 2 := ⟨_, rfl⟩
      have hd : ((x : Int) + (y : Int)) / 2 = (h : Int) := by omega
      have hhx : x ≤ h := by omega
      have hhy : h < y := by omega
      have hhn : h < n := by omega
      have z1 : (h : Int) < (n : Int) := by omega
      have z2 : (a : Int) < (n : Int) := by omega
      clear hh
      obtain ⟨q, hq⟩ : ∃ q, decide (key (s h) < key (s a)) = q := ⟨_, rfl⟩
      have hk := fun (u : World) (hu : Below wr.heap.size wr u) => HCM.out.at' HR.out.2.1 hu (HR.out.1.dom hhn) (HR.out.1.dom han)
      obtain ⟨A, hA⟩ : ∃ A, A = L[s h]! := ⟨_, rfl⟩
      obtain ⟨B, hB⟩ : ∃ B, B = L[s a]! := ⟨_, rfl⟩
      rw [hq, ← hA, ← hB] at hk
      have HK := Lib.hid hk
      clear hk
      have hks : ∀ w', Below wr.heap.size wr w' → Below wr.heap.size wr w' ∧ w'.cell? ⟨b, off + h * 6, none⟩ = some (.int .i64 A.k.kind) ∧ w'.cell? ⟨b, off + h * 6 + 1, none⟩ = some (.int .i64 A.k.a) ∧ w'.cell? ⟨b, off + h * 6 + 2, none⟩ = some (.int .i64 A.k.b) ∧ w'.cell? ⟨b, off + h * 6 + 3, none⟩ = some (.string A.k.s) ∧ w'.cell? ⟨b, off + h * 6 + 4, none⟩ = some (.string A.val) ∧ w'.cell? ⟨b, off + h * 6 + 5, none⟩ = some (.bool A.has) ∧ w'.cell? ⟨b, off + a * 6, none⟩ = some (.int .i64 B.k.kind) ∧ w'.cell? ⟨b, off + a * 6 + 1, none⟩ = some (.int .i64 B.k.a) ∧ w'.cell? ⟨b, off + a * 6 + 2, none⟩ = some (.int .i64 B.k.b) ∧ w'.cell? ⟨b, off + a * 6 + 3, none⟩ = some (.string B.k.s) ∧ w'.cell? ⟨b, off + a * 6 + 4, none⟩ = some (.string B.val) ∧ w'.cell? ⟨b, off + a * 6 + 5, none⟩ = some (.bool B.has) := fun w' hb => by
        have h' := HR.out.1.below hb
        rw [hA, hB]
        exact ⟨hb, h'.cell0 hhn, h'.cell1 hhn, h'.cell2 hhn, h'.cell3 hhn, h'.cell4 hhn, h'.cell5 hhn, h'.cell0 han, h'.cell1 han, h'.cell2 han, h'.cell3 han, h'.cell4 han, h'.cell5 han⟩
      have KS := Lib.hid hks
      have HAB := Lib.hid (And.intro hA hB)
      have HQ := Lib.hid hq
      clear hks hA hB hq
      go_wp2_with fail
      go_region_held3 (fun w' => Below wr.heap.size wr w' ∧ w'.cell? ⟨b, off + h * 6, none⟩ = some (.int .i64 A.k.kind) ∧ w'.cell? ⟨b, off + h * 6 + 1, none⟩ = some (.int .i64 A.k.a) ∧ w'.cell? ⟨b, off + h * 6 + 2, none⟩ = some (.int .i64 A.k.b) ∧ w'.cell? ⟨b, off + h * 6 + 3, none⟩ = some (.string A.k.s) ∧ w'.cell? ⟨b, off + h * 6 + 4, none⟩ = some (.string A.val) ∧ w'.cell? ⟨b, off + h * 6 + 5, none⟩ = some (.bool A.has) ∧ w'.cell? ⟨b, off + a * 6, none⟩ = some (.int .i64 B.k.kind) ∧ w'.cell? ⟨b, off + a * 6 + 1, none⟩ = some (.int .i64 B.k.a) ∧ w'.cell? ⟨b, off + a * 6 + 2, none⟩ = some (.int .i64 B.k.b) ∧ w'.cell? ⟨b, off + a * 6 + 3, none⟩ = some (.string B.k.s) ∧ w'.cell? ⟨b, off + a * 6 + 4, none⟩ = some (.string B.val) ∧ w'.cell? ⟨b, off + a * 6 + 5, none⟩ = some (.bool B.has))
        (first | exact KS.out _ (Below.refl _ _).drew | (go_split_ands; refine KS.out _ (below_then ?_ hbc); assumption))
        ((go_at_fn g; refine (HK.out _ (by go_split_ands; assumption)).mono ?_; rintro e wc ⟨cc, rfl, hcc, hbc⟩))
      go_split_ands
      have HBZ := Lib.hid (show Below wr.heap.size wr wc by assumption)
      have hpre : Srt.Srt key s (a + 1) c := HP.out.right
      have HPR := Lib.hid hpre
      clear hpre
      cases q
      · go_wp2_with fail
        refine ⟨⟨x, h, hx, hhx, by omega, rfl, rfl, Lib.hid ⟨HR.out.1.below HBZ.out, HR.out.2.1.trans (Chg.of_below HBZ.out (fun k => k = b)) (fun _ _ h => h), HR.out.2.2.1, fun z z1 z2 => ?_⟩⟩, by simp [intOf]; omega⟩
        have h1 := of_decide_eq_false HQ.out
        have h2 := HPR.out.key_le (i := h) (j := z) (by have := HM.out; omega) z1 z2
        omega
      · go_wp2_with fail
        refine ⟨⟨h + 1, y, by omega, by omega, hy, by go_num, rfl, Lib.hid ⟨HR.out.1.below HBZ.out, HR.out.2.1.trans (Chg.of_below HBZ.out (fun k => k = b)) (fun _ _ h => h), fun z z1 z2 => ?_, HR.out.2.2.2⟩⟩, by simp [intOf]; omega⟩
        have h1 := of_decide_eq_true HQ.out
        have h2 := HPR.out.key_le (i := z) (j := h) (by have := HM.out; omega) (by omega) (by omega)
        omega
    · obtain rfl : x = y := by omega
      have HF : Hid (WAt wr b off n L s ∧ Chg w wr (fun k => k = b) ∧ Srt.Srt key (fun k => s (Srt.rotI a m x k)) a c) := Lib.hid ⟨HR.out.1, HR.out.2.1, by
        have e := HM.out
        subst e
        exact Srt.merge_first HP.out.right (fun j j1 j2 => HP.out.cross a j (Nat.le_refl _) (by omega) j1 j2) hx hy HR.out.2.2.1 HR.out.2.2.2⟩
      obtain ⟨wo, rfl⟩ : ∃ wo : World, wo = wr := ⟨_, rfl⟩
      clear HR hlt
      have hxz : (1 : Int) ≤ (x : Int) := by omega
      go_wp2_with fail
      go_loopw [13] (fun i wr => ∃ k : Nat, a ≤ k ∧ k + 1 ≤ x ∧ i = .int .i64 k ∧ Hid (WAt wr b off n L (fun z => s (Srt.rotI a m (k + 1) z)) ∧ Chg w wr (fun k => k = b))) (fun i _ => x - (intOf i).toNat)
      case atStart => exact ⟨a, by omega, by omega, rfl, Lib.hid ⟨HF.out.1.congr (fun i _ => by rw [HM.out, Srt.rotI_none' (by omega)]), HF.out.2.1⟩⟩
      case round =>
        obtain ⟨k, hk, hkx, rfl, HR⟩ := hrel
        by_cases hlt : k + 1 < x
        · obtain ⟨p, hp⟩ : ∃ p, p = k + 1 := ⟨_, rfl⟩
          have hpn : p < n := by omega
          have hkn : k < n := by omega
          have hkp : k ≠ p := by omega
          have w1 : IntKind.i64.wrap ((k : Int) + 1) = (p : Int) := by rw [IntKind.wrap_i64]; omega
          have w2 : (k : Int) + 1 = (p : Int) := by omega
          have t1 : decide ((k : Int) < (x : Int) - 1) = true := decide_eq_true (by omega)
          have z1 : (k : Int) < (n : Int) := by omega
          have z2 : (p : Int) < (n : Int) := by omega
          have HPK := Lib.hid hp
          clear hp
          obtain ⟨t0, ht0⟩ : ∃ t0, t0 = (fun z => s (Srt.rotI a m (k + 1) z)) := ⟨_, rfl⟩
          rw [← ht0] at HR
          have HT0 := Lib.hid ht0
          clear ht0
          obtain ⟨A, hA⟩ : ∃ A, A = L[t0 k]! := ⟨_, rfl⟩
          obtain ⟨B, hB⟩ : ∃ B, B = L[t0 p]! := ⟨_, rfl⟩
          have a0 := HR.out.1.cell0 hkn
          have a1 := HR.out.1.cell1 hkn
          have a2 := HR.out.1.cell2 hkn
          have a3 := HR.out.1.cell3 hkn
          have a4 := HR.out.1.cell4 hkn
          have a5 := HR.out.1.cell5 hkn
          have b0 := HR.out.1.cell0 hpn
          have b1 := HR.out.1.cell1 hpn
          have b2 := HR.out.1.cell2 hpn
          have b3 := HR.out.1.cell3 hpn
          have b4 := HR.out.1.cell4 hpn
          have b5 := HR.out.1.cell5 hpn
          have f0 := HR.out.1.frozen (off + k * 6)
          have f1 := HR.out.1.frozen (off + k * 6 + 1)
          have f2 := HR.out.1.frozen (off + k * 6 + 2)
          have f3 := HR.out.1.frozen (off + k * 6 + 3)
          have f4 := HR.out.1.frozen (off + k * 6 + 4)
          have f5 := HR.out.1.frozen (off + k * 6 + 5)
          have g0 := HR.out.1.frozen (off + p * 6)
          have g1 := HR.out.1.frozen (off + p * 6 + 1)
          have g2 := HR.out.1.frozen (off + p * 6 + 2)
          have g3 := HR.out.1.frozen (off + p * 6 + 3)
          have g4 := HR.out.1.frozen (off + p * 6 + 4)
          have g5 := HR.out.1.frozen (off + p * 6 + 5)
          try simp only [Nat.add_zero] at a0 b0
          rw [← hA] at a0 a1 a2 a3 a4 a5
          rw [← hB] at b0 b1 b2 b3 b4 b5
          have HAB := Lib.hid (And.intro hA hB)
          clear hA hB
          go_wp2_with fail
          go_big_region
          all_goals (
            go_wp2_with fail
            obtain ⟨hA, hB⟩ := HAB.out
            have hp := HPK.out
            refine ⟨⟨k + 1, by omega, by omega, by first | rfl | go_num | (rw [hp]; go_num), Lib.hid ?_⟩, by simp [intOf]; omega⟩
            rw [hA, hB]
            refine swapW_rel HR.out.1 HR.out.2 hkn hpn hkp ?_
            rw [hp, HT0.out, HM.out]
            exact Srt.rot_right s a k hk)
        · obtain rfl : x = k + 1 := by omega
          have t1 : decide ((k : Int) < (k : Int) + 1 - 1) = false := decide_eq_false (by omega)
          go_wp2_with fail
          go_end0
          refine ⟨rfl, _, HR.out.1, HR.out.2, ?_, HF.out.2.2⟩
          exact (Srt.rot_into s (by omega) (by omega)).mono (Nat.le_refl _) hy
set_option maxRecDepth 100000 in
set_option maxHeartbeats 4000000 in
/-- the right part is one record -/
theorem symW_last (g : Nat) (cb : Array Value) (key : Nat → Nat) (eg : ∀ args w, (callFunc g args).run Tryz.prog w = .ok (.enter g args) w) (b off cap n : Nat) (L : List Wr) (s : Nat → Nat) (a m : Nat) (w : World) (h : WAt w b off n L s) (hcm : CmpOkW g cb b n L key w) (hc : m + 1 ≤ n) (hn : n ≤ 1000000) (h2 : a + 2 ≤ m) (P : Srt.Pre key s a m (m + 1)) :
    Calls Tryz.prog 157 #[.slice (some ⟨b, off, none⟩) n cap, .int .i64 a, .int .i64 m, .int .i64 ((m + 1 : Nat) : Int), .func (.func g) #[] cb] w (SrwPostX key w b off n L s a (m + 1)) := by
  have HCM := Lib.hid hcm
  have HS0 := Lib.hid h
  have HP := Lib.hid P
  obtain ⟨c, hcm⟩ : ∃ c, c = m + 1 := ⟨_, rfl⟩
  rw [← hcm] at hc ⊢
  have e1 : IntKind.i64.wrap ((m : Int) - (a : Int)) = ((m - a : Nat) : Int) := by rw [IntKind.wrap_i64]; omega
  obtain ⟨d, hd⟩ : ∃ d, d = m - a := ⟨_, rfl⟩
  rw [← hd] at e1
  have e2 : (m : Int) - (a : Int) = (d : Int) := by omega
  have e3 : ((d : Int) == 1) = false := by simp; omega
  have e4 : (c : Int) - (m : Int) = 1 := by omega
  have e5 : IntKind.i64.wrap ((c : Int) - (m : Int)) = 1 := by rw [IntKind.wrap_i64]; omega
  have HM := Lib.hid hcm
  have hmn : m < n := by omega
  clear hcm
  clear h P hcm hd
  go_enter Tryz.func157, Tryz.ntmps157
  go_wp2_with fail
  go_loopw [14, 15] (fun i j wr => ∃ x y : Nat, a ≤ x ∧ x ≤ y ∧ y ≤ m ∧ i = .int .i64 x ∧ j = .int .i64 y ∧ Hid (WAt wr b off n L s ∧ Chg w wr (fun k => k = b) ∧ (∀ h, a ≤ h → h < x → ¬ key (s m) < key (s h)) ∧ (∀ h, y ≤ h → h < m → key (s m) < key (s h)))) (fun i j _ => (intOf j).toNat - (intOf i).toNat)
  case atStart => exact ⟨a, m, by omega, by omega, by omega, rfl, rfl, Lib.hid ⟨HS0.out, Chg.refl _ _, fun h h1 h2 => absurd h1 (by omega), fun h h1 h2 => absurd h1 (by omega)⟩⟩
  case round =>
    obtain ⟨x, y, hx, hxy, hy, rfl, rfl, HR⟩ := hrel
    clear HS0
    by_cases hlt : x < y
    · obtain ⟨h, hh⟩ : ∃ h, h = (x + y) / 2 := ⟨_, rfl⟩
      have hd : ((x : Int) + (y : Int)) / 2 = (h : Int) := by omega
      have hhx : x ≤ h := by omega
      have hhy : h < y := by omega
      have hhn : h < n := by omega
      have z1 : (h : Int) < (n : Int) := by omega
      have z2 : (m : Int) < (n : Int) := by omega
      clear hh
      obtain ⟨q, hq⟩ : ∃ q, decide (key (s m) < key (s h)) = q := ⟨_, rfl⟩
      have hk := fun (u : World) (hu : Below wr.heap.size wr u) => HCM.out.at' HR.out.2.1 hu (HR.out.1.dom hmn) (HR.out.1.dom hhn)
      obtain ⟨A, hA⟩ : ∃ A, A = L[s m]! := ⟨_, rfl⟩
      obtain ⟨B, hB⟩ : ∃ B, B = L[s h]! := ⟨_, rfl⟩
      rw [hq, ← hA, ← hB] at hk
      have HK := Lib.hid hk
      clear hk
      have hks : ∀ w', Below wr.heap.size wr w' → Below wr.heap.size wr w' ∧ w'.cell? ⟨b, off + m * 6, none⟩ = some (.int .i64 A.k.kind) ∧ w'.cell? ⟨b, off + m * 6 + 1, none⟩ = some (.int .i64 A.k.a) ∧ w'.cell? ⟨b, off + m * 6 + 2, none⟩ = some (.int .i64 A.k.b) ∧ w'.cell? ⟨b, off + m * 6 + 3, none⟩ = some (.string A.k.s) ∧ w'.cell? ⟨b, off + m * 6 + 4, none⟩ = some (.string A.val) ∧ w'.cell? ⟨b, off + m * 6 + 5, none⟩ = some (.bool A.has) ∧ w'.cell? ⟨b, off + h * 6, none⟩ = some (.int .i64 B.k.kind) ∧ w'.cell? ⟨b, off + h * 6 + 1, none⟩ = some (.int .i64 B.k.a) ∧ w'.cell? ⟨b, off + h * 6 + 2, none⟩ = some (.int .i64 B.k.b) ∧ w'.cell? ⟨b, off + h * 6 + 3, none⟩ = some (.string B.k.s) ∧ w'.cell? ⟨b, off + h * 6 + 4, none⟩ = some (.string B.val) ∧ w'.cell? ⟨b, off + h * 6 + 5, none⟩ = some (.bool B.has) := fun w' hb => by
        have h' := HR.out.1.below hb
        rw [hA, hB]
        exact ⟨hb, h'.cell0 hmn, h'.cell1 hmn, h'.cell2 hmn, h'.cell3 hmn, h'.cell4 hmn, h'.cell5 hmn, h'.cell0 hhn, h'.cell1 hhn, h'.cell2 hhn, h'.cell3 hhn, h'.cell4 hhn, h'.cell5 hhn⟩
      have KS := Lib.hid hks
      have HAB := Lib.hid (And.intro hA hB)
      have HQ := Lib.hid hq
      clear hks hA hB hq
      go_wp2_with fail
      go_region_held3 (fun w' => Below wr.heap.size wr w' ∧ w'.cell? ⟨b, off + m * 6, none⟩ = some (.int .i64 A.k.kind) ∧ w'.cell? ⟨b, off + m * 6 + 1, none⟩ = some (.int .i64 A.k.a) ∧ w'.cell? ⟨b, off + m * 6 + 2, none⟩ = some (.int .i64 A.k.b) ∧ w'.cell? ⟨b, off + m * 6 + 3, none⟩ = some (.string A.k.s) ∧ w'.cell? ⟨b, off + m * 6 + 4, none⟩ = some (.string A.val) ∧ w'.cell? ⟨b, off + m * 6 + 5, none⟩ = some (.bool A.has) ∧ w'.cell? ⟨b, off + h * 6, none⟩ = some (.int .i64 B.k.kind) ∧ w'.cell? ⟨b, off + h * 6 + 1, none⟩ = some (.int .i64 B.k.a) ∧ w'.cell? ⟨b, off + h * 6 + 2, none⟩ = some (.int .i64 B.k.b) ∧ w'.cell? ⟨b, off + h * 6 + 3, none⟩ = some (.string B.k.s) ∧ w'.cell? ⟨b, off + h * 6 + 4, none⟩ = some (.string B.val) ∧ w'.cell? ⟨b, off + h * 6 + 5, none⟩ = some (.bool B.has))
        (first | exact KS.out _ (Below.refl _ _).drew | (go_split_ands; refine KS.out _ (below_then ?_ hbc); assumption))
        ((go_at_fn g; refine (HK.out _ (by go_split_ands; assumption)).mono ?_; rintro e wc ⟨cc, rfl, hcc, hbc⟩))
      go_split_ands
      have HBZ := Lib.hid (show Below wr.heap.size wr wc by assumption)
      cases q
      · go_wp2_with fail
        refine ⟨⟨h + 1, y, by omega, by omega, hy, by go_num, rfl, Lib.hid ⟨HR.out.1.below HBZ.out, HR.out.2.1.trans (Chg.of_below HBZ.out (fun k => k = b)) (fun _ _ h => h), fun z z1 z2 => ?_, HR.out.2.2.2⟩⟩, by simp [intOf]; omega⟩
        have h1 := of_decide_eq_false HQ.out
        have h2 := HP.out.left.key_le (i := z) (j := h) (by omega) (by omega) (by omega)
        omega
      · go_wp2_with fail
        refine ⟨⟨x, h, hx, hhx, by omega, rfl, rfl, Lib.hid ⟨HR.out.1.below HBZ.out, HR.out.2.1.trans (Chg.of_below HBZ.out (fun k => k = b)) (fun _ _ h => h), HR.out.2.2.1, fun z z1 z2 => ?_⟩⟩, by simp [intOf]; omega⟩
        have h1 := of_decide_eq_true HQ.out
        have h2 := HP.out.left.key_le (i := h) (j := z) (by omega) z1 z2
        omega
    · obtain rfl : x = y := by omega
      have HF : Hid (WAt wr b off n L s ∧ Chg w wr (fun k => k = b) ∧ Srt.Srt key (fun k => s (Srt.rotI x m c k)) a c) := Lib.hid ⟨HR.out.1, HR.out.2.1, by
        have e := HM.out
        subst e
        exact Srt.merge_last HP.out.left (fun j j1 j2 => HP.out.cross j m j1 j2 (Nat.le_refl _) (by omega)) hx hy HR.out.2.2.1 HR.out.2.2.2⟩
      obtain ⟨wo, rfl⟩ : ∃ wo : World, wo = wr := ⟨_, rfl⟩
      clear HR hlt
      go_wp2_with fail
      go_loopw [17] (fun i wr => ∃ k : Nat, x ≤ k ∧ k ≤ m ∧ i = .int .i64 k ∧ Hid (WAt wr b off n L (fun z => s (Srt.rotI k m c z)) ∧ Chg w wr (fun k => k = b))) (fun i _ => (intOf i).toNat)
      case atStart => exact ⟨m, by omega, by omega, rfl, Lib.hid ⟨HF.out.1.congr (fun i _ => by rw [Srt.rotI_none]), HF.out.2.1⟩⟩
      case round =>
        obtain ⟨k, hk, hkm, rfl, HR⟩ := hrel
        by_cases hlt : x < k
        · obtain ⟨p, hp⟩ : ∃ p, p + 1 = k := ⟨k - 1, by omega⟩
          have hpn : p < n := by omega
          have hkn : k < n := by omega
          have hkp : k ≠ p := by omega
          have w1 : IntKind.i64.wrap ((k : Int) - 1) = (p : Int) := by rw [IntKind.wrap_i64]; omega
          have w2 : (k : Int) - 1 = (p : Int) := by omega
          have z1 : (k : Int) < (n : Int) := by omega
          have z2 : (p : Int) < (n : Int) := by omega
          have HPK := Lib.hid hp
          clear hp
          obtain ⟨t0, ht0⟩ : ∃ t0, t0 = (fun z => s (Srt.rotI k m c z)) := ⟨_, rfl⟩
          rw [← ht0] at HR
          have HT0 := Lib.hid ht0
          clear ht0
          obtain ⟨A, hA⟩ : ∃ A, A = L[t0 k]! := ⟨_, rfl⟩
          obtain ⟨B, hB⟩ : ∃ B, B = L[t0 p]! := ⟨_, rfl⟩
          have a0 := HR.out.1.cell0 hkn
          have a1 := HR.out.1.cell1 hkn
          have a2 := HR.out.1.cell2 hkn
          have a3 := HR.out.1.cell3 hkn
          have a4 := HR.out.1.cell4 hkn
          have a5 := HR.out.1.cell5 hkn
          have b0 := HR.out.1.cell0 hpn
          have b1 := HR.out.1.cell1 hpn
          have b2 := HR.out.1.cell2 hpn
          have b3 := HR.out.1.cell3 hpn
          have b4 := HR.out.1.cell4 hpn
          have b5 := HR.out.1.cell5 hpn
          have f0 := HR.out.1.frozen (off + k * 6)
          have f1 := HR.out.1.frozen (off + k * 6 + 1)
          have f2 := HR.out.1.frozen (off + k * 6 + 2)
          have f3 := HR.out.1.frozen (off + k * 6 + 3)
          have f4 := HR.out.1.frozen (off + k * 6 + 4)
          have f5 := HR.out.1.frozen (off + k * 6 + 5)
          have g0 := HR.out.1.frozen (off + p * 6)
          have g1 := HR.out.1.frozen (off + p * 6 + 1)
          have g2 := HR.out.1.frozen (off + p * 6 + 2)
          have g3 := HR.out.1.frozen (off + p * 6 + 3)
          have g4 := HR.out.1.frozen (off + p * 6 + 4)
          have g5 := HR.out.1.frozen (off + p * 6 + 5)
          try simp only [Nat.add_zero] at a0 b0
          rw [← hA] at a0 a1 a2 a3 a4 a5
          rw [← hB] at b0 b1 b2 b3 b4 b5
          have HAB := Lib.hid (And.intro hA hB)
          clear hA hB
          go_wp2_with fail
          go_big_region
          all_goals (
            go_wp2_with fail
            obtain ⟨hA, hB⟩ := HAB.out
            have hp := HPK.out
            refine ⟨⟨p, by omega, by omega, by first | rfl | (rw [← hp]; go_num), Lib.hid ?_⟩, by simp [intOf]; omega⟩
            rw [hA, hB]
            refine swapW_rel HR.out.1 HR.out.2 hkn hpn hkp ?_
            rw [← hp, HT0.out, ← hp, HM.out]
            exact Srt.rot_left s m p (by omega))
        · obtain rfl : x = k := by omega
          go_wp2_with fail
          go_end0
          refine ⟨rfl, _, HR.out.1, HR.out.2, ?_, HF.out.2.2⟩
          exact (Srt.rot_into s (by omega) (by omega)).mono hx (Nat.le_refl _)
end Go.Proofs.YtkbmipmegljidaaGreat
