/- GraphActs: the law. Conditions: the law's own premises. -/
import Derived.Test.YtonilojjahfboaaGreatTlA
import Derived.BigRegion
import Derived.Deep.Cut
import Derived.Deep.CutRange
import Derived.Deep.RegionHeld3
namespace Go.Proofs.YtonilojjahfboaaGreat
open Go.RowKit Go.Maps

set_option maxRecDepth 100000 in
set_option maxHeartbeats 4000000 in
theorem acts16_refused (a : Option Addr) (cap n : Nat) (lab key : ByteArray) (low high : Vl) (t : Int) (w : World) (_ : n ≤ maxLen) (h : 60 < n ∨ 300 < low.s.size ∨ 300 < high.s.size) :
    Calls Tryz.prog 12 #[.slice a n cap, .agg #[.string lab, .string key, .int .i64 low.kind, .int .i64 low.n, .string low.s, .int .i64 high.kind, .int .i64 high.n, .string high.s], .int .i64 t] w fun e w' => e = .returned (.bool true) ∧ Below w.heap.size w w' := by
  obtain ⟨W, hW⟩ : ∃ W, W = w.alloc (.cells #[.string lab, .string key, .int .i64 low.kind, .int .i64 low.n, .string low.s, .int .i64 high.kind, .int .i64 high.n, .string high.s] 129) := ⟨_, rfl⟩
  have hBW : Below w.heap.size w W := by rw [hW]; exact below_box w _
  have hAB : AskB W w.heap.size lab key low high := by unfold AskB; rw [hW]; exact heap_new w _
  obtain ⟨kb, hkb⟩ : ∃ k, k = w.heap.size := ⟨_, rfl⟩
  rw [← hkb] at hAB
  have HW := Lib.hid hW
  have HBW := Lib.hid hBW
  have HAB := Lib.hid hAB
  have HKB := Lib.hid hkb
  obtain ⟨lk, ln, ls⟩ := low
  obtain ⟨hk, hn', hs⟩ := high
  obtain ⟨q1, hq1⟩ : ∃ q, decide (60 < n) = q := ⟨_, rfl⟩
  have hq1' : decide ((60 : Int) < (n : Int)) = q1 := by rw [← hq1]; exact decide_eq_decide.2 (by omega)
  obtain ⟨q2, hq2⟩ : ∃ q, decide (300 < ls.size) = q := ⟨_, rfl⟩
  have hq2' : decide ((300 : Int) < (ls.size : Int)) = q2 := by rw [← hq2]; exact decide_eq_decide.2 (by omega)
  obtain ⟨q3, hq3⟩ : ∃ q, decide (300 < hs.size) = q := ⟨_, rfl⟩
  have hq3' : decide ((300 : Int) < (hs.size : Int)) = q3 := by rw [← hq3]; exact decide_eq_decide.2 (by omega)
  have hor : q1 = true ∨ q2 = true ∨ q3 = true := by
    rcases h with h | h | h
    · left; rw [← hq1]; exact decide_eq_true h
    · right; left; rw [← hq2]; exact decide_eq_true h
    · right; right; rw [← hq3]; exact decide_eq_true h
  clear hW hBW hAB hkb h
  have hall : q1 = true ∨ (q1 = false ∧ q2 = true) ∨ (q1 = false ∧ q2 = false ∧ q3 = true) := by cases q1 <;> cases q2 <;> cases q3 <;> simp_all
  clear hor
  rcases hall with rfl | ⟨rfl, rfl⟩ | ⟨rfl, rfl, rfl⟩
  all_goals
    go_enter Tryz.func12, Tryz.ntmps12
    go_upto_region 1 with fail
    rw [← HW.out, ← HKB.out]
    go_upto_region 2 with (go_at_call 14; refine (awake16_any _).mono ?_; rintro e w1 ⟨rfl, hb1⟩; have HB1 := Lib.hid (below_then HBW.out hb1); have HA1 := Lib.hid (HAB.out.below hb1); obtain ⟨x0, x1, x2, x3, x4, x5, x6, x7, xl⟩ := HA1.out.cells; clear hb1)
    go_wp2_with (go_at_call 14; refine (awake16_any _).mono ?_; rintro e w2 ⟨rfl, hb2⟩; have HB2 := Lib.hid (below_then HB1.out hb2); clear hb2)
    go_ret
    exact ⟨rfl, HB2.out⟩
set_option maxRecDepth 100000 in
set_option maxHeartbeats 16000000 in
theorem acts16_any (a : Option Addr) (cap : Nat) (acts : List Ac) (lab key : ByteArray) (low high : Vl) (t : Int) (w : World) (hv : kAc.V w a acts) (hr : ∀ x ∈ acts, AcRaw w x) (hm : acts.length ≤ maxLen) :
    Calls Tryz.prog 12 #[.slice a acts.length cap, .agg #[.string lab, .string key, .int .i64 low.kind, .int .i64 low.n, .string low.s, .int .i64 high.kind, .int .i64 high.n, .string high.s], .int .i64 t] w fun e w' => e = .returned (.bool true) ∧ Below w.heap.size w w' := by
  by_cases hbig : 60 < acts.length ∨ 300 < low.s.size ∨ 300 < high.s.size
  · exact acts16_refused a cap acts.length lab key low high t w hm hbig
  have h60 : ¬ 60 < acts.length := fun h => hbig (.inl h)
  have hlo : ¬ 300 < low.s.size := fun h => hbig (.inr (.inl h))
  have hhi : ¬ 300 < high.s.size := fun h => hbig (.inr (.inr h))
  clear hbig
  obtain ⟨W0, hW0⟩ : ∃ W, W = w.alloc (.cells #[.string lab, .string key, .int .i64 low.kind, .int .i64 low.n, .string low.s, .int .i64 high.kind, .int .i64 high.n, .string high.s] 129) := ⟨_, rfl⟩
  have hBW0 : Below w.heap.size w W0 := by rw [hW0]; exact below_box w _
  have hAB : AskB W0 w.heap.size lab key low high := by unfold AskB; rw [hW0]; exact heap_new w _
  obtain ⟨kb, hkb⟩ : ∃ k, k = w.heap.size := ⟨_, rfl⟩
  rw [← hkb] at hAB
  have HW0 := Lib.hid hW0
  have HBW0 := Lib.hid hBW0
  have HAB := Lib.hid hAB
  have HKB := Lib.hid hkb
  have HV := Lib.hid (hv.below hBW0)
  have HR := Lib.hid (fun x hx => (hr x hx).below hBW0)
  obtain ⟨na, hna⟩ : ∃ n, n = acts.length := ⟨_, rfl⟩
  have HN : Hid (na = acts.length ∧ na ≤ 60) := Lib.hid ⟨hna, by omega⟩
  have t1 : decide (60 < na) = false := decide_eq_false (by omega)
  have t1' : decide ((60 : Int) < (na : Int)) = false := decide_eq_false (by omega)
  have t2 : decide (300 < low.s.size) = false := decide_eq_false hlo
  have t2' : decide ((300 : Int) < (low.s.size : Int)) = false := decide_eq_false (by omega)
  have t3 : decide (300 < high.s.size) = false := decide_eq_false hhi
  have t3' : decide ((300 : Int) < (high.s.size : Int)) = false := decide_eq_false (by omega)
  rw [← hna]
  clear hW0 hBW0 hAB hkb hv hr hm hna h60 hlo hhi
  go_enter Tryz.func12, Tryz.ntmps12
  go_upto_region 1 with fail
  rw [← HW0.out, ← HKB.out]
  go_upto_region 3 with (go_at_call 14; refine (awake16_any _).mono ?_; rintro e w1 ⟨rfl, hb1⟩; have HB1 := Lib.hid hb1; obtain ⟨x0, x1, x2, x3, x4, x5, x6, x7, xl⟩ := (HAB.out.below hb1).cells; clear hb1)
  clear x0 x1 x2 x3 x4 x5 x6 x7 xl t1 t1' t2 t2' t3 t3'
  go_upto_region 4 with (go_at_call 15; refine (gnew_any w1).mono ?_; rintro e w2 ⟨rfl, hg2, hb2⟩; have HG2 := Lib.hid hg2; have HB2 := Lib.hid hb2; clear hg2 hb2)
  obtain ⟨W3, hW3⟩ : ∃ W, W = (w2.alloc (.cells #[.slice none 0 0, .slice none 0 0] 39)).alloc (.cells #[.slice none 0 0, .slice none 0 0] 39) := ⟨_, rfl⟩
  go_upto_region 6 with fail
  obtain ⟨gb, hgb⟩ : ∃ g, g = w1.heap.size + 2 := ⟨_, rfl⟩
  obtain ⟨rb, hrb⟩ : ∃ g, g = w2.heap.size := ⟨_, rfl⟩
  have hsb : w2.heap.size + 1 = rb + 1 := by rw [hrb]
  have hI0 : ActI W0 gb w1.heap.size (w1.heap.size + 1) rb (rb + 1) 0 [] [] W3 ∧ CloI t 0 (.pointer none) w1.heap.size (w1.heap.size + 1) rb (rb + 1) [] [] W3 := by
    have hbb : Below w2.heap.size w2 W3 := by rw [hW3]; exact below_then (below_box _ _) (below_box _ _)
    have e1 : W3.heap[rb]? = some (.cells #[.slice none 0 0, .slice none 0 0] 39 (0, 0)) := by rw [hW3, hrb]; exact (Below.heap_alloc _ _ _ (by simp)).trans (heap_new w2 _)
    have e2 : W3.heap[rb + 1]? = some (.cells #[.slice none 0 0, .slice none 0 0] 39 (0, 0)) := by rw [hW3, hrb]; exact heap_new2 w2 _ _
    have hsz : W3.heap.size = rb + 2 := by rw [hW3, hrb]; simp
    have hs1 := HB1.out.size
    have hs2 := HG2.out.ltV
    have hs3 := HG2.out.ltE
    refine ⟨⟨by rw [hgb]; exact HG2.out.below hbb, ⟨⟨none, 0, none, 0, e1, RowK.Own.nil kVr _ _, RowK.Own.nil kEr _ _⟩, (fun x hx => by cases hx), (fun x hx => by cases hx), by omega⟩, below_then (below_then HB1.out HB2.out) hbb, Nat.le_refl _, Nat.le_refl _, ⟨hs1, by omega⟩, ⟨by omega, by omega⟩, by omega, by omega⟩, ⟨⟨none, 0, none, 0, e2, RowK.Own.nil kVr _ _, RowK.Own.nil kEr _ _⟩, (fun x hx => by cases hx), (fun x hx => by cases hx), by omega⟩, ?_, .inl ⟨rfl, rfl, rfl, e2⟩, fun _ => rfl⟩
    intro i i' v v' j h1 h2 h3
    rw [cell_of_blk e1] at h1
    match i with
    | 0 => have e : v = .slice none 0 0 := by simpa using h1.symm
           rw [e] at h3; cases h3
    | 1 => have e : v = .slice none 0 0 := by simpa using h1.symm
           rw [e] at h3; cases h3
    | i + 2 => simp at h1
  rw [← hW3, hsb, ← hrb, ← hgb]
  obtain ⟨vb, hvb⟩ : ∃ g, g = w1.heap.size := ⟨_, rfl⟩
  obtain ⟨eb, heb⟩ : ∃ g, g = w1.heap.size + 1 := ⟨_, rfl⟩
  obtain ⟨sb, hsb2⟩ : ∃ g, g = rb + 1 := ⟨_, rfl⟩
  rw [← heb, ← hvb, ← hsb2] at hI0
  rw [← hsb2]
  have HI0 := Lib.hid hI0
  clear hI0 hgb hrb hsb hvb heb hsb2 hW3 HG2 HB2
  go_wp2_with fail
  go_loopw [9, 11] (fun cp i wr => ∃ (k : Nat) (VL : List Vr) (EL : List Er) (VS : List Vr) (ES : List Er), k ≤ na ∧ i = .int .i64 k ∧ Hid (ActI W0 gb vb eb rb sb k VL EL wr ∧ CloI t k cp vb eb rb sb VS ES wr)) (fun _ i _ => na - (intOf i).toNat)
  case atStart => exact ⟨0, [], [], [], [], Nat.zero_le _, rfl, HI0⟩
  case round =>
    clear HI0
    obtain ⟨k, VL, EL, VS, ES, hk, rfl, HI⟩ := hrel
    obtain ⟨wo, rfl⟩ : ∃ wo : World, wo = wr := ⟨_, rfl⟩
    have hn60 := HN.out.2
    by_cases hlt : k < na
    · obtain ⟨x, hx⟩ : ∃ x, acts[k]? = some x := ⟨_, List.getElem?_eq_getElem (by have := HN.out.1; omega)⟩
      obtain ⟨b, off, rfl, hat⟩ := HV.out (fun e => by rw [e] at hx; simp at hx)
      have HCE : Hid (∀ u, Below W0.heap.size W0 u → (u.cell? ⟨b, off + k * 13, none⟩ = some (.int .i64 x.kind) ∧ u.cell? ⟨b, off + k * 13 + 1, none⟩ = some (.int .i64 x.id) ∧ u.cell? ⟨b, off + k * 13 + 2, none⟩ = some (.bool x.edge) ∧ u.cell? ⟨b, off + k * 13 + 3, none⟩ = some (.int .i64 x.v.v.id) ∧ u.cell? ⟨b, off + k * 13 + 4, none⟩ = some (.string x.v.v.label) ∧ u.cell? ⟨b, off + k * 13 + 5, none⟩ = some (.slice x.v.a x.v.v.ps.length x.v.c) ∧ u.cell? ⟨b, off + k * 13 + 6, none⟩ = some (.int .i64 x.e.e.id) ∧ u.cell? ⟨b, off + k * 13 + 7, none⟩ = some (.string x.e.e.label) ∧ u.cell? ⟨b, off + k * 13 + 8, none⟩ = some (.int .i64 x.e.e.fr) ∧ u.cell? ⟨b, off + k * 13 + 9, none⟩ = some (.int .i64 x.e.e.to) ∧ u.cell? ⟨b, off + k * 13 + 10, none⟩ = some (.slice x.e.a x.e.e.ps.length x.e.c) ∧ u.cell? ⟨b, off + k * 13 + 11, none⟩ = some (.slice x.pa x.ps.length x.pc) ∧ u.cell? ⟨b, off + k * 13 + 12, none⟩ = some (.slice x.ka x.ks.length x.kc) ∧ b < u.heap.size)) := Lib.hid (fun u hu => by
        have h := hat.below hu
        obtain ⟨q0, q1, q2, q3, q4, q5, q6, q7, q8, q9, q10, q11, q12⟩ := kAc_cells h hx
        exact ⟨q0, q1, q2, q3, q4, q5, q6, q7, q8, q9, q10, q11, q12, h.lt⟩)
      obtain ⟨c0, c1, c2, c3, c4, c5, c6, c7, c8, c9, c10, c11, c12, cl⟩ := HCE.out wo HI.out.1.bel
      have HX : Hid (∀ u, Below W0.heap.size W0 u → AcRaw u x) := Lib.hid (fun u hu => (HR.out x (List.mem_of_getElem? hx)).below hu)
      obtain ⟨sm, hsm⟩ : ∃ q, x.small = q := ⟨_, rfl⟩
      have hcs := small16_any x wo (HX.out wo HI.out.1.bel)
      rw [hsm] at hcs
      have HCS := Lib.hid hcs
      have HSM := Lib.hid hsm
      have HLT := Lib.hid hlt
      clear hcs hsm hx hat
      cases sm
      · go_wp2_with (go_at_call 16; refine HCS.out.mono ?_; rintro e w5 ⟨rfl, hb5⟩; have HB5 := Lib.hid hb5; clear hb5)
        go_ret
        exact ⟨rfl, below_then HBW0.out (HI.out.1.below HB5.out).bel⟩
      go_upto_region 11 with (go_at_call 16; refine HCS.out.mono ?_; rintro e w5 ⟨rfl, hb5⟩; have HI5 := Lib.hid (And.intro (HI.out.1.below hb5) (HI.out.2.below HI.out.1.r.size hb5)); clear hb5)
      clear c0 c1 c2 c3 c4 c5 c6 c7 c8 c9 c10 c11 c12 cl hlt
      obtain ⟨q, hq⟩ : ∃ q, decide ((k : Int) = t) = q := ⟨_, rfl⟩
      have hq2 : ((k : Int) == t) = q := by rw [← hq]; rfl
      have HQ := Lib.hid hq
      go_cut [57] from 55 to 56 (fun s wc => s = .bool q ∧ w5 = wc)
      case first =>
        go_wp2_with fail
        go_meet
        exact ⟨by first | rfl | (rw [HQ.out]), rfl⟩
      case rest =>
      obtain ⟨rfl, rfl⟩ := hcut
      apply_assumption
      go_cut [9] from 58 to 83 (fun cp2 wc => ∃ (u : World) (VS2 : List Vr) (ES2 : List Er), u = wc ∧ Hid (ActI W0 gb vb eb rb sb k VL EL u ∧ CloI t (k + 1) cp2 vb eb rb sb VS2 ES2 u))
      case first =>
        cases q
        · go_wp2_with fail
          go_meet
          exact ⟨_, VS, ES, rfl, Lib.hid ⟨HI5.out.1, HI5.out.2.late⟩⟩
        · have hkt : (k : Int) = t := of_decide_eq_true HQ.out
          have HKT := Lib.hid hkt
          have hcp := HI5.out.2.early (by omega)
          subst hcp
          have HSE : Hid (w5.heap[sb]? = some (.cells #[.slice none 0 0, .slice none 0 0] 39 (0, 0))) := Lib.hid (by
            rcases HI5.out.2.c with ⟨_, _, _, h⟩ | ⟨_, _, _, e, _⟩
            · exact h
            · cases e)
          clear hkt
          go_upto_region 13 with (go_at_call 63; refine (gclone_any gb vb eb _ _ w5 HI5.out.1.g).mono ?_; rintro e wc ⟨cg, cv, ce, rfl, hgc, hbc, h1, h2, h3⟩)
          have HGC := Lib.hid hgc
          have HBC := Lib.hid hbc
          have HCV : Hid (w5.heap.size ≤ cv ∧ w5.heap.size ≤ ce) := Lib.hid ⟨h2, h3⟩
          obtain ⟨va, vc, ea, ec, hrb, hvo, heo⟩ := (HI5.out.1.below hbc).r.ex
          have HSC : Hid (wc.heap[sb]? = some (.cells #[.slice none 0 0, .slice none 0 0] 39 (0, 0))) := Lib.hid ((hbc.block _ (Array.getElem?_eq_some_iff.1 HSE.out).1).trans HSE.out)
          obtain ⟨nv, hnv⟩ : ∃ n, n = VL.length := ⟨_, rfl⟩
          obtain ⟨ne, hne⟩ : ∃ n, n = EL.length := ⟨_, rfl⟩
          rw [← hnv] at hrb hvo
          rw [← hne] at hrb heo
          have HNV : Hid (nv = VL.length ∧ ne = EL.length ∧ nv ≤ 60 ∧ ne ≤ 60) := Lib.hid ⟨hnv, hne, by have := HI5.out.1.lv; omega, by have := HI5.out.1.le; omega⟩
          have HRB := Lib.hid hrb
          have HVO := Lib.hid hvo
          have HEO := Lib.hid heo
          have s0 := cell_of_blk HSC.out 0
          have s1 := cell_of_blk HSC.out 1
          have r0 := cell_of_blk hrb 0
          have r1 := cell_of_blk hrb 1
          have sz := (Array.getElem?_eq_some_iff.1 HSC.out).1
          have rz := (Array.getElem?_eq_some_iff.1 hrb).1
          simp at s0 s1 r0 r1
          clear hgc hbc h1 h2 h3 hrb hvo heo hnv hne
          go_cut [9] from 60 to 71 (fun s wx => ∃ u : World, u = wx ∧ s = .pointer (some ⟨cg, 0, none⟩) ∧ Hid (Was1 wc u sb VL))
          case first =>
            go_region_law (first
              | (refine RowK.step_app (k := kVr) (B := wc.heap.size) (l := []) rfl (.tmp 64) (.tmp 68) rfl rfl (RowK.Own.nil kVr _ _) va nv VL vc rfl HNV.out.1.symm (HVO.out.below (Below.refl _ _).drew).toV (fun e => by have h := HVO.out; rw [e] at h; exact h.noneCap) (by have := HNV.out; simp; omega) (Nat.le_refl _) ?_; intro v8 w8 hA; obtain ⟨⟨a8, c8, hv8, _⟩, _⟩ := was_app (w1 := wc) (Below.refl _ _).drew hA; subst hv8; have HA8 := Lib.hid hA; have e8 := ((was_app (w1 := wc) (Below.refl _ _).drew hA).2.block _ (Array.getElem?_eq_some_iff.1 HSC.out).1).trans HSC.out; have z0 := cell_of_blk e8 0; have y0 := frozen_of_blk e8 0; have zz := (Array.getElem?_eq_some_iff.1 e8).1; simp at z0 y0; clear hA e8)
              | fail)
            all_goals
              go_wp2_with fail
              go_meet
              exact ⟨_, rfl, rfl, Lib.hid (was1_of HSC.out (Below.refl _ _).drew HA8.out)⟩
          case rest =>
          obtain ⟨u1, rfl, rfl, HW1⟩ := hcut
          clear s0 s1 r0 r1 sz rz
          obtain ⟨⟨wa, wcp, hs1, _⟩, hch⟩ := HW1.out
          have hrb1 := (hch.block rb (Array.getElem?_eq_some_iff.1 HRB.out).1 (by have := HI5.out.1.sb.1; omega)).trans HRB.out
          have HS1 := Lib.hid hs1
          have HCH := Lib.hid hch
          have s0 := cell_of_blk hs1 0
          have s1 := cell_of_blk hs1 1
          have r0 := cell_of_blk hrb1 0
          have r1 := cell_of_blk hrb1 1
          have sz := (Array.getElem?_eq_some_iff.1 hs1).1
          have rz := (Array.getElem?_eq_some_iff.1 hrb1).1
          simp at s0 s1 r0 r1
          clear hs1 hch hrb1
          go_upto_region 14 with fail
          go_cut [9] from 72 to 83 (fun s wx => ∃ u : World, u = wx ∧ s = .pointer (some ⟨cg, 0, none⟩) ∧ Hid (Was2 wc u sb VL EL))
          case first =>
            go_region_law (first
              | (refine RowK.step_app (k := kEr) (B := wc.heap.size) (l := []) rfl (.tmp 76) (.tmp 80) rfl rfl (RowK.Own.nil kEr _ _) ea ne EL ec rfl HNV.out.2.1.symm ((HEO.out.chg HCH.out (fun j hj e => by have := (HEO.out.lt j hj).1; have e3 : j = sb := e; omega)).below (Below.refl _ _).drew).toV (fun e => by have h := HEO.out; rw [e] at h; exact h.noneCap) (by have := HNV.out; simp; omega) HCH.out.size ?_; intro v8 w8 hA; obtain ⟨⟨a8, c8, hv8, _⟩, _⟩ := was_app (w1 := u1) (Below.refl _ _).drew hA; subst hv8; have HA8 := Lib.hid hA; have e8 := ((was_app (w1 := u1) (Below.refl _ _).drew hA).2.block _ (Array.getElem?_eq_some_iff.1 HS1.out).1).trans HS1.out; have z0 := cell_of_blk e8 1; have y0 := frozen_of_blk e8 1; have zz := (Array.getElem?_eq_some_iff.1 e8).1; simp at z0 y0; clear hA e8)
              | fail)
            all_goals
              go_wp2_with fail
              go_meet
              exact ⟨_, rfl, rfl, Lib.hid (was2_of (Array.getElem?_eq_some_iff.1 HSC.out).1 HW1.out (Below.refl _ _).drew HA8.out)⟩
          case rest =>
          obtain ⟨u2, rfl, rfl, HW2⟩ := hcut
          have HEN := Lib.hid (was_end HI5.out.1 HI5.out.2 (by have := HLT.out; have := HN.out; omega) HKT.out HBC.out HGC.out HCV.out.1 HCV.out.2 HW2.out)
          clear s0 s1 r0 r1 sz rz
          go_wp2_with fail
          go_meet
          obtain ⟨hA2, VS2, ES2, k1, k2, k3, k4, k5, k6⟩ := HEN.out
          exact ⟨_, VS2, ES2, rfl, Lib.hid ⟨hA2, k1, k2, .inr ⟨cg, cv, ce, rfl, k3, k4, k5, k6⟩, fun h => by have := HKT.out; omega⟩⟩
      case rest =>
      obtain ⟨u, VS2, ES2, rfl, HC⟩ := hcut
      clear HI5 HI HCS
      obtain ⟨c0, c1, c2, c3, c4, c5, c6, c7, c8, c9, c10, c11, c12, cl⟩ := HCE.out u HC.out.1.bel
      have hd := does16_any gb vb eb rb (sb + 1) VL EL _ _ rfl rfl x u HC.out.1.g HC.out.1.r (by have := HC.out.1.sb.2; omega) HC.out.1.vb.2 HC.out.1.eb.2 (HX.out u HC.out.1.bel) HSM.out (by rw [List.length_map]; have := HC.out.1.lv; omega) (by rw [List.length_map]; have := HC.out.1.le; omega)
      have HD := Lib.hid hd
      have HKL : Hid (k ≤ 60) := Lib.hid (by omega)
      clear hd hq2 hq
      go_upto_region 17 with (first
        | (go_at_call 17; (with_reducible refine HD.out.mono ?_); rintro e w6 hp6; unfold DtPost at hp6; obtain ⟨rfl, VL2, EL2, hg6, hr6, hs6, hf6⟩ := hp6; have HI6 := Lib.hid (And.intro (HC.out.1.act hg6 hr6 hs6 hf6 hf6.size) (HC.out.2.act HC.out.1 hr6 hf6)); obtain ⟨x0, x1, x2, x3, x4, x5, x6, x7, xl⟩ := (HAB.out.below HI6.out.1.bel).cells; clear hg6 hr6 hs6 hf6)
        | (go_at_call 64; refine (told16_any gb vb eb rb (sb + 1) VL2 EL2 lab key low high w6 HI6.out.1.g HI6.out.1.r (by have := HI6.out.1.lv; have := HKL.out; omega) (by have := HI6.out.1.le; have := HKL.out; omega)).mono ?_; rintro e w7 ⟨rfl, hb7⟩; have HI7 := Lib.hid (And.intro (HI6.out.1.below hb7) (HI6.out.2.below HI6.out.1.r.size hb7)); clear hb7)
        | fail)
      clear c0 c1 c2 c3 c4 c5 c6 c7 c8 c9 c10 c11 c12 cl x0 x1 x2 x3 x4 x5 x6 x7 xl HI6
      obtain ⟨okv, hokv⟩ : ∃ q, q = (findB Vt.id (VL2.map Vr.v) x.id).isSome := ⟨_, rfl⟩
      obtain ⟨oke, hoke⟩ : ∃ q, q = (findB Eg.id (EL2.map Er.e) x.id).isSome := ⟨_, rfl⟩
      obtain ⟨YV, hYV⟩ : ∃ y, y = getV (VL2.map Vr.v) x.id := ⟨_, rfl⟩
      obtain ⟨YE, hYE⟩ : ∃ y, y = getE (EL2.map Er.e) x.id := ⟨_, rfl⟩
      have hzv : okv = false → YV.id = 0 ∧ YV.label = ⟨#[]⟩ := fun e => by
        rw [hYV]; unfold getV
        cases hf : findB Vt.id (VL2.map Vr.v) x.id with
        | none => exact ⟨rfl, rfl⟩
        | some y => rw [hokv, hf] at e; cases e
      have hze : oke = false → YE.id = 0 ∧ YE.label = ⟨#[]⟩ := fun e => by
        rw [hYE]; unfold getE
        cases hf : findB Eg.id (EL2.map Er.e) x.id with
        | none => exact ⟨rfl, rfl⟩
        | some y => rw [hoke, hf] at e; cases e
      have hvx := gvertex_any gb vb eb (VL2.map Vr.v) (EL2.map Er.e) x.id w7 HI7.out.1.g (HX.out w7 HI7.out.1.bel).id
      unfold VxPost Vt.val at hvx
      rw [← hokv, ← hYV] at hvx
      have hex : ∀ u, Below w7.heap.size w7 u → Calls Tryz.prog 21 #[.pointer (some ⟨gb, 0, none⟩), .int .i64 x.id] u (EdPost u (EL2.map Er.e) x.id) := fun u hu => gedge_any gb vb eb (VL2.map Vr.v) (EL2.map Er.e) x.id u (HI7.out.1.g.below hu) (HX.out w7 HI7.out.1.bel).id
      unfold EdPost Eg.val at hex
      rw [← hoke, ← hYE] at hex
      have HRV : Hid (∀ u, Below w7.heap.size w7 u → Calls Tryz.prog 66 #[.pointer (some ⟨rb, 0, none⟩), .int .i64 x.id] u fun e w' => u = w' ∧ ∃ r, e = .returned (.int .i64 r) ∧ decide (0 ≤ r) = okv) := Lib.hid (fun u hu => by
        refine (r16V_any (HI7.out.1.r.below hu) (by have := HI7.out.1.lv; have := HKL.out; omega) x.id).mono ?_
        rintro e w' ⟨rfl, r, rfl, hr⟩
        refine ⟨rfl, r, rfl, ?_⟩
        rw [hokv]
        rcases hr with ⟨rfl, hn⟩ | ⟨i, z, rfl, hz, hzi⟩
        · have : findB Vt.id (VL2.map Vr.v) x.id = none := findB_none.2 (fun y hy => by obtain ⟨z, hz, rfl⟩ := List.mem_map.1 hy; exact hn z hz)
          rw [this]; rfl
        · have hm : z.v ∈ VL2.map Vr.v := List.mem_map.2 ⟨z, List.mem_of_getElem? hz, rfl⟩
          have := findB_mem HI7.out.1.g.ok.sv hm
          rw [← hzi, this]
          simp)
      have HRE : Hid (∀ u, Below w7.heap.size w7 u → Calls Tryz.prog 67 #[.pointer (some ⟨rb, 0, none⟩), .int .i64 x.id] u fun e w' => u = w' ∧ ∃ r, e = .returned (.int .i64 r) ∧ decide (0 ≤ r) = oke) := Lib.hid (fun u hu => by
        refine (r16E_any (HI7.out.1.r.below hu) (by have := HI7.out.1.le; have := HKL.out; omega) x.id).mono ?_
        rintro e w' ⟨rfl, r, rfl, hr⟩
        refine ⟨rfl, r, rfl, ?_⟩
        rw [hoke]
        rcases hr with ⟨rfl, hn⟩ | ⟨i, z, rfl, hz, hzi⟩
        · have : findB Eg.id (EL2.map Er.e) x.id = none := findB_none.2 (fun y hy => by obtain ⟨z, hz, rfl⟩ := List.mem_map.1 hy; exact hn z hz)
          rw [this]; rfl
        · have hm : z.e ∈ EL2.map Er.e := List.mem_map.2 ⟨z, List.mem_of_getElem? hz, rfl⟩
          have := findB_mem HI7.out.1.g.ok.se hm
          rw [← hzi, this]
          simp)
      obtain ⟨vi, vl, vp⟩ := YV
      obtain ⟨ei, el, ef, eto, ep⟩ := YE
      simp only at hzv hze hvx hex
      obtain ⟨vn, hvn⟩ : ∃ n, n = vp.length := ⟨_, rfl⟩
      obtain ⟨en, hen⟩ : ∃ n, n = ep.length := ⟨_, rfl⟩
      rw [← hvn] at hvx
      rw [← hen] at hex
      have HVX := Lib.hid hvx
      have HEX := Lib.hid hex
      have HZV := Lib.hid hzv
      have HZE := Lib.hid hze
      clear hzv hze hvx hex hokv hoke hYV hYE hvn hen
      obtain ⟨c0, c1, c2, c3, c4, c5, c6, c7, c8, c9, c10, c11, c12, cl⟩ := HCE.out w7 HI7.out.1.bel
      go_upto_region 18 with (go_at_call 65; (with_reducible refine HVX.out.mono ?_); rintro e w8 ⟨ya, yc, rfl, _, hb8⟩; have HB8 := Lib.hid hb8; clear hb8)
      obtain ⟨W8, hW8⟩ : ∃ W, W = w8.alloc (.cells #[.int .i64 vi, .string vl, .slice ya vn yc] 28) := ⟨_, rfl⟩
      obtain ⟨xb, hxb⟩ : ∃ b, b = w8.heap.size := ⟨_, rfl⟩
      have e8 : W8.heap[xb]? = some (.cells #[.int .i64 vi, .string vl, .slice ya vn yc] 28 (0, 0)) := by rw [hW8, hxb]; exact heap_new _ _
      have HBW8 : Hid (Below w7.heap.size w7 W8) := Lib.hid (below_then HB8.out (by rw [hW8]; exact below_box _ _))
      have HE8 := Lib.hid e8
      rw [← hW8, ← hxb]
      clear hW8 hxb e8 c0 c1 c2 c3 c4 c5 c6 c7 c8 c9 c10 c11 c12 cl
      obtain ⟨c0, c1, c2, c3, c4, c5, c6, c7, c8, c9, c10, c11, c12, cl⟩ := HCE.out W8 (below_then HI7.out.1.bel HBW8.out)
      have HEX8 := Lib.hid (HEX.out W8 HBW8.out)
      go_upto_region 19 with (go_at_call 21; (with_reducible refine HEX8.out.mono ?_); rintro e w9 ⟨za, zc, rfl, _, hb9⟩; have HB9 := Lib.hid hb9; clear hb9)
      obtain ⟨W9, hW9⟩ : ∃ W, W = w9.alloc (.cells #[.int .i64 ei, .string el, .int .i64 ef, .int .i64 eto, .slice za en zc] 30) := ⟨_, rfl⟩
      obtain ⟨zb, hzb⟩ : ∃ b, b = w9.heap.size := ⟨_, rfl⟩
      have e9 : W9.heap[zb]? = some (.cells #[.int .i64 ei, .string el, .int .i64 ef, .int .i64 eto, .slice za en zc] 30 (0, 0)) := by rw [hW9, hzb]; exact heap_new _ _
      have hb89 : Below W8.heap.size W8 W9 := below_then HB9.out (by rw [hW9]; exact below_box _ _)
      have HBW9 : Hid (Below w7.heap.size w7 W9) := Lib.hid (below_then HBW8.out hb89)
      have e8 := (hb89.block _ (Array.getElem?_eq_some_iff.1 HE8.out).1).trans HE8.out
      rw [← hW9, ← hzb]
      have x0 := cell_of_blk e8 0
      have x1 := cell_of_blk e8 1
      have z0 := cell_of_blk e9 0
      have z1 := cell_of_blk e9 1
      have xl := (Array.getElem?_eq_some_iff.1 e8).1
      have zl := (Array.getElem?_eq_some_iff.1 e9).1
      simp at x0 x1 z0 z1
      have HI9 := Lib.hid (And.intro (HI7.out.1.below HBW9.out) (HI7.out.2.below HI7.out.1.r.size HBW9.out))
      have HV9 := Lib.hid (HRV.out W9 HBW9.out)
      have HE9 := Lib.hid (HRE.out W9 HBW9.out)
      clear hW9 hzb e8 e9 hb89 c0 c1 c2 c3 c4 c5 c6 c7 c8 c9 c10 c11 c12 cl
      obtain ⟨c0, c1, c2, c3, c4, c5, c6, c7, c8, c9, c10, c11, c12, cl⟩ := HCE.out W9 HI9.out.1.bel
      have hkl := HLT.out
      cases okv <;> cases oke
      case false.false =>
        obtain ⟨rfl, rfl⟩ := HZV.out rfl
        obtain ⟨rfl, rfl⟩ := HZE.out rfl
        go_wp2_with (first
          | (go_at_call 66; (with_reducible refine HV9.out.mono ?_); rintro e wq ⟨rfl, rv, rfl, tv⟩)
          | (go_at_call 67; (with_reducible refine HE9.out.mono ?_); rintro e wq ⟨rfl, re, rfl, te⟩)
          | fail)
        exact ⟨⟨k + 1, VL2, EL2, VS2, ES2, by omega, by go_num, HI9⟩, by simp [intOf]; omega⟩
      case false.true =>
        obtain ⟨rfl, rfl⟩ := HZV.out rfl
        go_wp2_with (first
          | (go_at_call 66; (with_reducible refine HV9.out.mono ?_); rintro e wq ⟨rfl, rv, rfl, tv⟩)
          | (go_at_call 67; (with_reducible refine HE9.out.mono ?_); rintro e wq ⟨rfl, re, rfl, te⟩)
          | fail)
        exact ⟨⟨k + 1, VL2, EL2, VS2, ES2, by omega, by go_num, HI9⟩, by simp [intOf]; omega⟩
      case true.false =>
        obtain ⟨rfl, rfl⟩ := HZE.out rfl
        go_wp2_with (first
          | (go_at_call 66; (with_reducible refine HV9.out.mono ?_); rintro e wq ⟨rfl, rv, rfl, tv⟩)
          | (go_at_call 67; (with_reducible refine HE9.out.mono ?_); rintro e wq ⟨rfl, re, rfl, te⟩)
          | fail)
        exact ⟨⟨k + 1, VL2, EL2, VS2, ES2, by omega, by go_num, HI9⟩, by simp [intOf]; omega⟩
      case true.true =>
        go_wp2_with (first
          | (go_at_call 66; (with_reducible refine HV9.out.mono ?_); rintro e wq ⟨rfl, rv, rfl, tv⟩)
          | (go_at_call 67; (with_reducible refine HE9.out.mono ?_); rintro e wq ⟨rfl, re, rfl, te⟩)
          | fail)
        exact ⟨⟨k + 1, VL2, EL2, VS2, ES2, by omega, by go_num, HI9⟩, by simp [intOf]; omega⟩
    · rcases HI.out.2.c with ⟨rfl, _, _, _⟩ | ⟨cg, cv, ce, rfl, hg, _, l1, l2⟩
      · go_wp2_with fail
        go_ret
        exact ⟨rfl, below_then HBW0.out HI.out.1.bel⟩
      · have HGC := Lib.hid (And.intro hg (And.intro l1 l2))
        obtain ⟨x0, x1, x2, x3, x4, x5, x6, x7, xl⟩ := (HAB.out.below HI.out.1.bel).cells
        clear hg l1 l2
        go_wp2_with (go_at_call 64; refine (told16_any cg cv ce sb (sb + 1) VS ES lab key low high wo HGC.out.1 HI.out.2.s (by have := HGC.out.2.1; omega) (by have := HGC.out.2.2; omega)).mono ?_; rintro e w7 ⟨rfl, hb7⟩; have HB7 := Lib.hid hb7; clear hb7)
        go_ret
        exact ⟨rfl, below_then HBW0.out (HI.out.1.below HB7.out).bel⟩
end Go.Proofs.YtonilojjahfboaaGreat
