/- ArenaOnce: the walk of the law. Conditions: the theorems' own premises. -/
import Derived.Test.YtfkckdfldalceaaArenaOncePlain
import Derived.Test.YtfkckdfldalceaaArenaAwake
import Derived.Deep.DeepCutAuto
import Derived.Deep.RegionLaw
import Derived.BigRegion
namespace Go.Proofs.Ytfkckdfldalceaa
open Go.RowKit Go.Maps

theorem mod9 (r : Int) : 0 ≤ r.tmod 9 % 9 ∧ r.tmod 9 % 9 ≤ 8 ∧ -9 < r.tmod 9 ∧ r.tmod 9 < 9 := by
  have h1 := Int.lt_tmod_of_pos r (show (0 : Int) < 9 by omega)
  have h2 := Int.tmod_lt_of_pos r (show (0 : Int) < 9 by omega)
  omega

set_option maxRecDepth 100000 in
set_option maxHeartbeats 1000000 in
theorem once_long (a : Option Addr) (pn pc : Nat) (r : Int) (w : World) (hlen : 200 < pn) (hm : pn ≤ maxLen) :
    Calls Try.prog 3 #[.int .i64 r, .slice a pn pc] w fun e w' => e = .returned (.bool true) ∧ Below w.heap.size w w' := by
  unfold maxLen at hm
  go_enter Try.func3, Try.ntmps3
  go_wp2_with fail
  refine (awake5_any _).mono ?_
  rintro e w1 ⟨rfl, hb1⟩
  go_wp2_with fail
  refine (awake5_any _).mono ?_
  rintro e w2 ⟨rfl, hb2⟩
  go_wp2_with fail
  go_ret
  exact ⟨rfl, below_then hb1 hb2⟩

set_option maxRecDepth 100000 in
set_option maxHeartbeats 1000000 in
theorem once_some (pb po pn pc : Nat) (r : Int) (w : World) (hlen : pn ≤ 200) (hpb : pb < w.heap.size) (hp : ∀ i, i < pn → ∃ z, I64 z ∧ w.cell? ⟨pb, po + i, none⟩ = some (.int .i64 z)) :
    Calls Try.prog 3 #[.int .i64 r, .slice (some ⟨pb, po, none⟩) pn pc] w fun e w' => e = .returned (.bool true) ∧ Below w.heap.size w w' := by
  obtain ⟨m1, m2, m3, m4⟩ := mod9 r
  have HP := Lib.hid hp
  clear hp
  have hd : decide ((200 : Int) < (pn : Int)) = false := by simp; omega
  go_enter Try.func3, Try.ntmps3
  go_wp2_with fail
  refine (awake5_any _).mono ?_
  rintro e w1 ⟨rfl, hb1⟩
  go_wp2_with fail
  obtain ⟨N, hN⟩ : ∃ N : Nat, 1 + r.tmod 9 % 9 = (N : Int) := ⟨(1 + r.tmod 9 % 9).toNat, by omega⟩
  have hN1 : 1 ≤ N := by omega
  have hN9 : N ≤ 9 := by omega
  rw [hN]
  clear hN m1 m2 m3 m4
  refine (new_any N _ (by omega)).mono ?_
  rintro e w2 ⟨rfl, hA, hb2⟩
  have hS := (ArS.made hA hb2).from hb1
  have H0 : OnceAt w N (w1.heap.size + 2) w1.heap.size (w1.heap.size + 1) (2 * 0) (.slice none 0 0) (.slice none 0 0) w2 :=
    ⟨_, _, [], [], hS, rfl, OnceInv.start N, ⟨⟨World.ownsRow_nil _ _ _ _, by simp⟩, ⟨World.ownsRow_nil _ _ _ _, by simp⟩, by simp [Value.ownBlock], by simp [Value.ownBlock], by simp [Value.ownBlock]⟩, by simp⟩
  clear hA hb2 hS hb1
  obtain ⟨ab, bg, bt, e1, e2, e3⟩ : ∃ ab bg bt, ab = w1.heap.size + 2 ∧ bg = w1.heap.size ∧ bt = w1.heap.size + 1 := ⟨_, _, _, rfl, rfl, rfl⟩
  rw [← e1, ← e3, ← e2] at H0
  rw [← e1]
  clear e1 e2 e3
  go_wp2_with fail
  go_loopw [8, 9, 10] (fun lv gv i wr => OnceRel w N ab bg bt pn lv gv i wr) (fun _ _ i _ => pn - (intOf i).toNat)
  case atStart => exact ⟨0, Nat.zero_le _, rfl, H0⟩
  case round =>
    obtain ⟨k, hk, rfl, v, s, L, G, hS, hroom, hinv, hR, hGc⟩ := hrel
    clear H0
    have ROOM := Lib.hid hroom
    clear hroom
    by_cases hlt : k < pn
    · obtain ⟨z, hz, hcz⟩ := HP.out k hlt
      have hcz' := (hS.bel.cell (p := ⟨pb, po + k, none⟩) hpb).trans hcz
      clear hcz
      have hcc : 2 * k + 2 ≤ 1099511627776 := by omega
      have hcase := once_cases z hS ROOM.out hN1 hinv hR
      rcases hcase with hcase | hcase | hcase | hcase
      · obtain ⟨a, cap, rfl, ht, hNl, hres, hsame⟩ := hcase
        have HS := Lib.hid hsame
        clear hsame
        have hdl : decide (L.length < N) = false := by simp; omega
        go_wp2_with fail
        refine (take_to _ _ _ _ _ _ _ _ _ _ hS.ar hres).mono ?_
        rintro e w3 ⟨rfl, v3, hA3, hc3, ho3⟩
        have H1 := OnceAt.full hS ROOM.out hinv hR hGc HS.out hA3 hc3 ho3 (.cells #[.int .i64 0, .int .i64 0] 30) hcc
        clear hA3 hc3 ho3
        go_wp2_with fail
        obtain ⟨W, hWe⟩ : ∃ W, W = w3.alloc (.cells #[.int .i64 0, .int .i64 0] 30) := ⟨_, rfl⟩
        rw [← hWe] at H1 ⊢
        clear hWe hinv hR HS hS
        
        obtain ⟨v', s', L', G', hS', hroom', hinv', hR', hGc'⟩ := H1
        obtain ⟨ga, gcap, hgv⟩ := hR'.hG.shape
        rw [hgv] at hR' ⊢
        clear hgv
        go_loopw [16] (fun i wx => ∃ j : Nat, j ≤ G'.length ∧ i = .int .i64 j ∧ Below W.heap.size W wx) (fun i _ => G'.length - (intOf i).toNat)
        case atStart => exact ⟨0, Nat.zero_le _, rfl, Below.refl _ _⟩
        case round =>
          obtain ⟨j, hj, rfl, hbw⟩ := hrel
          have hGb : G'.length ≤ 402 := by omega
          by_cases hjl : j < G'.length
          · obtain ⟨gg, gcap', hge⟩ := hR'.hG.shape_pos (by omega)
            obtain rfl : ga = some ⟨gg, 0, none⟩ := by cases hge; rfl
            obtain ⟨y, g', he⟩ : ∃ y g', G'[j]? = some (y, g') := ⟨_, _, List.getElem?_eq_getElem hjl⟩
            have hat := (hR'.below hbw).hG.at
            obtain ⟨hq0, hq1⟩ := hat.cells j y g' he
            simp only [Nat.zero_add] at hq0 hq1
            have hyi := (hat.i64 _ (List.mem_of_getElem? he)).1
            have hdead := hinv'.dead he
            have DEAD := Lib.hid hdead
            clear he hdead hge
            go_wp2_with (go_at_call 19; refine (live_any _ _ _ _ s' _ _ y g' hyi (hS'.below hbw).ar).mono ?_; rintro e w4 ⟨rfl, hb4⟩; rw [DEAD.out])
            exact ⟨⟨j + 1, by omega, by simp, below_then hbw hb4⟩, by simp [intOf]; omega⟩
          · have H2 := OnceAt.below (W := W) ⟨v', s', L', G', hS', hroom', hinv', hR', hGc'⟩ hbw
            clear hS' hinv' hR'
            go_wp2_with fail
            exact ⟨⟨k + 1, by omega, by simp, H2⟩, by simp [intOf]; omega⟩
      · obtain ⟨a, cap, x, rfl, ht, hLN, hres, hx, hx0, hxr, htk, hgens, hrm, hcnt⟩ := hcase
        obtain ⟨i0, hi, hz0, hz1, hz2⟩ := info_parts infoHandle
        have hne := (hinv.took hx htk hgens hcnt).2
        have HX := Lib.hid hx
        have HTKS := Lib.hid htk
        have HGN := Lib.hid hgens
        have HRM := Lib.hid hrm
        have HCN := Lib.hid hcnt
        have HNE := Lib.hid hne
        clear hx htk hgens hrm hcnt hne
        go_wp2_with fail
        refine (take_to _ _ _ _ _ _ _ _ _ _ hS.ar hres).mono ?_
        rintro e w3 ⟨rfl, v3, hA3, hc3, ho3⟩
        have hxb := Boxed.new hA3 (.cells #[.int .i64 x, .int .i64 (s.gens x)] 30)
        go_wp2_with fail
        obtain ⟨W0, hW0⟩ : ∃ W, W = w3.alloc (.cells #[.int .i64 x, .int .i64 (s.gens x)] 30) := ⟨_, rfl⟩
        have hR3 := (hR.step hc3 ho3).alloc (.cells #[.int .i64 x, .int .i64 (s.gens x)] 30)
        rw [← hW0] at hxb hR3 ⊢
        have HW0 := Lib.hid hW0
        clear hW0
        obtain ⟨wo, rfl⟩ : ∃ wo : World, wo = wr := ⟨_, rfl⟩
        go_loopw [13] (fun i wx => ∃ j : Nat, j ≤ L.length ∧ i = .int .i64 j ∧ Below W0.heap.size W0 wx) (fun i _ => L.length - (intOf i).toNat)
        case atStart => exact ⟨0, Nat.zero_le _, rfl, Below.refl _ _⟩
        case round =>
          obtain ⟨j, hj, rfl, hbw⟩ := hrel
          have hb0 := (hxb.below hbw).cell 0
          have hb1 := (hxb.below hbw).cell 1
          simp at hb0 hb1
          have lw3 : w3.heap.size < wr.heap.size := (hxb.below hbw).lt
          by_cases hjl : j < L.length
          · obtain ⟨gg, cap', hge⟩ := hR3.hL.shape_pos (by omega)
            obtain rfl : a = some ⟨gg, 0, none⟩ := by cases hge; rfl
            obtain ⟨y, g', he⟩ : ∃ y g', L[j]? = some (y, g') := ⟨_, _, List.getElem?_eq_getElem hjl⟩
            have hat := (hR3.below hbw).hL.at
            obtain ⟨hq0, _⟩ := hat.cells j y g' he
            have hyx : (y == x) = false := by rw [beq_eq_false_iff_ne]; exact HNE.out _ (List.mem_of_getElem? he)
            simp only [Nat.zero_add] at hq0
            have hj0 : (0 : Int) ≤ (j : Int) := by omega
            have hj1 : (j : Int) < (L.length : Int) := by omega
            clear he hge hat
            go_wp2_with fail
            go_quiet (fail)
            go_wp2_with fail
            exact ⟨⟨j + 1, by omega, by simp, below_drewN hbw _⟩, by simp [intOf]; omega⟩
          · have hrow := (hR3.below hbw).hL.row
            go_wp2_with (at_builtin; go_must (refine wpList_append_own_at _ rfl _ _ 28 rfl w.heap.size 30 i0 (.agg #[.int .i64 0, .int .i64 0]) 2 16 Try.underlying28 hi hz0 hz1 hz2 rfl (by decide) (.slice a L.length cap) L.length (hcells L) rfl (hrow.alloc _) ⟨wr.heap.size, 0, none⟩ 1 1 [.int .i64 x, .int .i64 (s.gens x)] rfl rfl (World.news_of_block (cs := #[.int .i64 x, .int .i64 (s.gens x)]) (t := 30) (fr := (0, 0)) (heap_alloc_new wr _)) (by simp [Value.oneCell']) (by unfold maxLen; omega) (by omega) (by have := hS.bel.size; have := hc3.size; have := hbw.size; have := congrArg (fun w => w.heap.size) HW0.out; simp at this ⊢; omega) ?_; intro v' w4 hown' hgrow hnil hat; obtain ⟨g', cap', hv⟩ := row_shape2 hown'; rw [hv] at hown' hat ⊢; clear hv hnil))
            have H1 := OnceAt.took hS ROOM.out hinv hR hGc HX.out hx0 hxr HTKS.out HGN.out HRM.out HCN.out hA3 hc3 ho3 (HW0.out ▸ hbw) hown' hgrow hat hcc
            obtain ⟨W, hWe⟩ : ∃ W, W = w4 := ⟨_, rfl⟩
            rw [← hWe] at H1 ⊢
            clear hWe hinv hR hS hrow hown' hgrow hat hA3 hc3 ho3 hbw hxb hR3
        
            obtain ⟨v', s', L', G', hS', hroom', hinv', hR', hGc'⟩ := H1
            obtain ⟨ga, gcap, hgv⟩ := hR'.hG.shape
            rw [hgv] at hR' ⊢
            clear hgv
            go_loopw [16] (fun i wx => ∃ j : Nat, j ≤ G'.length ∧ i = .int .i64 j ∧ Below W.heap.size W wx) (fun i _ => G'.length - (intOf i).toNat)
            case atStart => exact ⟨0, Nat.zero_le _, rfl, Below.refl _ _⟩
            case round =>
              obtain ⟨j, hj, rfl, hbw⟩ := hrel
              have hGb : G'.length ≤ 402 := by omega
              by_cases hjl : j < G'.length
              · obtain ⟨gg, gcap', hge⟩ := hR'.hG.shape_pos (by omega)
                obtain rfl : ga = some ⟨gg, 0, none⟩ := by cases hge; rfl
                obtain ⟨y, g', he⟩ : ∃ y g', G'[j]? = some (y, g') := ⟨_, _, List.getElem?_eq_getElem hjl⟩
                have hat := (hR'.below hbw).hG.at
                obtain ⟨hq0, hq1⟩ := hat.cells j y g' he
                simp only [Nat.zero_add] at hq0 hq1
                have hyi := (hat.i64 _ (List.mem_of_getElem? he)).1
                have hdead := hinv'.dead he
                have DEAD := Lib.hid hdead
                clear he hdead hge
                go_wp2_with (go_at_call 19; refine (live_any _ _ _ _ s' _ _ y g' hyi (hS'.below hbw).ar).mono ?_; rintro e w4 ⟨rfl, hb4⟩; rw [DEAD.out])
                exact ⟨⟨j + 1, by omega, by simp, below_then hbw hb4⟩, by simp [intOf]; omega⟩
              · have H2 := OnceAt.below (W := W) ⟨v', s', L', G', hS', hroom', hinv', hR', hGc'⟩ hbw
                clear hS' hinv' hR'
                go_wp2_with fail
                exact ⟨⟨k + 1, by omega, by simp, H2⟩, by simp [intOf]; omega⟩
      · obtain ⟨a, cap, x, rfl, ht, hLN, hres, hx, hx0, hxr, htk, hgens, hrm, hcnt⟩ := hcase
        obtain ⟨ht, htl⟩ := ht
        obtain ⟨i0, hi, hz0, hz1, hz2⟩ := info_parts infoHandle
        have hne := (hinv.took hx htk hgens hcnt).2
        have HX := Lib.hid hx
        have HTKS := Lib.hid htk
        have HGN := Lib.hid hgens
        have HRM := Lib.hid hrm
        have HCN := Lib.hid hcnt
        have HNE := Lib.hid hne
        clear hx htk hgens hrm hcnt hne
        go_wp2_with fail
        refine (take_to _ _ _ _ _ _ _ _ _ _ hS.ar hres).mono ?_
        rintro e w3 ⟨rfl, v3, hA3, hc3, ho3⟩
        have hxb := Boxed.new hA3 (.cells #[.int .i64 x, .int .i64 (s.gens x)] 30)
        go_wp2_with fail
        obtain ⟨W0, hW0⟩ : ∃ W, W = w3.alloc (.cells #[.int .i64 x, .int .i64 (s.gens x)] 30) := ⟨_, rfl⟩
        have hR3 := (hR.step hc3 ho3).alloc (.cells #[.int .i64 x, .int .i64 (s.gens x)] 30)
        rw [← hW0] at hxb hR3 ⊢
        have HW0 := Lib.hid hW0
        clear hW0
        obtain ⟨wo, rfl⟩ : ∃ wo : World, wo = wr := ⟨_, rfl⟩
        go_loopw [13] (fun i wx => ∃ j : Nat, j ≤ L.length ∧ i = .int .i64 j ∧ Below W0.heap.size W0 wx) (fun i _ => L.length - (intOf i).toNat)
        case atStart => exact ⟨0, Nat.zero_le _, rfl, Below.refl _ _⟩
        case round =>
          obtain ⟨j, hj, rfl, hbw⟩ := hrel
          have hb0 := (hxb.below hbw).cell 0
          have hb1 := (hxb.below hbw).cell 1
          simp at hb0 hb1
          have lw3 : w3.heap.size < wr.heap.size := (hxb.below hbw).lt
          by_cases hjl : j < L.length
          · obtain ⟨gg, cap', hge⟩ := hR3.hL.shape_pos (by omega)
            obtain rfl : a = some ⟨gg, 0, none⟩ := by cases hge; rfl
            obtain ⟨y, g', he⟩ : ∃ y g', L[j]? = some (y, g') := ⟨_, _, List.getElem?_eq_getElem hjl⟩
            have hat := (hR3.below hbw).hL.at
            obtain ⟨hq0, _⟩ := hat.cells j y g' he
            have hyx : (y == x) = false := by rw [beq_eq_false_iff_ne]; exact HNE.out _ (List.mem_of_getElem? he)
            simp only [Nat.zero_add] at hq0
            have hj0 : (0 : Int) ≤ (j : Int) := by omega
            have hj1 : (j : Int) < (L.length : Int) := by omega
            clear he hge hat
            go_wp2_with fail
            go_quiet (fail)
            go_wp2_with fail
            exact ⟨⟨j + 1, by omega, by simp, below_drewN hbw _⟩, by simp [intOf]; omega⟩
          · have hrow := (hR3.below hbw).hL.row
            go_wp2_with (at_builtin; go_must (refine wpList_append_own_at _ rfl _ _ 28 rfl w.heap.size 30 i0 (.agg #[.int .i64 0, .int .i64 0]) 2 16 Try.underlying28 hi hz0 hz1 hz2 rfl (by decide) (.slice a L.length cap) L.length (hcells L) rfl (hrow.alloc _) ⟨wr.heap.size, 0, none⟩ 1 1 [.int .i64 x, .int .i64 (s.gens x)] rfl rfl (World.news_of_block (cs := #[.int .i64 x, .int .i64 (s.gens x)]) (t := 30) (fr := (0, 0)) (heap_alloc_new wr _)) (by simp [Value.oneCell']) (by unfold maxLen; omega) (by omega) (by have := hS.bel.size; have := hc3.size; have := hbw.size; have := congrArg (fun w => w.heap.size) HW0.out; simp at this ⊢; omega) ?_; intro v' w4 hown' hgrow hnil hat; obtain ⟨g', cap', hv⟩ := row_shape2 hown'; rw [hv] at hown' hat ⊢; clear hv hnil))
            have H1 := OnceAt.took hS ROOM.out hinv hR hGc HX.out hx0 hxr HTKS.out HGN.out HRM.out HCN.out hA3 hc3 ho3 (HW0.out ▸ hbw) hown' hgrow hat hcc
            obtain ⟨W, hWe⟩ : ∃ W, W = w4 := ⟨_, rfl⟩
            rw [← hWe] at H1 ⊢
            clear hWe hinv hR hS hrow hown' hgrow hat hA3 hc3 ho3 hbw hxb hR3
        
            obtain ⟨v', s', L', G', hS', hroom', hinv', hR', hGc'⟩ := H1
            obtain ⟨ga, gcap, hgv⟩ := hR'.hG.shape
            rw [hgv] at hR' ⊢
            clear hgv
            go_loopw [16] (fun i wx => ∃ j : Nat, j ≤ G'.length ∧ i = .int .i64 j ∧ Below W.heap.size W wx) (fun i _ => G'.length - (intOf i).toNat)
            case atStart => exact ⟨0, Nat.zero_le _, rfl, Below.refl _ _⟩
            case round =>
              obtain ⟨j, hj, rfl, hbw⟩ := hrel
              have hGb : G'.length ≤ 402 := by omega
              by_cases hjl : j < G'.length
              · obtain ⟨gg, gcap', hge⟩ := hR'.hG.shape_pos (by omega)
                obtain rfl : ga = some ⟨gg, 0, none⟩ := by cases hge; rfl
                obtain ⟨y, g', he⟩ : ∃ y g', G'[j]? = some (y, g') := ⟨_, _, List.getElem?_eq_getElem hjl⟩
                have hat := (hR'.below hbw).hG.at
                obtain ⟨hq0, hq1⟩ := hat.cells j y g' he
                simp only [Nat.zero_add] at hq0 hq1
                have hyi := (hat.i64 _ (List.mem_of_getElem? he)).1
                have hdead := hinv'.dead he
                have DEAD := Lib.hid hdead
                clear he hdead hge
                go_wp2_with (go_at_call 19; refine (live_any _ _ _ _ s' _ _ y g' hyi (hS'.below hbw).ar).mono ?_; rintro e w4 ⟨rfl, hb4⟩; rw [DEAD.out])
                exact ⟨⟨j + 1, by omega, by simp, below_then hbw hb4⟩, by simp [intOf]; omega⟩
              · have H2 := OnceAt.below (W := W) ⟨v', s', L', G', hS', hroom', hinv', hR', hGc'⟩ hbw
                clear hS' hinv' hR'
                go_wp2_with fail
                exact ⟨⟨k + 1, by omega, by simp, H2⟩, by simp [intOf]; omega⟩
      · obtain ⟨g, cap, rfl, ht, hl0, hLp⟩ := hcase
        have hLN : L.length ≤ 9 := by have := hinv.len; have := hS.ar.ok.fresh; have := ROOM.out; omega
        have hm1 := Int.lt_tmod_of_pos z (show (0 : Int) < (L.length : Int) by omega)
        have hm2 := Int.tmod_lt_of_pos z (show (0 : Int) < (L.length : Int) by omega)
        go_upto_region 23 with (fail)
        obtain ⟨q, hq, hql⟩ : ∃ q : Nat, (z.tmod ↑L.length + ↑L.length) % (L.length : Int) = (q : Int) ∧ q < L.length := by
          have h1 := Int.emod_nonneg (z.tmod ↑L.length + ↑L.length) (show (L.length : Int) ≠ 0 by omega)
          have h2 := Int.emod_lt_of_pos (z.tmod ↑L.length + ↑L.length) (show (0 : Int) < (L.length : Int) by omega)
          exact ⟨((z.tmod ↑L.length + ↑L.length) % (L.length : Int)).toNat, by omega, by omega⟩
        rw [hq]
        obtain ⟨x, gx, he⟩ : ∃ x gx, L[q]? = some (x, gx) := ⟨_, _, List.getElem?_eq_getElem hql⟩
        obtain ⟨hq0, hq1⟩ := hR.hL.at.cells q x gx he
        simp only [Nat.zero_add] at hq0 hq1
        obtain ⟨hxi, hgi⟩ := hR.hL.at.i64 _ (List.mem_of_getElem? he)
        obtain ⟨hlv, hinv2, hdd⟩ := hinv.freed he
        have HE := Lib.hid he
        have HD := Lib.hid hdd
        clear hq hm1 hm2 he hdd
        go_wp2_with fail
        have r1 : s.drop1Res x gx = 0 := by simp [Ar.drop1Res, hlv]
        have r2 : s.drop1 x gx = s.put x := by simp [Ar.drop1, hlv]
        have S1 := (hS.alloc (.cells #[.int .i64 x, .int .i64 gx] 30)).alloc (.cells #[.int .i64 x, .int .i64 gx] 30)
        have B1 := Boxed.new (hS.alloc (.cells #[.int .i64 x, .int .i64 gx] 30)).ar (.cells #[.int .i64 x, .int .i64 gx] 30)
        have B0 := (Boxed.new hS.ar (.cells #[.int .i64 x, .int .i64 gx] 30)).alloc (.cells #[.int .i64 x, .int .i64 gx] 30)
        have R1 := (hR.alloc (.cells #[.int .i64 x, .int .i64 gx] 30)).alloc (.cells #[.int .i64 x, .int .i64 gx] 30)
        rw [size_alloc] at B1
        refine (free_one _ _ _ _ 1 _ s _ x gx _ _ _ S1.ar B1.at' hxi hgi B1.out (by omega)).mono ?_
        rintro e w3 ⟨rfl, v3, hA3, hc3, ho3⟩
        rw [r1]
        rw [r2] at hA3
        have S3 := S1.step hA3 hc3 ho3
        have R3 := R1.step hc3 ho3
        have B3 := B0.step hc3 ho3
        clear hA3 hc3 ho3 S1 R1 B0 B1 r1 r2 hS hR hlv
        have cb0 := B3.cell 0
        have cb1 := B3.cell 1
        simp at cb0 cb1
        have r3 : (s.put x).drop1Res x gx = 51 := by simp [Ar.drop1Res, HD.out]
        have r4 : (s.put x).drop1 x gx = s.put x := by simp [Ar.drop1, HD.out]
        go_wp2_with fail
        have S4 := S3.alloc (.cells #[.int .i64 x, .int .i64 gx] 30)
        have B4 := Boxed.new S3.ar (.cells #[.int .i64 x, .int .i64 gx] 30)
        have R4 := R3.alloc (.cells #[.int .i64 x, .int .i64 gx] 30)
        refine (free_one _ _ _ _ 1 _ (s.put x) _ x gx _ _ _ S4.ar B4.at' hxi hgi B4.out (by omega)).mono ?_
        rintro e w4 ⟨rfl, v4, hA4, hc4, ho4⟩
        rw [r3]
        rw [r4] at hA4
        have S5 := S4.step hA4 hc4 ho4
        have R5 := R4.step hc4 ho4
        have B5 := (B3.alloc _).step hc4 ho4
        clear hA4 hc4 ho4 S3 S4 R3 R4 B3 B4 r3 r4 cb0 cb1 HD
        go_wp2_with fail
        have hcap : L.length ≤ cap := by
          rcases R5.hL.row.2 with ⟨h0, _⟩ | ⟨_, _, _, h0, _, _, h1, _⟩
          · cases h0
          · cases h0; exact h1
        have hw1 : IntKind.i64.wrap ((q : Int) + 1) = (q : Int) + 1 := IntWalk.i64_in _ (by omega)
        have hw2 : (0 : Int) ≤ (q : Int) + 1 := by omega
        have hw3 : ((q : Int) + 1).toNat = q + 1 := by omega
        have hw4 : q + 1 ≤ L.length := by omega
        have hw5 : q ≤ cap := by omega
        obtain ⟨i0, hi, hz0, hz1, hz2⟩ := info_parts infoHandle
        have lg : g < w4.heap.size := (R5.hL.lt rfl).2
        have hsz5 := S5.bel.size
        have k1 : (w4.alloc (.cells #[] 30)).drew.ownsRow w.heap.size 30 2 (.slice (some ⟨w4.heap.size, 0, none⟩) 0 0) 0 [] := World.ownsRow_made (base := w.heap.size) (e := 30) (size := 2) w4 #[] 0 hsz5 (Nat.zero_le _) rfl
        have k2 := R5.hL.news_take (W := (w4.alloc (.cells #[] 30)).drew) (Below.heap_alloc w4 _ _ lg) q
        have k3 : (hcells (L.take q)).length = q * 2 := by rw [hcells_length, List.length_take]; congr 1; omega
        have K1 := Lib.hid k1
        have K2 := Lib.hid k2
        have K3 := Lib.hid k3
        have k4 : 0 + q ≤ maxLen := by unfold maxLen; omega
        have k5 : (0 + q) * 16 ≤ 140737488355328 := by omega
        have k6 : w.heap.size ≤ (w4.alloc (.cells #[] 30)).drew.heap.size := Nat.le_trans hsz5 (by show w4.heap.size ≤ (w4.alloc _).heap.size; rw [size_alloc]; omega)
        have K4 := Lib.hid k4
        have K5 := Lib.hid k5
        have K6 := Lib.hid k6
        clear k1 k2 k3 k4 k5 k6
        obtain ⟨A, hAdr, hnewsA⟩ : ∃ A : Addr, (if cap = q + 1 then some (⟨g, 0, none⟩ : Addr) else some ⟨g, (q + 1) * 2, none⟩) = some A ∧ ∀ W : World, W.heap[g]? = w4.heap[g]? → ∀ j u, (hcells (L.drop (q + 1)))[j]? = some u → W.cell? (A.add j) = some u := by
          by_cases hcq : cap = q + 1
          · refine ⟨⟨g, 0, none⟩, by rw [if_pos hcq], fun W _ j u hu => ?_⟩
            rw [List.drop_eq_nil_of_le (by omega)] at hu
            simp [hcells] at hu
          · exact ⟨⟨g, (q + 1) * 2, none⟩, by rw [if_neg hcq], fun W hW => R5.hL.news_drop hW (q + 1)⟩
        have hw6 : (q : Int) + 1 ≤ (L.length : Int) := by omega
        have KA := Lib.hid hnewsA
        clear hnewsA
        have k7 : (hcells (L.drop (q + 1))).length = (L.length - (q + 1)) * 2 := by rw [hcells_length, List.length_drop]
        have k8 : 0 + q + (L.length - (q + 1)) ≤ maxLen := by unfold maxLen; omega
        have k9 : (0 + q + (L.length - (q + 1))) * 16 ≤ 140737488355328 := by omega
        have kg : ∀ w5 : World, (w4.alloc (.cells #[] 30)).drew.grownBy w5 (some w4.heap.size) → w5.heap[g]? = w4.heap[g]? := fun w5 hg => (hg.block g (by show g < (w4.alloc _).heap.size; rw [size_alloc]; omega) (by simp; omega)).trans (Below.heap_alloc w4 _ _ lg)
        have K7 := Lib.hid k7
        have K8 := Lib.hid k8
        have K9 := Lib.hid k9
        have KG := Lib.hid kg
        clear k7 k8 k9 kg
        go_region_law (first | (refine step_append_at _ rfl (.tmp 119) _ 28 rfl w.heap.size 30 i0 _ 2 16 Try.underlying28 hi hz0 hz1 hz2 rfl (by decide) _ 0 [] rfl K1.out ⟨g, 0, none⟩ q cap (hcells (L.take q)) rfl K3.out K2.out (hcells_one _) K4.out K5.out K6.out ?_; intro v5 w5 hown5 hgrow5 hnil5 hat5) | (refine step_append_at _ rfl (.tmp 123) _ 28 rfl w.heap.size 30 i0 _ 2 16 Try.underlying28 hi hz0 hz1 hz2 rfl (by decide) v5 (0 + q) ([] ++ hcells (L.take q)) rfl hown5 A (L.length - (q + 1)) (cap - (q + 1)) (hcells (L.drop (q + 1))) rfl K7.out (KA.out w5 (KG.out w5 hgrow5)) (hcells_one _) K8.out K9.out (Nat.le_trans K6.out hgrow5.size) ?_; intro v6 w6 hown6 hgrow6 hnil6 hat6))
        obtain ⟨b6, row6, n6⟩ := erase_rows hql hgrow5 hat5 hown6 hgrow6 hat6
        have B6 := B5.below b6
        have cb0 := B6.cell 0
        have cb1 := B6.cell 1
        simp at cb0 cb1
        have hrowG := ((Rows2.fresh S5.ar R5 b6 row6 (fun p hp => R5.hL.i64 p ((List.eraseIdx_sublist _ _).subset hp)) n6).hG.row)
        have hGb : G.length ≤ 400 := by omega
        have z6 : w.heap.size ≤ w6.heap.size := Nat.le_trans hsz5 b6.size
        clear hown5 hgrow5 hat5 hnil5 hown6 hgrow6 hat6 hnil6 hAdr hw1 hw2 hw3 hw6 K1 K2 K3 K4 K5 K6 K7 K8 K9 KA KG
        go_wp2_with (at_builtin; go_must (refine wpList_append_own_at _ rfl _ _ 28 rfl w.heap.size 30 i0 (.agg #[.int .i64 0, .int .i64 0]) 2 16 Try.underlying28 hi hz0 hz1 hz2 rfl (by decide) _ G.length (hcells G) rfl (hrowG.alloc _) ⟨w6.heap.size, 0, none⟩ 1 1 [.int .i64 x, .int .i64 gx] rfl rfl (World.news_of_block (cs := #[.int .i64 x, .int .i64 gx]) (t := 30) (fr := (0, 0)) (heap_alloc_new w6 _)) (by simp [Value.oneCell']) (by unfold maxLen; omega) (by omega) (by simp; omega) ?_; intro v7 w7 hown7 hgrow7 hnil7 hat7; obtain ⟨g7, cap7, hv7⟩ := row_shape2 hown7; rw [hv7] at hown7 hat7 ⊢; clear hv7 hnil7))
        have H1 := OnceAt.freed S5 ROOM.out hinv2 R5 hGc hxi hgi b6 row6 n6 hown7 hgrow7 hat7
        obtain ⟨W, hWe⟩ : ∃ W, W = w7 := ⟨_, rfl⟩
        rw [← hWe] at H1 ⊢
        clear hWe hown7 hgrow7 hat7 hrowG B6 B5 S5 R5 hinv hinv2 row6 b6 n6
        
        obtain ⟨v', s', L', G', hS', hroom', hinv', hR', hGc'⟩ := H1
        obtain ⟨ga, gcap, hgv⟩ := hR'.hG.shape
        rw [hgv] at hR' ⊢
        clear hgv
        go_loopw [16] (fun i wx => ∃ j : Nat, j ≤ G'.length ∧ i = .int .i64 j ∧ Below W.heap.size W wx) (fun i _ => G'.length - (intOf i).toNat)
        case atStart => exact ⟨0, Nat.zero_le _, rfl, Below.refl _ _⟩
        case round =>
          obtain ⟨j, hj, rfl, hbw⟩ := hrel
          have hGb : G'.length ≤ 402 := by omega
          by_cases hjl : j < G'.length
          · obtain ⟨gg, gcap', hge⟩ := hR'.hG.shape_pos (by omega)
            obtain rfl : ga = some ⟨gg, 0, none⟩ := by cases hge; rfl
            obtain ⟨y, g', he⟩ : ∃ y g', G'[j]? = some (y, g') := ⟨_, _, List.getElem?_eq_getElem hjl⟩
            have hat := (hR'.below hbw).hG.at
            obtain ⟨hq0, hq1⟩ := hat.cells j y g' he
            simp only [Nat.zero_add] at hq0 hq1
            have hyi := (hat.i64 _ (List.mem_of_getElem? he)).1
            have hdead := hinv'.dead he
            have DEAD := Lib.hid hdead
            clear he hdead hge
            go_wp2_with (go_at_call 19; refine (live_any _ _ _ _ s' _ _ y g' hyi (hS'.below hbw).ar).mono ?_; rintro e w4 ⟨rfl, hb4⟩; rw [DEAD.out])
            exact ⟨⟨j + 1, by omega, by simp, below_then hbw hb4⟩, by simp [intOf]; omega⟩
          · have H2 := OnceAt.below (W := W) ⟨v', s', L', G', hS', hroom', hinv', hR', hGc'⟩ hbw
            clear hS' hinv' hR'
            go_wp2_with fail
            exact ⟨⟨k + 1, by omega, by simp, H2⟩, by simp [intOf]; omega⟩
    · obtain ⟨a, cap, rfl⟩ := hR.hL.shape
      go_wp2_with fail
      refine (len_any _ _ _ _ _ _ _ hS.ar).mono ?_
      rintro e w3 ⟨rfl, rfl⟩
      have hfin : (((s.fresh : Int) - s.free.length) == (L.length : Int)) = true := by rw [beq_iff_eq]; have := hinv.len; omega
      go_wp2_with fail
      go_ret
      exact ⟨rfl, hS.bel⟩

set_option maxRecDepth 100000 in
set_option maxHeartbeats 1000000 in
theorem once_none (a : Option Addr) (pc : Nat) (r : Int) (w : World) :
    Calls Try.prog 3 #[.int .i64 r, .slice a 0 pc] w fun e w' => e = .returned (.bool true) ∧ Below w.heap.size w w' := by
  obtain ⟨m1, m2, m3, m4⟩ := mod9 r
  go_enter Try.func3, Try.ntmps3
  go_wp2_with fail
  refine (awake5_any _).mono ?_
  rintro e w1 ⟨rfl, hb1⟩
  go_wp2_with fail
  obtain ⟨N, hN⟩ : ∃ N : Nat, 1 + r.tmod 9 % 9 = (N : Int) := ⟨(1 + r.tmod 9 % 9).toNat, by omega⟩
  have hN9 : N ≤ 9 := by omega
  rw [hN]
  clear hN m1 m2 m3 m4
  refine (new_any N _ (by omega)).mono ?_
  rintro e w2 ⟨rfl, hA, hb2⟩
  go_wp2_with fail
  refine wp_loop_rounds 1 ?_
  rw [rounds_succ]
  go_wp2_with fail
  refine (len_any _ _ _ _ _ _ _ hA).mono ?_
  rintro e w3 ⟨rfl, rfl⟩
  have hfin : ((((Ar.made N).fresh : Int) - (Ar.made N).free.length) == 0) = true := by rfl
  go_wp2_with fail
  go_ret
  exact ⟨rfl, below_then hb1 hb2⟩
end Go.Proofs.Ytfkckdfldalceaa
