/- Sets: unseen of keys, Drop. Conditions: each contract's own premises. -/
import Derived.Test.YtcghgnncmnoalaaSx10
namespace Go.Proofs.Ytcghgnncmnoalaa
open Go.RowKit Go.Maps

/-- the first unseen one's place -/
def idxU (gs : Ky → Option Sn) : List Ky → Int → Int
  | [], _ => -1
  | k :: l, i => if (gs k).isSome = false then i else idxU gs l (i + 1)
theorem idxU_drop {gs : Ky → Option Sn} {l : List Ky} {k : Nat} {x : Ky} (hx : l[k]? = some x) : idxU gs (l.drop k) k = if (gs x).isSome = false then (k : Int) else idxU gs (l.drop (k + 1)) (k + 1) := by
  obtain ⟨hk, rfl⟩ := List.getElem?_eq_some_iff.1 hx
  rw [List.drop_eq_getElem_cons hk]
  rfl
theorem idxU_any {gs : Ky → Option Sn} : ∀ (l : List Ky) (i : Int), 0 ≤ i → decide (0 ≤ idxU gs l i) = l.any (fun k => !(gs k).isSome)
  | [], _, _ => rfl
  | r :: l, i, hi => by
    unfold idxU
    cases h : (gs r).isSome
    · rw [if_pos rfl, List.any_cons, h]; simp [hi]
    · rw [if_neg (by decide), idxU_any l (i + 1) (by omega), List.any_cons, h]; rfl
set_option maxRecDepth 100000 in
set_option maxHeartbeats 2000000 in
theorem idxK_any {w : World} {sb bs bw bm ns nw nm : Nat} {gs : Ky → Option Sn} {gw gm : Ky → Option Tx} (hS : StX w sb bs bw bm ns nw nm gs gw gm) (a : Option Addr) (cap : Nat) (l : List Ky) (h : kK.V w a l) (hok : ∀ k ∈ l, k.Ok) (hl : l.length ≤ 1000000) :
    Calls Try.prog 133 #[.slice a l.length cap, .func (.func 100) #[.pointer (some ⟨sb, 0, none⟩)] #[]] w (IntPost w (idxU gs l 0)) := by
  have HR := Lib.hid h
  have HS := Lib.hid hS
  have HO := Lib.hid hok
  clear h hS hok
  go_enter Try.func133, Try.ntmps133
  go_wp2_with fail
  go_loopw [8] (fun i wr => ∃ k : Nat, k ≤ l.length ∧ i = .int .i64 k ∧ Hid (idxU gs l 0 = idxU gs (l.drop k) k) ∧ Hid (Below w.heap.size w wr)) (fun i _ => l.length - (intOf i).toNat)
  case atStart => exact ⟨0, by omega, rfl, Lib.hid rfl, Lib.hid (Below.refl _ _)⟩
  case round =>
    obtain ⟨k, hk, rfl, HI, HBR⟩ := hrel
    by_cases hlt : k < l.length
    · obtain ⟨x, hx⟩ : ∃ x, l[k]? = some x := ⟨_, List.getElem?_eq_getElem hlt⟩
      obtain ⟨b, off, rfl, hat⟩ := HR.out (fun e => by rw [e] at hlt; simp at hlt)
      have hat2 := hat.below HBR.out
      have c0 := hat2.cells k x hx 0 _ rfl
      have c1 := hat2.cells k x hx 1 _ rfl
      have c2 := hat2.cells k x hx 2 _ rfl
      have c3 := hat2.cells k x hx 3 _ rfl
      simp [kK] at c0 c1 c2 c3
      have HXO := Lib.hid (HO.out x (List.mem_of_getElem? hx))
      have hD := Lib.hid (idxU_drop (gs := gs) hx)
      have HS2 := Lib.hid (HS.out.below HBR.out)
      obtain ⟨q, hq⟩ : ∃ q, (gs x).isSome = q := ⟨_, rfl⟩
      have HQ := Lib.hid hq
      clear hx hat hat2 hq
      go_wp2_with fail
      refine (unseen_any HS2.out HXO.out).mono ?_
      rintro e w1 ⟨rfl, b1⟩
      rw [HQ.out]
      have HB1 := Lib.hid (below_then HBR.out b1)
      clear b1 c0 c1 c2 c3
      cases q
      · have HN : Hid (idxU gs l 0 = k) := Lib.hid (by rw [HI.out, hD.out, HQ.out, if_pos rfl])
        go_wp2_with fail
        go_ret
        exact ⟨by rw [HN.out]; rfl, HB1.out⟩
      · have HN : Hid (idxU gs l 0 = idxU gs (l.drop (k + 1)) ((k + 1 : Nat) : Int)) := Lib.hid (by rw [HI.out, hD.out, HQ.out, if_neg (by decide)]; rfl)
        go_wp2_with fail
        exact ⟨⟨k + 1, by omega, by go_num, HN, HB1⟩, by simp [intOf]; omega⟩
    · obtain rfl : k = l.length := by omega
      have HN : Hid (idxU gs l 0 = -1) := Lib.hid (by rw [HI.out, List.drop_length]; rfl)
      go_wp2_with fail
      go_ret
      exact ⟨by rw [HN.out]; rfl, HBR.out⟩
set_option maxRecDepth 100000 in
theorem conK_any {w : World} {sb bs bw bm ns nw nm : Nat} {gs : Ky → Option Sn} {gw gm : Ky → Option Tx} (hS : StX w sb bs bw bm ns nw nm gs gw gm) (a : Option Addr) (cap : Nat) (l : List Ky) (h : kK.V w a l) (hok : ∀ k ∈ l, k.Ok) (hl : l.length ≤ 1000000) :
    Calls Try.prog 101 #[.slice a l.length cap, .func (.func 100) #[.pointer (some ⟨sb, 0, none⟩)] #[]] w (BoolPost w (l.any (fun k => !(gs k).isSome))) := by
  have hi := Lib.hid (idxU_any (gs := gs) l 0 (by omega))
  have HC := Lib.hid (idxK_any hS a cap l h hok hl)
  clear hS h hok
  go_enter Try.func101, Try.ntmps101
  go_wp2_with fail
  refine HC.out.mono ?_
  rintro e w1 ⟨rfl, b1⟩
  go_wp2_with fail
  go_ret
  exact ⟨by rw [← hi.out]; rfl, b1⟩
theorem updKs_append (t : Tx) : ∀ (a b : List Ky) (g : Ky → Option Tx), updKs t (a ++ b) g = updKs t b (updKs t a g)
  | [], _, _ => rfl
  | k :: a, b, g => updKs_append t a b (updK g k (some t))
def DropPost (w : World) (sb bs bw bm ns nw nm : Nat) (gs : Ky → Option Sn) (gw gm : Ky → Option Tx) (l : List Ky) (e : Ending) (w' : World) : Prop :=
  if l.any (fun k => !(gs k).isSome) = true then e = .returned (.int .i64 101) ∧ Below w.heap.size w w'
  else e = .returned (.int .i64 0) ∧ ∃ nw', nw' ≤ nw + l.length ∧ StX w' sb bs bw bm ns nw' nm gs (updKs ⟨⟨#[]⟩, false⟩ l gw) gm ∧ Chg w w' (fun j => j = bw)
/-- the maps in a round -/
structure DrI (w wr : World) (sb bs bw bm ns nw nm : Nat) (gs : Ky → Option Sn) (gw gm : Ky → Option Tx) (l : List Ky) (k : Nat) : Prop where
  ex : ∃ nw', nw' ≤ nw + k ∧ StX wr sb bs bw bm ns nw' nm gs (updKs ⟨⟨#[]⟩, false⟩ (l.take k) gw) gm
  chg : Chg w wr (fun j => j = bw)
set_option maxRecDepth 100000 in
set_option maxHeartbeats 2000000 in
theorem sxDrop_any {w : World} {sb bs bw bm ns nw nm : Nat} {gs : Ky → Option Sn} {gw gm : Ky → Option Tx} (hS : StX w sb bs bw bm ns nw nm gs gw gm) (hnw : nw ≤ 1000000) (a : Option Addr) (cap : Nat) (l : List Ky) (h : kK.V w a l) (hok : ∀ k ∈ l, k.Ok) (hl : l.length ≤ 1000000) :
    Calls Try.prog 37 #[.pointer (some ⟨sb, 0, none⟩), .slice a l.length cap] w (DropPost w sb bs bw bm ns nw nm gs gw gm l) := by
  have HC := Lib.hid (conK_any hS a cap l h hok hl)
  have HR := Lib.hid h
  have HS := Lib.hid hS
  have HO := Lib.hid hok
  have HNW := Lib.hid hnw
  obtain ⟨q, hq⟩ : ∃ q, l.any (fun k => !(gs k).isSome) = q := ⟨_, rfl⟩
  rw [hq] at HC
  have HQ := Lib.hid hq
  clear h hS hok hq hnw
  go_enter Try.func37, Try.ntmps37
  go_wp2_with fail
  refine HC.out.mono ?_
  rintro e w1 ⟨rfl, b1⟩
  have HB1 := Lib.hid b1
  clear b1 HC
  cases q
  case true =>
    go_wp2_with fail
    go_ret
    unfold DropPost
    rw [if_pos HQ.out]
    exact ⟨rfl, HB1.out⟩
  case false =>
    go_wp2_with fail
    have HI1 : Hid (DrI w w1 sb bs bw bm ns nw nm gs gw gm l 0) := Lib.hid ⟨⟨nw, by omega, HS.out.below HB1.out⟩, Chg.of_below HB1.out _⟩
    go_loopw [13] (fun i wr => ∃ k : Nat, k ≤ l.length ∧ i = .int .i64 k ∧ Hid (DrI w wr sb bs bw bm ns nw nm gs gw gm l k)) (fun i _ => l.length - (intOf i).toNat)
    case atStart => exact ⟨0, by omega, rfl, HI1⟩
    case round =>
      obtain ⟨k, hk, rfl, HI⟩ := hrel
      by_cases hlt : k < l.length
      · obtain ⟨x, hx⟩ : ∃ x, l[k]? = some x := ⟨_, List.getElem?_eq_getElem hlt⟩
        obtain ⟨b, off, rfl, hat⟩ := HR.out (fun e => by rw [e] at hlt; simp at hlt)
        obtain ⟨nw', hn', hs'⟩ := HI.out.ex
        have HBB : Hid (wr.heap[b]? = w.heap[b]?) := Lib.hid (by
          refine HI.out.chg.block b hat.lt (fun e => ?_)
          subst e
          obtain ⟨es, ck, hmap⟩ := HS.out.wm.map
          have := hat.cells k x hx 0 _ rfl
          simp [World.cell?, hmap] at this)
        have hat2 := hat.of_block HBB.out
        have c0 := hat2.cells k x hx 0 _ rfl
        have c1 := hat2.cells k x hx 1 _ rfl
        have c2 := hat2.cells k x hx 2 _ rfl
        have c3 := hat2.cells k x hx 3 _ rfl
        simp [kK] at c0 c1 c2 c3
        have HXO := Lib.hid (HO.out x (List.mem_of_getElem? hx))
        have HTK : Hid (l.take (k + 1) = l.take k ++ [x]) := Lib.hid (by
          obtain ⟨hk', e⟩ := List.getElem?_eq_some_iff.1 hx
          rw [List.take_succ_eq_append_getElem hk', e])
        have HS2 := Lib.hid hs'
        have HN2 := Lib.hid hn'
        clear hx hat hat2 hs' hn'
        obtain ⟨W, hW⟩ : ∃ W, wr.alloc (.cells #[.int .i64 x.kind, .int .i64 x.a, .int .i64 x.b, .string x.s] 62) = W := ⟨_, rfl⟩
        obtain ⟨kb, hkb⟩ : ∃ x, x = wr.heap.size := ⟨_, rfl⟩
        have bW : Below wr.heap.size wr W := by rw [← hW]; exact below_box _ _
        have eW : W.heap[kb]? = some (.cells #[.int .i64 x.kind, .int .i64 x.a, .int .i64 x.b, .string x.s] 62) := by rw [← hW, hkb]; exact heap_new _ _
        have HE := Lib.hid eW
        have HBW := Lib.hid bW
        have HHU := Lib.hid (HS2.out.below bW)
        have HW := Lib.hid hW
        have HKB := Lib.hid hkb
        clear bW eW hW hkb
        go_upto_region 6 with fail
        rw [HW.out, ← HKB.out]
        clear c0 c1 c2 c3
        have v0 := cell_of_blk HE.out 0
        have v1 := cell_of_blk HE.out 1
        have v2 := cell_of_blk HE.out 2
        have v3 := cell_of_blk HE.out 3
        have d1 := cell_of_blk HHU.out.blk 1
        simp at v0 v1 v2 v3 d1
        obtain ⟨F, hm, hF⟩ := HHU.out.wm
        have HF := Lib.hid hF
        have hm2 : mapR W.drew Try.prog 62 bw nw' F := hm.of_block rfl
        have hnl : nw' < maxLen := by have := HNW.out; have := HN2.out; unfold maxLen; omega
        clear hm hF
        refine wp_region_still_tail 6 (by kernel_rfl) (by kernel_rfl) ?_
        change wpStill _ _ (World.drew _) (fun a' => wpList _ _ _ _ a' (World.drew _)) _ _
        simp only [List.take_succ_cons, List.take_zero, List.drop_succ_cons, List.drop_zero]
        repeat still_step
        refine wpStill_nil ?_
        go_wp2_with (at_mapUpdate; refine wpList_store _ rfl _ _ _ 154 rfl 62 159 lawKey Try.underlying154 bw nw' F rfl hm2 hnl _ (.agg #[.string ⟨#[]⟩, .bool false]) _ rfl rfl (keyK HXO.out) ?_; intro w3 m3 t3 c3 f3 z3)
        have M3 := Lib.hid m3
        have T3 := Lib.hid t3
        clear m3 t3 c3 f3 z3 hm2
        go_wp2_with fail
        have hx3 : MpX w3 bw (if (F x.lit).isSome = true then nw' else nw' + 1) Tx.v (updK (updKs ⟨⟨#[]⟩, false⟩ (l.take k) gw) x (some ⟨⟨#[]⟩, false⟩)) := MpX.stored (enc := Tx.v) HF.out HXO.out M3.out
        refine ⟨⟨k + 1, by omega, by go_num, Lib.hid ⟨⟨(if (F x.lit).isSome = true then nw' else nw' + 1), by have := len_if nw' (F x.lit).isSome; have := HN2.out; omega, ?_⟩, ?_⟩⟩, by simp [intOf]; omega⟩
        · rw [HTK.out, updKs_append]
          exact (HHU.out.below (below_drewN (Below.refl _ _) 1)).wturn T3.out hx3
        · have h1 : Chg w W (fun j => j = bw) := HI.out.chg.trans (Chg.of_below HBW.out _) (fun _ _ h => h)
          exact h1.drew.turned T3.out (fun _ => rfl)
      · obtain rfl : k = l.length := by omega
        go_wp2_with fail
        go_ret
        unfold DropPost
        rw [if_neg (by rw [HQ.out]; decide)]
        obtain ⟨nw', h1, h2⟩ := HI.out.ex
        rw [List.take_length] at h2
        exact ⟨rfl, nw', h1, h2, HI.out.chg⟩
end Go.Proofs.Ytcghgnncmnoalaa
