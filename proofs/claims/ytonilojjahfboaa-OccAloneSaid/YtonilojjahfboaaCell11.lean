/- The store of package cell: which, Held, Keys. Conditions: each contract's own premises. -/
import Derived.Test.YtonilojjahfboaaCell10
import Derived.Test.YtonilojjahfboaaKq5
import Derived.Maps.RangeWalk
namespace Go.Proofs.Ytonilojjahfboaa
open Go.RowKit Go.Maps

/-- keys that have come, of which something is so -/
def ColP (f : Ky → Option Sl) (p : Sl → Bool) (left : Lit → Bool) (ks : List Ky) : Prop := ks.Nodup ∧ (∀ k ∈ ks, k.Ok) ∧ ∀ k : Ky, k.Ok → (k ∈ ks ↔ ∃ x, f k = some x ∧ p x = true ∧ left k.lit = false)
/-- the keys of which something is so -/
def KsP (f : Ky → Option Sl) (p : Sl → Bool) (n : Nat) (ks : List Ky) : Prop := ks.Nodup ∧ (∀ k ∈ ks, k.Ok) ∧ ks.length ≤ n ∧ ∀ k : Ky, k.Ok → (k ∈ ks ↔ ∃ x, f k = some x ∧ p x = true)
theorem ColP.start {f : Ky → Option Sl} {p : Sl → Bool} {left : Lit → Bool} (h : ∀ k : Ky, k.Ok → left k.lit = (f k).isSome) : ColP f p left [] :=
  ⟨List.nodup_nil, fun k hk => (by cases hk), fun k hk => ⟨fun hk => (by cases hk), fun ⟨x, h1, _, h3⟩ => by
    rw [h k hk, h1] at h3
    cases h3⟩⟩
theorem lit_same {k : Ky} (hk : k.Ok) : k.lit.sameKey k.lit = true := WideAt.sameKey_self (lawKey.key (keyK hk))
theorem lit_other {k x : Ky} (hk : k.Ok) (hx : x.Ok) (e : k ≠ x) : k.lit.sameKey x.lit = false := by
  cases hq : k.lit.sameKey x.lit
  · rfl
  · exact absurd (lit_inj hk hx (WideAt.sameKey_eq hq)) e
theorem ColP.yes {f : Ky → Option Sl} {p : Sl → Bool} {left : Lit → Bool} {ks : List Ky} {k : Ky} {x : Sl} (h : ColP f p left ks) (hk : k.Ok) (hf : f k = some x) (hl : left k.lit = true) (hp : p x = true) : ColP f p (fun z => left z && !z.sameKey k.lit) (ks ++ [k]) := by
  obtain ⟨h1, h2, h3⟩ := h
  refine ⟨List.nodup_append.2 ⟨h1, by simp, fun a ha b hb => ?_⟩, fun y hy => ?_, fun y hy => ?_⟩
  · obtain rfl : b = k := by simpa using hb
    intro e
    subst e
    obtain ⟨_, _, _, h4⟩ := (h3 a hk).1 ha
    rw [hl] at h4
    cases h4
  · rcases List.mem_append.1 hy with hy | hy
    · exact h2 y hy
    · obtain rfl : y = k := by simpa using hy
      exact hk
  · rw [List.mem_append, List.mem_singleton, h3 y hy]
    by_cases e : y = k
    · subst e
      simp [hf, hp, lit_same hk]
    · simp [e, lit_other hy hk e]
theorem ColP.no {f : Ky → Option Sl} {p : Sl → Bool} {left : Lit → Bool} {ks : List Ky} {k : Ky} {x : Sl} (h : ColP f p left ks) (hk : k.Ok) (hf : f k = some x) (hp : p x = false) : ColP f p (fun z => left z && !z.sameKey k.lit) ks := by
  obtain ⟨h1, h2, h3⟩ := h
  refine ⟨h1, h2, fun y hy => ?_⟩
  rw [h3 y hy]
  by_cases e : y = k
  · subst e
    simp [hf, hp]
  · simp [lit_other hy hk e]
theorem ColP.end {f : Ky → Option Sl} {p : Sl → Bool} {left : Lit → Bool} {ks : List Ky} {n : Nat} (h : ColP f p left ks) (hl : ∀ kl, left kl = false) (hn : ks.length ≤ n) : KsP f p n ks :=
  ⟨h.1, h.2.1, hn, fun k hk => by rw [h.2.2 k hk, hl]; simp⟩
theorem KsP.sort {f : Ky → Option Sl} {p : Sl → Bool} {n : Nat} {ks : List Ky} (h : KsP f p n ks) : KySorted (sortKy ks) ∧ KsP f p n (sortKy ks) := by
  obtain ⟨h1, h2, h3, h4⟩ := h
  obtain ⟨s1, s2⟩ := merge_sorted h1
  change KySorted (sortKy ks) at s1
  change (sortKy ks).Perm ks at s2
  exact ⟨s1, s2.nodup_iff.2 h1, fun k hk => h2 k (s2.mem_iff.1 hk), by rw [s2.length_eq]; exact h3, fun k hk => by rw [s2.mem_iff]; exact h4 k hk⟩
/-- what which leaves: the keys in order -/
def WhichPost (s : Sto) (p : Sl → Bool) (w : World) (e : Ending) (w' : World) : Prop := ∃ v ks, e = .returned v ∧ KySorted ks ∧ KsP s.f p s.cnt ks ∧ kK.Own w' w.heap.size v ks ∧ Below w.heap.size w w'
def heldP (who : Int) (x : Sl) : Bool := x.lk && (x.who == who)
def hasP (x : Sl) : Bool := !x.ab

set_option maxHeartbeats 400000 in
theorem held1_any (x : Sl) (wb : Nat) (who : Int) (w : World) (hs : Sm x.st) (hb : w.heap[x.ad]? = some x.blk) (hw : w.cell? ⟨wb, 0, none⟩ = some (.int .i64 who)) :
    Calls Try.prog 45 #[.pointer (some ⟨x.ad, 0, none⟩), .pointer (some ⟨wb, 0, none⟩)] w fun e w' => e = .returned (.bool (heldP who x)) ∧ ∃ n, w' = w.drewN n := by
  unfold heldP
  have c2 : w.cell? ⟨x.ad, 2, none⟩ = some (.int .u64 (wd x.st x.lk x.ab)) := by rw [cell_of_blk hb]; rfl
  have c4 : w.cell? ⟨x.ad, 4, none⟩ = some (.int .i64 x.who) := by rw [cell_of_blk hb]; rfl
  have HS := Lib.hid hs
  clear hb hs
  obtain ⟨ad, xh, xg, st, lk, ab, text, whx⟩ := x
  dsimp only at *
  cases lk
  · go_enter Try.func45, Try.ntmps45
    go_wp2
    go_quiet ((go_at_call 43; first | exact quiet_at2 (quiet_same (locked_any _ _ _ _ _ HS.out c2)) | exact quiet_at (quiet_same (locked_any _ _ _ _ _ HS.out c2)) | exact Calls.quiet_of_same (locked_any _ _ _ _ _ HS.out c2)))
    go_wp2
    go_ret
    exact ⟨rfl, _, rfl⟩
  · go_enter Try.func45, Try.ntmps45
    go_wp2
    go_quiet ((go_at_call 43; first | exact quiet_at2 (quiet_same (locked_any _ _ _ _ _ HS.out c2)) | exact quiet_at (quiet_same (locked_any _ _ _ _ _ HS.out c2)) | exact Calls.quiet_of_same (locked_any _ _ _ _ _ HS.out c2)))
    go_wp2
    go_ret
    exact ⟨by simp, _, rfl⟩
theorem has_sl (x : Sl) (w : World) (hs : Sm x.st) (hb : w.heap[x.ad]? = some x.blk) : Calls Try.prog 42 #[.pointer (some ⟨x.ad, 0, none⟩)] w fun e w' => e = .returned (.bool (hasP x)) ∧ ∃ n, w' = w.drewN n :=
  has_any x.ad x.st x.lk x.ab w hs (by rw [cell_of_blk hb]; rfl)
theorem key_new (u : World) (n : Nat) (hn : u.heap.size = n) (x : Ky) : kK.V (u.alloc (.cells #[.int .i64 x.kind, .int .i64 x.a, .int .i64 x.b, .string x.s] 35)) (some ⟨n, 0, none⟩) [x] := by
  subst hn
  exact fun _ => ⟨_, 0, rfl, RowK.new_at (k := kK) (heap_new _ _) rfl⟩
theorem grown_drewN (w : World) (n : Nat) (r : Option Nat) : w.grownBy (w.drewN n) r := ⟨rfl, rfl, rfl, Nat.le_refl _, fun _ _ _ => rfl⟩
theorem ranges_left {α : Type} {P : Program} {wr : World} {k : TypeId} {R : Value → Option (DataW α × List MemPlace)} {b r n : Nat} {D : DataW α} {left : Lit → Bool} {cnt : Nat} (h : wr.ranges P k R b r n D left cnt) : wr.rangeLeft b r = cnt := h.left_eq
set_option maxRecDepth 100000 in
set_option maxHeartbeats 2000000 in
theorem whichHeld_any (s : Sto) (wb : Nat) (who : Int) (w : World) (h : StC w s) (hw : w.cell? ⟨wb, 0, none⟩ = some (.int .i64 who)) (hwl : wb < w.heap.size) (hn : s.cnt ≤ 1000000) :
    Calls Try.prog 41 #[.pointer (some ⟨s.sb, 0, none⟩), .func (.func 45) #[] #[.pointer (some ⟨wb, 0, none⟩)]] w (WhichPost s (heldP who) w) := by
  obtain ⟨nn, g, hmap, hnn, hg⟩ := h.map
  have hcnt : nn = s.cnt := by unfold Sto.cnt; omega
  obtain ⟨D0, hown, hsz, hhas, hat0⟩ := hmap.open'
  have c1 : w.cell? ⟨s.sb, 1, none⟩ = some (.map (some s.mb)) := by rw [cell_of_blk h.blk]; rfl
  have hls := h.ltS
  have HG := Lib.hid hg
  have HA0 := Lib.hid hat0
  have HH := Lib.hid hhas
  have HC := Lib.hid hcnt
  have hlm := h.ltM
  clear hg hat0 hhas hcnt
  go_enter Try.func41, Try.ntmps41
  go_wp2_with (first
    | (at_range; refine wpList_range_own _ rfl _ 59 rfl 35 90 lawKey Try.underlying59 _ s.mb nn _ rfl hown ?_; intro w0 hrg0 hg0 hs0)
    | go_in)
  go_frame
  go_loopw [5] (fun v wr => ∃ (left : Lit → Bool) (cnt : Nat) (ks : List Ky), wr.ranges Try.prog 35 rawElem s.mb w.heap.size nn D0 left cnt ∧ ks.length + cnt ≤ nn ∧ ColP s.f (heldP who) left ks ∧ kK.Own wr (w.heap.size + 1) v ks ∧ w.heap.size < wr.heap.size ∧ Below w.heap.size w wr)
    (fun _ wr => wr.rangeLeft s.mb w.heap.size)
  case atStart =>
    refine ⟨_, _, [], hrg0, by rw [hsz]; simp, ColP.start (fun k hk => ?_), RowK.Own.nil kK _ _, by omega, (Below.refl w.heap.size w).grown hg0 (Nat.le_refl _) (fun j hj => by cases hj)⟩
    rw [HH.out _ (lawKey.key (keyK hk)), HG.out k hk]
    cases s.f k <;> rfl
  case round =>
    obtain ⟨left, cnt, ks, hrg, hcs, hC, hO, hwz, hB⟩ := hrel
    obtain ⟨a, cap, rfl⟩ := hO.shape
    have HCP := Lib.hid hC
    have HO := Lib.hid hO
    have HB := Lib.hid hB
    clear hC hO hB
    go_wp2_with (first
      | (at_next; refine wpList_next_ranges _ rfl _ rfl 35 lawKey rawElem Ky.val id (fun key kl hk => by obtain ⟨x, _, hx, _⟩ := keyK_inv hk; exact ⟨x, hx⟩) (fun v _ _ => ⟨v, rfl⟩) s.mb w.heap.size nn _ _ _ rfl hrg ?_ ?_)
      | go_in)
    · intro hc0 hl0
      have HK := Lib.hid (HCP.out.end hl0 (n := nn) (by omega))
      have HL : Hid (ks.length ≤ 1000000) := Lib.hid (by have := HC.out; omega)
      clear hc0 hl0 hcs
      go_wp2_with fail
      refine (sortK_own HO.out HL.out).mono ?_
      rintro e w2 ⟨rfl, o2, b2⟩
      have HO2 := Lib.hid (And.intro o2 b2)
      have HLL : Hid ((sortKy ks).length = ks.length) := Lib.hid (List.length_mergeSort ks)
      clear o2 b2
      go_wp2_with fail
      go_ret
      obtain ⟨s1, s2⟩ := HK.out.sort
      rw [HC.out] at s2
      exact ⟨_, sortKy ks, rfl, s1, s2, HO2.out.1.mono (Nat.le_succ _), HB.out.trans (HO2.out.2.mono (Nat.le_succ _))⟩
    · intro x c kl yd yp w2 cnt2 hkey hlk hv hat hrg2 hlt hg2 hs2 hen
      obtain ⟨x', hxo, ex, rfl⟩ := keyK_inv hkey
      obtain rfl : x = x' := Ky.val_inj ex
      have hyd : yd = .held c := by
        simp only [rawElem, Option.some.injEq, Prod.mk.injEq] at hv
        exact hv.1.symm
      have hgx : g x.lit = some c := HA0.out x.lit c (lawKey.key (keyK hxo)) (fun z => by rw [hat z]; exact hyd)
      rw [HG.out x hxo] at hgx
      obtain ⟨y, hy, rfl⟩ : ∃ y, s.f x = some y ∧ y.ptr = c := by
        cases hf : s.f x with
        | none => rw [hf] at hgx; cases hgx
        | some y => rw [hf] at hgx; exact ⟨y, rfl, by simpa using hgx⟩
      have hB2 : Below w.heap.size w w2 := HB.out.grown hg2 HB.out.size (fun j hj => by cases hj; exact Nat.le_refl _)
      have hO2 : kK.Own w2 (w.heap.size + 1) (.slice a ks.length cap) ks := HO.out.grown hg2 (fun j hj e => by injection e with e; have := (HO.out.lt j hj).1; omega)
      have hst := h.stay hB2
      obtain ⟨_, hyo, hyb, _⟩ := hst.slot x y hy
      have hyl := (Array.getElem?_eq_some_iff.1 hyb).1
      have hbW : Below w.heap.size w (w2.alloc (.cells #[.int .i64 x.kind, .int .i64 x.a, .int .i64 x.b, .string x.s] 35)) := hB2.alloc hB2.size _
      have hyb4 : (w2.alloc (.cells #[.int .i64 x.kind, .int .i64 x.a, .int .i64 x.b, .string x.s] 35)).heap[y.ad]? = some y.blk := (Below.heap_alloc _ _ _ hyl).trans hyb
      have hO4 := hO2.alloc (.cells #[.int .i64 x.kind, .int .i64 x.a, .int .i64 x.b, .string x.s] 35)
      have hrg4 := hrg2.alloc (.cells #[.int .i64 x.kind, .int .i64 x.a, .int .i64 x.b, .string x.s] 35)
      have HWB := Lib.hid ((hbW.cell (p := ⟨wb, 0, none⟩) hwl).trans hw)
      unfold Ky.val at hen
      unfold Sl.ptr at hen
      have HY := Lib.hid hy
      have HYB := Lib.hid hyb4
      have HYS := Lib.hid hyo.st
      have HLK := Lib.hid hlk
      have HO4 := Lib.hid hO4
      have HR4 := Lib.hid hrg4
      have HBW := Lib.hid hbW
      have HNX := Lib.hid (heap_new w2 (.cells #[.int .i64 x.kind, .int .i64 x.a, .int .i64 x.b, .string x.s] 35))
      have HWZ : Hid (w.heap.size + 1 ≤ w2.heap.size) := Lib.hid (by omega)
      have HLE : Hid (left = left) := Lib.hid rfl
      clear hs2 hat hv hkey hlk hyd hgx hrg2 hg2 ex hyb hyo hyl hst hB2 hO2 hO4 hrg4 hbW hyb4 hy
      unfold Ky.val Sl.ptr
      cases hp : heldP who y
      · have HP := Lib.hid hp
        clear hp
        go_wp2_with (go_at_call 45; refine (held1_any y wb who _ HYS.out HYB.out HWB.out).mono ?_; rintro e w3 ⟨rfl, nq, rfl⟩; rw [HP.out])
        go_roundw
        case rel => exact ⟨_, cnt2, ks, HR4.out.kept (grown_drewN _ _ none) (by simp) (by simp), by omega, HCP.out.no hxo HY.out HP.out, HO4.out.grown (grown_drewN _ _ none) (fun _ _ e => by cases e), by have := HWZ.out; simp; omega, below_drewN HBW.out _⟩
        case measure => rw [(HR4.out.kept (grown_drewN _ _ none) (by simp) (by simp)).left_eq, hrg.left_eq]; exact hlt
      · have HP := Lib.hid hp
        clear hp
        have HXV := Lib.hid (fun nq => key_new ((w2.alloc (.cells #[.int .i64 x.kind, .int .i64 x.a, .int .i64 x.b, .string x.s] 35)).drewN nq) (w2.heap.size + 1) (by simp) x)
        have HOA := Lib.hid (fun nq => (HO4.out.grown (grown_drewN _ nq none) (fun _ _ e => by cases e)).alloc (.cells #[.int .i64 x.kind, .int .i64 x.a, .int .i64 x.b, .string x.s] 35))
        go_wp2_with (first | (go_at_call 45; refine (held1_any y wb who _ HYS.out HYB.out HWB.out).mono ?_; rintro e w3 ⟨rfl, nq, rfl⟩; rw [HP.out]) | (at_builtin; refine RowK.wpList_app (k := kK) rfl (.tmp 21) (.tmp 23) rfl rfl (HOA.out _) (some ⟨w2.heap.size + 1, 0, none⟩) 1 [x] 1 rfl rfl (HXV.out _) (fun e => by cases e) (by have := HC.out; simp; omega) (by have := HWZ.out; simp; omega) ?_; intro v8 w8 hA; have HA8 := Lib.hid hA; clear hA) | fail)
        obtain ⟨oA, gA, kA⟩ := HA8.out
        have hne : ∀ j : Nat, j ≤ w.heap.size → some j ≠ (Value.slice a ks.length cap).ownBlock := fun j hj e => by
          have := (HO4.out.lt j e.symm).1
          omega
        have hR8 := ((HR4.out.kept (grown_drewN _ nq none) (by simp) (by simp)).alloc (.cells #[.int .i64 x.kind, .int .i64 x.a, .int .i64 x.b, .string x.s] 35)).kept gA (hne _ (Nat.le_of_lt hlm)) (hne _ (Nat.le_refl _))
        have hB8 := ((below_drewN HBW.out nq).alloc (by have := HWZ.out; simp; omega) (.cells #[.int .i64 x.kind, .int .i64 x.a, .int .i64 x.b, .string x.s] 35)).grown gA (by have := HWZ.out; simp; omega) (fun j hj => by have := (HO4.out.lt j hj).1; omega)
        have hsz8 := gA.size
        simp only [size_alloc, World.drewN] at hsz8
        go_roundw
        case rel => exact ⟨_, cnt2, ks ++ [x], hR8, by simp; omega, HCP.out.yes hxo HY.out HLK.out HP.out, oA, by have := HWZ.out; omega, hB8⟩
        case measure => rw [hR8.left_eq, hrg.left_eq]; exact hlt
set_option maxRecDepth 100000 in
set_option maxHeartbeats 2000000 in
theorem whichHas_any (s : Sto)  (w : World) (h : StC w s) (hn : s.cnt ≤ 1000000) :
    Calls Try.prog 41 #[.pointer (some ⟨s.sb, 0, none⟩), .func (.func 42) #[] #[]] w (WhichPost s (hasP) w) := by
  obtain ⟨nn, g, hmap, hnn, hg⟩ := h.map
  have hcnt : nn = s.cnt := by unfold Sto.cnt; omega
  obtain ⟨D0, hown, hsz, hhas, hat0⟩ := hmap.open'
  have c1 : w.cell? ⟨s.sb, 1, none⟩ = some (.map (some s.mb)) := by rw [cell_of_blk h.blk]; rfl
  have hls := h.ltS
  have HG := Lib.hid hg
  have HA0 := Lib.hid hat0
  have HH := Lib.hid hhas
  have HC := Lib.hid hcnt
  have hlm := h.ltM
  clear hg hat0 hhas hcnt
  go_enter Try.func41, Try.ntmps41
  go_wp2_with (first
    | (at_range; refine wpList_range_own _ rfl _ 59 rfl 35 90 lawKey Try.underlying59 _ s.mb nn _ rfl hown ?_; intro w0 hrg0 hg0 hs0)
    | go_in)
  go_frame
  go_loopw [5] (fun v wr => ∃ (left : Lit → Bool) (cnt : Nat) (ks : List Ky), wr.ranges Try.prog 35 rawElem s.mb w.heap.size nn D0 left cnt ∧ ks.length + cnt ≤ nn ∧ ColP s.f (hasP) left ks ∧ kK.Own wr (w.heap.size + 1) v ks ∧ w.heap.size < wr.heap.size ∧ Below w.heap.size w wr)
    (fun _ wr => wr.rangeLeft s.mb w.heap.size)
  case atStart =>
    refine ⟨_, _, [], hrg0, by rw [hsz]; simp, ColP.start (fun k hk => ?_), RowK.Own.nil kK _ _, by omega, (Below.refl w.heap.size w).grown hg0 (Nat.le_refl _) (fun j hj => by cases hj)⟩
    rw [HH.out _ (lawKey.key (keyK hk)), HG.out k hk]
    cases s.f k <;> rfl
  case round =>
    obtain ⟨left, cnt, ks, hrg, hcs, hC, hO, hwz, hB⟩ := hrel
    obtain ⟨a, cap, rfl⟩ := hO.shape
    have HCP := Lib.hid hC
    have HO := Lib.hid hO
    have HB := Lib.hid hB
    clear hC hO hB
    go_wp2_with (first
      | (at_next; refine wpList_next_ranges _ rfl _ rfl 35 lawKey rawElem Ky.val id (fun key kl hk => by obtain ⟨x, _, hx, _⟩ := keyK_inv hk; exact ⟨x, hx⟩) (fun v _ _ => ⟨v, rfl⟩) s.mb w.heap.size nn _ _ _ rfl hrg ?_ ?_)
      | go_in)
    · intro hc0 hl0
      have HK := Lib.hid (HCP.out.end hl0 (n := nn) (by omega))
      have HL : Hid (ks.length ≤ 1000000) := Lib.hid (by have := HC.out; omega)
      clear hc0 hl0 hcs
      go_wp2_with fail
      refine (sortK_own HO.out HL.out).mono ?_
      rintro e w2 ⟨rfl, o2, b2⟩
      have HO2 := Lib.hid (And.intro o2 b2)
      have HLL : Hid ((sortKy ks).length = ks.length) := Lib.hid (List.length_mergeSort ks)
      clear o2 b2
      go_wp2_with fail
      go_ret
      obtain ⟨s1, s2⟩ := HK.out.sort
      rw [HC.out] at s2
      exact ⟨_, sortKy ks, rfl, s1, s2, HO2.out.1.mono (Nat.le_succ _), HB.out.trans (HO2.out.2.mono (Nat.le_succ _))⟩
    · intro x c kl yd yp w2 cnt2 hkey hlk hv hat hrg2 hlt hg2 hs2 hen
      obtain ⟨x', hxo, ex, rfl⟩ := keyK_inv hkey
      obtain rfl : x = x' := Ky.val_inj ex
      have hyd : yd = .held c := by
        simp only [rawElem, Option.some.injEq, Prod.mk.injEq] at hv
        exact hv.1.symm
      have hgx : g x.lit = some c := HA0.out x.lit c (lawKey.key (keyK hxo)) (fun z => by rw [hat z]; exact hyd)
      rw [HG.out x hxo] at hgx
      obtain ⟨y, hy, rfl⟩ : ∃ y, s.f x = some y ∧ y.ptr = c := by
        cases hf : s.f x with
        | none => rw [hf] at hgx; cases hgx
        | some y => rw [hf] at hgx; exact ⟨y, rfl, by simpa using hgx⟩
      have hB2 : Below w.heap.size w w2 := HB.out.grown hg2 HB.out.size (fun j hj => by cases hj; exact Nat.le_refl _)
      have hO2 : kK.Own w2 (w.heap.size + 1) (.slice a ks.length cap) ks := HO.out.grown hg2 (fun j hj e => by injection e with e; have := (HO.out.lt j hj).1; omega)
      have hst := h.stay hB2
      obtain ⟨_, hyo, hyb, _⟩ := hst.slot x y hy
      have hyl := (Array.getElem?_eq_some_iff.1 hyb).1
      have hbW : Below w.heap.size w (w2.alloc (.cells #[.int .i64 x.kind, .int .i64 x.a, .int .i64 x.b, .string x.s] 35)) := hB2.alloc hB2.size _
      have hyb4 : (w2.alloc (.cells #[.int .i64 x.kind, .int .i64 x.a, .int .i64 x.b, .string x.s] 35)).heap[y.ad]? = some y.blk := (Below.heap_alloc _ _ _ hyl).trans hyb
      have hO4 := hO2.alloc (.cells #[.int .i64 x.kind, .int .i64 x.a, .int .i64 x.b, .string x.s] 35)
      have hrg4 := hrg2.alloc (.cells #[.int .i64 x.kind, .int .i64 x.a, .int .i64 x.b, .string x.s] 35)
      unfold Ky.val at hen
      unfold Sl.ptr at hen
      have HY := Lib.hid hy
      have HYB := Lib.hid hyb4
      have HYS := Lib.hid hyo.st
      have HLK := Lib.hid hlk
      have HO4 := Lib.hid hO4
      have HR4 := Lib.hid hrg4
      have HBW := Lib.hid hbW
      have HNX := Lib.hid (heap_new w2 (.cells #[.int .i64 x.kind, .int .i64 x.a, .int .i64 x.b, .string x.s] 35))
      have HWZ : Hid (w.heap.size + 1 ≤ w2.heap.size) := Lib.hid (by omega)
      have HLE : Hid (left = left) := Lib.hid rfl
      clear hs2 hat hv hkey hlk hyd hgx hrg2 hg2 ex hyb hyo hyl hst hB2 hO2 hO4 hrg4 hbW hyb4 hy
      unfold Ky.val Sl.ptr
      cases hp : hasP y
      · have HP := Lib.hid hp
        clear hp
        go_wp2_with (go_at_call 42; refine (has_sl y _ HYS.out HYB.out).mono ?_; rintro e w3 ⟨rfl, nq, rfl⟩; rw [HP.out])
        go_roundw
        case rel => exact ⟨_, cnt2, ks, HR4.out.kept (grown_drewN _ _ none) (by simp) (by simp), by omega, HCP.out.no hxo HY.out HP.out, HO4.out.grown (grown_drewN _ _ none) (fun _ _ e => by cases e), by have := HWZ.out; simp; omega, below_drewN HBW.out _⟩
        case measure => rw [(HR4.out.kept (grown_drewN _ _ none) (by simp) (by simp)).left_eq, hrg.left_eq]; exact hlt
      · have HP := Lib.hid hp
        clear hp
        have HXV := Lib.hid (fun nq => key_new ((w2.alloc (.cells #[.int .i64 x.kind, .int .i64 x.a, .int .i64 x.b, .string x.s] 35)).drewN nq) (w2.heap.size + 1) (by simp) x)
        have HOA := Lib.hid (fun nq => (HO4.out.grown (grown_drewN _ nq none) (fun _ _ e => by cases e)).alloc (.cells #[.int .i64 x.kind, .int .i64 x.a, .int .i64 x.b, .string x.s] 35))
        go_wp2_with (first | (go_at_call 42; refine (has_sl y _ HYS.out HYB.out).mono ?_; rintro e w3 ⟨rfl, nq, rfl⟩; rw [HP.out]) | (at_builtin; refine RowK.wpList_app (k := kK) rfl (.tmp 21) (.tmp 23) rfl rfl (HOA.out _) (some ⟨w2.heap.size + 1, 0, none⟩) 1 [x] 1 rfl rfl (HXV.out _) (fun e => by cases e) (by have := HC.out; simp; omega) (by have := HWZ.out; simp; omega) ?_; intro v8 w8 hA; have HA8 := Lib.hid hA; clear hA) | fail)
        obtain ⟨oA, gA, kA⟩ := HA8.out
        have hne : ∀ j : Nat, j ≤ w.heap.size → some j ≠ (Value.slice a ks.length cap).ownBlock := fun j hj e => by
          have := (HO4.out.lt j e.symm).1
          omega
        have hR8 := ((HR4.out.kept (grown_drewN _ nq none) (by simp) (by simp)).alloc (.cells #[.int .i64 x.kind, .int .i64 x.a, .int .i64 x.b, .string x.s] 35)).kept gA (hne _ (Nat.le_of_lt hlm)) (hne _ (Nat.le_refl _))
        have hB8 := ((below_drewN HBW.out nq).alloc (by have := HWZ.out; simp; omega) (.cells #[.int .i64 x.kind, .int .i64 x.a, .int .i64 x.b, .string x.s] 35)).grown gA (by have := HWZ.out; simp; omega) (fun j hj => by have := (HO4.out.lt j hj).1; omega)
        have hsz8 := gA.size
        simp only [size_alloc, World.drewN] at hsz8
        go_roundw
        case rel => exact ⟨_, cnt2, ks ++ [x], hR8, by simp; omega, HCP.out.yes hxo HY.out HLK.out HP.out, oA, by have := HWZ.out; omega, hB8⟩
        case measure => rw [hR8.left_eq, hrg.left_eq]; exact hlt
/-- the closure of Held captures who -/
theorem held_any (s : Sto) (b : Nat) (who : Int) (w : World) (h : StC w s) (hb : s.sb = b) (hn : s.cnt ≤ 1000000) :
    Calls Try.prog 20 #[.pointer (some ⟨b, 0, none⟩), .int .i64 who] w (WhichPost s (heldP who) w) := by
  subst hb
  have hS := h.alloc (.cells #[.int .i64 who] 3)
  have hN := heap_new w (.cells #[.int .i64 who] 3)
  have HC := Lib.hid (whichHeld_any s w.heap.size who _ hS (by rw [cell_of_blk hN]; rfl) (by simp) hn)
  have HB := Lib.hid (below_box w (.cells #[.int .i64 who] 3))
  clear h hS hN
  go_enter Try.func20, Try.ntmps20
  go_wp2_with fail
  refine HC.out.mono ?_
  rintro e w1 ⟨v, ks, rfl, k1, k2, o1, b1⟩
  obtain ⟨a, cap, rfl⟩ := o1.shape
  have HO := Lib.hid o1
  have HB1 := Lib.hid b1
  have HK := Lib.hid (And.intro k1 k2)
  clear o1 b1 k1 k2
  go_wp2_with fail
  go_ret
  exact ⟨_, ks, rfl, HK.out.1, HK.out.2, HO.out.mono (by simp), below_then HB.out HB1.out⟩
theorem keys_any (s : Sto) (b : Nat) (w : World) (h : StC w s) (hb : s.sb = b) (hn : s.cnt ≤ 1000000) :
    Calls Try.prog 14 #[.pointer (some ⟨b, 0, none⟩)] w (WhichPost s hasP w) := by
  subst hb
  have HC := Lib.hid (whichHas_any s w h hn)
  clear h
  go_enter Try.func14, Try.ntmps14
  go_wp2_with fail
  refine HC.out.mono ?_
  rintro e w1 ⟨v, ks, rfl, k1, k2, o1, b1⟩
  obtain ⟨a, cap, rfl⟩ := o1.shape
  have HO := Lib.hid o1
  have HB1 := Lib.hid b1
  have HK := Lib.hid (And.intro k1 k2)
  clear o1 b1 k1 k2
  go_wp2_with fail
  go_ret
  exact ⟨_, ks, rfl, HK.out.1, HK.out.2, HO.out, HB1.out⟩
end Go.Proofs.Ytonilojjahfboaa
