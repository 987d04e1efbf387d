/- The reference's Lock and Install that are refused; acts of layer 9; what a step of CellStays does. Conditions: each contract's own premises. -/
import Derived.Test.YtaanohgkdpohhaaRef9b
import Derived.Test.YtaanohgkdpohhaaCell10
namespace Go.Proofs.Ytaanohgkdpohhaa
open Go.RowKit Go.Maps

set_option maxRecDepth 100000 in
set_option maxHeartbeats 400000 in
theorem r9lock_busy (rb cap room : Nat) (a : Option Addr) (L : List (Ky × Cl)) (k : Ky) (x : Cl) (who : Int) (w : World) (h : RV w rb a cap room L) (hx : lookL L k = some x) (hlk : x.lk = true) :
    Calls Try.prog 92 #[.pointer (some ⟨rb, 0, none⟩), .agg #[.int .i64 k.kind, .int .i64 k.a, .int .i64 k.b, .string k.s], .int .i64 who] w fun e w' => e = .returned (.tuple #[.int .u64 0, .int .i64 60]) ∧ Below w.heap.size w w' := by
  have hW := fun X => h.alloc X
  have HB := Lib.hid (fun X => (Below.refl w.heap.size w).alloc (Nat.le_refl _) X)
  have HX := Lib.hid hx
  clear hx
  go_enter Try.func92, Try.ntmps92
  go_wp2_with fail
  refine (r9find_some rb cap room a L k x _ (hW _) HX.out).mono ?_
  rintro e w1 ⟨i, rfl, hi, hb⟩
  have h1 := (hW _).below hb
  have hlt := (List.getElem?_eq_some_iff.1 hi).1
  obtain ⟨lb, rfl, hat⟩ := h1.row (fun e => by rw [e] at hlt; simp at hlt)
  obtain ⟨q0, q1, q2, q3, q4, q5, q6, q7, q8⟩ := hat.cells i k x hi
  rw [hlk] at q7
  have hlb := hat.lt
  have c1 := h1.cell1
  have hll := h1.len
  have hrl := h1.lt
  have hBB := (HB.out _).trans (hb.mono (by simp))
  clear hb hat h1 hi hW h hlk
  go_wp2_with fail
  go_ret2
  exact ⟨rfl, hBB⟩
set_option maxRecDepth 100000 in
set_option maxHeartbeats 400000 in
theorem r9install_stale (rb cap room : Nat) (a : Option Addr) (L : List (Ky × Cl)) (k : Ky) (who t vw : Int) (vs : ByteArray) (vh : Bool) (w : World) (h : RV w rb a cap room L) (hh : holdsV (lookL L k) who = false) :
    Calls Try.prog 94 #[.pointer (some ⟨rb, 0, none⟩), .agg #[.int .i64 k.kind, .int .i64 k.a, .int .i64 k.b, .string k.s], .int .i64 who, .int .u64 t, .agg #[.int .u64 vw, .string vs, .bool vh]] w fun e w' => e = .returned (.int .i64 51) ∧ Below w.heap.size w w' := by
  have hW := fun X Y => (h.alloc X).alloc Y
  have HH := Lib.hid hh
  clear h hh
  go_enter Try.func94, Try.ntmps94
  go_wp2_with fail
  refine (r9holds_any rb cap room a L k who _ (hW _ _)).mono ?_
  rintro e w1 ⟨rfl, hb⟩
  rw [HH.out]
  go_wp2_with fail
  go_ret
  exact ⟨rfl, (below_box2 w _ _ 0).trans (hb.mono (by simp; omega))⟩

/-- an act -/
structure A9 where
  kind : Int
  who : Int
  k : Ky
  ks : List Ky
  ka : Option Addr
  kc : Nat
  stamp : Int
  vw : Int
  vs : ByteArray
  vh : Bool
/-- an act in memory -/
structure A9.Ok (a : A9) (w : World) : Prop where
  kind : I64 a.kind
  who : I64 a.who
  k : a.k.Ok
  ks : KsV w (fun _ => False) a.ka a.ks
  kl : a.ks.length ≤ a.kc
  km : a.kc ≤ maxLen
  stamp : 0 ≤ a.stamp ∧ a.stamp < 18446744073709551616
  vw : 0 ≤ a.vw ∧ a.vw < 18446744073709551616
  vs : a.vs.size ≤ maxLen
theorem A9.Ok.below {a : A9} {w w' : World} (h : a.Ok w) (hb : Below w.heap.size w w') : a.Ok w' := ⟨h.kind, h.who, h.k, h.ks.below hb, h.kl, h.km, h.stamp, h.vw, h.vs⟩
/-- what small says -/
structure A9.Small (a : A9) : Prop where
  len : a.ks.length ≤ 10
  k : a.k.s.size ≤ 100
  v : a.vs.size ≤ 200
  ks : ∀ (i : Nat) (k : Ky), a.ks[i]? = some k → k.s.size ≤ 100
def SmallPost (a : A9) (w : World) (e : Ending) (w' : World) : Prop := ∃ b : Bool, e = .returned (.bool b) ∧ (b = true → a.Small) ∧ Below w.heap.size w w'

set_option maxRecDepth 100000 in
set_option maxHeartbeats 400000 in
theorem small9_any (a : A9) (w : World) (h : a.Ok w) :
    Calls Try.prog 29 #[.agg #[.int .i64 a.kind, .int .i64 a.who, .int .i64 a.k.kind, .int .i64 a.k.a, .int .i64 a.k.b, .string a.k.s, .slice a.ka a.ks.length a.kc, .int .u64 a.stamp, .int .u64 a.vw, .string a.vs, .bool a.vh]] w (SmallPost a w) := by
  have hB := Lib.hid (fun X => (Below.refl w.heap.size w).alloc (Nat.le_refl _) X)
  have m1 := h.k.s
  have m2 := h.vs
  have m3 := h.km
  have m4 := h.kl
  unfold maxLen at m1 m2 m3
  by_cases h1 : a.ks.length ≤ 10
  · by_cases h2 : a.k.s.size ≤ 100
    · by_cases h3 : a.vs.size ≤ 200
      · go_enter Try.func29, Try.ntmps29
        go_wp2_with fail
        go_loopw [3] (fun i wr => ∃ j : Nat, j ≤ a.ks.length ∧ i = .int .i64 j ∧ (∀ (i' : Nat) (k : Ky), i' < j → a.ks[i']? = some k → k.s.size ≤ 100) ∧ wr = w.alloc (.cells #[.int .i64 a.kind, .int .i64 a.who, .int .i64 a.k.kind, .int .i64 a.k.a, .int .i64 a.k.b, .string a.k.s, .slice a.ka a.ks.length a.kc, .int .u64 a.stamp, .int .u64 a.vw, .string a.vs, .bool a.vh] 63)) (fun i _ => a.ks.length - (intOf i).toNat)
        case atStart => exact ⟨0, Nat.zero_le _, rfl, fun _ _ h => absurd h (Nat.not_lt_zero _), rfl⟩
        case round =>
          obtain ⟨j, hj, rfl, hno, rfl⟩ := hrel
          have HN := Lib.hid hno
          clear hno
          by_cases hlt : j < a.ks.length
          · obtain ⟨kk, hkk⟩ : ∃ kk, a.ks[j]? = some kk := ⟨_, List.getElem?_eq_getElem hlt⟩
            obtain ⟨kb, off, hka, kat, _⟩ := h.ks (fun e => by rw [e] at hlt; simp at hlt)
            obtain ⟨q0, q1, q2, q3⟩ := kat.cells j kk hkk
            have hlb := kat.lt
            have m5 := (kat.ok kk (List.mem_of_getElem? hkk)).s
            unfold maxLen at m5
            have HK := Lib.hid hkk
            clear hkk kat
            by_cases hs : kk.s.size ≤ 100
            · go_wp2_with fail
              refine ⟨⟨j + 1, by omega, by go_num, fun i' k hi hk => ?_, by rw [hka]⟩, by simp [intOf]; omega⟩
              rcases Nat.lt_succ_iff_lt_or_eq.1 hi with h | rfl
              · exact HN.out i' k h hk
              · rw [HK.out] at hk; cases hk; exact hs
            · go_wp2_with fail
              go_ret
              exact ⟨false, rfl, fun e => (by cases e), hB.out _⟩
          · go_wp2_with fail
            go_ret
            exact ⟨true, rfl, fun _ => ⟨h1, h2, h3, fun i k hk => HN.out i k (by have := (List.getElem?_eq_some_iff.1 hk).1; omega) hk⟩, hB.out _⟩
      · clear h
        go_enter Try.func29, Try.ntmps29
        go_wp2_with fail
        go_ret
        exact ⟨false, rfl, fun e => (by cases e), hB.out _⟩
    · clear h
      go_enter Try.func29, Try.ntmps29
      go_wp2_with fail
      go_ret
      exact ⟨false, rfl, fun e => (by cases e), hB.out _⟩
  · clear h
    go_enter Try.func29, Try.ntmps29
    go_wp2_with fail
    go_ret
    exact ⟨false, rfl, fun e => (by cases e), hB.out _⟩

/-- S of a region of does: the box of an act in a later world -/
theorem act_box {W : World} {b : Nat} {a : A9} {z : Nat × Nat} {t : TypeId} (hb : W.heap[b]? = some (.cells #[.int .i64 a.kind, .int .i64 a.who, .int .i64 a.k.kind, .int .i64 a.k.a, .int .i64 a.k.b, .string a.k.s, .slice a.ka a.ks.length a.kc, .int .u64 a.stamp, .int .u64 a.vw, .string a.vs, .bool a.vh] t z)) (w' : World) (h : Below W.heap.size W w') :
    Below W.heap.size W w' ∧ w'.cell? ⟨b, 1, none⟩ = some (.int .i64 a.who) ∧ w'.cell? ⟨b, 2, none⟩ = some (.int .i64 a.k.kind) ∧ w'.cell? ⟨b, 3, none⟩ = some (.int .i64 a.k.a) ∧ w'.cell? ⟨b, 4, none⟩ = some (.int .i64 a.k.b) ∧ w'.cell? ⟨b, 5, none⟩ = some (.string a.k.s) ∧ w'.cell? ⟨b, 6, none⟩ = some (.slice a.ka a.ks.length a.kc) ∧ w'.cell? ⟨b, 7, none⟩ = some (.int .u64 a.stamp) ∧ w'.cell? ⟨b, 8, none⟩ = some (.int .u64 a.vw) ∧ w'.cell? ⟨b, 9, none⟩ = some (.string a.vs) ∧ w'.cell? ⟨b, 10, none⟩ = some (.bool a.vh) := by
  have e := (h.block b (Array.getElem?_eq_some_iff.1 hb).1).trans hb
  exact ⟨h, by rw [cell_of_blk e]; rfl, by rw [cell_of_blk e]; rfl, by rw [cell_of_blk e]; rfl, by rw [cell_of_blk e]; rfl, by rw [cell_of_blk e]; rfl, by rw [cell_of_blk e]; rfl, by rw [cell_of_blk e]; rfl, by rw [cell_of_blk e]; rfl, by rw [cell_of_blk e]; rfl, by rw [cell_of_blk e]; rfl⟩

set_option maxRecDepth 100000 in
set_option maxHeartbeats 2000000 in
theorem does_held (s : Sto) (b rb cap room : Nat) (ra : Option Addr) (L : List (Ky × Cl)) (x : Cl) (a : A9) (w : World) (h : StC w s) (hb : s.sb = b) (hr : RV w rb ra cap room L) (hg : s.g a.k = some x) (hL : lookL L a.k = some x) (hlk : x.lk = true) (hwho : x.who ≠ a.who) (hk : a.k.Ok) (h2 : a.kind ≠ 2) (h5 : a.kind ≠ 5) :
    Calls Try.prog 30 #[.pointer (some ⟨b, 0, none⟩), .pointer (some ⟨rb, 0, none⟩), .agg #[.int .i64 a.kind, .int .i64 a.who, .int .i64 a.k.kind, .int .i64 a.k.a, .int .i64 a.k.b, .string a.k.s, .slice a.ka a.ks.length a.kc, .int .u64 a.stamp, .int .u64 a.vw, .string a.vs, .bool a.vh]] w fun e w' => e = .returned (.bool true) ∧ Below w.heap.size w w' := by
  obtain ⟨B, hB⟩ : ∃ B, B = Obj.cells #[.int .i64 a.kind, .int .i64 a.who, .int .i64 a.k.kind, .int .i64 a.k.a, .int .i64 a.k.b, .string a.k.s, .slice a.ka a.ks.length a.kc, .int .u64 a.stamp, .int .u64 a.vw, .string a.vs, .bool a.vh] 63 := ⟨_, rfl⟩
  obtain ⟨W, hW⟩ : ∃ W, W = w.alloc B := ⟨_, rfl⟩
  have hbW : Below w.heap.size w W := by rw [hW]; exact (Below.refl _ _).alloc (Nat.le_refl _) _
  have eB : W.heap[w.heap.size]? = some B := by rw [hW]; exact heap_new w B
  rw [hB] at eB
  have KS := Lib.hid (act_box eB)
  have hSt : ∀ w', Below W.heap.size W w' → StC w' s ∧ RV w' rb ra cap room L := fun w' hb' => ⟨(h.stay hbW).stay hb', (hr.below hbW).below hb'⟩
  have HS := Lib.hid hSt
  have HW := Lib.hid hW
  have HBB := Lib.hid hB
  have HB := Lib.hid hb
  have HG := Lib.hid hg
  have HL := Lib.hid hL
  have HR : Hid (readV (some x) = .tuple #[.agg #[.int .u64 0, .string ⟨#[]⟩, .bool false], .int .i64 60]) := Lib.hid (by simp [readV, hlk])
  have HH : Hid (holdsV (some x) a.who = false) := Lib.hid (by simp [holdsV, hlk, hwho])
  have HX := Lib.hid hlk
  have n2 : (a.kind == 2) = false := by simpa using h2
  have n5 : (a.kind == 5) = false := by simpa using h5
  clear hSt h hr hb hg hL hW hB hlk hwho h2 h5 eB
  have fin : ∀ w', Below W.heap.size W w' → Below w.heap.size w w' := fun w' hb' => hbW.trans (hb'.mono hbW.size)
  have FIN := Lib.hid fin
  clear fin hbW
  by_cases k0 : a.kind = 0
  · have n0 : (a.kind == 0) = true := by simpa using k0
    clear k0 n2 n5
    go_enter Try.func30, Try.ntmps30
    go_wp2_with fail
    rw [← HBB.out, ← HW.out]
    refine (read_g s b a.k _ (HS.out _ (Below.refl _ _)).1 HB.out hk).mono ?_
    rintro e w1 ⟨rfl, hb1⟩
    rw [HG.out, HR.out]
    obtain ⟨_, p1, p2, p3, p4, p5, p6, p7, p8, p9, p10⟩ := KS.out w1 hb1
    have hlw : w.heap.size < w1.heap.size := World.block_lt_of_cell? w1 _ p1
    go_wp2_with fail
    have hb2 := hb1.alloc hb1.size (.cells #[.int .u64 0, .string ⟨#[]⟩, .bool false] 36)
    refine (r9read_any rb cap room ra L a.k _ (HS.out _ hb2).2).mono ?_
    rintro e w3 ⟨rfl, hb3⟩
    rw [HL.out, HR.out]
    have r0 := (hb3.block w1.heap.size (by simp)).trans (heap_new w1 _)
    have d0 := cell_of_blk r0 0
    have d1 := cell_of_blk r0 1
    have d2 := cell_of_blk r0 2
    have hlx := (Array.getElem?_eq_some_iff.1 r0).1
    simp at d0 d1 d2
    have hb3' := below_then hb2 hb3
    clear r0 hb3 hb2 hb1
    go_wp2_with fail
    go_ret
    exact ⟨rfl, FIN.out _ (hb3'.alloc hb3'.size _)⟩
  · have n0 : (a.kind == 0) = false := by simpa using k0
    clear k0
    by_cases k1 : a.kind = 1
    · have n1 : (a.kind == 1) = true := by simpa using k1
      clear k1 n2 n5
      go_enter Try.func30, Try.ntmps30
      go_wp2_with fail
      rw [← HBB.out, ← HW.out]
      refine (lock_busy_g s b a.k x a.who _ (HS.out _ (Below.refl _ _)).1 HB.out hk HG.out HX.out).mono ?_
      rintro e w1 ⟨rfl, hb1⟩
      obtain ⟨_, p1, p2, p3, p4, p5, p6, p7, p8, p9, p10⟩ := KS.out w1 hb1
      go_wp2_with fail
      refine (r9lock_busy rb cap room ra L a.k x a.who _ (HS.out _ hb1).2 HL.out HX.out).mono ?_
      rintro e w3 ⟨rfl, hb3⟩
      have hb3' := below_then hb1 hb3
      clear hb3 hb1
      go_wp2_with fail
      go_ret
      exact ⟨rfl, FIN.out _ hb3'⟩
    · have n1 : (a.kind == 1) = false := by simpa using k1
      clear k1
      by_cases k3 : a.kind = 3
      · have n3 : (a.kind == 3) = true := by simpa using k3
        clear k3 n5
        go_enter Try.func30, Try.ntmps30
        go_wp2_with fail
        rw [← HBB.out, ← HW.out]
        go_region_held3 (fun w' => Below W.heap.size W w' ∧ w'.cell? ⟨w.heap.size, 1, none⟩ = some (.int .i64 a.who) ∧ w'.cell? ⟨w.heap.size, 2, none⟩ = some (.int .i64 a.k.kind) ∧ w'.cell? ⟨w.heap.size, 3, none⟩ = some (.int .i64 a.k.a) ∧ w'.cell? ⟨w.heap.size, 4, none⟩ = some (.int .i64 a.k.b) ∧ w'.cell? ⟨w.heap.size, 5, none⟩ = some (.string a.k.s) ∧ w'.cell? ⟨w.heap.size, 6, none⟩ = some (.slice a.ka a.ks.length a.kc) ∧ w'.cell? ⟨w.heap.size, 7, none⟩ = some (.int .u64 a.stamp) ∧ w'.cell? ⟨w.heap.size, 8, none⟩ = some (.int .u64 a.vw) ∧ w'.cell? ⟨w.heap.size, 9, none⟩ = some (.string a.vs) ∧ w'.cell? ⟨w.heap.size, 10, none⟩ = some (.bool a.vh))
      (first | exact KS.out _ (Below.refl _ _).drew | (go_split_ands; refine KS.out _ (below_then ?_ hbc); assumption))
          (first | (go_at_call 19; go_split_ands; (with_reducible refine (install_stale_g s b a.k _ _ _ _ _ _ (HS.out _ ?hbw).1 HB.out hk (by rw [HG.out]; exact HH.out)).mono ?_); (case hbw => assumption); rintro e wc ⟨rfl, hbc⟩) | (go_at_call 94; go_split_ands; (with_reducible refine (r9install_stale rb cap room ra L a.k _ _ _ _ _ _ (HS.out _ ?hbx).2 (by rw [HL.out]; exact HH.out)).mono ?_); (case hbx => assumption); rintro e wc ⟨rfl, hbc⟩))
        go_split_ands
        go_wp2_with fail
        go_ret
        exact ⟨rfl, FIN.out _ (by assumption)⟩
      · have n3 : (a.kind == 3) = false := by simpa using k3
        clear k3
        by_cases k4 : a.kind = 4
        · have n4 : (a.kind == 4) = true := by simpa using k4
          clear k4 n5
          go_enter Try.func30, Try.ntmps30
          go_wp2_with fail
          rw [← HBB.out, ← HW.out]
          obtain ⟨vb, hvb⟩ : ∃ vb, vb = stillV (some x) a.who a.vw a.vh := ⟨_, rfl⟩
          have HVB := Lib.hid hvb
          clear hvb
          go_region_held3 (fun w' => Below W.heap.size W w' ∧ w'.cell? ⟨w.heap.size, 1, none⟩ = some (.int .i64 a.who) ∧ w'.cell? ⟨w.heap.size, 2, none⟩ = some (.int .i64 a.k.kind) ∧ w'.cell? ⟨w.heap.size, 3, none⟩ = some (.int .i64 a.k.a) ∧ w'.cell? ⟨w.heap.size, 4, none⟩ = some (.int .i64 a.k.b) ∧ w'.cell? ⟨w.heap.size, 5, none⟩ = some (.string a.k.s) ∧ w'.cell? ⟨w.heap.size, 6, none⟩ = some (.slice a.ka a.ks.length a.kc) ∧ w'.cell? ⟨w.heap.size, 7, none⟩ = some (.int .u64 a.stamp) ∧ w'.cell? ⟨w.heap.size, 8, none⟩ = some (.int .u64 a.vw) ∧ w'.cell? ⟨w.heap.size, 9, none⟩ = some (.string a.vs) ∧ w'.cell? ⟨w.heap.size, 10, none⟩ = some (.bool a.vh))
      (first | exact KS.out _ (Below.refl _ _).drew | (go_split_ands; refine KS.out _ (below_then ?_ hbc); assumption))
            (first | (go_at_call 75; go_split_ands; (with_reducible refine (still_g s b a.k _ _ _ _ _ (HS.out _ ?hbw).1 HB.out hk).mono ?_); (case hbw => assumption); rintro e wc ⟨rfl, hbc⟩; rw [HG.out, ← HVB.out]) | (go_at_call 95; go_split_ands; (with_reducible refine (r9still_any rb cap room ra L a.k _ _ _ _ _ (HS.out _ ?hbx).2).mono ?_); (case hbx => assumption); rintro e wc ⟨rfl, hbc⟩; rw [HL.out, ← HVB.out]))
          go_split_ands
          go_wp2_with fail
          go_ret
          exact ⟨rfl, FIN.out _ (by assumption)⟩
        · have n4 : (a.kind == 4) = false := by simpa using k4
          clear k4
          go_enter Try.func30, Try.ntmps30
          go_wp2_with fail
          rw [← HBB.out, ← HW.out]
          go_ret
          exact ⟨rfl, FIN.out _ (Below.refl _ _)⟩
end Go.Proofs.Ytaanohgkdpohhaa
