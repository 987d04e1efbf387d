/- The law RedoParses: its walk, as long as its example is. Conditions: the premises. -/
import Derived.Test.YtcghgnncmnoalaaRd16
import Derived.Test.YtcghgnncmnoalaaRd15e
import Derived.Test.YtcghgnncmnoalaaRdB
namespace Go.Proofs.Ytcghgnncmnoalaa
open Go.RowKit Go.Maps

/-- what Parse says, as numbers -/
def psN (p : Psd) : Nat × List Wr × Int × Int := match p with | .err c => (0, [], 0, c) | .rc r => (r.stamp, r.ws, -1, 0) | .mark n => (0, [], n, 0)
theorem psd_num {w w' : World} {p : Psd} {e : Ending} {s : Nat} {ws : List Wr} {n c : Int} (hq : psN p = (s, ws, n, c)) (h : ParPost w p e w') : Below w.heap.size w w' ∧ ∃ (a : Option Addr) (q : Nat), e = .returned (.tuple #[.agg #[.int .u64 (s : Nat), .slice a ws.length q], .int .i64 n, .int .i64 c]) ∧ kW.Own w' w.heap.size (.slice a ws.length q) ws ∧ (∀ x ∈ ws, x.Ok) ∧ ws.length ≤ 1000000 := by
  refine ⟨h.1, ?_⟩
  have e1 : s = (psN p).1 := by rw [hq]
  have e2 : ws = (psN p).2.1 := by rw [hq]
  have e3 : n = (psN p).2.2.1 := by rw [hq]
  have e4 : c = (psN p).2.2.2 := by rw [hq]
  subst e1 e2 e3 e4
  cases p with
  | err c => exact ⟨none, 0, h.2, RowK.Own.nil kW _ _, fun x hx => (by cases hx), Nat.zero_le _⟩
  | rc r =>
    obtain ⟨v, he, ho, hk, _, hl⟩ := h.2
    obtain ⟨a, q, rfl⟩ := ho.shape
    exact ⟨a, q, he, ho, hk, by show r.ws.length ≤ _; omega⟩
  | mark n => exact ⟨none, 0, h.2, RowK.Own.nil kW _ _, fun x hx => (by cases hx), Nat.zero_le _⟩
def NumPost (w : World) (s : Nat) (ws : List Wr) (n c : Int) (e : Ending) (w' : World) : Prop := Below w.heap.size w w' ∧ ∃ (a : Option Addr) (q : Nat), e = .returned (.tuple #[.agg #[.int .u64 (s : Nat), .slice a ws.length q], .int .i64 n, .int .i64 c]) ∧ kW.Own w' w.heap.size (.slice a ws.length q) ws ∧ (∀ x ∈ ws, x.Ok) ∧ ws.length ≤ 1000000
theorem parse_num (k : UInt8) (kn : Nat) (a : Option Addr) (cap : Nat) (l : List UInt8) (s : Nat) (ws : List Wr) (n c : Int) (w : World) (hk : bv k = .int .u8 (kn : Int)) (hq : psN (psB k l) = (s, ws, n, c)) (h : BsV w a l) (hcap : l.length ≤ cap) (ha : (a = none ∧ cap = 0) ∨ ∃ b off, a = some ⟨b, off, none⟩ ∧ b < w.heap.size) (hl : l.length ≤ 3000000) :
    Calls Try.prog 22 #[.agg #[.int .u8 (kn : Int), .slice a l.length cap]] w (NumPost w s ws n c) := by
  rw [← hk]
  exact (parse_any k a cap l w h hcap ha hl).mono fun e w' hp => psd_num hq hp
theorem r14parse_num (k : UInt8) (kn : Nat) (a : Option Addr) (cap : Nat) (l : List UInt8) (s : Nat) (ws : List Wr) (n c : Int) (w : World) (hk : bv k = .int .u8 (kn : Int)) (hq : psN (psB k l) = (s, ws, n, c)) (h : BsV w a l) (hcap : l.length ≤ cap) (ha : l = [] ∨ ∃ b off, a = some ⟨b, off, none⟩ ∧ b < w.heap.size) (hl : l.length ≤ 3000000) :
    Calls Try.prog 23 #[.agg #[.int .u8 (kn : Int), .slice a l.length cap]] w (NumPost w s ws n c) := by
  rw [← hk]
  rcases ha with rfl | ha
  · exact (r14parse_none k a cap w).mono fun e w' hp => psd_num hq hp
  · exact (r14parse_any k a cap l w h hcap (.inr ha) hl).mono fun e w' hp => psd_num hq hp
theorem own_setne {w : World} {B b i : Nat} {v u : Value} {l : List Wr} (h : kW.Own w B v l) (hb : ∀ j, v.ownBlock = some j → j ≠ b) : kW.Own (w.setCell ⟨b, i, none⟩ u) B v l :=
  ownsRow_of_block h (fun j hj => set_other _ (hb j hj))
theorem below_al' {w u : World} {n : Nat} (h : Below n w u) (hn : n ≤ u.heap.size) (X : Obj) : Below n w (u.alloc X) := h.alloc hn X
theorem BsO.empty {w : World} {B g : Nat} (h : w.heap[g]? = some (.cells #[] 5)) (hB : B ≤ g) : BsO w B (.slice (some ⟨g, 0, none⟩) 0 0) [] :=
  ⟨by simp, .inr ⟨g, 0, #[], rfl, hB, h, Nat.le_refl _, by simp, by simp, by simp⟩⟩
theorem BsO.src2 {w : World} {B : Nat} {a : Option Addr} {n c : Nat} {l : List UInt8} (h : BsO w B (.slice a n c) l) : l.length ≤ c ∧ ((a = none ∧ c = 0) ∨ ∃ b off, a = some ⟨b, off, none⟩ ∧ b < w.heap.size) := by
  rcases h.2 with ⟨h1, h2⟩ | ⟨g, cap, cur, h1, h2, h3, h4, _⟩
  · injection h1 with e1 e2 e3
    exact ⟨by omega, .inl ⟨e1, e3⟩⟩
  · injection h1 with e1 e2 e3
    exact ⟨by omega, .inr ⟨g, 0, e1, (Array.getElem?_eq_some_iff.1 h3).1⟩⟩
theorem small_body {st : Nat} {ws : List Wr} (h : smallW 20 300 ws = true) : ws.length ≤ 20 ∧ (bodyL st ws).length ≤ 1000000 := by
  unfold smallW at h
  simp at h
  obtain ⟨h1, h2⟩ := h
  refine ⟨h1, ?_⟩
  have : ∀ (l : List Wr), (∀ x ∈ l, x.k.s.size ≤ 300 ∧ x.val.size ≤ 300) → (l.flatMap wrB).length ≤ l.length * 616 := by
    intro l
    induction l with
    | nil => intro _; simp
    | cons x l ih =>
      intro hx
      have h3 := ih (fun y hy => hx y (by simp [hy]))
      have h4 := hx x (by simp)
      rw [List.flatMap_cons, List.length_append, wrB_len, List.length_cons]
      omega
  have h5 := this ws h2
  unfold bodyL
  rw [List.length_append, headB_len]
  omega
theorem rsv_one {w : World} {st : Nat} {a : Option Addr} {cap : Nat} {ws : List Wr} (h : WsV w a ws) (hs : st < 18446744073709551616) (hl : ws.length ≤ 1000000) :
    RsV (w.alloc (.cells #[.int .u64 st, .slice a ws.length cap] 35)) (some ⟨w.heap.size, 0, none⟩) [⟨st, a, cap, ws⟩] := fun _ => by
  refine ⟨_, 0, rfl, ⟨fun i x hx => ?_, by simp⟩⟩
  have hn := heap_new w (.cells #[.int .u64 st, .slice a ws.length cap] 35)
  match i, hx with
  | 0, hx =>
    injection hx with hx
    subst hx
    exact ⟨⟨hs, h.below (below_box _ _), hl⟩, cell_of_blk hn 0, cell_of_blk hn 1⟩
theorem rsv_two {w : World} {st : Nat} {a : Option Addr} {cap : Nat} {ws : List Wr} (h : WsV w a ws) (hs : st < 18446744073709551616) (hl : ws.length ≤ 1000000) :
    RsV (w.alloc (.cells #[.int .u64 st, .slice a ws.length cap, .int .u64 st, .slice a ws.length cap] 35)) (some ⟨w.heap.size, 0, none⟩) [⟨st, a, cap, ws⟩, ⟨st, a, cap, ws⟩] := fun _ => by
  refine ⟨_, 0, rfl, ⟨fun i x hx => ?_, by simp⟩⟩
  have hn := heap_new w (.cells #[.int .u64 st, .slice a ws.length cap, .int .u64 st, .slice a ws.length cap] 35)
  match i, hx with
  | 0, hx =>
    injection hx with hx
    subst hx
    exact ⟨⟨hs, h.below (below_box _ _), hl⟩, cell_of_blk hn 0, cell_of_blk hn 1⟩
  | 1, hx =>
    injection hx with hx
    subst hx
    exact ⟨⟨hs, h.below (below_box _ _), hl⟩, cell_of_blk hn 2, cell_of_blk hn 3⟩
theorem any_one (st : Nat) (a : Option Addr) (cap : Nat) (ws : List Wr) : ([⟨st, a, cap, ws⟩] : List Rv).any (·.rc.wrong) = Rc.wrong ⟨st, ws⟩ := by simp [Rv.rc]
theorem any_two (st : Nat) (a : Option Addr) (cap : Nat) (ws : List Wr) : ([⟨st, a, cap, ws⟩, ⟨st, a, cap, ws⟩] : List Rv).any (·.rc.wrong) = Rc.wrong ⟨st, ws⟩ := by simp [Rv.rc]
theorem conv_at {w : World} {g c : Nat} {l : List UInt8} (h : BsAt w g 0 l) : (convert 22 9 (.slice (some ⟨g, 0, none⟩) l.length c)).run Try.prog w = .ok (.string ⟨l.toArray⟩) w :=
  run_convert_bytes_back (P := Try.prog) w 22 9 5 ⟨g, 0, none⟩ c l Try.underlying22 Try.underlying5 Try.underlying9 h.conv
theorem pack_one (a : Option Addr) (cap : Nat) (l : List UInt8) (w : World) (hB : BsV w a l) (hl : l.length ≤ 1000000) :
    Calls Try.prog 27 #[.agg #[.int .u8 1, .slice a l.length cap]] w (OutPost w (packL 1 l)) := r8pack_any 1 a cap l w hB hl
theorem wrong_bad' {st : Nat} {ws : List Wr} (h : Rc.wrong ⟨st, ws⟩ = false) : badWs ws none = false := by
  unfold Rc.wrong at h
  simp only [Bool.or_eq_false_iff] at h
  exact h.1
/-- the box of what was parsed -/
structure R7b (w2 : World) (ps : Nat) (pw : List Wr) (g7 : Nat) (a5 : Option Addr) (c5 : Nat) (wc : World) : Prop where
  bel : Below w2.heap.size w2 wc
  blk : wc.heap[g7]? = some (.cells #[.int .u64 (ps : Nat), .slice a5 pw.length c5] 35)
  ws : WsV wc a5 pw
def R7 (w2 : World) (ps : Nat) (pw : List Wr) (s7 : Value) (wc : World) : Prop := ∃ g7 a5 c5, s7 = .pointer (some ⟨g7, 0, none⟩) ∧ R7b w2 ps pw g7 a5 c5 wc
set_option maxRecDepth 100000 in
set_option maxHeartbeats 4000000 in
theorem parses_law (haw : ∀ w, Calls Try.prog 15 #[] w (BoolPost w true)) (st : Nat) (a : Option Addr) (cap : Nat) (ws : List Wr) (ep : Int) (k : UInt8) (xa : Option Addr) (xcap : Nat) (xl : List UInt8) (w : World)
    (h : WsV w a ws) (hs : st < 18446744073709551616) (hl : ws.length ≤ maxLen) (hx : BsV w xa xl) (hxl : xl.length ≤ maxLen) (hxc : xl.length ≤ xcap) (hxa : xl = [] ∨ ∃ b off, xa = some ⟨b, off, none⟩ ∧ b < w.heap.size) :
    Calls Try.prog 6 #[.agg #[.int .u64 st, .slice a ws.length cap], .int .i64 ep, .agg #[bv k, .slice xa xl.length xcap]] w (BoolPost w true) := by
  obtain ⟨kn, hkn⟩ : ∃ n, n = k.toNat := ⟨_, rfl⟩
  have hbv : bv k = .int .u8 (kn : Int) := by rw [hkn]; rfl
  rw [hbv]
  have HBV := Lib.hid hbv
  obtain ⟨W, hW⟩ : ∃ W, W = (w.alloc (.cells #[.int .u64 st, .slice a ws.length cap] 35)).alloc (.cells #[.int .u8 (kn : Int), .slice xa xl.length xcap] 43) := ⟨_, rfl⟩
  have hBW : Below w.heap.size w W := by rw [hW]; exact (below_box w _).alloc (by (try simp only [size_alloc]); omega) _
  have e1 : W.heap[w.heap.size]? = some (.cells #[.int .u64 st, .slice a ws.length cap] 35) := by rw [hW, Below.heap_alloc _ _ _ (by (try simp only [size_alloc]); omega)]; exact heap_new w _
  have e2 : W.heap[w.heap.size + 1]? = some (.cells #[.int .u8 (kn : Int), .slice xa xl.length xcap] 43) := by
    have := heap_new (w.alloc (.cells #[.int .u64 st, .slice a ws.length cap] 35)) (.cells #[.int .u8 (kn : Int), .slice xa xl.length xcap] 43)
    rw [hW]; simpa using this
  obtain ⟨b2, hb2⟩ : ∃ b, b = w.heap.size + 1 := ⟨_, rfl⟩
  obtain ⟨b1, hb1⟩ : ∃ b, b = w.heap.size := ⟨_, rfl⟩
  rw [← hb2] at e2
  rw [← hb1] at e1
  have H1 := Lib.hid (h.below hBW)
  have H2 := Lib.hid (hx.below hBW)
  have HXA : Hid (xl = [] ∨ ∃ b off, xa = some ⟨b, off, none⟩ ∧ b < W.heap.size) := Lib.hid (by
    rcases hxa with e | ⟨b, off, e, hlt⟩
    · exact .inl e
    · exact .inr ⟨b, off, e, Nat.lt_of_lt_of_le hlt hBW.size⟩)
  have E1 := Lib.hid e1
  have E2 := Lib.hid e2
  have HW := Lib.hid hW
  have HB1 := Lib.hid hb1
  have HB2 := Lib.hid hb2
  have HBW := Lib.hid hBW
  have HL := Lib.hid hl
  have HXL := Lib.hid hxl
  have HXC := Lib.hid hxc
  have HKN := Lib.hid hkn
  have HS := Lib.hid hs
  clear hs h hx hxa e1 e2 hW hb1 hb2 hBW hl hxl hxc hbv hkn
  go_enter Try.func6, Try.ntmps6
  go_upto_region 1 with fail
  rw [← HW.out, ← HB2.out, ← HB1.out]
  clear HW HB1 HB2
  go_wp2_with fail
  refine (haw _).mono ?_
  rintro e w1 ⟨rfl, hb1⟩
  have f1 := (hb1.block _ (Array.getElem?_eq_some_iff.1 E1.out).1).trans E1.out
  have f2 := (hb1.block _ (Array.getElem?_eq_some_iff.1 E2.out).1).trans E2.out
  have c0 := cell_of_blk f1 0
  have c1 := cell_of_blk f1 1
  simp at c0 c1
  have F1 := Lib.hid f1
  have F2 := Lib.hid f2
  have HBD1 := Lib.hid hb1
  clear f1 f2 hb1
  go_wp2_with fail
  refine (small14_any st a cap ws _ (H1.out.below HBD1.out) HL.out).mono ?_
  rintro e w2 ⟨rfl, hb2⟩
  obtain ⟨q, hq⟩ : ∃ q, smallW 20 300 ws = q := ⟨_, rfl⟩
  rw [hq]
  have hBd2 := HBD1.out.trans (hb2.mono HBD1.out.size)
  have f1 := (hb2.block _ (Array.getElem?_eq_some_iff.1 F1.out).1).trans F1.out
  have f2 := (hb2.block _ (Array.getElem?_eq_some_iff.1 F2.out).1).trans F2.out
  clear c0 c1
  have d0 := cell_of_blk f2 0
  have d1 := cell_of_blk f2 1
  simp at d0 d1
  replace F1 := Lib.hid f1
  replace F2 := Lib.hid f2
  have HBD2 := Lib.hid hBd2
  clear f1 f2 hb2 hBd2 HBD1
  cases q
  · go_wp2_with fail
    refine (haw _).mono ?_
    rintro e w3 ⟨rfl, hb3⟩
    go_wp2_with fail
    go_ret
    exact ⟨rfl, HBW.out.trans ((HBD2.out.trans (hb3.mono HBD2.out.size)).mono HBW.out.size)⟩
  · have HSB := Lib.hid (small_body (st := st) hq)
    clear hq
    by_cases hbig : 2000 < xl.length
    · have t1 : decide ((2000 : Int) < (xl.length : Int)) = true := by simp; omega
      clear hbig
      go_wp2_with fail
      refine (haw _).mono ?_
      rintro e w3 ⟨rfl, hb3⟩
      go_wp2_with fail
      go_ret
      exact ⟨rfl, HBW.out.trans ((HBD2.out.trans (hb3.mono HBD2.out.size)).mono HBW.out.size)⟩
    · have t1 : decide ((2000 : Int) < (xl.length : Int)) = false := by simp; omega
      have HXS : Hid (xl.length ≤ 2000) := Lib.hid (by omega)
      clear hbig
      go_wp2_with fail
      clear t1 d0 d1
      obtain ⟨⟨ps, pw, pn, pc⟩, hpn⟩ : ∃ q, psN (psB k xl) = q := ⟨_, rfl⟩
      have HPN := Lib.hid hpn
      clear hpn
      have ks : ∀ w', Below w2.heap.size w2 w' → (fun w' => Below w2.heap.size w2 w' ∧ w'.cell? ⟨b2, 0, none⟩ = some (.int .u8 (kn : Int)) ∧ w'.cell? ⟨b2, 1, none⟩ = some (.slice xa xl.length xcap)) w' := fun w' hb => by
        have f2 := (hb.block _ (Array.getElem?_eq_some_iff.1 F2.out).1).trans F2.out
        have d0 := cell_of_blk f2 0
        have d1 := cell_of_blk f2 1
        simp at d0 d1
        exact ⟨hb, d0, d1⟩
      have KS := Lib.hid ks
      have HX2 := Lib.hid (H2.out.below HBD2.out)
      clear ks
      go_cut [7, 8, 9] from 32 to 43 (fun s7 s8 s9 wc => s8 = .int .i64 pn ∧ s9 = .int .i64 pc ∧ R7 w2 ps pw s7 wc)
      case first =>
        refine wp_region_held_drew (S := (fun w' => Below w2.heap.size w2 w' ∧ w'.cell? ⟨b2, 0, none⟩ = some (.int .u8 (kn : Int)) ∧ w'.cell? ⟨b2, 1, none⟩ = some (.slice xa xl.length xcap))) (by kernel_rfl) (KS.out _ (Below.refl _ _).drew) (fun hHeld => ?_)
        obtain ⟨V, hGen⟩ : ∃ u, u = World.drew w2 := ⟨_, rfl⟩
        rw [← hGen] at hHeld ⊢
        clear hGen
        refine wpAnyH_take (i := 0) (oi := ⟨some 33, _, _, _, _, _⟩) (v := ?vvra1) rfl (by kernel_rfl) (by kernel_rfl) (by kernel_rfl) (fun _ _ _ h => h) (Or.inl ⟨by rfl, ?yyra1⟩) hHeld ?rrra1
        case yyra1 => (intro wq hSw; (try dsimp only at hSw); go_simp; first | done | with_reducible rfl)
        simp only [Act.put, List.setIfInBounds_toArray, List.set_cons_zero, List.set_cons_succ]
        refine wpAnyH_take (i := 1) (oi := ⟨some 34, _, _, _, _, _⟩) (v := ?vvra2) rfl (by kernel_rfl) (by kernel_rfl) (by kernel_rfl) (fun _ _ _ h => h) (Or.inl ⟨by rfl, ?yyra2⟩) hHeld ?rrra2
        case yyra2 => (intro wq hSw; (try dsimp only at hSw); go_simp; first | done | with_reducible rfl)
        simp only [Act.put, List.setIfInBounds_toArray, List.set_cons_zero, List.set_cons_succ]
        refine wpAnyH_take (i := 3) (oi := ⟨some 36, _, _, _, _, _⟩) (v := ?vvra3) rfl (by kernel_rfl) (by kernel_rfl) (by kernel_rfl) (fun _ _ _ h => h) (Or.inl ⟨by rfl, ?yyra3⟩) hHeld ?rrra3
        case yyra3 => (intro wq hSw; (try dsimp only at hSw); go_simp; first | done | with_reducible rfl)
        simp only [Act.put, List.setIfInBounds_toArray, List.set_cons_zero, List.set_cons_succ]
        refine wpAnyH_take (i := 4) (oi := ⟨some 37, _, _, _, _, _⟩) (v := ?vvra4) rfl (by kernel_rfl) (by kernel_rfl) (by kernel_rfl) (fun _ _ _ h => h) (Or.inl ⟨by rfl, ?yyra4⟩) hHeld ?rrra4
        case yyra4 => (intro wq hSw; (try dsimp only at hSw); go_simp; first | done | with_reducible rfl)
        simp only [Act.put, List.setIfInBounds_toArray, List.set_cons_zero, List.set_cons_succ]
        refine wpAnyH_ready (rs := [2, 12]) (by kernel_rfl) (by simp) ?_
        refine AllReadyH.cons (o := ⟨some 35, _, _, _, _, _⟩) rfl (fun K hK => ?_) (AllReadyH.cons (o := ⟨some 7, _, _, _, _, _⟩) rfl (fun K hK => ?_) AllReadyH.nil)
        · go_simp
          obtain ⟨n35, hn⟩ : ∃ u, u = V.alloc (.cells #[] 5) := ⟨_, rfl⟩
          obtain ⟨g35, hg⟩ : ∃ u, u = V.heap.size := ⟨_, rfl⟩
          rw [← hn]
          try rw [← hg]
          have hBn : Below w2.heap.size w2 n35 := by rw [hn]; exact below_al' hHeld.1 hHeld.1.size _
          have bn : Below V.heap.size V n35 := by rw [hn]; exact below_box _ _
          have E35 : Hid (n35.heap[g35]? = some (.cells #[] 5)) := Lib.hid (by rw [hn, hg]; exact heap_new _ _)
          have L35 : Hid (w2.heap.size ≤ g35) := Lib.hid (by rw [hg]; exact hHeld.1.size)
          clear hn hg bn
          refine hK.out _ _ ?ssra5 (fun hHeld => ?_)
          case ssra5 => (exact KS.out _ hBn)
          clear hK K
          try simp only [Act.put, List.setIfInBounds_toArray, List.set_cons_zero, List.set_cons_succ]
          refine wpAnyH_ready (rs := [5, 12]) (by kernel_rfl) (by simp) ?_
          refine AllReadyH.cons (o := ⟨some 38, _, _, _, _, _⟩) rfl (fun K hK => ?_) (AllReadyH.cons (o := ⟨some 7, _, _, _, _, _⟩) rfl (fun K hK => ?_) AllReadyH.nil)
          · have hB0 := hHeld.1
            try dsimp only at hB0
            refine step_appX _ rfl (.tmp 35) (.tmp 37) 22 rfl w2.heap.size (.slice (some ⟨g35, 0, none⟩) 0 0) [] rfl (BsO.empty E35.out L35.out) (.slice xa xl.length xcap) xl.length xl rfl rfl ((HX2.out.below hB0).src xcap) (by have := HXS.out; simp; omega) hB0.size ?_
            rintro v4 w4 ⟨o4, b4, g4, k4⟩
            have hB4 := hB0.trans b4
            obtain ⟨va, vc, rfl⟩ := o4.shape
            rw [List.nil_append] at o4 ⊢
            have O38 : Hid (BsO w4 w2.heap.size (.slice va xl.length vc) xl) := Lib.hid o4
            clear o4 g4 k4 E35 L35
            refine hK.out _ _ ?ssra6 (fun hHeld => ?_)
            case ssra6 => (exact KS.out _ hB4)
            clear hK K
            try simp only [Act.put, List.setIfInBounds_toArray, List.set_cons_zero, List.set_cons_succ]
            refine wpAnyH_take (i := 6) (oi := ⟨some 39, _, _, _, _, _⟩) (v := ?vvra7) rfl (by kernel_rfl) (by kernel_rfl) (by kernel_rfl) (fun _ _ _ h => h) (Or.inl ⟨by rfl, ?yyra7⟩) hHeld ?rrra7
            case yyra7 => (intro wq hSw; (try dsimp only at hSw); go_simp; first | done | with_reducible rfl)
            simp only [Act.put, List.setIfInBounds_toArray, List.set_cons_zero, List.set_cons_succ]
            refine wpAnyH_ready (rs := [7, 12]) (by kernel_rfl) (by simp) ?_
            refine AllReadyH.cons (o := ⟨some 40, _, _, _, _, _⟩) rfl (fun K hK => ?_) (AllReadyH.cons (o := ⟨some 7, _, _, _, _, _⟩) rfl (fun K hK => ?_) AllReadyH.nil)
            · go_simp
              have hB5 := hHeld.1
              try dsimp only at hB5
              have hs2 := O38.out.src2
              refine (parse_num k kn va vc xl ps pw pn pc _ HBV.out HPN.out O38.out.bsV hs2.1 hs2.2 (by have := HXS.out; omega)).mono ?_
              rintro e w5 ⟨b5, a5, c5, rfl, o5, k5, l5⟩
              have hB5' := below_then hB5 b5
              obtain ⟨p5, hp5⟩ : ∃ n, n = w4.heap.size := ⟨_, rfl⟩
              rw [← hp5] at o5
              have O5 : Hid (kW.Own w5 p5 (.slice a5 pw.length c5) pw) := Lib.hid o5
              have K5 := Lib.hid k5
              have L5 := Lib.hid l5
              clear hs2 O38 o5 k5 l5 b5 hp5
              go_wp2_with fail
              refine hK.out _ _ ?ssra8 (fun hHeld => ?_)
              case ssra8 => (exact KS.out _ hB5')
              clear hK K
              try simp only [Act.put, List.setIfInBounds_toArray, List.set_cons_zero, List.set_cons_succ]
              refine wpAnyH_take (i := 8) (oi := ⟨some 32, _, _, _, _, _⟩) (v := ?vvra9) rfl (by kernel_rfl) (by kernel_rfl) (by kernel_rfl) (fun _ _ _ h => h) (Or.inl ⟨by rfl, ?yyra9⟩) hHeld ?rrra9
              case yyra9 => (intro wq hSw; (try dsimp only at hSw); go_simp; first | done | with_reducible rfl)
              simp only [Act.put, List.setIfInBounds_toArray, List.set_cons_zero, List.set_cons_succ]
              refine wpAnyH_take (i := 9) (oi := ⟨some 41, _, _, _, _, _⟩) (v := ?vvra10) rfl (by kernel_rfl) (by kernel_rfl) (by kernel_rfl) (fun _ _ _ h => h) (Or.inl ⟨by rfl, ?yyra10⟩) hHeld ?rrra10
              case yyra10 => (intro wq hSw; (try dsimp only at hSw); go_simp; first | done | with_reducible rfl)
              simp only [Act.put, List.setIfInBounds_toArray, List.set_cons_zero, List.set_cons_succ]
              refine wpAnyH_take (i := 10) (oi := ⟨some 42, _, _, _, _, _⟩) (v := ?vvra11) rfl (by kernel_rfl) (by kernel_rfl) (by kernel_rfl) (fun _ _ _ h => h) (Or.inl ⟨by rfl, ?yyra11⟩) hHeld ?rrra11
              case yyra11 => (intro wq hSw; (try dsimp only at hSw); go_simp; first | done | with_reducible rfl)
              simp only [Act.put, List.setIfInBounds_toArray, List.set_cons_zero, List.set_cons_succ]
              refine wpAnyH_take (i := 11) (oi := ⟨some 43, _, _, _, _, _⟩) (v := ?vvra12) rfl (by kernel_rfl) (by kernel_rfl) (by kernel_rfl) (fun _ _ _ h => h) (Or.inl ⟨by rfl, ?yyra12⟩) hHeld ?rrra12
              case yyra12 => (intro wq hSw; (try dsimp only at hSw); go_simp; first | done | with_reducible rfl)
              simp only [Act.put, List.setIfInBounds_toArray, List.set_cons_zero, List.set_cons_succ]
              refine wpAnyH_ready (rs := [12]) (by kernel_rfl) (by simp) ?_
              refine AllReadyH.cons (o := ⟨some 7, _, _, _, _, _⟩) rfl (fun K hK => ?_) AllReadyH.nil
              have O50 := Lib.hid O5.out
              go_simp
              obtain ⟨n7, hn⟩ : ∃ u, u = w5.alloc (.cells #[.int .u64 0, .slice none 0 0] 35) := ⟨_, rfl⟩
              obtain ⟨g7, hg⟩ : ∃ u, u = w5.heap.size := ⟨_, rfl⟩
              rw [← hn]
              try rw [← hg]
              have hBn : Below w2.heap.size w2 n7 := by rw [hn]; exact below_al' hHeld.1 hHeld.1.size _
              have bn : Below w5.heap.size w5 n7 := by rw [hn]; exact below_box _ _
              replace O5 : Hid (kW.Own n7 p5 (.slice a5 pw.length c5) pw) := Lib.hid (O5.out.below bn)
              have E7 : Hid (n7.heap[g7]? = some (.cells #[.int .u64 0, .slice none 0 0] 35)) := Lib.hid (by rw [hn, hg]; exact heap_new _ _)
              have L7 : Hid (w2.heap.size ≤ g7) := Lib.hid (by rw [hg]; exact hHeld.1.size)
              have H5L : Hid (∀ j, (Value.slice a5 pw.length c5).ownBlock = some j → j ≠ g7) := Lib.hid (fun j hj e => by have h9 := (O50.out.lt j hj).2; omega)
              clear O50
              clear hn hg bn
              refine hK.out _ _ ?ssra13 (fun hHeld => ?_)
              case ssra13 => (exact KS.out _ hBn)
              clear hK K
              try simp only [Act.put, List.setIfInBounds_toArray, List.set_cons_zero, List.set_cons_succ]
              refine wpAnyH_ready (rs := [13]) (by kernel_rfl) (by simp) ?_
              refine AllReadyH.cons (o := ⟨none, _, _, _, _, _⟩) rfl (fun K hK => ?_) AllReadyH.nil
              have g0 := cell_of_blk E7.out 0
              have g1 := cell_of_blk E7.out 1
              have h0 := frozen_of_blk E7.out 0
              have h1 := frozen_of_blk E7.out 1
              have lt7 := (Array.getElem?_eq_some_iff.1 E7.out).1
              simp at g0 g1
              go_simp
              obtain ⟨U, hU⟩ : ∃ u, u = (n7.setCell ⟨g7, 0, none⟩ (.int .u64 (ps : Nat))).setCell ⟨g7, 1, none⟩ (.slice a5 pw.length c5) := ⟨_, rfl⟩
              rw [← hU]
              have hBU : Below w2.heap.size w2 U := by rw [hU]; exact below_set (below_set hHeld.1 L7.out _) L7.out _
              have G7 : Hid (U.heap[g7]? = some (.cells #[.int .u64 (ps : Nat), .slice a5 pw.length c5] 35)) := Lib.hid (by rw [hU, setB (setB E7.out _) _]; rfl)
              have OU : Hid (kW.Own U p5 (.slice a5 pw.length c5) pw) := Lib.hid (by rw [hU]; exact own_setne (own_setne O5.out H5L.out) H5L.out)
              have WV : Hid (WsV U a5 pw) := Lib.hid (ws_of_row OU.out.toV K5.out)
              clear hU g0 g1 h0 h1 lt7 E7 O5 OU H5L
              refine hK.out _ _ ?ssra14 (fun hHeld => ?_)
              case ssra14 => (exact KS.out _ hBU)
              clear hK K
              try simp only [Act.put, List.setIfInBounds_toArray, List.set_cons_zero, List.set_cons_succ]
              refine wpAnyH_take (i := 14) (oi := ⟨some 8, _, _, _, _, _⟩) (v := ?vvra15) rfl (by kernel_rfl) (by kernel_rfl) (by kernel_rfl) (fun _ _ _ h => h) (Or.inl ⟨by rfl, ?yyra15⟩) hHeld ?rrra15
              case yyra15 => (intro wq hSw; (try dsimp only at hSw); go_simp; first | done | with_reducible rfl)
              simp only [Act.put, List.setIfInBounds_toArray, List.set_cons_zero, List.set_cons_succ]
              refine wpAnyH_take (i := 15) (oi := ⟨some 9, _, _, _, _, _⟩) (v := ?vvra16) rfl (by kernel_rfl) (by kernel_rfl) (by kernel_rfl) (fun _ _ _ h => h) (Or.inl ⟨by rfl, ?yyra16⟩) hHeld ?rrra16
              case yyra16 => (intro wq hSw; (try dsimp only at hSw); go_simp; first | done | with_reducible rfl)
              simp only [Act.put, List.setIfInBounds_toArray, List.set_cons_zero, List.set_cons_succ]
              refine wpAnyH_done (by kernel_rfl) ?_ _
              clear hHeld KS
              go_wp2_with fail
              go_meet
              exact ⟨rfl, rfl, g7, a5, c5, rfl, ⟨hBU, G7.out, WV.out⟩⟩
            · go_simp
              obtain ⟨n7, hn⟩ : ∃ u, u = w4.alloc (.cells #[.int .u64 0, .slice none 0 0] 35) := ⟨_, rfl⟩
              obtain ⟨g7, hg⟩ : ∃ u, u = w4.heap.size := ⟨_, rfl⟩
              rw [← hn]
              try rw [← hg]
              have hBn : Below w2.heap.size w2 n7 := by rw [hn]; exact below_al' hHeld.1 hHeld.1.size _
              have bn : Below w4.heap.size w4 n7 := by rw [hn]; exact below_box _ _
              replace O38 : Hid (BsO n7 w2.heap.size (.slice va xl.length vc) xl) := Lib.hid (ownsRow_of_block O38.out (fun j hj => bn.block j (O38.out.lt j hj).2))
              have E7 : Hid (n7.heap[g7]? = some (.cells #[.int .u64 0, .slice none 0 0] 35)) := Lib.hid (by rw [hn, hg]; exact heap_new _ _)
              have L7 : Hid (w2.heap.size ≤ g7) := Lib.hid (by rw [hg]; exact hHeld.1.size)
              clear hn hg bn
              refine hK.out _ _ ?ssra17 (fun hHeld => ?_)
              case ssra17 => (exact KS.out _ hBn)
              clear hK K
              try simp only [Act.put, List.setIfInBounds_toArray, List.set_cons_zero, List.set_cons_succ]
              refine wpAnyH_ready (rs := [7]) (by kernel_rfl) (by simp) ?_
              refine AllReadyH.cons (o := ⟨some 40, _, _, _, _, _⟩) rfl (fun K hK => ?_) AllReadyH.nil
              go_simp
              have hB5 := hHeld.1
              try dsimp only at hB5
              have hs2 := O38.out.src2
              refine (parse_num k kn va vc xl ps pw pn pc _ HBV.out HPN.out O38.out.bsV hs2.1 hs2.2 (by have := HXS.out; omega)).mono ?_
              rintro e w5 ⟨b5, a5, c5, rfl, o5, k5, l5⟩
              have hB5' := below_then hB5 b5
              obtain ⟨p5, hp5⟩ : ∃ n, n = n7.heap.size := ⟨_, rfl⟩
              rw [← hp5] at o5
              have O5 : Hid (kW.Own w5 p5 (.slice a5 pw.length c5) pw) := Lib.hid o5
              have K5 := Lib.hid k5
              have L5 := Lib.hid l5
              have h7l : g7 < p5 := by rw [hp5]; exact (Array.getElem?_eq_some_iff.1 E7.out).1
              have H5L : Hid (∀ j, (Value.slice a5 pw.length c5).ownBlock = some j → j ≠ g7) := Lib.hid (fun j hj e => by have h9 := (O5.out.lt j hj).1; omega)
              replace E7 : Hid (w5.heap[g7]? = some (.cells #[.int .u64 0, .slice none 0 0] 35)) := Lib.hid ((b5.block _ (Array.getElem?_eq_some_iff.1 E7.out).1).trans E7.out)
              clear h7l
              clear hs2 O38 o5 k5 l5 b5 hp5
              go_wp2_with fail
              refine hK.out _ _ ?ssra18 (fun hHeld => ?_)
              case ssra18 => (exact KS.out _ hB5')
              clear hK K
              try simp only [Act.put, List.setIfInBounds_toArray, List.set_cons_zero, List.set_cons_succ]
              refine wpAnyH_take (i := 8) (oi := ⟨some 32, _, _, _, _, _⟩) (v := ?vvra19) rfl (by kernel_rfl) (by kernel_rfl) (by kernel_rfl) (fun _ _ _ h => h) (Or.inl ⟨by rfl, ?yyra19⟩) hHeld ?rrra19
              case yyra19 => (intro wq hSw; (try dsimp only at hSw); go_simp; first | done | with_reducible rfl)
              simp only [Act.put, List.setIfInBounds_toArray, List.set_cons_zero, List.set_cons_succ]
              refine wpAnyH_take (i := 9) (oi := ⟨some 41, _, _, _, _, _⟩) (v := ?vvra20) rfl (by kernel_rfl) (by kernel_rfl) (by kernel_rfl) (fun _ _ _ h => h) (Or.inl ⟨by rfl, ?yyra20⟩) hHeld ?rrra20
              case yyra20 => (intro wq hSw; (try dsimp only at hSw); go_simp; first | done | with_reducible rfl)
              simp only [Act.put, List.setIfInBounds_toArray, List.set_cons_zero, List.set_cons_succ]
              refine wpAnyH_take (i := 10) (oi := ⟨some 42, _, _, _, _, _⟩) (v := ?vvra21) rfl (by kernel_rfl) (by kernel_rfl) (by kernel_rfl) (fun _ _ _ h => h) (Or.inl ⟨by rfl, ?yyra21⟩) hHeld ?rrra21
              case yyra21 => (intro wq hSw; (try dsimp only at hSw); go_simp; first | done | with_reducible rfl)
              simp only [Act.put, List.setIfInBounds_toArray, List.set_cons_zero, List.set_cons_succ]
              refine wpAnyH_take (i := 11) (oi := ⟨some 43, _, _, _, _, _⟩) (v := ?vvra22) rfl (by kernel_rfl) (by kernel_rfl) (by kernel_rfl) (fun _ _ _ h => h) (Or.inl ⟨by rfl, ?yyra22⟩) hHeld ?rrra22
              case yyra22 => (intro wq hSw; (try dsimp only at hSw); go_simp; first | done | with_reducible rfl)
              simp only [Act.put, List.setIfInBounds_toArray, List.set_cons_zero, List.set_cons_succ]
              refine wpAnyH_ready (rs := [13]) (by kernel_rfl) (by simp) ?_
              refine AllReadyH.cons (o := ⟨none, _, _, _, _, _⟩) rfl (fun K hK => ?_) AllReadyH.nil
              have g0 := cell_of_blk E7.out 0
              have g1 := cell_of_blk E7.out 1
              have h0 := frozen_of_blk E7.out 0
              have h1 := frozen_of_blk E7.out 1
              have lt7 := (Array.getElem?_eq_some_iff.1 E7.out).1
              simp at g0 g1
              go_simp
              obtain ⟨U, hU⟩ : ∃ u, u = (w5.setCell ⟨g7, 0, none⟩ (.int .u64 (ps : Nat))).setCell ⟨g7, 1, none⟩ (.slice a5 pw.length c5) := ⟨_, rfl⟩
              rw [← hU]
              have hBU : Below w2.heap.size w2 U := by rw [hU]; exact below_set (below_set hHeld.1 L7.out _) L7.out _
              have G7 : Hid (U.heap[g7]? = some (.cells #[.int .u64 (ps : Nat), .slice a5 pw.length c5] 35)) := Lib.hid (by rw [hU, setB (setB E7.out _) _]; rfl)
              have OU : Hid (kW.Own U p5 (.slice a5 pw.length c5) pw) := Lib.hid (by rw [hU]; exact own_setne (own_setne O5.out H5L.out) H5L.out)
              have WV : Hid (WsV U a5 pw) := Lib.hid (ws_of_row OU.out.toV K5.out)
              clear hU g0 g1 h0 h1 lt7 E7 O5 OU H5L
              refine hK.out _ _ ?ssra23 (fun hHeld => ?_)
              case ssra23 => (exact KS.out _ hBU)
              clear hK K
              try simp only [Act.put, List.setIfInBounds_toArray, List.set_cons_zero, List.set_cons_succ]
              refine wpAnyH_take (i := 14) (oi := ⟨some 8, _, _, _, _, _⟩) (v := ?vvra24) rfl (by kernel_rfl) (by kernel_rfl) (by kernel_rfl) (fun _ _ _ h => h) (Or.inl ⟨by rfl, ?yyra24⟩) hHeld ?rrra24
              case yyra24 => (intro wq hSw; (try dsimp only at hSw); go_simp; first | done | with_reducible rfl)
              simp only [Act.put, List.setIfInBounds_toArray, List.set_cons_zero, List.set_cons_succ]
              refine wpAnyH_take (i := 15) (oi := ⟨some 9, _, _, _, _, _⟩) (v := ?vvra25) rfl (by kernel_rfl) (by kernel_rfl) (by kernel_rfl) (fun _ _ _ h => h) (Or.inl ⟨by rfl, ?yyra25⟩) hHeld ?rrra25
              case yyra25 => (intro wq hSw; (try dsimp only at hSw); go_simp; first | done | with_reducible rfl)
              simp only [Act.put, List.setIfInBounds_toArray, List.set_cons_zero, List.set_cons_succ]
              refine wpAnyH_done (by kernel_rfl) ?_ _
              clear hHeld KS
              go_wp2_with fail
              go_meet
              exact ⟨rfl, rfl, g7, a5, c5, rfl, ⟨hBU, G7.out, WV.out⟩⟩
          · go_simp
            obtain ⟨n7, hn⟩ : ∃ u, u = n35.alloc (.cells #[.int .u64 0, .slice none 0 0] 35) := ⟨_, rfl⟩
            obtain ⟨g7, hg⟩ : ∃ u, u = n35.heap.size := ⟨_, rfl⟩
            rw [← hn]
            try rw [← hg]
            have hBn : Below w2.heap.size w2 n7 := by rw [hn]; exact below_al' hHeld.1 hHeld.1.size _
            have bn : Below n35.heap.size n35 n7 := by rw [hn]; exact below_box _ _
            replace E35 : Hid (n7.heap[g35]? = some (.cells #[] 5)) := Lib.hid ((bn.block _ (Array.getElem?_eq_some_iff.1 E35.out).1).trans E35.out)
            have E7 : Hid (n7.heap[g7]? = some (.cells #[.int .u64 0, .slice none 0 0] 35)) := Lib.hid (by rw [hn, hg]; exact heap_new _ _)
            have L7 : Hid (w2.heap.size ≤ g7) := Lib.hid (by rw [hg]; exact hHeld.1.size)
            clear hn hg bn
            refine hK.out _ _ ?ssra26 (fun hHeld => ?_)
            case ssra26 => (exact KS.out _ hBn)
            clear hK K
            try simp only [Act.put, List.setIfInBounds_toArray, List.set_cons_zero, List.set_cons_succ]
            refine wpAnyH_ready (rs := [5]) (by kernel_rfl) (by simp) ?_
            refine AllReadyH.cons (o := ⟨some 38, _, _, _, _, _⟩) rfl (fun K hK => ?_) AllReadyH.nil
            have hB0 := hHeld.1
            try dsimp only at hB0
            refine step_appX _ rfl (.tmp 35) (.tmp 37) 22 rfl w2.heap.size (.slice (some ⟨g35, 0, none⟩) 0 0) [] rfl (BsO.empty E35.out L35.out) (.slice xa xl.length xcap) xl.length xl rfl rfl ((HX2.out.below hB0).src xcap) (by have := HXS.out; simp; omega) hB0.size ?_
            rintro v4 w4 ⟨o4, b4, g4, k4⟩
            have hB4 := hB0.trans b4
            obtain ⟨va, vc, rfl⟩ := o4.shape
            rw [List.nil_append] at o4 ⊢
            have O38 : Hid (BsO w4 w2.heap.size (.slice va xl.length vc) xl) := Lib.hid o4
            replace E7 : Hid (w4.heap[g7]? = some (.cells #[.int .u64 0, .slice none 0 0] 35)) := Lib.hid ((g4.block _ (Array.getElem?_eq_some_iff.1 E7.out).1 (fun e => by have h1 := E7.out; rw [Option.some.inj e, E35.out] at h1; cases h1)).trans E7.out)
            clear o4 g4 k4 E35 L35
            refine hK.out _ _ ?ssra27 (fun hHeld => ?_)
            case ssra27 => (exact KS.out _ hB4)
            clear hK K
            try simp only [Act.put, List.setIfInBounds_toArray, List.set_cons_zero, List.set_cons_succ]
            refine wpAnyH_take (i := 6) (oi := ⟨some 39, _, _, _, _, _⟩) (v := ?vvra28) rfl (by kernel_rfl) (by kernel_rfl) (by kernel_rfl) (fun _ _ _ h => h) (Or.inl ⟨by rfl, ?yyra28⟩) hHeld ?rrra28
            case yyra28 => (intro wq hSw; (try dsimp only at hSw); go_simp; first | done | with_reducible rfl)
            simp only [Act.put, List.setIfInBounds_toArray, List.set_cons_zero, List.set_cons_succ]
            refine wpAnyH_ready (rs := [7]) (by kernel_rfl) (by simp) ?_
            refine AllReadyH.cons (o := ⟨some 40, _, _, _, _, _⟩) rfl (fun K hK => ?_) AllReadyH.nil
            go_simp
            have hB5 := hHeld.1
            try dsimp only at hB5
            have hs2 := O38.out.src2
            refine (parse_num k kn va vc xl ps pw pn pc _ HBV.out HPN.out O38.out.bsV hs2.1 hs2.2 (by have := HXS.out; omega)).mono ?_
            rintro e w5 ⟨b5, a5, c5, rfl, o5, k5, l5⟩
            have hB5' := below_then hB5 b5
            obtain ⟨p5, hp5⟩ : ∃ n, n = w4.heap.size := ⟨_, rfl⟩
            rw [← hp5] at o5
            have O5 : Hid (kW.Own w5 p5 (.slice a5 pw.length c5) pw) := Lib.hid o5
            have K5 := Lib.hid k5
            have L5 := Lib.hid l5
            have h7l : g7 < p5 := by rw [hp5]; exact (Array.getElem?_eq_some_iff.1 E7.out).1
            have H5L : Hid (∀ j, (Value.slice a5 pw.length c5).ownBlock = some j → j ≠ g7) := Lib.hid (fun j hj e => by have h9 := (O5.out.lt j hj).1; omega)
            replace E7 : Hid (w5.heap[g7]? = some (.cells #[.int .u64 0, .slice none 0 0] 35)) := Lib.hid ((b5.block _ (Array.getElem?_eq_some_iff.1 E7.out).1).trans E7.out)
            clear h7l
            clear hs2 O38 o5 k5 l5 b5 hp5
            go_wp2_with fail
            refine hK.out _ _ ?ssra29 (fun hHeld => ?_)
            case ssra29 => (exact KS.out _ hB5')
            clear hK K
            try simp only [Act.put, List.setIfInBounds_toArray, List.set_cons_zero, List.set_cons_succ]
            refine wpAnyH_take (i := 8) (oi := ⟨some 32, _, _, _, _, _⟩) (v := ?vvra30) rfl (by kernel_rfl) (by kernel_rfl) (by kernel_rfl) (fun _ _ _ h => h) (Or.inl ⟨by rfl, ?yyra30⟩) hHeld ?rrra30
            case yyra30 => (intro wq hSw; (try dsimp only at hSw); go_simp; first | done | with_reducible rfl)
            simp only [Act.put, List.setIfInBounds_toArray, List.set_cons_zero, List.set_cons_succ]
            refine wpAnyH_take (i := 9) (oi := ⟨some 41, _, _, _, _, _⟩) (v := ?vvra31) rfl (by kernel_rfl) (by kernel_rfl) (by kernel_rfl) (fun _ _ _ h => h) (Or.inl ⟨by rfl, ?yyra31⟩) hHeld ?rrra31
            case yyra31 => (intro wq hSw; (try dsimp only at hSw); go_simp; first | done | with_reducible rfl)
            simp only [Act.put, List.setIfInBounds_toArray, List.set_cons_zero, List.set_cons_succ]
            refine wpAnyH_take (i := 10) (oi := ⟨some 42, _, _, _, _, _⟩) (v := ?vvra32) rfl (by kernel_rfl) (by kernel_rfl) (by kernel_rfl) (fun _ _ _ h => h) (Or.inl ⟨by rfl, ?yyra32⟩) hHeld ?rrra32
            case yyra32 => (intro wq hSw; (try dsimp only at hSw); go_simp; first | done | with_reducible rfl)
            simp only [Act.put, List.setIfInBounds_toArray, List.set_cons_zero, List.set_cons_succ]
            refine wpAnyH_take (i := 11) (oi := ⟨some 43, _, _, _, _, _⟩) (v := ?vvra33) rfl (by kernel_rfl) (by kernel_rfl) (by kernel_rfl) (fun _ _ _ h => h) (Or.inl ⟨by rfl, ?yyra33⟩) hHeld ?rrra33
            case yyra33 => (intro wq hSw; (try dsimp only at hSw); go_simp; first | done | with_reducible rfl)
            simp only [Act.put, List.setIfInBounds_toArray, List.set_cons_zero, List.set_cons_succ]
            refine wpAnyH_ready (rs := [13]) (by kernel_rfl) (by simp) ?_
            refine AllReadyH.cons (o := ⟨none, _, _, _, _, _⟩) rfl (fun K hK => ?_) AllReadyH.nil
            have g0 := cell_of_blk E7.out 0
            have g1 := cell_of_blk E7.out 1
            have h0 := frozen_of_blk E7.out 0
            have h1 := frozen_of_blk E7.out 1
            have lt7 := (Array.getElem?_eq_some_iff.1 E7.out).1
            simp at g0 g1
            go_simp
            obtain ⟨U, hU⟩ : ∃ u, u = (w5.setCell ⟨g7, 0, none⟩ (.int .u64 (ps : Nat))).setCell ⟨g7, 1, none⟩ (.slice a5 pw.length c5) := ⟨_, rfl⟩
            rw [← hU]
            have hBU : Below w2.heap.size w2 U := by rw [hU]; exact below_set (below_set hHeld.1 L7.out _) L7.out _
            have G7 : Hid (U.heap[g7]? = some (.cells #[.int .u64 (ps : Nat), .slice a5 pw.length c5] 35)) := Lib.hid (by rw [hU, setB (setB E7.out _) _]; rfl)
            have OU : Hid (kW.Own U p5 (.slice a5 pw.length c5) pw) := Lib.hid (by rw [hU]; exact own_setne (own_setne O5.out H5L.out) H5L.out)
            have WV : Hid (WsV U a5 pw) := Lib.hid (ws_of_row OU.out.toV K5.out)
            clear hU g0 g1 h0 h1 lt7 E7 O5 OU H5L
            refine hK.out _ _ ?ssra34 (fun hHeld => ?_)
            case ssra34 => (exact KS.out _ hBU)
            clear hK K
            try simp only [Act.put, List.setIfInBounds_toArray, List.set_cons_zero, List.set_cons_succ]
            refine wpAnyH_take (i := 14) (oi := ⟨some 8, _, _, _, _, _⟩) (v := ?vvra35) rfl (by kernel_rfl) (by kernel_rfl) (by kernel_rfl) (fun _ _ _ h => h) (Or.inl ⟨by rfl, ?yyra35⟩) hHeld ?rrra35
            case yyra35 => (intro wq hSw; (try dsimp only at hSw); go_simp; first | done | with_reducible rfl)
            simp only [Act.put, List.setIfInBounds_toArray, List.set_cons_zero, List.set_cons_succ]
            refine wpAnyH_take (i := 15) (oi := ⟨some 9, _, _, _, _, _⟩) (v := ?vvra36) rfl (by kernel_rfl) (by kernel_rfl) (by kernel_rfl) (fun _ _ _ h => h) (Or.inl ⟨by rfl, ?yyra36⟩) hHeld ?rrra36
            case yyra36 => (intro wq hSw; (try dsimp only at hSw); go_simp; first | done | with_reducible rfl)
            simp only [Act.put, List.setIfInBounds_toArray, List.set_cons_zero, List.set_cons_succ]
            refine wpAnyH_done (by kernel_rfl) ?_ _
            clear hHeld KS
            go_wp2_with fail
            go_meet
            exact ⟨rfl, rfl, g7, a5, c5, rfl, ⟨hBU, G7.out, WV.out⟩⟩
        · go_simp
          obtain ⟨n7, hn⟩ : ∃ u, u = V.alloc (.cells #[.int .u64 0, .slice none 0 0] 35) := ⟨_, rfl⟩
          obtain ⟨g7, hg⟩ : ∃ u, u = V.heap.size := ⟨_, rfl⟩
          rw [← hn]
          try rw [← hg]
          have hBn : Below w2.heap.size w2 n7 := by rw [hn]; exact below_al' hHeld.1 hHeld.1.size _
          have bn : Below V.heap.size V n7 := by rw [hn]; exact below_box _ _
          have E7 : Hid (n7.heap[g7]? = some (.cells #[.int .u64 0, .slice none 0 0] 35)) := Lib.hid (by rw [hn, hg]; exact heap_new _ _)
          have L7 : Hid (w2.heap.size ≤ g7) := Lib.hid (by rw [hg]; exact hHeld.1.size)
          clear hn hg bn
          refine hK.out _ _ ?ssra37 (fun hHeld => ?_)
          case ssra37 => (exact KS.out _ hBn)
          clear hK K
          try simp only [Act.put, List.setIfInBounds_toArray, List.set_cons_zero, List.set_cons_succ]
          refine wpAnyH_ready (rs := [2]) (by kernel_rfl) (by simp) ?_
          refine AllReadyH.cons (o := ⟨some 35, _, _, _, _, _⟩) rfl (fun K hK => ?_) AllReadyH.nil
          go_simp
          obtain ⟨n35, hn⟩ : ∃ u, u = n7.alloc (.cells #[] 5) := ⟨_, rfl⟩
          obtain ⟨g35, hg⟩ : ∃ u, u = n7.heap.size := ⟨_, rfl⟩
          rw [← hn]
          try rw [← hg]
          have hBn : Below w2.heap.size w2 n35 := by rw [hn]; exact below_al' hHeld.1 hHeld.1.size _
          have bn : Below n7.heap.size n7 n35 := by rw [hn]; exact below_box _ _
          replace E7 : Hid (n35.heap[g7]? = some (.cells #[.int .u64 0, .slice none 0 0] 35)) := Lib.hid ((bn.block _ (Array.getElem?_eq_some_iff.1 E7.out).1).trans E7.out)
          have E35 : Hid (n35.heap[g35]? = some (.cells #[] 5)) := Lib.hid (by rw [hn, hg]; exact heap_new _ _)
          have L35 : Hid (w2.heap.size ≤ g35) := Lib.hid (by rw [hg]; exact hHeld.1.size)
          clear hn hg bn
          refine hK.out _ _ ?ssra38 (fun hHeld => ?_)
          case ssra38 => (exact KS.out _ hBn)
          clear hK K
          try simp only [Act.put, List.setIfInBounds_toArray, List.set_cons_zero, List.set_cons_succ]
          refine wpAnyH_ready (rs := [5]) (by kernel_rfl) (by simp) ?_
          refine AllReadyH.cons (o := ⟨some 38, _, _, _, _, _⟩) rfl (fun K hK => ?_) AllReadyH.nil
          have hB0 := hHeld.1
          try dsimp only at hB0
          refine step_appX _ rfl (.tmp 35) (.tmp 37) 22 rfl w2.heap.size (.slice (some ⟨g35, 0, none⟩) 0 0) [] rfl (BsO.empty E35.out L35.out) (.slice xa xl.length xcap) xl.length xl rfl rfl ((HX2.out.below hB0).src xcap) (by have := HXS.out; simp; omega) hB0.size ?_
          rintro v4 w4 ⟨o4, b4, g4, k4⟩
          have hB4 := hB0.trans b4
          obtain ⟨va, vc, rfl⟩ := o4.shape
          rw [List.nil_append] at o4 ⊢
          have O38 : Hid (BsO w4 w2.heap.size (.slice va xl.length vc) xl) := Lib.hid o4
          replace E7 : Hid (w4.heap[g7]? = some (.cells #[.int .u64 0, .slice none 0 0] 35)) := Lib.hid ((g4.block _ (Array.getElem?_eq_some_iff.1 E7.out).1 (fun e => by have h1 := E7.out; rw [Option.some.inj e, E35.out] at h1; cases h1)).trans E7.out)
          clear o4 g4 k4 E35 L35
          refine hK.out _ _ ?ssra39 (fun hHeld => ?_)
          case ssra39 => (exact KS.out _ hB4)
          clear hK K
          try simp only [Act.put, List.setIfInBounds_toArray, List.set_cons_zero, List.set_cons_succ]
          refine wpAnyH_take (i := 6) (oi := ⟨some 39, _, _, _, _, _⟩) (v := ?vvra40) rfl (by kernel_rfl) (by kernel_rfl) (by kernel_rfl) (fun _ _ _ h => h) (Or.inl ⟨by rfl, ?yyra40⟩) hHeld ?rrra40
          case yyra40 => (intro wq hSw; (try dsimp only at hSw); go_simp; first | done | with_reducible rfl)
          simp only [Act.put, List.setIfInBounds_toArray, List.set_cons_zero, List.set_cons_succ]
          refine wpAnyH_ready (rs := [7]) (by kernel_rfl) (by simp) ?_
          refine AllReadyH.cons (o := ⟨some 40, _, _, _, _, _⟩) rfl (fun K hK => ?_) AllReadyH.nil
          go_simp
          have hB5 := hHeld.1
          try dsimp only at hB5
          have hs2 := O38.out.src2
          refine (parse_num k kn va vc xl ps pw pn pc _ HBV.out HPN.out O38.out.bsV hs2.1 hs2.2 (by have := HXS.out; omega)).mono ?_
          rintro e w5 ⟨b5, a5, c5, rfl, o5, k5, l5⟩
          have hB5' := below_then hB5 b5
          obtain ⟨p5, hp5⟩ : ∃ n, n = w4.heap.size := ⟨_, rfl⟩
          rw [← hp5] at o5
          have O5 : Hid (kW.Own w5 p5 (.slice a5 pw.length c5) pw) := Lib.hid o5
          have K5 := Lib.hid k5
          have L5 := Lib.hid l5
          have h7l : g7 < p5 := by rw [hp5]; exact (Array.getElem?_eq_some_iff.1 E7.out).1
          have H5L : Hid (∀ j, (Value.slice a5 pw.length c5).ownBlock = some j → j ≠ g7) := Lib.hid (fun j hj e => by have h9 := (O5.out.lt j hj).1; omega)
          replace E7 : Hid (w5.heap[g7]? = some (.cells #[.int .u64 0, .slice none 0 0] 35)) := Lib.hid ((b5.block _ (Array.getElem?_eq_some_iff.1 E7.out).1).trans E7.out)
          clear h7l
          clear hs2 O38 o5 k5 l5 b5 hp5
          go_wp2_with fail
          refine hK.out _ _ ?ssra41 (fun hHeld => ?_)
          case ssra41 => (exact KS.out _ hB5')
          clear hK K
          try simp only [Act.put, List.setIfInBounds_toArray, List.set_cons_zero, List.set_cons_succ]
          refine wpAnyH_take (i := 8) (oi := ⟨some 32, _, _, _, _, _⟩) (v := ?vvra42) rfl (by kernel_rfl) (by kernel_rfl) (by kernel_rfl) (fun _ _ _ h => h) (Or.inl ⟨by rfl, ?yyra42⟩) hHeld ?rrra42
          case yyra42 => (intro wq hSw; (try dsimp only at hSw); go_simp; first | done | with_reducible rfl)
          simp only [Act.put, List.setIfInBounds_toArray, List.set_cons_zero, List.set_cons_succ]
          refine wpAnyH_take (i := 9) (oi := ⟨some 41, _, _, _, _, _⟩) (v := ?vvra43) rfl (by kernel_rfl) (by kernel_rfl) (by kernel_rfl) (fun _ _ _ h => h) (Or.inl ⟨by rfl, ?yyra43⟩) hHeld ?rrra43
          case yyra43 => (intro wq hSw; (try dsimp only at hSw); go_simp; first | done | with_reducible rfl)
          simp only [Act.put, List.setIfInBounds_toArray, List.set_cons_zero, List.set_cons_succ]
          refine wpAnyH_take (i := 10) (oi := ⟨some 42, _, _, _, _, _⟩) (v := ?vvra44) rfl (by kernel_rfl) (by kernel_rfl) (by kernel_rfl) (fun _ _ _ h => h) (Or.inl ⟨by rfl, ?yyra44⟩) hHeld ?rrra44
          case yyra44 => (intro wq hSw; (try dsimp only at hSw); go_simp; first | done | with_reducible rfl)
          simp only [Act.put, List.setIfInBounds_toArray, List.set_cons_zero, List.set_cons_succ]
          refine wpAnyH_take (i := 11) (oi := ⟨some 43, _, _, _, _, _⟩) (v := ?vvra45) rfl (by kernel_rfl) (by kernel_rfl) (by kernel_rfl) (fun _ _ _ h => h) (Or.inl ⟨by rfl, ?yyra45⟩) hHeld ?rrra45
          case yyra45 => (intro wq hSw; (try dsimp only at hSw); go_simp; first | done | with_reducible rfl)
          simp only [Act.put, List.setIfInBounds_toArray, List.set_cons_zero, List.set_cons_succ]
          refine wpAnyH_ready (rs := [13]) (by kernel_rfl) (by simp) ?_
          refine AllReadyH.cons (o := ⟨none, _, _, _, _, _⟩) rfl (fun K hK => ?_) AllReadyH.nil
          have g0 := cell_of_blk E7.out 0
          have g1 := cell_of_blk E7.out 1
          have h0 := frozen_of_blk E7.out 0
          have h1 := frozen_of_blk E7.out 1
          have lt7 := (Array.getElem?_eq_some_iff.1 E7.out).1
          simp at g0 g1
          go_simp
          obtain ⟨U, hU⟩ : ∃ u, u = (w5.setCell ⟨g7, 0, none⟩ (.int .u64 (ps : Nat))).setCell ⟨g7, 1, none⟩ (.slice a5 pw.length c5) := ⟨_, rfl⟩
          rw [← hU]
          have hBU : Below w2.heap.size w2 U := by rw [hU]; exact below_set (below_set hHeld.1 L7.out _) L7.out _
          have G7 : Hid (U.heap[g7]? = some (.cells #[.int .u64 (ps : Nat), .slice a5 pw.length c5] 35)) := Lib.hid (by rw [hU, setB (setB E7.out _) _]; rfl)
          have OU : Hid (kW.Own U p5 (.slice a5 pw.length c5) pw) := Lib.hid (by rw [hU]; exact own_setne (own_setne O5.out H5L.out) H5L.out)
          have WV : Hid (WsV U a5 pw) := Lib.hid (ws_of_row OU.out.toV K5.out)
          clear hU g0 g1 h0 h1 lt7 E7 O5 OU H5L
          refine hK.out _ _ ?ssra46 (fun hHeld => ?_)
          case ssra46 => (exact KS.out _ hBU)
          clear hK K
          try simp only [Act.put, List.setIfInBounds_toArray, List.set_cons_zero, List.set_cons_succ]
          refine wpAnyH_take (i := 14) (oi := ⟨some 8, _, _, _, _, _⟩) (v := ?vvra47) rfl (by kernel_rfl) (by kernel_rfl) (by kernel_rfl) (fun _ _ _ h => h) (Or.inl ⟨by rfl, ?yyra47⟩) hHeld ?rrra47
          case yyra47 => (intro wq hSw; (try dsimp only at hSw); go_simp; first | done | with_reducible rfl)
          simp only [Act.put, List.setIfInBounds_toArray, List.set_cons_zero, List.set_cons_succ]
          refine wpAnyH_take (i := 15) (oi := ⟨some 9, _, _, _, _, _⟩) (v := ?vvra48) rfl (by kernel_rfl) (by kernel_rfl) (by kernel_rfl) (fun _ _ _ h => h) (Or.inl ⟨by rfl, ?yyra48⟩) hHeld ?rrra48
          case yyra48 => (intro wq hSw; (try dsimp only at hSw); go_simp; first | done | with_reducible rfl)
          simp only [Act.put, List.setIfInBounds_toArray, List.set_cons_zero, List.set_cons_succ]
          refine wpAnyH_done (by kernel_rfl) ?_ _
          clear hHeld KS
          go_wp2_with fail
          go_meet
          exact ⟨rfl, rfl, g7, a5, c5, rfl, ⟨hBU, G7.out, WV.out⟩⟩
      case rest =>
        obtain ⟨rfl, rfl, g7, a5, c5, rfl, R7f⟩ := hcut
        clear KS
        have R7H := Lib.hid R7f
        have f1 := (R7f.bel.block _ (Array.getElem?_eq_some_iff.1 F1.out).1).trans F1.out
        have f2 := (R7f.bel.block _ (Array.getElem?_eq_some_iff.1 F2.out).1).trans F2.out
        have d0 := cell_of_blk f2 0
        have d1 := cell_of_blk f2 1
        simp at d0 d1
        clear R7f f1 f2
        go_wp2_with fail
        refine (r14parse_num k kn xa xcap xl ps pw pn pc _ HBV.out HPN.out (HX2.out.below R7H.out.bel) HXC.out ?_ (by have := HXS.out; omega)).mono ?_
        · rcases HXA.out with e | ⟨b, off, e, hlt⟩
          · exact .inl e
          · exact .inr ⟨b, off, e, by have := R7H.out.bel.size; have := HBD2.out.size; omega⟩
        rintro e w6 ⟨b6, a6, c6, rfl, o6, k6, l6⟩
        clear d0 d1
        have hb6 := below_then R7H.out.bel b6
        have g76 := (b6.block _ (Array.getElem?_eq_some_iff.1 R7H.out.blk).1).trans R7H.out.blk
        have v56 := R7H.out.ws.below b6
        have v66 := ws_of_row o6.toV k6
        obtain ⟨U, hU⟩ : ∃ u, u = w6.alloc (.cells #[.int .u64 (ps : Nat), .slice a6 pw.length c6] 35) := ⟨_, rfl⟩
        obtain ⟨g10, hg⟩ : ∃ u, u = w6.heap.size := ⟨_, rfl⟩
        have bU : Below w6.heap.size w6 U := by rw [hU]; exact below_box _ _
        have G10 : Hid (U.heap[g10]? = some (.cells #[.int .u64 (ps : Nat), .slice a6 pw.length c6] 35)) := Lib.hid (by rw [hU, hg]; exact heap_new _ _)
        have G7 := Lib.hid ((bU.block _ (Array.getElem?_eq_some_iff.1 g76).1).trans g76)
        have V5 := Lib.hid (v56.below bU)
        have V6 := Lib.hid (v66.below bU)
        have HBU := Lib.hid (below_then hb6 bU)
        have L6 := Lib.hid l6
        have HU := Lib.hid hU
        have HG := Lib.hid hg
        clear hb6 g76 v56 v66 bU o6 k6 l6 hU hg b6
        go_upto_region 5 with fail
        rw [← HU.out, ← HG.out]
        clear HU HG R7H
        have c70 := cell_of_blk G7.out 0
        have c71 := cell_of_blk G7.out 1
        have c80 := cell_of_blk G10.out 0
        have c81 := cell_of_blk G10.out 1
        simp at c70 c71 c80 c81
        go_wp2_with fail
        refine (same_eq ps a5 a6 c5 c6 pw _ V5.out V6.out L6.out).mono ?_
        rintro e w7 ⟨rfl, b7⟩
        have hB7 := below_then HBU.out b7
        have f1 := (hB7.block _ (Array.getElem?_eq_some_iff.1 F1.out).1).trans F1.out
        clear c70 c71 c80 c81 G7 G10 V5 V6 HBU L6 b7
        have HB7 := Lib.hid hB7
        have HW7 := Lib.hid (H1.out.below (HBD2.out.trans (hB7.mono HBD2.out.size)))
        have F7 := Lib.hid f1
        have d0 := cell_of_blk f1 0
        have d1 := cell_of_blk f1 1
        simp at d0 d1
        clear f1 hB7
        go_upto_region 7 with fail
        go_wp2_with fail
        refine (commit_any st a cap ws _ HW7.out HS.out (by have := HSB.out.1; omega) HSB.out.2).mono ?_
        rintro e w8 ⟨b8, hor⟩
        clear d0 d1
        have f8 := (b8.block _ (Array.getElem?_eq_some_iff.1 F7.out).1).trans F7.out
        have d0 := cell_of_blk f8 0
        have d1 := cell_of_blk f8 1
        simp at d0 d1
        clear f8
        have HB8 := Lib.hid b8
        clear b8
        rcases hor with ⟨hw, rfl⟩ | ⟨hw, v8, rfl, o8⟩
        · have HWR := Lib.hid hw
          clear hw
          go_wp2_with fail
          refine (r14right_any st a cap ws _ (HW7.out.below HB8.out) HS.out (by have := HSB.out.1; omega)).mono ?_
          rintro e w9 ⟨rfl, b9⟩
          rw [right_eq, HWR.out]
          have b79 := below_then HB8.out b9
          have HX9 : Hid (Below w8.heap.size w8 w9) := Lib.hid b9
          clear d0 d1
          have fX := (b79.block _ (Array.getElem?_eq_some_iff.1 F7.out).1).trans F7.out
          have d0 := cell_of_blk fX 0
          have d1 := cell_of_blk fX 1
          simp at d0 d1
          clear fX
          have HB9 := Lib.hid b79
          clear b9 b79
          go_wp2_with fail
          refine (dright_any (some ⟨w9.heap.size, 0, none⟩) 1 [⟨st, a, cap, ws⟩] _ (rsv_one (HW7.out.below HB9.out) HS.out (by have := HSB.out.1; omega)) (by simp)).mono ?_
          rintro e w10 ⟨rfl, b10⟩
          rw [any_one, HWR.out]
          have b710 := below_then (below_al HB9.out _) b10
          have HX10 : Hid (Below w8.heap.size w8 w10) := Lib.hid (below_then (below_al HX9.out _) b10)
          clear d0 d1
          have fX := (b710.block _ (Array.getElem?_eq_some_iff.1 F7.out).1).trans F7.out
          have d0 := cell_of_blk fX 0
          have d1 := cell_of_blk fX 1
          simp at d0 d1
          clear fX
          have HB10 := Lib.hid b710
          clear b10 b710
          go_wp2_with fail
          refine (dright_any (some ⟨w10.heap.size, 0, none⟩) 2 [⟨st, a, cap, ws⟩, ⟨st, a, cap, ws⟩] _ (rsv_two (HW7.out.below HB10.out) HS.out (by have := HSB.out.1; omega)) (by simp)).mono ?_
          rintro e w11 ⟨rfl, b11⟩
          rw [any_two, HWR.out]
          have b711 := below_then (below_al HB10.out _) b11
          have HX11 : Hid (Below w8.heap.size w8 w11) := Lib.hid (below_then (below_al HX10.out _) b11)
          clear d0 d1
          have fX := (b711.block _ (Array.getElem?_eq_some_iff.1 F7.out).1).trans F7.out
          have d0 := cell_of_blk fX 0
          have d1 := cell_of_blk fX 1
          simp at d0 d1
          clear fX
          have HB11 := Lib.hid b711
          clear b11 b711
          go_wp2_with fail
          refine wp_region_held_drew (S := (fun w' => Below w7.heap.size w7 w')) (by kernel_rfl) (HB11.out.drew) (fun hHeld => ?_)
          refine wpAnyH_take (i := 0) (oi := ⟨some 103, _, _, _, _, _⟩) (v := ?vvrb1) rfl (by kernel_rfl) (by kernel_rfl) (by kernel_rfl) (fun _ _ _ h => h) (Or.inl ⟨by rfl, ?yyrb1⟩) hHeld ?rrrb1
          case yyrb1 => (intro wq hSw; (try dsimp only at hSw); go_simp; first | done | with_reducible rfl)
          simp only [Act.put, List.setIfInBounds_toArray, List.set_cons_zero, List.set_cons_succ]
          refine wpAnyH_take (i := 1) (oi := ⟨some 104, _, _, _, _, _⟩) (v := ?vvrb2) rfl (by kernel_rfl) (by kernel_rfl) (by kernel_rfl) (fun _ _ _ h => h) (Or.inl ⟨by rfl, ?yyrb2⟩) hHeld ?rrrb2
          case yyrb2 => (intro wq hSw; (try dsimp only at hSw); go_simp; first | done | with_reducible rfl)
          simp only [Act.put, List.setIfInBounds_toArray, List.set_cons_zero, List.set_cons_succ]
          refine wpAnyH_take (i := 2) (oi := ⟨some 105, _, _, _, _, _⟩) (v := undef) rfl (by kernel_rfl) (by kernel_rfl) (by kernel_rfl) (fun _ _ _ h => h) (Or.inr ⟨by rfl, rfl⟩) hHeld ?_
          simp only [Act.put, List.setIfInBounds_toArray, List.set_cons_zero, List.set_cons_succ]
          refine wpAnyH_take (i := 3) (oi := ⟨some 106, _, _, _, _, _⟩) (v := undef) rfl (by kernel_rfl) (by kernel_rfl) (by kernel_rfl) (fun _ _ _ h => h) (Or.inr ⟨by rfl, rfl⟩) hHeld ?_
          simp only [Act.put, List.setIfInBounds_toArray, List.set_cons_zero, List.set_cons_succ]
          refine wpAnyH_take (i := 4) (oi := ⟨some 107, _, _, _, _, _⟩) (v := undef) rfl (by kernel_rfl) (by kernel_rfl) (by kernel_rfl) (fun _ _ _ h => h) (Or.inr ⟨by rfl, rfl⟩) hHeld ?_
          simp only [Act.put, List.setIfInBounds_toArray, List.set_cons_zero, List.set_cons_succ]
          refine wpAnyH_take (i := 5) (oi := ⟨some 108, _, _, _, _, _⟩) (v := undef) rfl (by kernel_rfl) (by kernel_rfl) (by kernel_rfl) (fun _ _ _ h => h) (Or.inr ⟨by rfl, rfl⟩) hHeld ?_
          simp only [Act.put, List.setIfInBounds_toArray, List.set_cons_zero, List.set_cons_succ]
          refine wpAnyH_take (i := 6) (oi := ⟨some 109, _, _, _, _, _⟩) (v := undef) rfl (by kernel_rfl) (by kernel_rfl) (by kernel_rfl) (fun _ _ _ h => h) (Or.inr ⟨by rfl, rfl⟩) hHeld ?_
          simp only [Act.put, List.setIfInBounds_toArray, List.set_cons_zero, List.set_cons_succ]
          refine wpAnyH_take (i := 7) (oi := ⟨some 110, _, _, _, _, _⟩) (v := undef) rfl (by kernel_rfl) (by kernel_rfl) (by kernel_rfl) (fun _ _ _ h => h) (Or.inr ⟨by rfl, rfl⟩) hHeld ?_
          simp only [Act.put, List.setIfInBounds_toArray, List.set_cons_zero, List.set_cons_succ]
          refine wpAnyH_take (i := 8) (oi := ⟨some 111, _, _, _, _, _⟩) (v := undef) rfl (by kernel_rfl) (by kernel_rfl) (by kernel_rfl) (fun _ _ _ h => h) (Or.inr ⟨by rfl, rfl⟩) hHeld ?_
          simp only [Act.put, List.setIfInBounds_toArray, List.set_cons_zero, List.set_cons_succ]
          refine wpAnyH_take (i := 9) (oi := ⟨some 112, _, _, _, _, _⟩) (v := undef) rfl (by kernel_rfl) (by kernel_rfl) (by kernel_rfl) (fun _ _ _ h => h) (Or.inr ⟨by rfl, rfl⟩) hHeld ?_
          simp only [Act.put, List.setIfInBounds_toArray, List.set_cons_zero, List.set_cons_succ]
          refine wpAnyH_take (i := 10) (oi := ⟨some 113, _, _, _, _, _⟩) (v := ?vvrb11) rfl (by kernel_rfl) (by kernel_rfl) (by kernel_rfl) (fun _ _ _ h => h) (Or.inl ⟨by rfl, ?yyrb11⟩) hHeld ?rrrb11
          case yyrb11 => (intro wq hSw; (try dsimp only at hSw); go_simp; first | done | with_reducible rfl)
          simp only [Act.put, List.setIfInBounds_toArray, List.set_cons_zero, List.set_cons_succ]
          refine wpAnyH_done (by kernel_rfl) ?_ _
          have hF := hHeld
          try dsimp only at hF
          clear hHeld
          clear d0 d1
          go_wp2_with fail
          refine (mark_any ep _).mono ?_
          rintro e wm ⟨bm, hor⟩
          have hbm := below_then hF bm
          have HBF : Hid (Below w.heap.size w wm) := Lib.hid (HBW.out.trans ((HBD2.out.trans ((HB7.out.trans (hbm.mono HB7.out.size)).mono HBD2.out.size)).mono HBW.out.size))
          clear hF hbm bm
          rcases hor with ⟨he, rfl⟩ | ⟨he, vm, rfl, om⟩
          · have HE := Lib.hid he
            clear he
            by_cases hneg : ep < 0
            · have t1 : decide (ep < 0) = true := by simpa using hneg
              go_wp2_with fail
              go_ret
              exact ⟨rfl, HBF.out⟩
            · have hgt : 2147483647 < ep := by
                have := HE.out
                unfold epB inB at this
                simp at this
                omega
              have t1 : decide (ep < 0) = false := by simpa using hneg
              have t2 : decide (2147483647 < ep) = true := by simpa using hgt
              clear hneg hgt
              go_wp2_with fail
              go_ret
              exact ⟨rfl, HBF.out⟩
          · obtain ⟨en, rfl, hen⟩ := epB_nat he
            rw [show ((en : Int)).toNat = en from rfl] at om
            obtain ⟨gm, cm, rfl, _, am⟩ := om.at' (by simp [packL, headL])
            have HAM := Lib.hid am
            have t1 : decide ((en : Int) < 0) = false := by simp
            have t2 : decide ((2147483647 : Int) < (en : Int)) = false := by simp; omega
            have HEN := Lib.hid hen
            clear he om am hen
            go_wp2_with fail
            refine wp_region_held_drew (S := (fun w' => Below wm.heap.size wm w')) (by kernel_rfl) ((Below.refl _ _).drew) (fun hHeld => ?_)
            refine wpAnyH_take (i := 0) (oi := ⟨some 132, _, _, _, _, _⟩) (v := ?vvrd1q1) rfl (by kernel_rfl) (by kernel_rfl) (by kernel_rfl) (fun _ _ _ h => h) (Or.inl ⟨by rfl, ?yyrd1q1⟩) hHeld ?rrrd1q1
            case yyrd1q1 => (intro wq hSw; (try dsimp only at hSw); go_simp; first | done | with_reducible rfl)
            simp only [Act.put, List.setIfInBounds_toArray, List.set_cons_zero, List.set_cons_succ]
            refine wpAnyH_take (i := 1) (oi := ⟨some 133, _, _, _, _, _⟩) (v := ?vvrd1q2) rfl (by kernel_rfl) (by kernel_rfl) (by kernel_rfl) (fun _ _ _ h => h) (Or.inl ⟨by rfl, ?yyrd1q2⟩) hHeld ?rrrd1q2
            case yyrd1q2 => (intro wq hSw; (try dsimp only at hSw); go_simp; first | done | with_reducible rfl)
            simp only [Act.put, List.setIfInBounds_toArray, List.set_cons_zero, List.set_cons_succ]
            refine wpAnyH_take (i := 2) (oi := ⟨some 134, _, _, _, _, _⟩) (v := ?vvrd1q3) rfl (by kernel_rfl) (by kernel_rfl) (by kernel_rfl) (fun _ _ _ h => h) (Or.inl ⟨by rfl, ?yyrd1q3⟩) hHeld ?rrrd1q3
            case yyrd1q3 => (intro wq hSw; (try dsimp only at hSw); go_simp; first | done | with_reducible rfl)
            simp only [Act.put, List.setIfInBounds_toArray, List.set_cons_zero, List.set_cons_succ]
            refine wpAnyH_take (i := 3) (oi := ⟨some 135, _, _, _, _, _⟩) (v := ?vvrd1q4) rfl (by kernel_rfl) (by kernel_rfl) (by kernel_rfl) (fun _ _ _ h => h) (Or.inl ⟨by rfl, ?yyrd1q4⟩) hHeld ?rrrd1q4
            case yyrd1q4 => (intro wq hSw; (try dsimp only at hSw); go_simp; first | done | with_reducible rfl)
            simp only [Act.put, List.setIfInBounds_toArray, List.set_cons_zero, List.set_cons_succ]
            refine wpAnyH_take (i := 5) (oi := ⟨some 137, _, _, _, _, _⟩) (v := ?vvrd1q5) rfl (by kernel_rfl) (by kernel_rfl) (by kernel_rfl) (fun _ _ _ h => h) (Or.inl ⟨by rfl, ?yyrd1q5⟩) hHeld ?rrrd1q5
            case yyrd1q5 => (intro wq hSw; (try dsimp only at hSw); go_simp; first | done | with_reducible rfl)
            simp only [Act.put, List.setIfInBounds_toArray, List.set_cons_zero, List.set_cons_succ]
            refine wpAnyH_ready (rs := [4, 6]) (by kernel_rfl) (by simp) ?_
            refine AllReadyH.cons (o := ⟨some 136, _, _, _, _, _⟩) rfl (fun K hK => ?_) (AllReadyH.cons (o := ⟨some 138, _, _, _, _, _⟩) rfl (fun K hK => ?_) AllReadyH.nil)
            · have hB0 := hHeld
              try dsimp only at hB0
              have hcv := conv_at (c := cm) (HAM.out.below hB0)
              go_simp
              clear hcv
              refine hK.out _ _ ?ssrd1q6 (fun hHeld => ?_)
              case ssrd1q6 => (exact hHeld)
              clear hK K
              try simp only [Act.put, List.setIfInBounds_toArray, List.set_cons_zero, List.set_cons_succ]
              refine wpAnyH_ready (rs := [6]) (by kernel_rfl) (by simp) ?_
              refine AllReadyH.cons (o := ⟨some 138, _, _, _, _, _⟩) rfl (fun K hK => ?_) AllReadyH.nil
              go_simp
              have hB0 := hHeld
              try dsimp only at hB0
              refine (r14mark_any en _ HEN.out).mono ?_
              rintro e xm ⟨v138, rfl, o138, ym⟩
              have hBxm := below_then hB0 ym
              obtain ⟨g13, q13, rfl, _, a13⟩ := o138.at' (by simp [packL, headL])
              have A13 := Lib.hid a13
              clear o138 a13 ym
              go_wp2_with fail
              refine hK.out _ _ ?ssrd1q7 (fun hHeld => ?_)
              case ssrd1q7 => (exact hBxm)
              clear hK K
              try simp only [Act.put, List.setIfInBounds_toArray, List.set_cons_zero, List.set_cons_succ]
              refine wpAnyH_ready (rs := [7]) (by kernel_rfl) (by simp) ?_
              refine AllReadyH.cons (o := ⟨some 139, _, _, _, _, _⟩) rfl (fun K hK => ?_) AllReadyH.nil
              have hcv := conv_at (c := q13) A13.out
              go_simp
              clear hcv
              refine hK.out _ _ ?ssrd1q8 (fun hHeld => ?_)
              case ssrd1q8 => (exact hHeld)
              clear hK K
              try simp only [Act.put, List.setIfInBounds_toArray, List.set_cons_zero, List.set_cons_succ]
              refine wpAnyH_take (i := 8) (oi := ⟨some 140, _, _, _, _, _⟩) (v := ?vvrd1q9) rfl (by kernel_rfl) (by kernel_rfl) (by kernel_rfl) (fun _ _ _ h => h) (Or.inl ⟨by rfl, ?yyrd1q9⟩) hHeld ?rrrd1q9
              case yyrd1q9 => (intro wq hSw; (try dsimp only at hSw); go_simp; first | done | with_reducible rfl)
              simp only [Act.put, List.setIfInBounds_toArray, List.set_cons_zero, List.set_cons_succ]
              refine wpAnyH_take (i := 9) (oi := ⟨some 141, _, _, _, _, _⟩) (v := ?vvrd1q10) rfl (by kernel_rfl) (by kernel_rfl) (by kernel_rfl) (fun _ _ _ h => h) (Or.inl ⟨by rfl, ?yyrd1q10⟩) hHeld ?rrrd1q10
              case yyrd1q10 => (intro wq hSw; (try dsimp only at hSw); go_simp; first | done | with_reducible rfl)
              simp only [Act.put, List.setIfInBounds_toArray, List.set_cons_zero, List.set_cons_succ]
              refine wpAnyH_take (i := 10) (oi := ⟨some 6, _, _, _, _, _⟩) (v := ?vvrd1q11) rfl (by kernel_rfl) (by kernel_rfl) (by kernel_rfl) (fun _ _ _ h => h) (Or.inl ⟨by rfl, ?yyrd1q11⟩) hHeld ?rrrd1q11
              case yyrd1q11 => (intro wq hSw; (try dsimp only at hSw); go_simp; first | done | with_reducible rfl)
              simp only [Act.put, List.setIfInBounds_toArray, List.set_cons_zero, List.set_cons_succ]
              refine wpAnyH_done (by kernel_rfl) ?_ _
              have hF := hHeld
              try dsimp only at hF
              clear hHeld
              go_wp2_with fail
              go_ret
              exact ⟨rfl, HBF.out.trans (hF.mono HBF.out.size)⟩
            · go_simp
              have hB0 := hHeld
              try dsimp only at hB0
              refine (r14mark_any en _ HEN.out).mono ?_
              rintro e xm ⟨v138, rfl, o138, ym⟩
              have hBxm := below_then hB0 ym
              obtain ⟨g13, q13, rfl, _, a13⟩ := o138.at' (by simp [packL, headL])
              have A13 := Lib.hid a13
              clear o138 a13 ym
              go_wp2_with fail
              refine hK.out _ _ ?ssrd1q12 (fun hHeld => ?_)
              case ssrd1q12 => (exact hBxm)
              clear hK K
              try simp only [Act.put, List.setIfInBounds_toArray, List.set_cons_zero, List.set_cons_succ]
              refine wpAnyH_ready (rs := [4, 7]) (by kernel_rfl) (by simp) ?_
              refine AllReadyH.cons (o := ⟨some 136, _, _, _, _, _⟩) rfl (fun K hK => ?_) (AllReadyH.cons (o := ⟨some 139, _, _, _, _, _⟩) rfl (fun K hK => ?_) AllReadyH.nil)
              · have hB0 := hHeld
                try dsimp only at hB0
                have hcv := conv_at (c := cm) (HAM.out.below hB0)
                go_simp
                clear hcv
                refine hK.out _ _ ?ssrd1q13 (fun hHeld => ?_)
                case ssrd1q13 => (exact hHeld)
                clear hK K
                try simp only [Act.put, List.setIfInBounds_toArray, List.set_cons_zero, List.set_cons_succ]
                refine wpAnyH_ready (rs := [7]) (by kernel_rfl) (by simp) ?_
                refine AllReadyH.cons (o := ⟨some 139, _, _, _, _, _⟩) rfl (fun K hK => ?_) AllReadyH.nil
                have hcv := conv_at (c := q13) A13.out
                go_simp
                clear hcv
                refine hK.out _ _ ?ssrd1q14 (fun hHeld => ?_)
                case ssrd1q14 => (exact hHeld)
                clear hK K
                try simp only [Act.put, List.setIfInBounds_toArray, List.set_cons_zero, List.set_cons_succ]
                refine wpAnyH_take (i := 8) (oi := ⟨some 140, _, _, _, _, _⟩) (v := ?vvrd1q15) rfl (by kernel_rfl) (by kernel_rfl) (by kernel_rfl) (fun _ _ _ h => h) (Or.inl ⟨by rfl, ?yyrd1q15⟩) hHeld ?rrrd1q15
                case yyrd1q15 => (intro wq hSw; (try dsimp only at hSw); go_simp; first | done | with_reducible rfl)
                simp only [Act.put, List.setIfInBounds_toArray, List.set_cons_zero, List.set_cons_succ]
                refine wpAnyH_take (i := 9) (oi := ⟨some 141, _, _, _, _, _⟩) (v := ?vvrd1q16) rfl (by kernel_rfl) (by kernel_rfl) (by kernel_rfl) (fun _ _ _ h => h) (Or.inl ⟨by rfl, ?yyrd1q16⟩) hHeld ?rrrd1q16
                case yyrd1q16 => (intro wq hSw; (try dsimp only at hSw); go_simp; first | done | with_reducible rfl)
                simp only [Act.put, List.setIfInBounds_toArray, List.set_cons_zero, List.set_cons_succ]
                refine wpAnyH_take (i := 10) (oi := ⟨some 6, _, _, _, _, _⟩) (v := ?vvrd1q17) rfl (by kernel_rfl) (by kernel_rfl) (by kernel_rfl) (fun _ _ _ h => h) (Or.inl ⟨by rfl, ?yyrd1q17⟩) hHeld ?rrrd1q17
                case yyrd1q17 => (intro wq hSw; (try dsimp only at hSw); go_simp; first | done | with_reducible rfl)
                simp only [Act.put, List.setIfInBounds_toArray, List.set_cons_zero, List.set_cons_succ]
                refine wpAnyH_done (by kernel_rfl) ?_ _
                have hF := hHeld
                try dsimp only at hF
                clear hHeld
                go_wp2_with fail
                go_ret
                exact ⟨rfl, HBF.out.trans (hF.mono HBF.out.size)⟩
              · have hcv := conv_at (c := q13) A13.out
                go_simp
                clear hcv
                refine hK.out _ _ ?ssrd1q18 (fun hHeld => ?_)
                case ssrd1q18 => (exact hHeld)
                clear hK K
                try simp only [Act.put, List.setIfInBounds_toArray, List.set_cons_zero, List.set_cons_succ]
                refine wpAnyH_ready (rs := [4]) (by kernel_rfl) (by simp) ?_
                refine AllReadyH.cons (o := ⟨some 136, _, _, _, _, _⟩) rfl (fun K hK => ?_) AllReadyH.nil
                have hB0 := hHeld
                try dsimp only at hB0
                have hcv := conv_at (c := cm) (HAM.out.below hB0)
                go_simp
                clear hcv
                refine hK.out _ _ ?ssrd1q19 (fun hHeld => ?_)
                case ssrd1q19 => (exact hHeld)
                clear hK K
                try simp only [Act.put, List.setIfInBounds_toArray, List.set_cons_zero, List.set_cons_succ]
                refine wpAnyH_take (i := 8) (oi := ⟨some 140, _, _, _, _, _⟩) (v := ?vvrd1q20) rfl (by kernel_rfl) (by kernel_rfl) (by kernel_rfl) (fun _ _ _ h => h) (Or.inl ⟨by rfl, ?yyrd1q20⟩) hHeld ?rrrd1q20
                case yyrd1q20 => (intro wq hSw; (try dsimp only at hSw); go_simp; first | done | with_reducible rfl)
                simp only [Act.put, List.setIfInBounds_toArray, List.set_cons_zero, List.set_cons_succ]
                refine wpAnyH_take (i := 9) (oi := ⟨some 141, _, _, _, _, _⟩) (v := ?vvrd1q21) rfl (by kernel_rfl) (by kernel_rfl) (by kernel_rfl) (fun _ _ _ h => h) (Or.inl ⟨by rfl, ?yyrd1q21⟩) hHeld ?rrrd1q21
                case yyrd1q21 => (intro wq hSw; (try dsimp only at hSw); go_simp; first | done | with_reducible rfl)
                simp only [Act.put, List.setIfInBounds_toArray, List.set_cons_zero, List.set_cons_succ]
                refine wpAnyH_take (i := 10) (oi := ⟨some 6, _, _, _, _, _⟩) (v := ?vvrd1q22) rfl (by kernel_rfl) (by kernel_rfl) (by kernel_rfl) (fun _ _ _ h => h) (Or.inl ⟨by rfl, ?yyrd1q22⟩) hHeld ?rrrd1q22
                case yyrd1q22 => (intro wq hSw; (try dsimp only at hSw); go_simp; first | done | with_reducible rfl)
                simp only [Act.put, List.setIfInBounds_toArray, List.set_cons_zero, List.set_cons_succ]
                refine wpAnyH_done (by kernel_rfl) ?_ _
                have hF := hHeld
                try dsimp only at hF
                clear hHeld
                go_wp2_with fail
                go_ret
                exact ⟨rfl, HBF.out.trans (hF.mono HBF.out.size)⟩
        · have HWR := Lib.hid hw
          obtain ⟨g8, c8, rfl, _, a8⟩ := o8.at' (by simp [packL, headL])
          have A8 := Lib.hid a8
          clear hw o8 a8
          go_wp2_with fail
          refine (r14right_any st a cap ws _ (HW7.out.below HB8.out) HS.out (by have := HSB.out.1; omega)).mono ?_
          rintro e w9 ⟨rfl, b9⟩
          rw [right_eq, HWR.out]
          have b79 := below_then HB8.out b9
          have HX9 : Hid (Below w8.heap.size w8 w9) := Lib.hid b9
          clear d0 d1
          have fX := (b79.block _ (Array.getElem?_eq_some_iff.1 F7.out).1).trans F7.out
          have d0 := cell_of_blk fX 0
          have d1 := cell_of_blk fX 1
          simp at d0 d1
          clear fX
          have HB9 := Lib.hid b79
          clear b9 b79
          go_wp2_with fail
          refine (dright_any (some ⟨w9.heap.size, 0, none⟩) 1 [⟨st, a, cap, ws⟩] _ (rsv_one (HW7.out.below HB9.out) HS.out (by have := HSB.out.1; omega)) (by simp)).mono ?_
          rintro e w10 ⟨rfl, b10⟩
          rw [any_one, HWR.out]
          have b710 := below_then (below_al HB9.out _) b10
          have HX10 : Hid (Below w8.heap.size w8 w10) := Lib.hid (below_then (below_al HX9.out _) b10)
          clear d0 d1
          have fX := (b710.block _ (Array.getElem?_eq_some_iff.1 F7.out).1).trans F7.out
          have d0 := cell_of_blk fX 0
          have d1 := cell_of_blk fX 1
          simp at d0 d1
          clear fX
          have HB10 := Lib.hid b710
          clear b10 b710
          go_wp2_with fail
          refine (dright_any (some ⟨w10.heap.size, 0, none⟩) 2 [⟨st, a, cap, ws⟩, ⟨st, a, cap, ws⟩] _ (rsv_two (HW7.out.below HB10.out) HS.out (by have := HSB.out.1; omega)) (by simp)).mono ?_
          rintro e w11 ⟨rfl, b11⟩
          rw [any_two, HWR.out]
          have b711 := below_then (below_al HB10.out _) b11
          have HX11 : Hid (Below w8.heap.size w8 w11) := Lib.hid (below_then (below_al HX10.out _) b11)
          clear d0 d1
          have fX := (b711.block _ (Array.getElem?_eq_some_iff.1 F7.out).1).trans F7.out
          have d0 := cell_of_blk fX 0
          have d1 := cell_of_blk fX 1
          simp at d0 d1
          clear fX
          have HB11 := Lib.hid b711
          clear b11 b711
          go_wp2_with fail
          have A11 : Hid (BsAt w11 g8 0 (packL 1 (bodyL st ws))) := Lib.hid (A8.out.below HX11.out)
          have kr : ∀ w', Below w11.heap.size w11 w' → (fun w' => Below w11.heap.size w11 w' ∧ w'.cell? ⟨b1, 0, none⟩ = some (.int .u64 st) ∧ w'.cell? ⟨b1, 1, none⟩ = some (.slice a ws.length cap)) w' := fun w' hb => by
            have fX := (hb.block _ (Array.getElem?_eq_some_iff.1 ((HB11.out.block _ (Array.getElem?_eq_some_iff.1 F7.out).1).trans F7.out)).1).trans ((HB11.out.block _ (Array.getElem?_eq_some_iff.1 F7.out).1).trans F7.out)
            have d0 := cell_of_blk fX 0
            have d1 := cell_of_blk fX 1
            simp at d0 d1
            exact ⟨hb, d0, d1⟩
          have KR := Lib.hid kr
          clear kr
          refine wp_region_held_drew (S := (fun w' => Below w11.heap.size w11 w' ∧ w'.cell? ⟨b1, 0, none⟩ = some (.int .u64 st) ∧ w'.cell? ⟨b1, 1, none⟩ = some (.slice a ws.length cap))) (by kernel_rfl) (KR.out _ (Below.refl _ _).drew) (fun hHeld => ?_)
          refine wpAnyH_take (i := 0) (oi := ⟨some 103, _, _, _, _, _⟩) (v := ?vvrc1) rfl (by kernel_rfl) (by kernel_rfl) (by kernel_rfl) (fun _ _ _ h => h) (Or.inl ⟨by rfl, ?yyrc1⟩) hHeld ?rrrc1
          case yyrc1 => (intro wq hSw; (try dsimp only at hSw); go_simp; first | done | with_reducible rfl)
          simp only [Act.put, List.setIfInBounds_toArray, List.set_cons_zero, List.set_cons_succ]
          refine wpAnyH_take (i := 1) (oi := ⟨some 104, _, _, _, _, _⟩) (v := ?vvrc2) rfl (by kernel_rfl) (by kernel_rfl) (by kernel_rfl) (fun _ _ _ h => h) (Or.inl ⟨by rfl, ?yyrc2⟩) hHeld ?rrrc2
          case yyrc2 => (intro wq hSw; (try dsimp only at hSw); go_simp; first | done | with_reducible rfl)
          simp only [Act.put, List.setIfInBounds_toArray, List.set_cons_zero, List.set_cons_succ]
          refine wpAnyH_take (i := 2) (oi := ⟨some 105, _, _, _, _, _⟩) (v := ?vvrc3) rfl (by kernel_rfl) (by kernel_rfl) (by kernel_rfl) (fun _ _ _ h => h) (Or.inl ⟨by rfl, ?yyrc3⟩) hHeld ?rrrc3
          case yyrc3 => (intro wq hSw; (try dsimp only at hSw); go_simp; first | done | with_reducible rfl)
          simp only [Act.put, List.setIfInBounds_toArray, List.set_cons_zero, List.set_cons_succ]
          refine wpAnyH_take (i := 4) (oi := ⟨some 107, _, _, _, _, _⟩) (v := ?vvrc4) rfl (by kernel_rfl) (by kernel_rfl) (by kernel_rfl) (fun _ _ _ h => h) (Or.inl ⟨by rfl, ?yyrc4⟩) hHeld ?rrrc4
          case yyrc4 => (intro wq hSw; (try dsimp only at hSw); go_simp; first | done | with_reducible rfl)
          simp only [Act.put, List.setIfInBounds_toArray, List.set_cons_zero, List.set_cons_succ]
          refine wpAnyH_ready (rs := [3, 5]) (by kernel_rfl) (by simp) ?_
          refine AllReadyH.cons (o := ⟨some 106, _, _, _, _, _⟩) rfl (fun K hK => ?_) (AllReadyH.cons (o := ⟨some 108, _, _, _, _, _⟩) rfl (fun K hK => ?_) AllReadyH.nil)
          · have hB0 := hHeld.1
            try dsimp only at hB0
            have hcv := conv_at (c := c8) (A11.out.below hB0)
            go_simp
            clear hcv
            refine hK.out _ _ ?ssrc5 (fun hHeld => ?_)
            case ssrc5 => (exact hHeld)
            clear hK K
            try simp only [Act.put, List.setIfInBounds_toArray, List.set_cons_zero, List.set_cons_succ]
            refine wpAnyH_ready (rs := [5]) (by kernel_rfl) (by simp) ?_
            refine AllReadyH.cons (o := ⟨some 108, _, _, _, _, _⟩) rfl (fun K hK => ?_) AllReadyH.nil
            go_simp
            have hB0 := hHeld.1
            try dsimp only at hB0
            refine (r14body_any st a cap ws _ ((HW7.out.below HB11.out).below hB0) HS.out (by have := HSB.out.1; omega) (wrong_bad' HWR.out) HSB.out.2).mono ?_
            rintro e x8 ⟨v108, rfl, o108, y8⟩
            have hBx8 := below_then hB0 y8
            obtain ⟨a8, q8, rfl⟩ := o108.shape
            have O108 := Lib.hid o108
            clear o108 y8
            go_wp2_with fail
            refine hK.out _ _ ?ssrc6 (fun hHeld => ?_)
            case ssrc6 => (exact KR.out _ hBx8)
            clear hK K
            try simp only [Act.put, List.setIfInBounds_toArray, List.set_cons_zero, List.set_cons_succ]
            refine wpAnyH_take (i := 6) (oi := ⟨some 109, _, _, _, _, _⟩) (v := ?vvrc7) rfl (by kernel_rfl) (by kernel_rfl) (by kernel_rfl) (fun _ _ _ h => h) (Or.inl ⟨by rfl, ?yyrc7⟩) hHeld ?rrrc7
            case yyrc7 => (intro wq hSw; (try dsimp only at hSw); go_simp; first | done | with_reducible rfl)
            simp only [Act.put, List.setIfInBounds_toArray, List.set_cons_zero, List.set_cons_succ]
            refine wpAnyH_ready (rs := [7]) (by kernel_rfl) (by simp) ?_
            refine AllReadyH.cons (o := ⟨some 110, _, _, _, _, _⟩) rfl (fun K hK => ?_) AllReadyH.nil
            go_simp
            have hB0 := hHeld.1
            try dsimp only at hB0
            refine (pack_one a8 q8 (bodyL st ws) _ O108.out.bsV HSB.out.2).mono ?_
            rintro e x9 ⟨v110, rfl, o110, y9⟩
            have hBx9 := below_then hB0 y9
            obtain ⟨g9, q9, rfl, _, a9⟩ := o110.at' (by simp [packL, headL])
            have A9 := Lib.hid a9
            clear o110 a9 y9 O108
            go_wp2_with fail
            refine hK.out _ _ ?ssrc8 (fun hHeld => ?_)
            case ssrc8 => (exact KR.out _ hBx9)
            clear hK K
            try simp only [Act.put, List.setIfInBounds_toArray, List.set_cons_zero, List.set_cons_succ]
            refine wpAnyH_ready (rs := [8]) (by kernel_rfl) (by simp) ?_
            refine AllReadyH.cons (o := ⟨some 111, _, _, _, _, _⟩) rfl (fun K hK => ?_) AllReadyH.nil
            have A9c := A9.out.below (Below.refl _ _)
            have hcv := conv_at (c := q9) A9.out
            go_simp
            clear hcv A9c
            refine hK.out _ _ ?ssrc9 (fun hHeld => ?_)
            case ssrc9 => (exact hHeld)
            clear hK K
            try simp only [Act.put, List.setIfInBounds_toArray, List.set_cons_zero, List.set_cons_succ]
            refine wpAnyH_take (i := 9) (oi := ⟨some 112, _, _, _, _, _⟩) (v := ?vvrc10) rfl (by kernel_rfl) (by kernel_rfl) (by kernel_rfl) (fun _ _ _ h => h) (Or.inl ⟨by rfl, ?yyrc10⟩) hHeld ?rrrc10
            case yyrc10 => (intro wq hSw; (try dsimp only at hSw); go_simp; first | done | with_reducible rfl)
            simp only [Act.put, List.setIfInBounds_toArray, List.set_cons_zero, List.set_cons_succ]
            refine wpAnyH_take (i := 10) (oi := ⟨some 113, _, _, _, _, _⟩) (v := ?vvrc11) rfl (by kernel_rfl) (by kernel_rfl) (by kernel_rfl) (fun _ _ _ h => h) (Or.inl ⟨by rfl, ?yyrc11⟩) hHeld ?rrrc11
            case yyrc11 => (intro wq hSw; (try dsimp only at hSw); go_simp; first | done | with_reducible rfl)
            simp only [Act.put, List.setIfInBounds_toArray, List.set_cons_zero, List.set_cons_succ]
            refine wpAnyH_done (by kernel_rfl) ?_ _
            have hF := below_then HB11.out hHeld.1
            try dsimp only at hF
            clear hHeld
            clear d0 d1
            go_wp2_with fail
            refine (mark_any ep _).mono ?_
            rintro e wm ⟨bm, hor⟩
            have hbm := below_then hF bm
            have HBF : Hid (Below w.heap.size w wm) := Lib.hid (HBW.out.trans ((HBD2.out.trans ((HB7.out.trans (hbm.mono HB7.out.size)).mono HBD2.out.size)).mono HBW.out.size))
            clear hF hbm bm
            rcases hor with ⟨he, rfl⟩ | ⟨he, vm, rfl, om⟩
            · have HE := Lib.hid he
              clear he
              by_cases hneg : ep < 0
              · have t1 : decide (ep < 0) = true := by simpa using hneg
                go_wp2_with fail
                go_ret
                exact ⟨rfl, HBF.out⟩
              · have hgt : 2147483647 < ep := by
                  have := HE.out
                  unfold epB inB at this
                  simp at this
                  omega
                have t1 : decide (ep < 0) = false := by simpa using hneg
                have t2 : decide (2147483647 < ep) = true := by simpa using hgt
                clear hneg hgt
                go_wp2_with fail
                go_ret
                exact ⟨rfl, HBF.out⟩
            · obtain ⟨en, rfl, hen⟩ := epB_nat he
              rw [show ((en : Int)).toNat = en from rfl] at om
              obtain ⟨gm, cm, rfl, _, am⟩ := om.at' (by simp [packL, headL])
              have HAM := Lib.hid am
              have t1 : decide ((en : Int) < 0) = false := by simp
              have t2 : decide ((2147483647 : Int) < (en : Int)) = false := by simp; omega
              have HEN := Lib.hid hen
              clear he om am hen
              go_wp2_with fail
              refine wp_region_held_drew (S := (fun w' => Below wm.heap.size wm w')) (by kernel_rfl) ((Below.refl _ _).drew) (fun hHeld => ?_)
              refine wpAnyH_take (i := 0) (oi := ⟨some 132, _, _, _, _, _⟩) (v := ?vvrd2q1) rfl (by kernel_rfl) (by kernel_rfl) (by kernel_rfl) (fun _ _ _ h => h) (Or.inl ⟨by rfl, ?yyrd2q1⟩) hHeld ?rrrd2q1
              case yyrd2q1 => (intro wq hSw; (try dsimp only at hSw); go_simp; first | done | with_reducible rfl)
              simp only [Act.put, List.setIfInBounds_toArray, List.set_cons_zero, List.set_cons_succ]
              refine wpAnyH_take (i := 1) (oi := ⟨some 133, _, _, _, _, _⟩) (v := ?vvrd2q2) rfl (by kernel_rfl) (by kernel_rfl) (by kernel_rfl) (fun _ _ _ h => h) (Or.inl ⟨by rfl, ?yyrd2q2⟩) hHeld ?rrrd2q2
              case yyrd2q2 => (intro wq hSw; (try dsimp only at hSw); go_simp; first | done | with_reducible rfl)
              simp only [Act.put, List.setIfInBounds_toArray, List.set_cons_zero, List.set_cons_succ]
              refine wpAnyH_take (i := 2) (oi := ⟨some 134, _, _, _, _, _⟩) (v := ?vvrd2q3) rfl (by kernel_rfl) (by kernel_rfl) (by kernel_rfl) (fun _ _ _ h => h) (Or.inl ⟨by rfl, ?yyrd2q3⟩) hHeld ?rrrd2q3
              case yyrd2q3 => (intro wq hSw; (try dsimp only at hSw); go_simp; first | done | with_reducible rfl)
              simp only [Act.put, List.setIfInBounds_toArray, List.set_cons_zero, List.set_cons_succ]
              refine wpAnyH_take (i := 3) (oi := ⟨some 135, _, _, _, _, _⟩) (v := ?vvrd2q4) rfl (by kernel_rfl) (by kernel_rfl) (by kernel_rfl) (fun _ _ _ h => h) (Or.inl ⟨by rfl, ?yyrd2q4⟩) hHeld ?rrrd2q4
              case yyrd2q4 => (intro wq hSw; (try dsimp only at hSw); go_simp; first | done | with_reducible rfl)
              simp only [Act.put, List.setIfInBounds_toArray, List.set_cons_zero, List.set_cons_succ]
              refine wpAnyH_take (i := 5) (oi := ⟨some 137, _, _, _, _, _⟩) (v := ?vvrd2q5) rfl (by kernel_rfl) (by kernel_rfl) (by kernel_rfl) (fun _ _ _ h => h) (Or.inl ⟨by rfl, ?yyrd2q5⟩) hHeld ?rrrd2q5
              case yyrd2q5 => (intro wq hSw; (try dsimp only at hSw); go_simp; first | done | with_reducible rfl)
              simp only [Act.put, List.setIfInBounds_toArray, List.set_cons_zero, List.set_cons_succ]
              refine wpAnyH_ready (rs := [4, 6]) (by kernel_rfl) (by simp) ?_
              refine AllReadyH.cons (o := ⟨some 136, _, _, _, _, _⟩) rfl (fun K hK => ?_) (AllReadyH.cons (o := ⟨some 138, _, _, _, _, _⟩) rfl (fun K hK => ?_) AllReadyH.nil)
              · have hB0 := hHeld
                try dsimp only at hB0
                have hcv := conv_at (c := cm) (HAM.out.below hB0)
                go_simp
                clear hcv
                refine hK.out _ _ ?ssrd2q6 (fun hHeld => ?_)
                case ssrd2q6 => (exact hHeld)
                clear hK K
                try simp only [Act.put, List.setIfInBounds_toArray, List.set_cons_zero, List.set_cons_succ]
                refine wpAnyH_ready (rs := [6]) (by kernel_rfl) (by simp) ?_
                refine AllReadyH.cons (o := ⟨some 138, _, _, _, _, _⟩) rfl (fun K hK => ?_) AllReadyH.nil
                go_simp
                have hB0 := hHeld
                try dsimp only at hB0
                refine (r14mark_any en _ HEN.out).mono ?_
                rintro e xm ⟨v138, rfl, o138, ym⟩
                have hBxm := below_then hB0 ym
                obtain ⟨g13, q13, rfl, _, a13⟩ := o138.at' (by simp [packL, headL])
                have A13 := Lib.hid a13
                clear o138 a13 ym
                go_wp2_with fail
                refine hK.out _ _ ?ssrd2q7 (fun hHeld => ?_)
                case ssrd2q7 => (exact hBxm)
                clear hK K
                try simp only [Act.put, List.setIfInBounds_toArray, List.set_cons_zero, List.set_cons_succ]
                refine wpAnyH_ready (rs := [7]) (by kernel_rfl) (by simp) ?_
                refine AllReadyH.cons (o := ⟨some 139, _, _, _, _, _⟩) rfl (fun K hK => ?_) AllReadyH.nil
                have hcv := conv_at (c := q13) A13.out
                go_simp
                clear hcv
                refine hK.out _ _ ?ssrd2q8 (fun hHeld => ?_)
                case ssrd2q8 => (exact hHeld)
                clear hK K
                try simp only [Act.put, List.setIfInBounds_toArray, List.set_cons_zero, List.set_cons_succ]
                refine wpAnyH_take (i := 8) (oi := ⟨some 140, _, _, _, _, _⟩) (v := ?vvrd2q9) rfl (by kernel_rfl) (by kernel_rfl) (by kernel_rfl) (fun _ _ _ h => h) (Or.inl ⟨by rfl, ?yyrd2q9⟩) hHeld ?rrrd2q9
                case yyrd2q9 => (intro wq hSw; (try dsimp only at hSw); go_simp; first | done | with_reducible rfl)
                simp only [Act.put, List.setIfInBounds_toArray, List.set_cons_zero, List.set_cons_succ]
                refine wpAnyH_take (i := 9) (oi := ⟨some 141, _, _, _, _, _⟩) (v := ?vvrd2q10) rfl (by kernel_rfl) (by kernel_rfl) (by kernel_rfl) (fun _ _ _ h => h) (Or.inl ⟨by rfl, ?yyrd2q10⟩) hHeld ?rrrd2q10
                case yyrd2q10 => (intro wq hSw; (try dsimp only at hSw); go_simp; first | done | with_reducible rfl)
                simp only [Act.put, List.setIfInBounds_toArray, List.set_cons_zero, List.set_cons_succ]
                refine wpAnyH_take (i := 10) (oi := ⟨some 6, _, _, _, _, _⟩) (v := ?vvrd2q11) rfl (by kernel_rfl) (by kernel_rfl) (by kernel_rfl) (fun _ _ _ h => h) (Or.inl ⟨by rfl, ?yyrd2q11⟩) hHeld ?rrrd2q11
                case yyrd2q11 => (intro wq hSw; (try dsimp only at hSw); go_simp; first | done | with_reducible rfl)
                simp only [Act.put, List.setIfInBounds_toArray, List.set_cons_zero, List.set_cons_succ]
                refine wpAnyH_done (by kernel_rfl) ?_ _
                have hF := hHeld
                try dsimp only at hF
                clear hHeld
                go_wp2_with fail
                go_ret
                exact ⟨rfl, HBF.out.trans (hF.mono HBF.out.size)⟩
              · go_simp
                have hB0 := hHeld
                try dsimp only at hB0
                refine (r14mark_any en _ HEN.out).mono ?_
                rintro e xm ⟨v138, rfl, o138, ym⟩
                have hBxm := below_then hB0 ym
                obtain ⟨g13, q13, rfl, _, a13⟩ := o138.at' (by simp [packL, headL])
                have A13 := Lib.hid a13
                clear o138 a13 ym
                go_wp2_with fail
                refine hK.out _ _ ?ssrd2q12 (fun hHeld => ?_)
                case ssrd2q12 => (exact hBxm)
                clear hK K
                try simp only [Act.put, List.setIfInBounds_toArray, List.set_cons_zero, List.set_cons_succ]
                refine wpAnyH_ready (rs := [4, 7]) (by kernel_rfl) (by simp) ?_
                refine AllReadyH.cons (o := ⟨some 136, _, _, _, _, _⟩) rfl (fun K hK => ?_) (AllReadyH.cons (o := ⟨some 139, _, _, _, _, _⟩) rfl (fun K hK => ?_) AllReadyH.nil)
                · have hB0 := hHeld
                  try dsimp only at hB0
                  have hcv := conv_at (c := cm) (HAM.out.below hB0)
                  go_simp
                  clear hcv
                  refine hK.out _ _ ?ssrd2q13 (fun hHeld => ?_)
                  case ssrd2q13 => (exact hHeld)
                  clear hK K
                  try simp only [Act.put, List.setIfInBounds_toArray, List.set_cons_zero, List.set_cons_succ]
                  refine wpAnyH_ready (rs := [7]) (by kernel_rfl) (by simp) ?_
                  refine AllReadyH.cons (o := ⟨some 139, _, _, _, _, _⟩) rfl (fun K hK => ?_) AllReadyH.nil
                  have hcv := conv_at (c := q13) A13.out
                  go_simp
                  clear hcv
                  refine hK.out _ _ ?ssrd2q14 (fun hHeld => ?_)
                  case ssrd2q14 => (exact hHeld)
                  clear hK K
                  try simp only [Act.put, List.setIfInBounds_toArray, List.set_cons_zero, List.set_cons_succ]
                  refine wpAnyH_take (i := 8) (oi := ⟨some 140, _, _, _, _, _⟩) (v := ?vvrd2q15) rfl (by kernel_rfl) (by kernel_rfl) (by kernel_rfl) (fun _ _ _ h => h) (Or.inl ⟨by rfl, ?yyrd2q15⟩) hHeld ?rrrd2q15
                  case yyrd2q15 => (intro wq hSw; (try dsimp only at hSw); go_simp; first | done | with_reducible rfl)
                  simp only [Act.put, List.setIfInBounds_toArray, List.set_cons_zero, List.set_cons_succ]
                  refine wpAnyH_take (i := 9) (oi := ⟨some 141, _, _, _, _, _⟩) (v := ?vvrd2q16) rfl (by kernel_rfl) (by kernel_rfl) (by kernel_rfl) (fun _ _ _ h => h) (Or.inl ⟨by rfl, ?yyrd2q16⟩) hHeld ?rrrd2q16
                  case yyrd2q16 => (intro wq hSw; (try dsimp only at hSw); go_simp; first | done | with_reducible rfl)
                  simp only [Act.put, List.setIfInBounds_toArray, List.set_cons_zero, List.set_cons_succ]
                  refine wpAnyH_take (i := 10) (oi := ⟨some 6, _, _, _, _, _⟩) (v := ?vvrd2q17) rfl (by kernel_rfl) (by kernel_rfl) (by kernel_rfl) (fun _ _ _ h => h) (Or.inl ⟨by rfl, ?yyrd2q17⟩) hHeld ?rrrd2q17
                  case yyrd2q17 => (intro wq hSw; (try dsimp only at hSw); go_simp; first | done | with_reducible rfl)
                  simp only [Act.put, List.setIfInBounds_toArray, List.set_cons_zero, List.set_cons_succ]
                  refine wpAnyH_done (by kernel_rfl) ?_ _
                  have hF := hHeld
                  try dsimp only at hF
                  clear hHeld
                  go_wp2_with fail
                  go_ret
                  exact ⟨rfl, HBF.out.trans (hF.mono HBF.out.size)⟩
                · have hcv := conv_at (c := q13) A13.out
                  go_simp
                  clear hcv
                  refine hK.out _ _ ?ssrd2q18 (fun hHeld => ?_)
                  case ssrd2q18 => (exact hHeld)
                  clear hK K
                  try simp only [Act.put, List.setIfInBounds_toArray, List.set_cons_zero, List.set_cons_succ]
                  refine wpAnyH_ready (rs := [4]) (by kernel_rfl) (by simp) ?_
                  refine AllReadyH.cons (o := ⟨some 136, _, _, _, _, _⟩) rfl (fun K hK => ?_) AllReadyH.nil
                  have hB0 := hHeld
                  try dsimp only at hB0
                  have hcv := conv_at (c := cm) (HAM.out.below hB0)
                  go_simp
                  clear hcv
                  refine hK.out _ _ ?ssrd2q19 (fun hHeld => ?_)
                  case ssrd2q19 => (exact hHeld)
                  clear hK K
                  try simp only [Act.put, List.setIfInBounds_toArray, List.set_cons_zero, List.set_cons_succ]
                  refine wpAnyH_take (i := 8) (oi := ⟨some 140, _, _, _, _, _⟩) (v := ?vvrd2q20) rfl (by kernel_rfl) (by kernel_rfl) (by kernel_rfl) (fun _ _ _ h => h) (Or.inl ⟨by rfl, ?yyrd2q20⟩) hHeld ?rrrd2q20
                  case yyrd2q20 => (intro wq hSw; (try dsimp only at hSw); go_simp; first | done | with_reducible rfl)
                  simp only [Act.put, List.setIfInBounds_toArray, List.set_cons_zero, List.set_cons_succ]
                  refine wpAnyH_take (i := 9) (oi := ⟨some 141, _, _, _, _, _⟩) (v := ?vvrd2q21) rfl (by kernel_rfl) (by kernel_rfl) (by kernel_rfl) (fun _ _ _ h => h) (Or.inl ⟨by rfl, ?yyrd2q21⟩) hHeld ?rrrd2q21
                  case yyrd2q21 => (intro wq hSw; (try dsimp only at hSw); go_simp; first | done | with_reducible rfl)
                  simp only [Act.put, List.setIfInBounds_toArray, List.set_cons_zero, List.set_cons_succ]
                  refine wpAnyH_take (i := 10) (oi := ⟨some 6, _, _, _, _, _⟩) (v := ?vvrd2q22) rfl (by kernel_rfl) (by kernel_rfl) (by kernel_rfl) (fun _ _ _ h => h) (Or.inl ⟨by rfl, ?yyrd2q22⟩) hHeld ?rrrd2q22
                  case yyrd2q22 => (intro wq hSw; (try dsimp only at hSw); go_simp; first | done | with_reducible rfl)
                  simp only [Act.put, List.setIfInBounds_toArray, List.set_cons_zero, List.set_cons_succ]
                  refine wpAnyH_done (by kernel_rfl) ?_ _
                  have hF := hHeld
                  try dsimp only at hF
                  clear hHeld
                  go_wp2_with fail
                  go_ret
                  exact ⟨rfl, HBF.out.trans (hF.mono HBF.out.size)⟩
          · go_simp
            have hB0 := hHeld.1
            try dsimp only at hB0
            refine (r14body_any st a cap ws _ ((HW7.out.below HB11.out).below hB0) HS.out (by have := HSB.out.1; omega) (wrong_bad' HWR.out) HSB.out.2).mono ?_
            rintro e x8 ⟨v108, rfl, o108, y8⟩
            have hBx8 := below_then hB0 y8
            obtain ⟨a8, q8, rfl⟩ := o108.shape
            have O108 := Lib.hid o108
            clear o108 y8
            go_wp2_with fail
            refine hK.out _ _ ?ssrc12 (fun hHeld => ?_)
            case ssrc12 => (exact KR.out _ hBx8)
            clear hK K
            try simp only [Act.put, List.setIfInBounds_toArray, List.set_cons_zero, List.set_cons_succ]
            refine wpAnyH_take (i := 6) (oi := ⟨some 109, _, _, _, _, _⟩) (v := ?vvrc13) rfl (by kernel_rfl) (by kernel_rfl) (by kernel_rfl) (fun _ _ _ h => h) (Or.inl ⟨by rfl, ?yyrc13⟩) hHeld ?rrrc13
            case yyrc13 => (intro wq hSw; (try dsimp only at hSw); go_simp; first | done | with_reducible rfl)
            simp only [Act.put, List.setIfInBounds_toArray, List.set_cons_zero, List.set_cons_succ]
            refine wpAnyH_ready (rs := [3, 7]) (by kernel_rfl) (by simp) ?_
            refine AllReadyH.cons (o := ⟨some 106, _, _, _, _, _⟩) rfl (fun K hK => ?_) (AllReadyH.cons (o := ⟨some 110, _, _, _, _, _⟩) rfl (fun K hK => ?_) AllReadyH.nil)
            · have hB0 := hHeld.1
              try dsimp only at hB0
              have hcv := conv_at (c := c8) (A11.out.below hB0)
              go_simp
              clear hcv
              refine hK.out _ _ ?ssrc14 (fun hHeld => ?_)
              case ssrc14 => (exact hHeld)
              clear hK K
              try simp only [Act.put, List.setIfInBounds_toArray, List.set_cons_zero, List.set_cons_succ]
              refine wpAnyH_ready (rs := [7]) (by kernel_rfl) (by simp) ?_
              refine AllReadyH.cons (o := ⟨some 110, _, _, _, _, _⟩) rfl (fun K hK => ?_) AllReadyH.nil
              go_simp
              have hB0 := hHeld.1
              try dsimp only at hB0
              refine (pack_one a8 q8 (bodyL st ws) _ O108.out.bsV HSB.out.2).mono ?_
              rintro e x9 ⟨v110, rfl, o110, y9⟩
              have hBx9 := below_then hB0 y9
              obtain ⟨g9, q9, rfl, _, a9⟩ := o110.at' (by simp [packL, headL])
              have A9 := Lib.hid a9
              clear o110 a9 y9 O108
              go_wp2_with fail
              refine hK.out _ _ ?ssrc15 (fun hHeld => ?_)
              case ssrc15 => (exact KR.out _ hBx9)
              clear hK K
              try simp only [Act.put, List.setIfInBounds_toArray, List.set_cons_zero, List.set_cons_succ]
              refine wpAnyH_ready (rs := [8]) (by kernel_rfl) (by simp) ?_
              refine AllReadyH.cons (o := ⟨some 111, _, _, _, _, _⟩) rfl (fun K hK => ?_) AllReadyH.nil
              have A9c := A9.out.below (Below.refl _ _)
              have hcv := conv_at (c := q9) A9.out
              go_simp
              clear hcv A9c
              refine hK.out _ _ ?ssrc16 (fun hHeld => ?_)
              case ssrc16 => (exact hHeld)
              clear hK K
              try simp only [Act.put, List.setIfInBounds_toArray, List.set_cons_zero, List.set_cons_succ]
              refine wpAnyH_take (i := 9) (oi := ⟨some 112, _, _, _, _, _⟩) (v := ?vvrc17) rfl (by kernel_rfl) (by kernel_rfl) (by kernel_rfl) (fun _ _ _ h => h) (Or.inl ⟨by rfl, ?yyrc17⟩) hHeld ?rrrc17
              case yyrc17 => (intro wq hSw; (try dsimp only at hSw); go_simp; first | done | with_reducible rfl)
              simp only [Act.put, List.setIfInBounds_toArray, List.set_cons_zero, List.set_cons_succ]
              refine wpAnyH_take (i := 10) (oi := ⟨some 113, _, _, _, _, _⟩) (v := ?vvrc18) rfl (by kernel_rfl) (by kernel_rfl) (by kernel_rfl) (fun _ _ _ h => h) (Or.inl ⟨by rfl, ?yyrc18⟩) hHeld ?rrrc18
              case yyrc18 => (intro wq hSw; (try dsimp only at hSw); go_simp; first | done | with_reducible rfl)
              simp only [Act.put, List.setIfInBounds_toArray, List.set_cons_zero, List.set_cons_succ]
              refine wpAnyH_done (by kernel_rfl) ?_ _
              have hF := below_then HB11.out hHeld.1
              try dsimp only at hF
              clear hHeld
              clear d0 d1
              go_wp2_with fail
              refine (mark_any ep _).mono ?_
              rintro e wm ⟨bm, hor⟩
              have hbm := below_then hF bm
              have HBF : Hid (Below w.heap.size w wm) := Lib.hid (HBW.out.trans ((HBD2.out.trans ((HB7.out.trans (hbm.mono HB7.out.size)).mono HBD2.out.size)).mono HBW.out.size))
              clear hF hbm bm
              rcases hor with ⟨he, rfl⟩ | ⟨he, vm, rfl, om⟩
              · have HE := Lib.hid he
                clear he
                by_cases hneg : ep < 0
                · have t1 : decide (ep < 0) = true := by simpa using hneg
                  go_wp2_with fail
                  go_ret
                  exact ⟨rfl, HBF.out⟩
                · have hgt : 2147483647 < ep := by
                    have := HE.out
                    unfold epB inB at this
                    simp at this
                    omega
                  have t1 : decide (ep < 0) = false := by simpa using hneg
                  have t2 : decide (2147483647 < ep) = true := by simpa using hgt
                  clear hneg hgt
                  go_wp2_with fail
                  go_ret
                  exact ⟨rfl, HBF.out⟩
              · obtain ⟨en, rfl, hen⟩ := epB_nat he
                rw [show ((en : Int)).toNat = en from rfl] at om
                obtain ⟨gm, cm, rfl, _, am⟩ := om.at' (by simp [packL, headL])
                have HAM := Lib.hid am
                have t1 : decide ((en : Int) < 0) = false := by simp
                have t2 : decide ((2147483647 : Int) < (en : Int)) = false := by simp; omega
                have HEN := Lib.hid hen
                clear he om am hen
                go_wp2_with fail
                refine wp_region_held_drew (S := (fun w' => Below wm.heap.size wm w')) (by kernel_rfl) ((Below.refl _ _).drew) (fun hHeld => ?_)
                refine wpAnyH_take (i := 0) (oi := ⟨some 132, _, _, _, _, _⟩) (v := ?vvrd3q1) rfl (by kernel_rfl) (by kernel_rfl) (by kernel_rfl) (fun _ _ _ h => h) (Or.inl ⟨by rfl, ?yyrd3q1⟩) hHeld ?rrrd3q1
                case yyrd3q1 => (intro wq hSw; (try dsimp only at hSw); go_simp; first | done | with_reducible rfl)
                simp only [Act.put, List.setIfInBounds_toArray, List.set_cons_zero, List.set_cons_succ]
                refine wpAnyH_take (i := 1) (oi := ⟨some 133, _, _, _, _, _⟩) (v := ?vvrd3q2) rfl (by kernel_rfl) (by kernel_rfl) (by kernel_rfl) (fun _ _ _ h => h) (Or.inl ⟨by rfl, ?yyrd3q2⟩) hHeld ?rrrd3q2
                case yyrd3q2 => (intro wq hSw; (try dsimp only at hSw); go_simp; first | done | with_reducible rfl)
                simp only [Act.put, List.setIfInBounds_toArray, List.set_cons_zero, List.set_cons_succ]
                refine wpAnyH_take (i := 2) (oi := ⟨some 134, _, _, _, _, _⟩) (v := ?vvrd3q3) rfl (by kernel_rfl) (by kernel_rfl) (by kernel_rfl) (fun _ _ _ h => h) (Or.inl ⟨by rfl, ?yyrd3q3⟩) hHeld ?rrrd3q3
                case yyrd3q3 => (intro wq hSw; (try dsimp only at hSw); go_simp; first | done | with_reducible rfl)
                simp only [Act.put, List.setIfInBounds_toArray, List.set_cons_zero, List.set_cons_succ]
                refine wpAnyH_take (i := 3) (oi := ⟨some 135, _, _, _, _, _⟩) (v := ?vvrd3q4) rfl (by kernel_rfl) (by kernel_rfl) (by kernel_rfl) (fun _ _ _ h => h) (Or.inl ⟨by rfl, ?yyrd3q4⟩) hHeld ?rrrd3q4
                case yyrd3q4 => (intro wq hSw; (try dsimp only at hSw); go_simp; first | done | with_reducible rfl)
                simp only [Act.put, List.setIfInBounds_toArray, List.set_cons_zero, List.set_cons_succ]
                refine wpAnyH_take (i := 5) (oi := ⟨some 137, _, _, _, _, _⟩) (v := ?vvrd3q5) rfl (by kernel_rfl) (by kernel_rfl) (by kernel_rfl) (fun _ _ _ h => h) (Or.inl ⟨by rfl, ?yyrd3q5⟩) hHeld ?rrrd3q5
                case yyrd3q5 => (intro wq hSw; (try dsimp only at hSw); go_simp; first | done | with_reducible rfl)
                simp only [Act.put, List.setIfInBounds_toArray, List.set_cons_zero, List.set_cons_succ]
                refine wpAnyH_ready (rs := [4, 6]) (by kernel_rfl) (by simp) ?_
                refine AllReadyH.cons (o := ⟨some 136, _, _, _, _, _⟩) rfl (fun K hK => ?_) (AllReadyH.cons (o := ⟨some 138, _, _, _, _, _⟩) rfl (fun K hK => ?_) AllReadyH.nil)
                · have hB0 := hHeld
                  try dsimp only at hB0
                  have hcv := conv_at (c := cm) (HAM.out.below hB0)
                  go_simp
                  clear hcv
                  refine hK.out _ _ ?ssrd3q6 (fun hHeld => ?_)
                  case ssrd3q6 => (exact hHeld)
                  clear hK K
                  try simp only [Act.put, List.setIfInBounds_toArray, List.set_cons_zero, List.set_cons_succ]
                  refine wpAnyH_ready (rs := [6]) (by kernel_rfl) (by simp) ?_
                  refine AllReadyH.cons (o := ⟨some 138, _, _, _, _, _⟩) rfl (fun K hK => ?_) AllReadyH.nil
                  go_simp
                  have hB0 := hHeld
                  try dsimp only at hB0
                  refine (r14mark_any en _ HEN.out).mono ?_
                  rintro e xm ⟨v138, rfl, o138, ym⟩
                  have hBxm := below_then hB0 ym
                  obtain ⟨g13, q13, rfl, _, a13⟩ := o138.at' (by simp [packL, headL])
                  have A13 := Lib.hid a13
                  clear o138 a13 ym
                  go_wp2_with fail
                  refine hK.out _ _ ?ssrd3q7 (fun hHeld => ?_)
                  case ssrd3q7 => (exact hBxm)
                  clear hK K
                  try simp only [Act.put, List.setIfInBounds_toArray, List.set_cons_zero, List.set_cons_succ]
                  refine wpAnyH_ready (rs := [7]) (by kernel_rfl) (by simp) ?_
                  refine AllReadyH.cons (o := ⟨some 139, _, _, _, _, _⟩) rfl (fun K hK => ?_) AllReadyH.nil
                  have hcv := conv_at (c := q13) A13.out
                  go_simp
                  clear hcv
                  refine hK.out _ _ ?ssrd3q8 (fun hHeld => ?_)
                  case ssrd3q8 => (exact hHeld)
                  clear hK K
                  try simp only [Act.put, List.setIfInBounds_toArray, List.set_cons_zero, List.set_cons_succ]
                  refine wpAnyH_take (i := 8) (oi := ⟨some 140, _, _, _, _, _⟩) (v := ?vvrd3q9) rfl (by kernel_rfl) (by kernel_rfl) (by kernel_rfl) (fun _ _ _ h => h) (Or.inl ⟨by rfl, ?yyrd3q9⟩) hHeld ?rrrd3q9
                  case yyrd3q9 => (intro wq hSw; (try dsimp only at hSw); go_simp; first | done | with_reducible rfl)
                  simp only [Act.put, List.setIfInBounds_toArray, List.set_cons_zero, List.set_cons_succ]
                  refine wpAnyH_take (i := 9) (oi := ⟨some 141, _, _, _, _, _⟩) (v := ?vvrd3q10) rfl (by kernel_rfl) (by kernel_rfl) (by kernel_rfl) (fun _ _ _ h => h) (Or.inl ⟨by rfl, ?yyrd3q10⟩) hHeld ?rrrd3q10
                  case yyrd3q10 => (intro wq hSw; (try dsimp only at hSw); go_simp; first | done | with_reducible rfl)
                  simp only [Act.put, List.setIfInBounds_toArray, List.set_cons_zero, List.set_cons_succ]
                  refine wpAnyH_take (i := 10) (oi := ⟨some 6, _, _, _, _, _⟩) (v := ?vvrd3q11) rfl (by kernel_rfl) (by kernel_rfl) (by kernel_rfl) (fun _ _ _ h => h) (Or.inl ⟨by rfl, ?yyrd3q11⟩) hHeld ?rrrd3q11
                  case yyrd3q11 => (intro wq hSw; (try dsimp only at hSw); go_simp; first | done | with_reducible rfl)
                  simp only [Act.put, List.setIfInBounds_toArray, List.set_cons_zero, List.set_cons_succ]
                  refine wpAnyH_done (by kernel_rfl) ?_ _
                  have hF := hHeld
                  try dsimp only at hF
                  clear hHeld
                  go_wp2_with fail
                  go_ret
                  exact ⟨rfl, HBF.out.trans (hF.mono HBF.out.size)⟩
                · go_simp
                  have hB0 := hHeld
                  try dsimp only at hB0
                  refine (r14mark_any en _ HEN.out).mono ?_
                  rintro e xm ⟨v138, rfl, o138, ym⟩
                  have hBxm := below_then hB0 ym
                  obtain ⟨g13, q13, rfl, _, a13⟩ := o138.at' (by simp [packL, headL])
                  have A13 := Lib.hid a13
                  clear o138 a13 ym
                  go_wp2_with fail
                  refine hK.out _ _ ?ssrd3q12 (fun hHeld => ?_)
                  case ssrd3q12 => (exact hBxm)
                  clear hK K
                  try simp only [Act.put, List.setIfInBounds_toArray, List.set_cons_zero, List.set_cons_succ]
                  refine wpAnyH_ready (rs := [4, 7]) (by kernel_rfl) (by simp) ?_
                  refine AllReadyH.cons (o := ⟨some 136, _, _, _, _, _⟩) rfl (fun K hK => ?_) (AllReadyH.cons (o := ⟨some 139, _, _, _, _, _⟩) rfl (fun K hK => ?_) AllReadyH.nil)
                  · have hB0 := hHeld
                    try dsimp only at hB0
                    have hcv := conv_at (c := cm) (HAM.out.below hB0)
                    go_simp
                    clear hcv
                    refine hK.out _ _ ?ssrd3q13 (fun hHeld => ?_)
                    case ssrd3q13 => (exact hHeld)
                    clear hK K
                    try simp only [Act.put, List.setIfInBounds_toArray, List.set_cons_zero, List.set_cons_succ]
                    refine wpAnyH_ready (rs := [7]) (by kernel_rfl) (by simp) ?_
                    refine AllReadyH.cons (o := ⟨some 139, _, _, _, _, _⟩) rfl (fun K hK => ?_) AllReadyH.nil
                    have hcv := conv_at (c := q13) A13.out
                    go_simp
                    clear hcv
                    refine hK.out _ _ ?ssrd3q14 (fun hHeld => ?_)
                    case ssrd3q14 => (exact hHeld)
                    clear hK K
                    try simp only [Act.put, List.setIfInBounds_toArray, List.set_cons_zero, List.set_cons_succ]
                    refine wpAnyH_take (i := 8) (oi := ⟨some 140, _, _, _, _, _⟩) (v := ?vvrd3q15) rfl (by kernel_rfl) (by kernel_rfl) (by kernel_rfl) (fun _ _ _ h => h) (Or.inl ⟨by rfl, ?yyrd3q15⟩) hHeld ?rrrd3q15
                    case yyrd3q15 => (intro wq hSw; (try dsimp only at hSw); go_simp; first | done | with_reducible rfl)
                    simp only [Act.put, List.setIfInBounds_toArray, List.set_cons_zero, List.set_cons_succ]
                    refine wpAnyH_take (i := 9) (oi := ⟨some 141, _, _, _, _, _⟩) (v := ?vvrd3q16) rfl (by kernel_rfl) (by kernel_rfl) (by kernel_rfl) (fun _ _ _ h => h) (Or.inl ⟨by rfl, ?yyrd3q16⟩) hHeld ?rrrd3q16
                    case yyrd3q16 => (intro wq hSw; (try dsimp only at hSw); go_simp; first | done | with_reducible rfl)
                    simp only [Act.put, List.setIfInBounds_toArray, List.set_cons_zero, List.set_cons_succ]
                    refine wpAnyH_take (i := 10) (oi := ⟨some 6, _, _, _, _, _⟩) (v := ?vvrd3q17) rfl (by kernel_rfl) (by kernel_rfl) (by kernel_rfl) (fun _ _ _ h => h) (Or.inl ⟨by rfl, ?yyrd3q17⟩) hHeld ?rrrd3q17
                    case yyrd3q17 => (intro wq hSw; (try dsimp only at hSw); go_simp; first | done | with_reducible rfl)
                    simp only [Act.put, List.setIfInBounds_toArray, List.set_cons_zero, List.set_cons_succ]
                    refine wpAnyH_done (by kernel_rfl) ?_ _
                    have hF := hHeld
                    try dsimp only at hF
                    clear hHeld
                    go_wp2_with fail
                    go_ret
                    exact ⟨rfl, HBF.out.trans (hF.mono HBF.out.size)⟩
                  · have hcv := conv_at (c := q13) A13.out
                    go_simp
                    clear hcv
                    refine hK.out _ _ ?ssrd3q18 (fun hHeld => ?_)
                    case ssrd3q18 => (exact hHeld)
                    clear hK K
                    try simp only [Act.put, List.setIfInBounds_toArray, List.set_cons_zero, List.set_cons_succ]
                    refine wpAnyH_ready (rs := [4]) (by kernel_rfl) (by simp) ?_
                    refine AllReadyH.cons (o := ⟨some 136, _, _, _, _, _⟩) rfl (fun K hK => ?_) AllReadyH.nil
                    have hB0 := hHeld
                    try dsimp only at hB0
                    have hcv := conv_at (c := cm) (HAM.out.below hB0)
                    go_simp
                    clear hcv
                    refine hK.out _ _ ?ssrd3q19 (fun hHeld => ?_)
                    case ssrd3q19 => (exact hHeld)
                    clear hK K
                    try simp only [Act.put, List.setIfInBounds_toArray, List.set_cons_zero, List.set_cons_succ]
                    refine wpAnyH_take (i := 8) (oi := ⟨some 140, _, _, _, _, _⟩) (v := ?vvrd3q20) rfl (by kernel_rfl) (by kernel_rfl) (by kernel_rfl) (fun _ _ _ h => h) (Or.inl ⟨by rfl, ?yyrd3q20⟩) hHeld ?rrrd3q20
                    case yyrd3q20 => (intro wq hSw; (try dsimp only at hSw); go_simp; first | done | with_reducible rfl)
                    simp only [Act.put, List.setIfInBounds_toArray, List.set_cons_zero, List.set_cons_succ]
                    refine wpAnyH_take (i := 9) (oi := ⟨some 141, _, _, _, _, _⟩) (v := ?vvrd3q21) rfl (by kernel_rfl) (by kernel_rfl) (by kernel_rfl) (fun _ _ _ h => h) (Or.inl ⟨by rfl, ?yyrd3q21⟩) hHeld ?rrrd3q21
                    case yyrd3q21 => (intro wq hSw; (try dsimp only at hSw); go_simp; first | done | with_reducible rfl)
                    simp only [Act.put, List.setIfInBounds_toArray, List.set_cons_zero, List.set_cons_succ]
                    refine wpAnyH_take (i := 10) (oi := ⟨some 6, _, _, _, _, _⟩) (v := ?vvrd3q22) rfl (by kernel_rfl) (by kernel_rfl) (by kernel_rfl) (fun _ _ _ h => h) (Or.inl ⟨by rfl, ?yyrd3q22⟩) hHeld ?rrrd3q22
                    case yyrd3q22 => (intro wq hSw; (try dsimp only at hSw); go_simp; first | done | with_reducible rfl)
                    simp only [Act.put, List.setIfInBounds_toArray, List.set_cons_zero, List.set_cons_succ]
                    refine wpAnyH_done (by kernel_rfl) ?_ _
                    have hF := hHeld
                    try dsimp only at hF
                    clear hHeld
                    go_wp2_with fail
                    go_ret
                    exact ⟨rfl, HBF.out.trans (hF.mono HBF.out.size)⟩
            · go_simp
              have hB0 := hHeld.1
              try dsimp only at hB0
              refine (pack_one a8 q8 (bodyL st ws) _ O108.out.bsV HSB.out.2).mono ?_
              rintro e x9 ⟨v110, rfl, o110, y9⟩
              have hBx9 := below_then hB0 y9
              obtain ⟨g9, q9, rfl, _, a9⟩ := o110.at' (by simp [packL, headL])
              have A9 := Lib.hid a9
              clear o110 a9 y9 O108
              go_wp2_with fail
              refine hK.out _ _ ?ssrc19 (fun hHeld => ?_)
              case ssrc19 => (exact KR.out _ hBx9)
              clear hK K
              try simp only [Act.put, List.setIfInBounds_toArray, List.set_cons_zero, List.set_cons_succ]
              refine wpAnyH_ready (rs := [3, 8]) (by kernel_rfl) (by simp) ?_
              refine AllReadyH.cons (o := ⟨some 106, _, _, _, _, _⟩) rfl (fun K hK => ?_) (AllReadyH.cons (o := ⟨some 111, _, _, _, _, _⟩) rfl (fun K hK => ?_) AllReadyH.nil)
              · have hB0 := hHeld.1
                try dsimp only at hB0
                have hcv := conv_at (c := c8) (A11.out.below hB0)
                go_simp
                clear hcv
                refine hK.out _ _ ?ssrc20 (fun hHeld => ?_)
                case ssrc20 => (exact hHeld)
                clear hK K
                try simp only [Act.put, List.setIfInBounds_toArray, List.set_cons_zero, List.set_cons_succ]
                refine wpAnyH_ready (rs := [8]) (by kernel_rfl) (by simp) ?_
                refine AllReadyH.cons (o := ⟨some 111, _, _, _, _, _⟩) rfl (fun K hK => ?_) AllReadyH.nil
                have A9c := A9.out.below (Below.refl _ _)
                have hcv := conv_at (c := q9) A9.out
                go_simp
                clear hcv A9c
                refine hK.out _ _ ?ssrc21 (fun hHeld => ?_)
                case ssrc21 => (exact hHeld)
                clear hK K
                try simp only [Act.put, List.setIfInBounds_toArray, List.set_cons_zero, List.set_cons_succ]
                refine wpAnyH_take (i := 9) (oi := ⟨some 112, _, _, _, _, _⟩) (v := ?vvrc22) rfl (by kernel_rfl) (by kernel_rfl) (by kernel_rfl) (fun _ _ _ h => h) (Or.inl ⟨by rfl, ?yyrc22⟩) hHeld ?rrrc22
                case yyrc22 => (intro wq hSw; (try dsimp only at hSw); go_simp; first | done | with_reducible rfl)
                simp only [Act.put, List.setIfInBounds_toArray, List.set_cons_zero, List.set_cons_succ]
                refine wpAnyH_take (i := 10) (oi := ⟨some 113, _, _, _, _, _⟩) (v := ?vvrc23) rfl (by kernel_rfl) (by kernel_rfl) (by kernel_rfl) (fun _ _ _ h => h) (Or.inl ⟨by rfl, ?yyrc23⟩) hHeld ?rrrc23
                case yyrc23 => (intro wq hSw; (try dsimp only at hSw); go_simp; first | done | with_reducible rfl)
                simp only [Act.put, List.setIfInBounds_toArray, List.set_cons_zero, List.set_cons_succ]
                refine wpAnyH_done (by kernel_rfl) ?_ _
                have hF := below_then HB11.out hHeld.1
                try dsimp only at hF
                clear hHeld
                clear d0 d1
                go_wp2_with fail
                refine (mark_any ep _).mono ?_
                rintro e wm ⟨bm, hor⟩
                have hbm := below_then hF bm
                have HBF : Hid (Below w.heap.size w wm) := Lib.hid (HBW.out.trans ((HBD2.out.trans ((HB7.out.trans (hbm.mono HB7.out.size)).mono HBD2.out.size)).mono HBW.out.size))
                clear hF hbm bm
                rcases hor with ⟨he, rfl⟩ | ⟨he, vm, rfl, om⟩
                · have HE := Lib.hid he
                  clear he
                  by_cases hneg : ep < 0
                  · have t1 : decide (ep < 0) = true := by simpa using hneg
                    go_wp2_with fail
                    go_ret
                    exact ⟨rfl, HBF.out⟩
                  · have hgt : 2147483647 < ep := by
                      have := HE.out
                      unfold epB inB at this
                      simp at this
                      omega
                    have t1 : decide (ep < 0) = false := by simpa using hneg
                    have t2 : decide (2147483647 < ep) = true := by simpa using hgt
                    clear hneg hgt
                    go_wp2_with fail
                    go_ret
                    exact ⟨rfl, HBF.out⟩
                · obtain ⟨en, rfl, hen⟩ := epB_nat he
                  rw [show ((en : Int)).toNat = en from rfl] at om
                  obtain ⟨gm, cm, rfl, _, am⟩ := om.at' (by simp [packL, headL])
                  have HAM := Lib.hid am
                  have t1 : decide ((en : Int) < 0) = false := by simp
                  have t2 : decide ((2147483647 : Int) < (en : Int)) = false := by simp; omega
                  have HEN := Lib.hid hen
                  clear he om am hen
                  go_wp2_with fail
                  refine wp_region_held_drew (S := (fun w' => Below wm.heap.size wm w')) (by kernel_rfl) ((Below.refl _ _).drew) (fun hHeld => ?_)
                  refine wpAnyH_take (i := 0) (oi := ⟨some 132, _, _, _, _, _⟩) (v := ?vvrd4q1) rfl (by kernel_rfl) (by kernel_rfl) (by kernel_rfl) (fun _ _ _ h => h) (Or.inl ⟨by rfl, ?yyrd4q1⟩) hHeld ?rrrd4q1
                  case yyrd4q1 => (intro wq hSw; (try dsimp only at hSw); go_simp; first | done | with_reducible rfl)
                  simp only [Act.put, List.setIfInBounds_toArray, List.set_cons_zero, List.set_cons_succ]
                  refine wpAnyH_take (i := 1) (oi := ⟨some 133, _, _, _, _, _⟩) (v := ?vvrd4q2) rfl (by kernel_rfl) (by kernel_rfl) (by kernel_rfl) (fun _ _ _ h => h) (Or.inl ⟨by rfl, ?yyrd4q2⟩) hHeld ?rrrd4q2
                  case yyrd4q2 => (intro wq hSw; (try dsimp only at hSw); go_simp; first | done | with_reducible rfl)
                  simp only [Act.put, List.setIfInBounds_toArray, List.set_cons_zero, List.set_cons_succ]
                  refine wpAnyH_take (i := 2) (oi := ⟨some 134, _, _, _, _, _⟩) (v := ?vvrd4q3) rfl (by kernel_rfl) (by kernel_rfl) (by kernel_rfl) (fun _ _ _ h => h) (Or.inl ⟨by rfl, ?yyrd4q3⟩) hHeld ?rrrd4q3
                  case yyrd4q3 => (intro wq hSw; (try dsimp only at hSw); go_simp; first | done | with_reducible rfl)
                  simp only [Act.put, List.setIfInBounds_toArray, List.set_cons_zero, List.set_cons_succ]
                  refine wpAnyH_take (i := 3) (oi := ⟨some 135, _, _, _, _, _⟩) (v := ?vvrd4q4) rfl (by kernel_rfl) (by kernel_rfl) (by kernel_rfl) (fun _ _ _ h => h) (Or.inl ⟨by rfl, ?yyrd4q4⟩) hHeld ?rrrd4q4
                  case yyrd4q4 => (intro wq hSw; (try dsimp only at hSw); go_simp; first | done | with_reducible rfl)
                  simp only [Act.put, List.setIfInBounds_toArray, List.set_cons_zero, List.set_cons_succ]
                  refine wpAnyH_take (i := 5) (oi := ⟨some 137, _, _, _, _, _⟩) (v := ?vvrd4q5) rfl (by kernel_rfl) (by kernel_rfl) (by kernel_rfl) (fun _ _ _ h => h) (Or.inl ⟨by rfl, ?yyrd4q5⟩) hHeld ?rrrd4q5
                  case yyrd4q5 => (intro wq hSw; (try dsimp only at hSw); go_simp; first | done | with_reducible rfl)
                  simp only [Act.put, List.setIfInBounds_toArray, List.set_cons_zero, List.set_cons_succ]
                  refine wpAnyH_ready (rs := [4, 6]) (by kernel_rfl) (by simp) ?_
                  refine AllReadyH.cons (o := ⟨some 136, _, _, _, _, _⟩) rfl (fun K hK => ?_) (AllReadyH.cons (o := ⟨some 138, _, _, _, _, _⟩) rfl (fun K hK => ?_) AllReadyH.nil)
                  · have hB0 := hHeld
                    try dsimp only at hB0
                    have hcv := conv_at (c := cm) (HAM.out.below hB0)
                    go_simp
                    clear hcv
                    refine hK.out _ _ ?ssrd4q6 (fun hHeld => ?_)
                    case ssrd4q6 => (exact hHeld)
                    clear hK K
                    try simp only [Act.put, List.setIfInBounds_toArray, List.set_cons_zero, List.set_cons_succ]
                    refine wpAnyH_ready (rs := [6]) (by kernel_rfl) (by simp) ?_
                    refine AllReadyH.cons (o := ⟨some 138, _, _, _, _, _⟩) rfl (fun K hK => ?_) AllReadyH.nil
                    go_simp
                    have hB0 := hHeld
                    try dsimp only at hB0
                    refine (r14mark_any en _ HEN.out).mono ?_
                    rintro e xm ⟨v138, rfl, o138, ym⟩
                    have hBxm := below_then hB0 ym
                    obtain ⟨g13, q13, rfl, _, a13⟩ := o138.at' (by simp [packL, headL])
                    have A13 := Lib.hid a13
                    clear o138 a13 ym
                    go_wp2_with fail
                    refine hK.out _ _ ?ssrd4q7 (fun hHeld => ?_)
                    case ssrd4q7 => (exact hBxm)
                    clear hK K
                    try simp only [Act.put, List.setIfInBounds_toArray, List.set_cons_zero, List.set_cons_succ]
                    refine wpAnyH_ready (rs := [7]) (by kernel_rfl) (by simp) ?_
                    refine AllReadyH.cons (o := ⟨some 139, _, _, _, _, _⟩) rfl (fun K hK => ?_) AllReadyH.nil
                    have hcv := conv_at (c := q13) A13.out
                    go_simp
                    clear hcv
                    refine hK.out _ _ ?ssrd4q8 (fun hHeld => ?_)
                    case ssrd4q8 => (exact hHeld)
                    clear hK K
                    try simp only [Act.put, List.setIfInBounds_toArray, List.set_cons_zero, List.set_cons_succ]
                    refine wpAnyH_take (i := 8) (oi := ⟨some 140, _, _, _, _, _⟩) (v := ?vvrd4q9) rfl (by kernel_rfl) (by kernel_rfl) (by kernel_rfl) (fun _ _ _ h => h) (Or.inl ⟨by rfl, ?yyrd4q9⟩) hHeld ?rrrd4q9
                    case yyrd4q9 => (intro wq hSw; (try dsimp only at hSw); go_simp; first | done | with_reducible rfl)
                    simp only [Act.put, List.setIfInBounds_toArray, List.set_cons_zero, List.set_cons_succ]
                    refine wpAnyH_take (i := 9) (oi := ⟨some 141, _, _, _, _, _⟩) (v := ?vvrd4q10) rfl (by kernel_rfl) (by kernel_rfl) (by kernel_rfl) (fun _ _ _ h => h) (Or.inl ⟨by rfl, ?yyrd4q10⟩) hHeld ?rrrd4q10
                    case yyrd4q10 => (intro wq hSw; (try dsimp only at hSw); go_simp; first | done | with_reducible rfl)
                    simp only [Act.put, List.setIfInBounds_toArray, List.set_cons_zero, List.set_cons_succ]
                    refine wpAnyH_take (i := 10) (oi := ⟨some 6, _, _, _, _, _⟩) (v := ?vvrd4q11) rfl (by kernel_rfl) (by kernel_rfl) (by kernel_rfl) (fun _ _ _ h => h) (Or.inl ⟨by rfl, ?yyrd4q11⟩) hHeld ?rrrd4q11
                    case yyrd4q11 => (intro wq hSw; (try dsimp only at hSw); go_simp; first | done | with_reducible rfl)
                    simp only [Act.put, List.setIfInBounds_toArray, List.set_cons_zero, List.set_cons_succ]
                    refine wpAnyH_done (by kernel_rfl) ?_ _
                    have hF := hHeld
                    try dsimp only at hF
                    clear hHeld
                    go_wp2_with fail
                    go_ret
                    exact ⟨rfl, HBF.out.trans (hF.mono HBF.out.size)⟩
                  · go_simp
                    have hB0 := hHeld
                    try dsimp only at hB0
                    refine (r14mark_any en _ HEN.out).mono ?_
                    rintro e xm ⟨v138, rfl, o138, ym⟩
                    have hBxm := below_then hB0 ym
                    obtain ⟨g13, q13, rfl, _, a13⟩ := o138.at' (by simp [packL, headL])
                    have A13 := Lib.hid a13
                    clear o138 a13 ym
                    go_wp2_with fail
                    refine hK.out _ _ ?ssrd4q12 (fun hHeld => ?_)
                    case ssrd4q12 => (exact hBxm)
                    clear hK K
                    try simp only [Act.put, List.setIfInBounds_toArray, List.set_cons_zero, List.set_cons_succ]
                    refine wpAnyH_ready (rs := [4, 7]) (by kernel_rfl) (by simp) ?_
                    refine AllReadyH.cons (o := ⟨some 136, _, _, _, _, _⟩) rfl (fun K hK => ?_) (AllReadyH.cons (o := ⟨some 139, _, _, _, _, _⟩) rfl (fun K hK => ?_) AllReadyH.nil)
                    · have hB0 := hHeld
                      try dsimp only at hB0
                      have hcv := conv_at (c := cm) (HAM.out.below hB0)
                      go_simp
                      clear hcv
                      refine hK.out _ _ ?ssrd4q13 (fun hHeld => ?_)
                      case ssrd4q13 => (exact hHeld)
                      clear hK K
                      try simp only [Act.put, List.setIfInBounds_toArray, List.set_cons_zero, List.set_cons_succ]
                      refine wpAnyH_ready (rs := [7]) (by kernel_rfl) (by simp) ?_
                      refine AllReadyH.cons (o := ⟨some 139, _, _, _, _, _⟩) rfl (fun K hK => ?_) AllReadyH.nil
                      have hcv := conv_at (c := q13) A13.out
                      go_simp
                      clear hcv
                      refine hK.out _ _ ?ssrd4q14 (fun hHeld => ?_)
                      case ssrd4q14 => (exact hHeld)
                      clear hK K
                      try simp only [Act.put, List.setIfInBounds_toArray, List.set_cons_zero, List.set_cons_succ]
                      refine wpAnyH_take (i := 8) (oi := ⟨some 140, _, _, _, _, _⟩) (v := ?vvrd4q15) rfl (by kernel_rfl) (by kernel_rfl) (by kernel_rfl) (fun _ _ _ h => h) (Or.inl ⟨by rfl, ?yyrd4q15⟩) hHeld ?rrrd4q15
                      case yyrd4q15 => (intro wq hSw; (try dsimp only at hSw); go_simp; first | done | with_reducible rfl)
                      simp only [Act.put, List.setIfInBounds_toArray, List.set_cons_zero, List.set_cons_succ]
                      refine wpAnyH_take (i := 9) (oi := ⟨some 141, _, _, _, _, _⟩) (v := ?vvrd4q16) rfl (by kernel_rfl) (by kernel_rfl) (by kernel_rfl) (fun _ _ _ h => h) (Or.inl ⟨by rfl, ?yyrd4q16⟩) hHeld ?rrrd4q16
                      case yyrd4q16 => (intro wq hSw; (try dsimp only at hSw); go_simp; first | done | with_reducible rfl)
                      simp only [Act.put, List.setIfInBounds_toArray, List.set_cons_zero, List.set_cons_succ]
                      refine wpAnyH_take (i := 10) (oi := ⟨some 6, _, _, _, _, _⟩) (v := ?vvrd4q17) rfl (by kernel_rfl) (by kernel_rfl) (by kernel_rfl) (fun _ _ _ h => h) (Or.inl ⟨by rfl, ?yyrd4q17⟩) hHeld ?rrrd4q17
                      case yyrd4q17 => (intro wq hSw; (try dsimp only at hSw); go_simp; first | done | with_reducible rfl)
                      simp only [Act.put, List.setIfInBounds_toArray, List.set_cons_zero, List.set_cons_succ]
                      refine wpAnyH_done (by kernel_rfl) ?_ _
                      have hF := hHeld
                      try dsimp only at hF
                      clear hHeld
                      go_wp2_with fail
                      go_ret
                      exact ⟨rfl, HBF.out.trans (hF.mono HBF.out.size)⟩
                    · have hcv := conv_at (c := q13) A13.out
                      go_simp
                      clear hcv
                      refine hK.out _ _ ?ssrd4q18 (fun hHeld => ?_)
                      case ssrd4q18 => (exact hHeld)
                      clear hK K
                      try simp only [Act.put, List.setIfInBounds_toArray, List.set_cons_zero, List.set_cons_succ]
                      refine wpAnyH_ready (rs := [4]) (by kernel_rfl) (by simp) ?_
                      refine AllReadyH.cons (o := ⟨some 136, _, _, _, _, _⟩) rfl (fun K hK => ?_) AllReadyH.nil
                      have hB0 := hHeld
                      try dsimp only at hB0
                      have hcv := conv_at (c := cm) (HAM.out.below hB0)
                      go_simp
                      clear hcv
                      refine hK.out _ _ ?ssrd4q19 (fun hHeld => ?_)
                      case ssrd4q19 => (exact hHeld)
                      clear hK K
                      try simp only [Act.put, List.setIfInBounds_toArray, List.set_cons_zero, List.set_cons_succ]
                      refine wpAnyH_take (i := 8) (oi := ⟨some 140, _, _, _, _, _⟩) (v := ?vvrd4q20) rfl (by kernel_rfl) (by kernel_rfl) (by kernel_rfl) (fun _ _ _ h => h) (Or.inl ⟨by rfl, ?yyrd4q20⟩) hHeld ?rrrd4q20
                      case yyrd4q20 => (intro wq hSw; (try dsimp only at hSw); go_simp; first | done | with_reducible rfl)
                      simp only [Act.put, List.setIfInBounds_toArray, List.set_cons_zero, List.set_cons_succ]
                      refine wpAnyH_take (i := 9) (oi := ⟨some 141, _, _, _, _, _⟩) (v := ?vvrd4q21) rfl (by kernel_rfl) (by kernel_rfl) (by kernel_rfl) (fun _ _ _ h => h) (Or.inl ⟨by rfl, ?yyrd4q21⟩) hHeld ?rrrd4q21
                      case yyrd4q21 => (intro wq hSw; (try dsimp only at hSw); go_simp; first | done | with_reducible rfl)
                      simp only [Act.put, List.setIfInBounds_toArray, List.set_cons_zero, List.set_cons_succ]
                      refine wpAnyH_take (i := 10) (oi := ⟨some 6, _, _, _, _, _⟩) (v := ?vvrd4q22) rfl (by kernel_rfl) (by kernel_rfl) (by kernel_rfl) (fun _ _ _ h => h) (Or.inl ⟨by rfl, ?yyrd4q22⟩) hHeld ?rrrd4q22
                      case yyrd4q22 => (intro wq hSw; (try dsimp only at hSw); go_simp; first | done | with_reducible rfl)
                      simp only [Act.put, List.setIfInBounds_toArray, List.set_cons_zero, List.set_cons_succ]
                      refine wpAnyH_done (by kernel_rfl) ?_ _
                      have hF := hHeld
                      try dsimp only at hF
                      clear hHeld
                      go_wp2_with fail
                      go_ret
                      exact ⟨rfl, HBF.out.trans (hF.mono HBF.out.size)⟩
              · have A9c := A9.out.below (Below.refl _ _)
                have hcv := conv_at (c := q9) A9.out
                go_simp
                clear hcv A9c
                refine hK.out _ _ ?ssrc24 (fun hHeld => ?_)
                case ssrc24 => (exact hHeld)
                clear hK K
                try simp only [Act.put, List.setIfInBounds_toArray, List.set_cons_zero, List.set_cons_succ]
                refine wpAnyH_ready (rs := [3]) (by kernel_rfl) (by simp) ?_
                refine AllReadyH.cons (o := ⟨some 106, _, _, _, _, _⟩) rfl (fun K hK => ?_) AllReadyH.nil
                have hB0 := hHeld.1
                try dsimp only at hB0
                have hcv := conv_at (c := c8) (A11.out.below hB0)
                go_simp
                clear hcv
                refine hK.out _ _ ?ssrc25 (fun hHeld => ?_)
                case ssrc25 => (exact hHeld)
                clear hK K
                try simp only [Act.put, List.setIfInBounds_toArray, List.set_cons_zero, List.set_cons_succ]
                refine wpAnyH_take (i := 9) (oi := ⟨some 112, _, _, _, _, _⟩) (v := ?vvrc26) rfl (by kernel_rfl) (by kernel_rfl) (by kernel_rfl) (fun _ _ _ h => h) (Or.inl ⟨by rfl, ?yyrc26⟩) hHeld ?rrrc26
                case yyrc26 => (intro wq hSw; (try dsimp only at hSw); go_simp; first | done | with_reducible rfl)
                simp only [Act.put, List.setIfInBounds_toArray, List.set_cons_zero, List.set_cons_succ]
                refine wpAnyH_take (i := 10) (oi := ⟨some 113, _, _, _, _, _⟩) (v := ?vvrc27) rfl (by kernel_rfl) (by kernel_rfl) (by kernel_rfl) (fun _ _ _ h => h) (Or.inl ⟨by rfl, ?yyrc27⟩) hHeld ?rrrc27
                case yyrc27 => (intro wq hSw; (try dsimp only at hSw); go_simp; first | done | with_reducible rfl)
                simp only [Act.put, List.setIfInBounds_toArray, List.set_cons_zero, List.set_cons_succ]
                refine wpAnyH_done (by kernel_rfl) ?_ _
                have hF := below_then HB11.out hHeld.1
                try dsimp only at hF
                clear hHeld
                clear d0 d1
                go_wp2_with fail
                refine (mark_any ep _).mono ?_
                rintro e wm ⟨bm, hor⟩
                have hbm := below_then hF bm
                have HBF : Hid (Below w.heap.size w wm) := Lib.hid (HBW.out.trans ((HBD2.out.trans ((HB7.out.trans (hbm.mono HB7.out.size)).mono HBD2.out.size)).mono HBW.out.size))
                clear hF hbm bm
                rcases hor with ⟨he, rfl⟩ | ⟨he, vm, rfl, om⟩
                · have HE := Lib.hid he
                  clear he
                  by_cases hneg : ep < 0
                  · have t1 : decide (ep < 0) = true := by simpa using hneg
                    go_wp2_with fail
                    go_ret
                    exact ⟨rfl, HBF.out⟩
                  · have hgt : 2147483647 < ep := by
                      have := HE.out
                      unfold epB inB at this
                      simp at this
                      omega
                    have t1 : decide (ep < 0) = false := by simpa using hneg
                    have t2 : decide (2147483647 < ep) = true := by simpa using hgt
                    clear hneg hgt
                    go_wp2_with fail
                    go_ret
                    exact ⟨rfl, HBF.out⟩
                · obtain ⟨en, rfl, hen⟩ := epB_nat he
                  rw [show ((en : Int)).toNat = en from rfl] at om
                  obtain ⟨gm, cm, rfl, _, am⟩ := om.at' (by simp [packL, headL])
                  have HAM := Lib.hid am
                  have t1 : decide ((en : Int) < 0) = false := by simp
                  have t2 : decide ((2147483647 : Int) < (en : Int)) = false := by simp; omega
                  have HEN := Lib.hid hen
                  clear he om am hen
                  go_wp2_with fail
                  refine wp_region_held_drew (S := (fun w' => Below wm.heap.size wm w')) (by kernel_rfl) ((Below.refl _ _).drew) (fun hHeld => ?_)
                  refine wpAnyH_take (i := 0) (oi := ⟨some 132, _, _, _, _, _⟩) (v := ?vvrd5q1) rfl (by kernel_rfl) (by kernel_rfl) (by kernel_rfl) (fun _ _ _ h => h) (Or.inl ⟨by rfl, ?yyrd5q1⟩) hHeld ?rrrd5q1
                  case yyrd5q1 => (intro wq hSw; (try dsimp only at hSw); go_simp; first | done | with_reducible rfl)
                  simp only [Act.put, List.setIfInBounds_toArray, List.set_cons_zero, List.set_cons_succ]
                  refine wpAnyH_take (i := 1) (oi := ⟨some 133, _, _, _, _, _⟩) (v := ?vvrd5q2) rfl (by kernel_rfl) (by kernel_rfl) (by kernel_rfl) (fun _ _ _ h => h) (Or.inl ⟨by rfl, ?yyrd5q2⟩) hHeld ?rrrd5q2
                  case yyrd5q2 => (intro wq hSw; (try dsimp only at hSw); go_simp; first | done | with_reducible rfl)
                  simp only [Act.put, List.setIfInBounds_toArray, List.set_cons_zero, List.set_cons_succ]
                  refine wpAnyH_take (i := 2) (oi := ⟨some 134, _, _, _, _, _⟩) (v := ?vvrd5q3) rfl (by kernel_rfl) (by kernel_rfl) (by kernel_rfl) (fun _ _ _ h => h) (Or.inl ⟨by rfl, ?yyrd5q3⟩) hHeld ?rrrd5q3
                  case yyrd5q3 => (intro wq hSw; (try dsimp only at hSw); go_simp; first | done | with_reducible rfl)
                  simp only [Act.put, List.setIfInBounds_toArray, List.set_cons_zero, List.set_cons_succ]
                  refine wpAnyH_take (i := 3) (oi := ⟨some 135, _, _, _, _, _⟩) (v := ?vvrd5q4) rfl (by kernel_rfl) (by kernel_rfl) (by kernel_rfl) (fun _ _ _ h => h) (Or.inl ⟨by rfl, ?yyrd5q4⟩) hHeld ?rrrd5q4
                  case yyrd5q4 => (intro wq hSw; (try dsimp only at hSw); go_simp; first | done | with_reducible rfl)
                  simp only [Act.put, List.setIfInBounds_toArray, List.set_cons_zero, List.set_cons_succ]
                  refine wpAnyH_take (i := 5) (oi := ⟨some 137, _, _, _, _, _⟩) (v := ?vvrd5q5) rfl (by kernel_rfl) (by kernel_rfl) (by kernel_rfl) (fun _ _ _ h => h) (Or.inl ⟨by rfl, ?yyrd5q5⟩) hHeld ?rrrd5q5
                  case yyrd5q5 => (intro wq hSw; (try dsimp only at hSw); go_simp; first | done | with_reducible rfl)
                  simp only [Act.put, List.setIfInBounds_toArray, List.set_cons_zero, List.set_cons_succ]
                  refine wpAnyH_ready (rs := [4, 6]) (by kernel_rfl) (by simp) ?_
                  refine AllReadyH.cons (o := ⟨some 136, _, _, _, _, _⟩) rfl (fun K hK => ?_) (AllReadyH.cons (o := ⟨some 138, _, _, _, _, _⟩) rfl (fun K hK => ?_) AllReadyH.nil)
                  · have hB0 := hHeld
                    try dsimp only at hB0
                    have hcv := conv_at (c := cm) (HAM.out.below hB0)
                    go_simp
                    clear hcv
                    refine hK.out _ _ ?ssrd5q6 (fun hHeld => ?_)
                    case ssrd5q6 => (exact hHeld)
                    clear hK K
                    try simp only [Act.put, List.setIfInBounds_toArray, List.set_cons_zero, List.set_cons_succ]
                    refine wpAnyH_ready (rs := [6]) (by kernel_rfl) (by simp) ?_
                    refine AllReadyH.cons (o := ⟨some 138, _, _, _, _, _⟩) rfl (fun K hK => ?_) AllReadyH.nil
                    go_simp
                    have hB0 := hHeld
                    try dsimp only at hB0
                    refine (r14mark_any en _ HEN.out).mono ?_
                    rintro e xm ⟨v138, rfl, o138, ym⟩
                    have hBxm := below_then hB0 ym
                    obtain ⟨g13, q13, rfl, _, a13⟩ := o138.at' (by simp [packL, headL])
                    have A13 := Lib.hid a13
                    clear o138 a13 ym
                    go_wp2_with fail
                    refine hK.out _ _ ?ssrd5q7 (fun hHeld => ?_)
                    case ssrd5q7 => (exact hBxm)
                    clear hK K
                    try simp only [Act.put, List.setIfInBounds_toArray, List.set_cons_zero, List.set_cons_succ]
                    refine wpAnyH_ready (rs := [7]) (by kernel_rfl) (by simp) ?_
                    refine AllReadyH.cons (o := ⟨some 139, _, _, _, _, _⟩) rfl (fun K hK => ?_) AllReadyH.nil
                    have hcv := conv_at (c := q13) A13.out
                    go_simp
                    clear hcv
                    refine hK.out _ _ ?ssrd5q8 (fun hHeld => ?_)
                    case ssrd5q8 => (exact hHeld)
                    clear hK K
                    try simp only [Act.put, List.setIfInBounds_toArray, List.set_cons_zero, List.set_cons_succ]
                    refine wpAnyH_take (i := 8) (oi := ⟨some 140, _, _, _, _, _⟩) (v := ?vvrd5q9) rfl (by kernel_rfl) (by kernel_rfl) (by kernel_rfl) (fun _ _ _ h => h) (Or.inl ⟨by rfl, ?yyrd5q9⟩) hHeld ?rrrd5q9
                    case yyrd5q9 => (intro wq hSw; (try dsimp only at hSw); go_simp; first | done | with_reducible rfl)
                    simp only [Act.put, List.setIfInBounds_toArray, List.set_cons_zero, List.set_cons_succ]
                    refine wpAnyH_take (i := 9) (oi := ⟨some 141, _, _, _, _, _⟩) (v := ?vvrd5q10) rfl (by kernel_rfl) (by kernel_rfl) (by kernel_rfl) (fun _ _ _ h => h) (Or.inl ⟨by rfl, ?yyrd5q10⟩) hHeld ?rrrd5q10
                    case yyrd5q10 => (intro wq hSw; (try dsimp only at hSw); go_simp; first | done | with_reducible rfl)
                    simp only [Act.put, List.setIfInBounds_toArray, List.set_cons_zero, List.set_cons_succ]
                    refine wpAnyH_take (i := 10) (oi := ⟨some 6, _, _, _, _, _⟩) (v := ?vvrd5q11) rfl (by kernel_rfl) (by kernel_rfl) (by kernel_rfl) (fun _ _ _ h => h) (Or.inl ⟨by rfl, ?yyrd5q11⟩) hHeld ?rrrd5q11
                    case yyrd5q11 => (intro wq hSw; (try dsimp only at hSw); go_simp; first | done | with_reducible rfl)
                    simp only [Act.put, List.setIfInBounds_toArray, List.set_cons_zero, List.set_cons_succ]
                    refine wpAnyH_done (by kernel_rfl) ?_ _
                    have hF := hHeld
                    try dsimp only at hF
                    clear hHeld
                    go_wp2_with fail
                    go_ret
                    exact ⟨rfl, HBF.out.trans (hF.mono HBF.out.size)⟩
                  · go_simp
                    have hB0 := hHeld
                    try dsimp only at hB0
                    refine (r14mark_any en _ HEN.out).mono ?_
                    rintro e xm ⟨v138, rfl, o138, ym⟩
                    have hBxm := below_then hB0 ym
                    obtain ⟨g13, q13, rfl, _, a13⟩ := o138.at' (by simp [packL, headL])
                    have A13 := Lib.hid a13
                    clear o138 a13 ym
                    go_wp2_with fail
                    refine hK.out _ _ ?ssrd5q12 (fun hHeld => ?_)
                    case ssrd5q12 => (exact hBxm)
                    clear hK K
                    try simp only [Act.put, List.setIfInBounds_toArray, List.set_cons_zero, List.set_cons_succ]
                    refine wpAnyH_ready (rs := [4, 7]) (by kernel_rfl) (by simp) ?_
                    refine AllReadyH.cons (o := ⟨some 136, _, _, _, _, _⟩) rfl (fun K hK => ?_) (AllReadyH.cons (o := ⟨some 139, _, _, _, _, _⟩) rfl (fun K hK => ?_) AllReadyH.nil)
                    · have hB0 := hHeld
                      try dsimp only at hB0
                      have hcv := conv_at (c := cm) (HAM.out.below hB0)
                      go_simp
                      clear hcv
                      refine hK.out _ _ ?ssrd5q13 (fun hHeld => ?_)
                      case ssrd5q13 => (exact hHeld)
                      clear hK K
                      try simp only [Act.put, List.setIfInBounds_toArray, List.set_cons_zero, List.set_cons_succ]
                      refine wpAnyH_ready (rs := [7]) (by kernel_rfl) (by simp) ?_
                      refine AllReadyH.cons (o := ⟨some 139, _, _, _, _, _⟩) rfl (fun K hK => ?_) AllReadyH.nil
                      have hcv := conv_at (c := q13) A13.out
                      go_simp
                      clear hcv
                      refine hK.out _ _ ?ssrd5q14 (fun hHeld => ?_)
                      case ssrd5q14 => (exact hHeld)
                      clear hK K
                      try simp only [Act.put, List.setIfInBounds_toArray, List.set_cons_zero, List.set_cons_succ]
                      refine wpAnyH_take (i := 8) (oi := ⟨some 140, _, _, _, _, _⟩) (v := ?vvrd5q15) rfl (by kernel_rfl) (by kernel_rfl) (by kernel_rfl) (fun _ _ _ h => h) (Or.inl ⟨by rfl, ?yyrd5q15⟩) hHeld ?rrrd5q15
                      case yyrd5q15 => (intro wq hSw; (try dsimp only at hSw); go_simp; first | done | with_reducible rfl)
                      simp only [Act.put, List.setIfInBounds_toArray, List.set_cons_zero, List.set_cons_succ]
                      refine wpAnyH_take (i := 9) (oi := ⟨some 141, _, _, _, _, _⟩) (v := ?vvrd5q16) rfl (by kernel_rfl) (by kernel_rfl) (by kernel_rfl) (fun _ _ _ h => h) (Or.inl ⟨by rfl, ?yyrd5q16⟩) hHeld ?rrrd5q16
                      case yyrd5q16 => (intro wq hSw; (try dsimp only at hSw); go_simp; first | done | with_reducible rfl)
                      simp only [Act.put, List.setIfInBounds_toArray, List.set_cons_zero, List.set_cons_succ]
                      refine wpAnyH_take (i := 10) (oi := ⟨some 6, _, _, _, _, _⟩) (v := ?vvrd5q17) rfl (by kernel_rfl) (by kernel_rfl) (by kernel_rfl) (fun _ _ _ h => h) (Or.inl ⟨by rfl, ?yyrd5q17⟩) hHeld ?rrrd5q17
                      case yyrd5q17 => (intro wq hSw; (try dsimp only at hSw); go_simp; first | done | with_reducible rfl)
                      simp only [Act.put, List.setIfInBounds_toArray, List.set_cons_zero, List.set_cons_succ]
                      refine wpAnyH_done (by kernel_rfl) ?_ _
                      have hF := hHeld
                      try dsimp only at hF
                      clear hHeld
                      go_wp2_with fail
                      go_ret
                      exact ⟨rfl, HBF.out.trans (hF.mono HBF.out.size)⟩
                    · have hcv := conv_at (c := q13) A13.out
                      go_simp
                      clear hcv
                      refine hK.out _ _ ?ssrd5q18 (fun hHeld => ?_)
                      case ssrd5q18 => (exact hHeld)
                      clear hK K
                      try simp only [Act.put, List.setIfInBounds_toArray, List.set_cons_zero, List.set_cons_succ]
                      refine wpAnyH_ready (rs := [4]) (by kernel_rfl) (by simp) ?_
                      refine AllReadyH.cons (o := ⟨some 136, _, _, _, _, _⟩) rfl (fun K hK => ?_) AllReadyH.nil
                      have hB0 := hHeld
                      try dsimp only at hB0
                      have hcv := conv_at (c := cm) (HAM.out.below hB0)
                      go_simp
                      clear hcv
                      refine hK.out _ _ ?ssrd5q19 (fun hHeld => ?_)
                      case ssrd5q19 => (exact hHeld)
                      clear hK K
                      try simp only [Act.put, List.setIfInBounds_toArray, List.set_cons_zero, List.set_cons_succ]
                      refine wpAnyH_take (i := 8) (oi := ⟨some 140, _, _, _, _, _⟩) (v := ?vvrd5q20) rfl (by kernel_rfl) (by kernel_rfl) (by kernel_rfl) (fun _ _ _ h => h) (Or.inl ⟨by rfl, ?yyrd5q20⟩) hHeld ?rrrd5q20
                      case yyrd5q20 => (intro wq hSw; (try dsimp only at hSw); go_simp; first | done | with_reducible rfl)
                      simp only [Act.put, List.setIfInBounds_toArray, List.set_cons_zero, List.set_cons_succ]
                      refine wpAnyH_take (i := 9) (oi := ⟨some 141, _, _, _, _, _⟩) (v := ?vvrd5q21) rfl (by kernel_rfl) (by kernel_rfl) (by kernel_rfl) (fun _ _ _ h => h) (Or.inl ⟨by rfl, ?yyrd5q21⟩) hHeld ?rrrd5q21
                      case yyrd5q21 => (intro wq hSw; (try dsimp only at hSw); go_simp; first | done | with_reducible rfl)
                      simp only [Act.put, List.setIfInBounds_toArray, List.set_cons_zero, List.set_cons_succ]
                      refine wpAnyH_take (i := 10) (oi := ⟨some 6, _, _, _, _, _⟩) (v := ?vvrd5q22) rfl (by kernel_rfl) (by kernel_rfl) (by kernel_rfl) (fun _ _ _ h => h) (Or.inl ⟨by rfl, ?yyrd5q22⟩) hHeld ?rrrd5q22
                      case yyrd5q22 => (intro wq hSw; (try dsimp only at hSw); go_simp; first | done | with_reducible rfl)
                      simp only [Act.put, List.setIfInBounds_toArray, List.set_cons_zero, List.set_cons_succ]
                      refine wpAnyH_done (by kernel_rfl) ?_ _
                      have hF := hHeld
                      try dsimp only at hF
                      clear hHeld
                      go_wp2_with fail
                      go_ret
                      exact ⟨rfl, HBF.out.trans (hF.mono HBF.out.size)⟩
end Go.Proofs.Ytcghgnncmnoalaa
