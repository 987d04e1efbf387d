/- Records and writes in plain form and in memory; redo.in, odd; cobwebref14.in. Conditions: each contract's own premises. redo.wrong. Conditions: each contract's own premises. cobwebref14.Right; redo.Right; what is small. Conditions: each contract's own premises. Records in memory; redo.Right; what is small. Conditions: each contract's own premises. -/
import Derived.Test.YtcghgnncmnoalaaBk7
import Derived.Test.YtcghgnncmnoalaaKyA
namespace Go.Proofs.Ytcghgnncmnoalaa
open Go.RowKit Go.Maps

/-- a write -/
structure Wr where
  k : Ky
  val : ByteArray
  has : Bool
def Wr.cells (w : Wr) : List Value := [.int .i64 w.k.kind, .int .i64 w.k.a, .int .i64 w.k.b, .string w.k.s, .string w.val, .bool w.has]
structure Wr.Ok (w : Wr) : Prop where
  k : w.k.Ok
  val : w.val.size ≤ maxLen
/-- writes in memory, one behind the other -/
structure WsAt (w : World) (b off : Nat) (ws : List Wr) : Prop where
  cells : ∀ (i : Nat) (x : Wr), ws[i]? = some x → x.Ok ∧ ∀ (j : Nat) (v : Value), x.cells[j]? = some v → w.cell? ⟨b, off + i * 6 + j, none⟩ = some v
  lt : b < w.heap.size
def WsV (w : World) (a : Option Addr) (ws : List Wr) : Prop := ws ≠ [] → ∃ b off, a = some ⟨b, off, none⟩ ∧ WsAt w b off ws
theorem WsAt.of_block {w w' : World} {b off : Nat} {ws : List Wr} (h : WsAt w b off ws) (hb : w'.heap[b]? = w.heap[b]?) : WsAt w' b off ws :=
  ⟨fun i x hx => ⟨(h.cells i x hx).1, fun j v hv => (World.cell?_of_block (a := ⟨b, off + i * 6 + j, none⟩) hb).trans ((h.cells i x hx).2 j v hv)⟩, (Array.getElem?_eq_some_iff.1 (hb.trans (Array.getElem?_eq_getElem h.lt))).1⟩
theorem WsAt.below {w w' : World} {b off : Nat} {ws : List Wr} (h : WsAt w b off ws) (hb : Below w.heap.size w w') : WsAt w' b off ws := h.of_block (hb.block b h.lt)
theorem WsV.below {w w' : World} {a : Option Addr} {ws : List Wr} (h : WsV w a ws) (hb : Below w.heap.size w w') : WsV w' a ws := fun hn => by
  obtain ⟨b, off, e, hat⟩ := h hn
  exact ⟨b, off, e, hat.below hb⟩
/-- the cells of one write -/
theorem WsAt.six {w : World} {b off : Nat} {ws : List Wr} (h : WsAt w b off ws) {i : Nat} {x : Wr} (hx : ws[i]? = some x) :
    w.cell? ⟨b, off + i * 6, none⟩ = some (.int .i64 x.k.kind) ∧ w.cell? ⟨b, off + i * 6 + 1, none⟩ = some (.int .i64 x.k.a) ∧ w.cell? ⟨b, off + i * 6 + 2, none⟩ = some (.int .i64 x.k.b) ∧
    w.cell? ⟨b, off + i * 6 + 3, none⟩ = some (.string x.k.s) ∧ w.cell? ⟨b, off + i * 6 + 4, none⟩ = some (.string x.val) ∧ w.cell? ⟨b, off + i * 6 + 5, none⟩ = some (.bool x.has) := by
  have e := (h.cells i x hx).2
  exact ⟨e 0 _ rfl, e 1 _ rfl, e 2 _ rfl, e 3 _ rfl, e 4 _ rfl, e 5 _ rfl⟩

def inB (n t : Int) : Bool := decide (0 ≤ n) && decide (n ≤ t)
theorem in_any (n t : Int) (w : World) : Calls Try.prog 87 #[.int .i64 n, .int .i64 t] w fun e w' => e = .returned (.bool (inB n t)) ∧ w' = w := by
  unfold inB
  by_cases h : 0 ≤ n
  · have h1 : decide (0 ≤ n) = true := by simpa using h
    rw [h1]
    go_enter Try.func87, Try.ntmps87
    go_wp2
    go_ret
    exact ⟨rfl, rfl⟩
  · have h1 : decide (0 ≤ n) = false := by simpa using h
    rw [h1]
    go_enter Try.func87, Try.ntmps87
    go_wp2
    go_ret
    exact ⟨rfl, rfl⟩
theorem r14in_any (n t : Int) (w : World) : Calls Try.prog 94 #[.int .i64 n, .int .i64 t] w fun e w' => e = .returned (.bool (inB n t)) ∧ w' = w := by
  unfold inB
  by_cases h : 0 ≤ n
  · have h1 : decide (0 ≤ n) = true := by simpa using h
    rw [h1]
    go_enter Try.func94, Try.ntmps94
    go_wp2
    go_ret
    exact ⟨rfl, rfl⟩
  · have h1 : decide (0 ≤ n) = false := by simpa using h
    rw [h1]
    go_enter Try.func94, Try.ntmps94
    go_wp2
    go_ret
    exact ⟨rfl, rfl⟩
/-- a write's numbers or texts are too great -/
def Wr.big (w : Wr) : Bool := !inB w.k.kind 255 || (!inB w.k.a 1099511627775 || (!inB w.k.b 1099511627775 || (decide (65535 < w.k.s.size) || decide (65535 < w.val.size))))
/-- a text where there is none -/
def Wr.mute (w : Wr) : Bool := !w.has && decide (w.val.size ≠ 0)
def Wr.odd (w : Wr) : Bool := w.big || w.mute
def OddPost (w : World) (x : Wr) (e : Ending) (w' : World) : Prop := e = .returned (.bool x.odd) ∧ Below w.heap.size w w'
theorem size0 {s : ByteArray} : (s.toList == ([] : List UInt8)) = decide (s.size = 0) := by
  rw [ByteArray.toList_eq]
  cases hd : s.data.toList with
  | nil =>
    have h2 : s.size = 0 := by rw [show s.size = s.data.toList.length from rfl, hd]; rfl
    rw [h2]; rfl
  | cons a t =>
    have h2 : s.size ≠ 0 := by rw [show s.size = s.data.toList.length from rfl, hd]; simp
    simp [h2]
theorem ba_empty {s : ByteArray} (h : s.size = 0) : s = ⟨#[]⟩ := by
  apply ByteArray.ext
  apply Array.ext'
  exact List.eq_nil_of_length_eq_zero h
set_option maxRecDepth 100000 in
set_option maxHeartbeats 2000000 in
theorem odd_any (x : Wr) (w : World) : Calls Try.prog 127 #[.agg #[.int .i64 x.k.kind, .int .i64 x.k.a, .int .i64 x.k.b, .string x.k.s, .string x.val, .bool x.has]] w (OddPost w x) := by
  obtain ⟨⟨kd, ka, kb, ks⟩, val, has⟩ := x
  obtain ⟨R, hR⟩ : ∃ r, (⟨⟨kd, ka, kb, ks⟩, val, has⟩ : Wr).odd = r := ⟨_, rfl⟩
  have hO : R = ((!inB kd 255 || (!inB ka 1099511627775 || (!inB kb 1099511627775 || (decide (65535 < ks.size) || decide (65535 < val.size))))) || (!has && decide (val.size ≠ 0))) := by rw [← hR]; rfl
  obtain ⟨q1, h1⟩ : ∃ q, inB kd 255 = q := ⟨_, rfl⟩
  obtain ⟨q2, h2⟩ : ∃ q, inB ka 1099511627775 = q := ⟨_, rfl⟩
  obtain ⟨q3, h3⟩ : ∃ q, inB kb 1099511627775 = q := ⟨_, rfl⟩
  rw [h1, h2, h3] at hO
  have HO := Lib.hid hO
  have H1 := Lib.hid h1
  have H2 := Lib.hid h2
  have H3 := Lib.hid h3
  have HP : Hid (∀ w', Below w.heap.size w w' → OddPost w ⟨⟨kd, ka, kb, ks⟩, val, has⟩ (.returned (.bool R)) w') := Lib.hid (fun w' hb => ⟨by rw [hR], hb⟩)
  have BB := Lib.hid (show Below w.heap.size w ((w.alloc (.cells #[.int .i64 kd, .int .i64 ka, .int .i64 kb, .string ks, .string val, .bool has] 80)).alloc (.cells #[.int .i64 kd, .int .i64 ka, .int .i64 kb, .string ks] 62)) from below_al (below_box w _) _)
  clear hO h1 h2 h3 hR
  go_enter Try.func127, Try.ntmps127
  go_wp2_with fail
  refine (in_any _ _ _).mono ?_
  rintro e w1 ⟨rfl, rfl⟩
  rw [H1.out]
  cases q1
  · have hr : R = true := by rw [HO.out]; rfl
    subst hr
    go_wp2_with fail
    go_ret
    exact HP.out _ BB.out
  · go_wp2_with fail
    refine (in_any _ _ _).mono ?_
    rintro e w1 ⟨rfl, rfl⟩
    rw [H2.out]
    cases q2
    · have hr : R = true := by rw [HO.out]; rfl
      subst hr
      go_wp2_with fail
      go_ret
      exact HP.out _ BB.out
    · go_wp2_with fail
      refine (in_any _ _ _).mono ?_
      rintro e w1 ⟨rfl, rfl⟩
      rw [H3.out]
      cases q3
      · have hr : R = true := by rw [HO.out]; rfl
        subst hr
        go_wp2_with fail
        go_ret
        exact HP.out _ BB.out
      · by_cases h4 : 65535 < ks.size
        · have hr : R = true := by rw [HO.out, decide_eq_true h4]; rfl
          have t4 : decide ((65535 : Int) < (ks.size : Int)) = true := decide_eq_true (by omega)
          subst hr
          go_wp2_with fail
          go_ret
          exact HP.out _ BB.out
        · by_cases h5 : 65535 < val.size
          · have hr : R = true := by rw [HO.out, decide_eq_true h5, decide_eq_false h4]; rfl
            have t4 : decide ((65535 : Int) < (ks.size : Int)) = false := decide_eq_false (by omega)
            have t5 : decide ((65535 : Int) < (val.size : Int)) = true := decide_eq_true (by omega)
            subst hr
            go_wp2_with fail
            go_ret
            exact HP.out _ BB.out
          · have t4 : decide ((65535 : Int) < (ks.size : Int)) = false := decide_eq_false (by omega)
            have t5 : decide ((65535 : Int) < (val.size : Int)) = false := decide_eq_false (by omega)
            by_cases h6 : val.size = 0
            · have hr : R = false := by rw [HO.out, decide_eq_false h5, decide_eq_false h4, decide_eq_false (not_not_intro h6)]; cases has <;> rfl
              have hv : val = ⟨#[]⟩ := ba_empty h6
              subst hr
              subst hv
              clear h6 t5
              go_wp2_with fail
              go_ret
              exact HP.out _ BB.out
            · have he : (val.toList == ([] : List UInt8)) = false := by rw [size0, decide_eq_false h6]
              cases has
              · have hr : R = true := by rw [HO.out, decide_eq_false h5, decide_eq_false h4, decide_eq_true h6]; rfl
                subst hr
                clear h6
                go_wp2_with fail
                go_ret
                exact HP.out _ BB.out
              · have hr : R = false := by rw [HO.out, decide_eq_false h5, decide_eq_false h4]; rfl
                subst hr
                clear h6
                go_wp2_with fail
                go_ret
                exact HP.out _ BB.out
end Go.Proofs.Ytcghgnncmnoalaa
namespace Go.Proofs.Ytcghgnncmnoalaa
open Go.RowKit Go.Maps

/-- a record -/
structure Rc where
  stamp : Nat
  ws : List Wr
/-- is a write wrong, behind a key? -/
def lateW (o : Option Ky) (k : Ky) : Bool := match o with | none => false | some p => decide (0 ≤ p.cmp k)
def badWs : List Wr → Option Ky → Bool
  | [], _ => false
  | x :: r, o => (x.odd || lateW o x.k) || badWs r (some x.k)
def prevK (ws : List Wr) (k : Nat) : Option Ky := if k = 0 then none else (ws[k - 1]?).map (·.k)
def Rc.wrong (r : Rc) : Bool := badWs r.ws none || (decide (r.stamp = 0) || decide (4611686018427387904 ≤ r.stamp) || decide (65535 < r.ws.length))
theorem badWs_drop {ws : List Wr} {k : Nat} {x : Wr} (hx : ws[k]? = some x) : badWs (ws.drop k) (prevK ws k) = ((x.odd || lateW (prevK ws k) x.k) || badWs (ws.drop (k + 1)) (prevK ws (k + 1))) := by
  obtain ⟨hk, rfl⟩ := List.getElem?_eq_some_iff.1 hx
  rw [List.drop_eq_getElem_cons hk]
  show (_ || badWs _ (some _)) = _
  congr 2
  unfold prevK
  rw [if_neg (by omega), Nat.add_sub_cancel, hx]
  rfl
theorem stamp_num' (n : Nat) (w : World) (h : n < 18446744073709551616) : Calls Try.prog 128 #[.int .u64 n] w fun e w' => e = .returned (.int .u64 ((n % 4611686018427387904 : Nat) : Int)) ∧ w' = w := by
  have hb := Lib.hid (bits_stamp n h)
  clear h
  go_enter Try.func128, Try.ntmps128
  go_wp2
  go_ret
  exact ⟨by rw [hb.out]; rfl, rfl⟩
def BoolPost (w : World) (b : Bool) (e : Ending) (w' : World) : Prop := e = .returned (.bool b) ∧ Below w.heap.size w w'
set_option maxRecDepth 100000 in
set_option maxHeartbeats 4000000 in
theorem wrong_any (st : Nat) (a : Option Addr) (cap : Nat) (ws : List Wr) (w : World) (h : WsV w a ws) (hs : st < 18446744073709551616) (hl : ws.length ≤ 1000000) :
    Calls Try.prog 84 #[.agg #[.int .u64 st, .slice a ws.length cap]] w (BoolPost w (Rc.wrong ⟨st, ws⟩)) := by
  obtain ⟨R, hR⟩ : ∃ r, Rc.wrong ⟨st, ws⟩ = r := ⟨_, rfl⟩
  have hO : R = (badWs ws none || (decide (st = 0) || decide (4611686018427387904 ≤ st) || decide (65535 < ws.length))) := by rw [← hR]; rfl
  rw [hR]
  have HO := Lib.hid hO
  obtain ⟨W, hW⟩ : ∃ W, W = w.alloc (.cells #[.int .u64 st, .slice a ws.length cap] 35) := ⟨_, rfl⟩
  have hBW : Below w.heap.size w W := by rw [hW]; exact below_box w _
  have eW : W.heap[w.heap.size]? = some (.cells #[.int .u64 st, .slice a ws.length cap] 35) := by rw [hW]; exact heap_new w _
  have HEW := Lib.hid eW
  have HBW := Lib.hid hBW
  have HW := Lib.hid hW
  have HWS := Lib.hid (h.below hBW)
  have hlw : w.heap.size < W.heap.size := by rw [hW]; simp
  have HLW := Lib.hid hlw
  have g0 := cell_of_blk eW 0
  have g1 := cell_of_blk eW 1
  simp at g0 g1
  clear hO hR hW hBW eW h
  go_enter Try.func84, Try.ntmps84
  go_upto_region 1 with fail
  rw [← HW.out]
  go_wp2_with fail
  clear g0 g1 hlw
  go_loopw [8] (fun i wr => ∃ k : Nat, k ≤ ws.length ∧ i = .int .i64 k ∧ Hid (badWs ws none = badWs (ws.drop k) (prevK ws k)) ∧ Below W.heap.size W wr) (fun i _ => ws.length - (intOf i).toNat)
  case atStart => exact ⟨0, by omega, rfl, Lib.hid rfl, Below.refl _ _⟩
  case round =>
    obtain ⟨k, hk, rfl, HI, hbr⟩ := hrel
    have er := (hbr.block _ HLW.out).trans HEW.out
    have HBR := Lib.hid hbr
    by_cases hlt : k < ws.length
    · obtain ⟨x, hx⟩ : ∃ x, ws[k]? = some x := ⟨_, List.getElem?_eq_getElem hlt⟩
      obtain ⟨b, off, rfl, hat⟩ := HWS.out (fun e => by rw [e] at hlt; simp at hlt)
      have HAR := Lib.hid (hat.below hbr)
      obtain ⟨c0, c1, c2, c3, c4, c5⟩ := (hat.below hbr).six hx
      have hD := badWs_drop hx
      have hI := HI.out
      rw [hD] at hI
      obtain ⟨⟨⟨kd, ka, kb, ks⟩, val, has⟩, hxx⟩ : ∃ y, y = x := ⟨_, rfl⟩
      subst hxx
      simp only [] at c0 c1 c2 c3 c4 c5
      have HX := Lib.hid hx
      obtain ⟨V, hV⟩ : ∃ V, V = wr.alloc (.cells #[.int .i64 kd, .int .i64 ka, .int .i64 kb, .string ks, .string val, .bool has] 80) := ⟨_, rfl⟩
      have eV : V.heap[wr.heap.size]? = some (.cells #[.int .i64 kd, .int .i64 ka, .int .i64 kb, .string ks, .string val, .bool has] 80) := by rw [hV]; exact heap_new wr _
      have bV : Below wr.heap.size wr V := by rw [hV]; exact below_box wr _
      have zV : V.heap.size = wr.heap.size + 1 := by rw [hV]; simp
      have HV := Lib.hid hV
      have HBV := Lib.hid (below_then hbr bV)
      have erV := (bV.block _ (Nat.lt_of_lt_of_le HLW.out hbr.size)).trans er
      have hatV := (HAR.out.below bV)
      have c1k : ∀ p, ws[k - 1]? = some p → V.cell? ⟨b, off + (k - 1) * 6, none⟩ = some (.int .i64 p.k.kind) ∧ V.cell? ⟨b, off + (k - 1) * 6 + 1, none⟩ = some (.int .i64 p.k.a) ∧ V.cell? ⟨b, off + (k - 1) * 6 + 2, none⟩ = some (.int .i64 p.k.b) ∧ V.cell? ⟨b, off + (k - 1) * 6 + 3, none⟩ = some (.string p.k.s) := fun p hp => by
        obtain ⟨d0, d1, d2, d3, _, _⟩ := hatV.six hp
        exact ⟨d0, d1, d2, d3⟩
      have C1K := Lib.hid c1k
      have hbl : b < V.heap.size := hatV.lt
      obtain ⟨q1, h1⟩ : ∃ q, (⟨⟨kd, ka, kb, ks⟩, val, has⟩ : Wr).odd = q := ⟨_, rfl⟩
      rw [h1] at hI
      have H1 := Lib.hid h1
      have ks1 : ∀ w', Below V.heap.size V w' → (fun w' => Below V.heap.size V w' ∧ w'.cell? ⟨wr.heap.size, 0, none⟩ = some (.int .i64 kd) ∧ w'.cell? ⟨wr.heap.size, 1, none⟩ = some (.int .i64 ka) ∧ w'.cell? ⟨wr.heap.size, 2, none⟩ = some (.int .i64 kb) ∧ w'.cell? ⟨wr.heap.size, 3, none⟩ = some (.string ks) ∧ w'.cell? ⟨wr.heap.size, 4, none⟩ = some (.string val) ∧ w'.cell? ⟨wr.heap.size, 5, none⟩ = some (.bool has)) w' := fun w' hb => by
        have e := (hb.block _ (by omega)).trans eV
        exact ⟨hb, by rw [cell_of_blk e]; rfl, by rw [cell_of_blk e]; rfl, by rw [cell_of_blk e]; rfl, by rw [cell_of_blk e]; rfl, by rw [cell_of_blk e]; rfl, by rw [cell_of_blk e]; rfl⟩
      have KS := Lib.hid ks1
      cases q1
      · by_cases hk0 : k = 0
        · have HN : Hid (badWs ws none = badWs (ws.drop (k + 1)) (prevK ws (k + 1))) := Lib.hid (by rw [hI]; simp [prevK, hk0, lateW])
          subst hk0
          simp only [Nat.zero_mul, Nat.add_zero] at c0 c1 c2 c3 c4 c5
          clear hI hD HI h1 ks1 c1k hx hat hatV hV eV er erV
          go_wp2_with fail
          rw [← HV.out]
          clear c0 c1 c2 c3 c4 c5
          refine wp_region_held_drew (S := (fun w' => Below V.heap.size V w' ∧ w'.cell? ⟨wr.heap.size, 0, none⟩ = some (.int .i64 kd) ∧ w'.cell? ⟨wr.heap.size, 1, none⟩ = some (.int .i64 ka) ∧ w'.cell? ⟨wr.heap.size, 2, none⟩ = some (.int .i64 kb) ∧ w'.cell? ⟨wr.heap.size, 3, none⟩ = some (.string ks) ∧ w'.cell? ⟨wr.heap.size, 4, none⟩ = some (.string val) ∧ w'.cell? ⟨wr.heap.size, 5, none⟩ = some (.bool has))) (by kernel_rfl) (KS.out _ (Below.refl _ _).drew) (fun hHeld => ?_)
          refine wpAnyH_take (i := 0) (oi := ⟨some 13, _, _, _, _, _⟩) (v := ?vva1) rfl (by kernel_rfl) (by kernel_rfl) (by kernel_rfl) (fun _ _ _ h => h) (Or.inl ⟨by rfl, ?yya1⟩) hHeld ?rra1
          case yya1 => (intro wq hSw; (try dsimp only at hSw); go_simp; first | done | with_reducible rfl)
          simp only [Act.put, List.setIfInBounds_toArray, List.set_cons_zero, List.set_cons_succ]
          refine wpAnyH_ready (rs := [1]) (by kernel_rfl) (by simp) ?_
          refine AllReadyH.cons (o := ⟨some 14, _, _, _, _, _⟩) rfl (fun K hK => ?_) AllReadyH.nil
          go_simp
          refine (odd_any ⟨⟨kd, ka, kb, ks⟩, val, has⟩ _).mono ?_
          rintro e w3 ⟨rfl, b3⟩
          rw [H1.out]
          have hB3 := below_then hHeld.1 b3
          clear b3
          go_wp2_with fail
          refine hK.out _ _ ?ssa2 (fun hHeld => ?_)
          case ssa2 => (exact KS.out _ hB3)
          clear hK K
          try simp only [Act.put, List.setIfInBounds_toArray, List.set_cons_zero, List.set_cons_succ]
          refine wpAnyH_take (i := 2) (oi := ⟨some 15, _, _, _, _, _⟩) (v := ?vva3) rfl (by kernel_rfl) (by kernel_rfl) (by kernel_rfl) (fun _ _ _ h => h) (Or.inl ⟨by rfl, ?yya3⟩) hHeld ?rra3
          case yya3 => (intro wq hSw; (try dsimp only at hSw); go_simp; first | done | with_reducible rfl)
          simp only [Act.put, List.setIfInBounds_toArray, List.set_cons_zero, List.set_cons_succ]
          refine wpAnyH_take (i := 3) (oi := ⟨some 16, _, _, _, _, _⟩) (v := ?vva4) rfl (by kernel_rfl) (by kernel_rfl) (by kernel_rfl) (fun _ _ _ h => h) (Or.inl ⟨by rfl, ?yya4⟩) hHeld ?rra4
          case yya4 => (intro wq hSw; (try dsimp only at hSw); go_simp; first | done | with_reducible rfl)
          simp only [Act.put, List.setIfInBounds_toArray, List.set_cons_zero, List.set_cons_succ]
          refine wpAnyH_take (i := 4) (oi := ⟨some 17, _, _, _, _, _⟩) (v := ?vva5) rfl (by kernel_rfl) (by kernel_rfl) (by kernel_rfl) (fun _ _ _ h => h) (Or.inl ⟨by rfl, ?yya5⟩) hHeld ?rra5
          case yya5 => (intro wq hSw; (try dsimp only at hSw); go_simp; first | done | with_reducible rfl)
          simp only [Act.put, List.setIfInBounds_toArray, List.set_cons_zero, List.set_cons_succ]
          refine wpAnyH_take (i := 5) (oi := ⟨some 18, _, _, _, _, _⟩) (v := ?vva6) rfl (by kernel_rfl) (by kernel_rfl) (by kernel_rfl) (fun _ _ _ h => h) (Or.inl ⟨by rfl, ?yya6⟩) hHeld ?rra6
          case yya6 => (intro wq hSw; (try dsimp only at hSw); go_simp; first | done | with_reducible rfl)
          simp only [Act.put, List.setIfInBounds_toArray, List.set_cons_zero, List.set_cons_succ]
          refine wpAnyH_take (i := 6) (oi := ⟨some 19, _, _, _, _, _⟩) (v := undef) rfl (by kernel_rfl) (by kernel_rfl) (by kernel_rfl) (fun _ _ _ h => h) (Or.inr ⟨by rfl, rfl⟩) hHeld ?_
          simp only [Act.put, List.setIfInBounds_toArray, List.set_cons_zero, List.set_cons_succ]
          refine wpAnyH_take (i := 7) (oi := ⟨some 20, _, _, _, _, _⟩) (v := undef) rfl (by kernel_rfl) (by kernel_rfl) (by kernel_rfl) (fun _ _ _ h => h) (Or.inr ⟨by rfl, rfl⟩) hHeld ?_
          simp only [Act.put, List.setIfInBounds_toArray, List.set_cons_zero, List.set_cons_succ]
          refine wpAnyH_take (i := 8) (oi := ⟨some 21, _, _, _, _, _⟩) (v := undef) rfl (by kernel_rfl) (by kernel_rfl) (by kernel_rfl) (fun _ _ _ h => h) (Or.inr ⟨by rfl, rfl⟩) hHeld ?_
          simp only [Act.put, List.setIfInBounds_toArray, List.set_cons_zero, List.set_cons_succ]
          refine wpAnyH_take (i := 9) (oi := ⟨some 22, _, _, _, _, _⟩) (v := undef) rfl (by kernel_rfl) (by kernel_rfl) (by kernel_rfl) (fun _ _ _ h => h) (Or.inr ⟨by rfl, rfl⟩) hHeld ?_
          simp only [Act.put, List.setIfInBounds_toArray, List.set_cons_zero, List.set_cons_succ]
          refine wpAnyH_take (i := 10) (oi := ⟨some 23, _, _, _, _, _⟩) (v := undef) rfl (by kernel_rfl) (by kernel_rfl) (by kernel_rfl) (fun _ _ _ h => h) (Or.inr ⟨by rfl, rfl⟩) hHeld ?_
          simp only [Act.put, List.setIfInBounds_toArray, List.set_cons_zero, List.set_cons_succ]
          refine wpAnyH_take (i := 11) (oi := ⟨some 24, _, _, _, _, _⟩) (v := undef) rfl (by kernel_rfl) (by kernel_rfl) (by kernel_rfl) (fun _ _ _ h => h) (Or.inr ⟨by rfl, rfl⟩) hHeld ?_
          simp only [Act.put, List.setIfInBounds_toArray, List.set_cons_zero, List.set_cons_succ]
          refine wpAnyH_take (i := 12) (oi := ⟨some 25, _, _, _, _, _⟩) (v := undef) rfl (by kernel_rfl) (by kernel_rfl) (by kernel_rfl) (fun _ _ _ h => h) (Or.inr ⟨by rfl, rfl⟩) hHeld ?_
          simp only [Act.put, List.setIfInBounds_toArray, List.set_cons_zero, List.set_cons_succ]
          refine wpAnyH_take (i := 13) (oi := ⟨some 26, _, _, _, _, _⟩) (v := undef) rfl (by kernel_rfl) (by kernel_rfl) (by kernel_rfl) (fun _ _ _ h => h) (Or.inr ⟨by rfl, rfl⟩) hHeld ?_
          simp only [Act.put, List.setIfInBounds_toArray, List.set_cons_zero, List.set_cons_succ]
          refine wpAnyH_take (i := 14) (oi := ⟨some 27, _, _, _, _, _⟩) (v := undef) rfl (by kernel_rfl) (by kernel_rfl) (by kernel_rfl) (fun _ _ _ h => h) (Or.inr ⟨by rfl, rfl⟩) hHeld ?_
          simp only [Act.put, List.setIfInBounds_toArray, List.set_cons_zero, List.set_cons_succ]
          refine wpAnyH_take (i := 15) (oi := ⟨some 28, _, _, _, _, _⟩) (v := undef) rfl (by kernel_rfl) (by kernel_rfl) (by kernel_rfl) (fun _ _ _ h => h) (Or.inr ⟨by rfl, rfl⟩) hHeld ?_
          simp only [Act.put, List.setIfInBounds_toArray, List.set_cons_zero, List.set_cons_succ]
          refine wpAnyH_take (i := 16) (oi := ⟨some 29, _, _, _, _, _⟩) (v := undef) rfl (by kernel_rfl) (by kernel_rfl) (by kernel_rfl) (fun _ _ _ h => h) (Or.inr ⟨by rfl, rfl⟩) hHeld ?_
          simp only [Act.put, List.setIfInBounds_toArray, List.set_cons_zero, List.set_cons_succ]
          refine wpAnyH_take (i := 17) (oi := ⟨some 30, _, _, _, _, _⟩) (v := ?vva18) rfl (by kernel_rfl) (by kernel_rfl) (by kernel_rfl) (fun _ _ _ h => h) (Or.inl ⟨by rfl, ?yya18⟩) hHeld ?rra18
          case yya18 => (intro wq hSw; (try dsimp only at hSw); go_simp; first | done | with_reducible rfl)
          simp only [Act.put, List.setIfInBounds_toArray, List.set_cons_zero, List.set_cons_succ]
          refine wpAnyH_take (i := 18) (oi := ⟨some 31, _, _, _, _, _⟩) (v := ?vva19) rfl (by kernel_rfl) (by kernel_rfl) (by kernel_rfl) (fun _ _ _ h => h) (Or.inl ⟨by rfl, ?yya19⟩) hHeld ?rra19
          case yya19 => (intro wq hSw; (try dsimp only at hSw); go_simp; first | done | with_reducible rfl)
          simp only [Act.put, List.setIfInBounds_toArray, List.set_cons_zero, List.set_cons_succ]
          refine wpAnyH_done (by kernel_rfl) ?_ _
          clear hHeld
          go_wp2_with fail
          exact ⟨⟨0 + 1, by omega, by go_num, HN, below_then HBV.out hB3⟩, by simp [intOf]; omega⟩
        · obtain ⟨p, hp⟩ : ∃ p, ws[k - 1]? = some p := ⟨_, List.getElem?_eq_getElem (by omega)⟩
          obtain ⟨d0, d1, d2, d3⟩ := c1k p hp
          obtain ⟨⟨⟨pd, pa, pb, ps⟩, pv, ph⟩, hpp⟩ : ∃ y, y = p := ⟨_, rfl⟩
          subst hpp
          simp only [] at d0 d1 d2 d3
          obtain ⟨j, hj⟩ : ∃ j, j = k - 1 := ⟨_, rfl⟩
          have hkj : k = j + 1 := by omega
          subst hkj
          simp only [Nat.add_sub_cancel] at hj d0 d1 d2 d3 hp
          have hpk : prevK ws (j + 1) = some ⟨pd, pa, pb, ps⟩ := by unfold prevK; rw [if_neg (by omega), Nat.add_sub_cancel, hp]; rfl
          rw [hpk] at hI
          obtain ⟨cc, hcc⟩ : ∃ c, (⟨pd, pa, pb, ps⟩ : Ky).cmp ⟨kd, ka, kb, ks⟩ = c := ⟨_, rfl⟩
          have hI2 : badWs ws none = (decide (0 ≤ cc) || badWs (ws.drop (j + 1 + 1)) (prevK ws (j + 1 + 1))) := by rw [hI, show lateW (some ⟨pd, pa, pb, ps⟩) (⟨⟨kd, ka, kb, ks⟩, val, has⟩ : Wr).k = decide (0 ≤ cc) by rw [← hcc]; rfl, Bool.false_or]
          have HI2 := Lib.hid hI2
          have HCC := Lib.hid hcc
          have t0 : decide ((0 : Int) < ((j + 1 : Nat) : Int)) = true := decide_eq_true (by omega)
          have t1 : decide ((0 : Int) < (j : Int) + 1) = true := decide_eq_true (by omega)
          have ks2 : ∀ w', Below V.heap.size V w' → (fun w' => Below V.heap.size V w' ∧ w'.cell? ⟨wr.heap.size, 0, none⟩ = some (.int .i64 kd) ∧ w'.cell? ⟨wr.heap.size, 1, none⟩ = some (.int .i64 ka) ∧ w'.cell? ⟨wr.heap.size, 2, none⟩ = some (.int .i64 kb) ∧ w'.cell? ⟨wr.heap.size, 3, none⟩ = some (.string ks) ∧ w'.cell? ⟨wr.heap.size, 4, none⟩ = some (.string val) ∧ w'.cell? ⟨wr.heap.size, 5, none⟩ = some (.bool has) ∧ w'.cell? ⟨w.heap.size, 1, none⟩ = some (.slice (some ⟨b, off, none⟩) ws.length cap) ∧ w'.cell? ⟨b, off + j * 6, none⟩ = some (.int .i64 pd) ∧ w'.cell? ⟨b, off + j * 6 + 1, none⟩ = some (.int .i64 pa) ∧ w'.cell? ⟨b, off + j * 6 + 2, none⟩ = some (.int .i64 pb) ∧ w'.cell? ⟨b, off + j * 6 + 3, none⟩ = some (.string ps)) w' := fun w' hb => by
            have e2 := (hb.block _ (by have := HLW.out; have := HBV.out.size; omega)).trans erV
            obtain ⟨_, s0, s1, s2, s3, s4, s5⟩ := KS.out w' hb
            exact ⟨hb, s0, s1, s2, s3, s4, s5, by rw [cell_of_blk e2]; rfl, below_cell hb _ hbl d0, below_cell hb _ hbl d1, below_cell hb _ hbl d2, below_cell hb _ hbl d3⟩
          have KS2 := Lib.hid ks2
          have hjl : j < ws.length := by omega
          have hjl3 : (j : Int) < (ws.length : Int) := by omega
          have hwj : IntKind.i64.wrap (j : Int) = (j : Int) := by rw [IntKind.wrap_i64]; omega
          have hjl2 : j + 1 < ws.length := by omega
          clear hI hI2 hD HI hk0 h1 ks1 ks2 c1k hx hat hatV hV eV er erV hcc hpk hp hj d0 d1 d2 d3
          go_wp2_with fail
          rw [← HV.out]
          clear c0 c1 c2 c3 c4 c5
          refine wp_region_held_drew (S := (fun w' => Below V.heap.size V w' ∧ w'.cell? ⟨wr.heap.size, 0, none⟩ = some (.int .i64 kd) ∧ w'.cell? ⟨wr.heap.size, 1, none⟩ = some (.int .i64 ka) ∧ w'.cell? ⟨wr.heap.size, 2, none⟩ = some (.int .i64 kb) ∧ w'.cell? ⟨wr.heap.size, 3, none⟩ = some (.string ks) ∧ w'.cell? ⟨wr.heap.size, 4, none⟩ = some (.string val) ∧ w'.cell? ⟨wr.heap.size, 5, none⟩ = some (.bool has) ∧ w'.cell? ⟨w.heap.size, 1, none⟩ = some (.slice (some ⟨b, off, none⟩) ws.length cap) ∧ w'.cell? ⟨b, off + j * 6, none⟩ = some (.int .i64 pd) ∧ w'.cell? ⟨b, off + j * 6 + 1, none⟩ = some (.int .i64 pa) ∧ w'.cell? ⟨b, off + j * 6 + 2, none⟩ = some (.int .i64 pb) ∧ w'.cell? ⟨b, off + j * 6 + 3, none⟩ = some (.string ps))) (by kernel_rfl) (KS2.out _ (Below.refl _ _).drew) (fun hHeld => ?_)
          refine wpAnyH_take (i := 0) (oi := ⟨some 13, _, _, _, _, _⟩) (v := ?vvb1) rfl (by kernel_rfl) (by kernel_rfl) (by kernel_rfl) (fun _ _ _ h => h) (Or.inl ⟨by rfl, ?yyb1⟩) hHeld ?rrb1
          case yyb1 => (intro wq hSw; (try dsimp only at hSw); go_simp; first | done | with_reducible rfl)
          simp only [Act.put, List.setIfInBounds_toArray, List.set_cons_zero, List.set_cons_succ]
          refine wpAnyH_ready (rs := [1]) (by kernel_rfl) (by simp) ?_
          refine AllReadyH.cons (o := ⟨some 14, _, _, _, _, _⟩) rfl (fun K hK => ?_) AllReadyH.nil
          go_simp
          refine (odd_any ⟨⟨kd, ka, kb, ks⟩, val, has⟩ _).mono ?_
          rintro e w3 ⟨rfl, b3⟩
          rw [H1.out]
          have hB3 := below_then hHeld.1 b3
          clear b3
          go_wp2_with fail
          refine hK.out _ _ ?ssb2 (fun hHeld => ?_)
          case ssb2 => (exact KS2.out _ hB3)
          clear hK K
          try simp only [Act.put, List.setIfInBounds_toArray, List.set_cons_zero, List.set_cons_succ]
          refine wpAnyH_take (i := 2) (oi := ⟨some 15, _, _, _, _, _⟩) (v := ?vvb3) rfl (by kernel_rfl) (by kernel_rfl) (by kernel_rfl) (fun _ _ _ h => h) (Or.inl ⟨by rfl, ?yyb3⟩) hHeld ?rrb3
          case yyb3 => (intro wq hSw; (try dsimp only at hSw); go_simp; first | done | with_reducible rfl)
          simp only [Act.put, List.setIfInBounds_toArray, List.set_cons_zero, List.set_cons_succ]
          refine wpAnyH_take (i := 3) (oi := ⟨some 16, _, _, _, _, _⟩) (v := ?vvb4) rfl (by kernel_rfl) (by kernel_rfl) (by kernel_rfl) (fun _ _ _ h => h) (Or.inl ⟨by rfl, ?yyb4⟩) hHeld ?rrb4
          case yyb4 => (intro wq hSw; (try dsimp only at hSw); go_simp; first | done | with_reducible rfl)
          simp only [Act.put, List.setIfInBounds_toArray, List.set_cons_zero, List.set_cons_succ]
          refine wpAnyH_take (i := 4) (oi := ⟨some 17, _, _, _, _, _⟩) (v := ?vvb5) rfl (by kernel_rfl) (by kernel_rfl) (by kernel_rfl) (fun _ _ _ h => h) (Or.inl ⟨by rfl, ?yyb5⟩) hHeld ?rrb5
          case yyb5 => (intro wq hSw; (try dsimp only at hSw); go_simp; first | done | with_reducible rfl)
          simp only [Act.put, List.setIfInBounds_toArray, List.set_cons_zero, List.set_cons_succ]
          refine wpAnyH_take (i := 5) (oi := ⟨some 18, _, _, _, _, _⟩) (v := ?vvb6) rfl (by kernel_rfl) (by kernel_rfl) (by kernel_rfl) (fun _ _ _ h => h) (Or.inl ⟨by rfl, ?yyb6⟩) hHeld ?rrb6
          case yyb6 => (intro wq hSw; (try dsimp only at hSw); go_simp; first | done | with_reducible rfl)
          simp only [Act.put, List.setIfInBounds_toArray, List.set_cons_zero, List.set_cons_succ]
          refine wpAnyH_take (i := 6) (oi := ⟨some 19, _, _, _, _, _⟩) (v := ?vvb7) rfl (by kernel_rfl) (by kernel_rfl) (by kernel_rfl) (fun _ _ _ h => h) (Or.inl ⟨by rfl, ?yyb7⟩) hHeld ?rrb7
          case yyb7 => (intro wq hSw; (try dsimp only at hSw); go_simp; first | done | with_reducible rfl)
          simp only [Act.put, List.setIfInBounds_toArray, List.set_cons_zero, List.set_cons_succ]
          refine wpAnyH_take (i := 7) (oi := ⟨some 20, _, _, _, _, _⟩) (v := ?vvb8) rfl (by kernel_rfl) (by kernel_rfl) (by kernel_rfl) (fun _ _ _ h => h) (Or.inl ⟨by rfl, ?yyb8⟩) hHeld ?rrb8
          case yyb8 => (intro wq hSw; (try dsimp only at hSw); go_simp; first | done | with_reducible rfl)
          simp only [Act.put, List.setIfInBounds_toArray, List.set_cons_zero, List.set_cons_succ]
          refine wpAnyH_take (i := 8) (oi := ⟨some 21, _, _, _, _, _⟩) (v := ?vvb9) rfl (by kernel_rfl) (by kernel_rfl) (by kernel_rfl) (fun _ _ _ h => h) (Or.inl ⟨by rfl, ?yyb9⟩) hHeld ?rrb9
          case yyb9 => (intro wq hSw; (try dsimp only at hSw); go_simp; first | done | with_reducible rfl)
          simp only [Act.put, List.setIfInBounds_toArray, List.set_cons_zero, List.set_cons_succ]
          refine wpAnyH_take (i := 9) (oi := ⟨some 22, _, _, _, _, _⟩) (v := ?vvb10) rfl (by kernel_rfl) (by kernel_rfl) (by kernel_rfl) (fun _ _ _ h => h) (Or.inl ⟨by rfl, ?yyb10⟩) hHeld ?rrb10
          case yyb10 => (intro wq hSw; (try dsimp only at hSw); go_simp; first | done | with_reducible rfl)
          simp only [Act.put, List.setIfInBounds_toArray, List.set_cons_zero, List.set_cons_succ]
          refine wpAnyH_take (i := 10) (oi := ⟨some 23, _, _, _, _, _⟩) (v := ?vvb11) rfl (by kernel_rfl) (by kernel_rfl) (by kernel_rfl) (fun _ _ _ h => h) (Or.inl ⟨by rfl, ?yyb11⟩) hHeld ?rrb11
          case yyb11 => (intro wq hSw; (try dsimp only at hSw); go_simp; first | done | with_reducible rfl)
          simp only [Act.put, List.setIfInBounds_toArray, List.set_cons_zero, List.set_cons_succ]
          refine wpAnyH_take (i := 11) (oi := ⟨some 24, _, _, _, _, _⟩) (v := ?vvb12) rfl (by kernel_rfl) (by kernel_rfl) (by kernel_rfl) (fun _ _ _ h => h) (Or.inl ⟨by rfl, ?yyb12⟩) hHeld ?rrb12
          case yyb12 => (intro wq hSw; (try dsimp only at hSw); go_simp; first | done | with_reducible rfl)
          simp only [Act.put, List.setIfInBounds_toArray, List.set_cons_zero, List.set_cons_succ]
          refine wpAnyH_take (i := 12) (oi := ⟨some 25, _, _, _, _, _⟩) (v := ?vvb13) rfl (by kernel_rfl) (by kernel_rfl) (by kernel_rfl) (fun _ _ _ h => h) (Or.inl ⟨by rfl, ?yyb13⟩) hHeld ?rrb13
          case yyb13 => (intro wq hSw; (try dsimp only at hSw); go_simp; first | done | with_reducible rfl)
          simp only [Act.put, List.setIfInBounds_toArray, List.set_cons_zero, List.set_cons_succ]
          refine wpAnyH_take (i := 13) (oi := ⟨some 26, _, _, _, _, _⟩) (v := ?vvb14) rfl (by kernel_rfl) (by kernel_rfl) (by kernel_rfl) (fun _ _ _ h => h) (Or.inl ⟨by rfl, ?yyb14⟩) hHeld ?rrb14
          case yyb14 => (intro wq hSw; (try dsimp only at hSw); go_simp; first | done | with_reducible rfl)
          simp only [Act.put, List.setIfInBounds_toArray, List.set_cons_zero, List.set_cons_succ]
          refine wpAnyH_take (i := 14) (oi := ⟨some 27, _, _, _, _, _⟩) (v := ?vvb15) rfl (by kernel_rfl) (by kernel_rfl) (by kernel_rfl) (fun _ _ _ h => h) (Or.inl ⟨by rfl, ?yyb15⟩) hHeld ?rrb15
          case yyb15 => (intro wq hSw; (try dsimp only at hSw); go_simp; first | done | with_reducible rfl)
          simp only [Act.put, List.setIfInBounds_toArray, List.set_cons_zero, List.set_cons_succ]
          refine wpAnyH_ready (rs := [15]) (by kernel_rfl) (by simp) ?_
          refine AllReadyH.cons (o := ⟨some 28, _, _, _, _, _⟩) rfl (fun K hK => ?_) AllReadyH.nil
          go_simp
          refine (order_any ⟨pd, pa, pb, ps⟩ ⟨kd, ka, kb, ks⟩ _).mono ?_
          rintro e w4 ⟨rfl, b4⟩
          rw [HCC.out]
          have hB4 := below_then hHeld.1 b4
          clear b4
          go_wp2_with fail
          refine hK.out _ _ ?ssb16 (fun hHeld => ?_)
          case ssb16 => (exact KS2.out _ hB4)
          clear hK K
          try simp only [Act.put, List.setIfInBounds_toArray, List.set_cons_zero, List.set_cons_succ]
          refine wpAnyH_take (i := 16) (oi := ⟨some 29, _, _, _, _, _⟩) (v := ?vvb17) rfl (by kernel_rfl) (by kernel_rfl) (by kernel_rfl) (fun _ _ _ h => h) (Or.inl ⟨by rfl, ?yyb17⟩) hHeld ?rrb17
          case yyb17 => (intro wq hSw; (try dsimp only at hSw); go_simp; first | done | with_reducible rfl)
          simp only [Act.put, List.setIfInBounds_toArray, List.set_cons_zero, List.set_cons_succ]
          refine wpAnyH_take (i := 17) (oi := ⟨some 30, _, _, _, _, _⟩) (v := ?vvb18) rfl (by kernel_rfl) (by kernel_rfl) (by kernel_rfl) (fun _ _ _ h => h) (Or.inl ⟨by rfl, ?yyb18⟩) hHeld ?rrb18
          case yyb18 => (intro wq hSw; (try dsimp only at hSw); go_simp; first | done | with_reducible rfl)
          simp only [Act.put, List.setIfInBounds_toArray, List.set_cons_zero, List.set_cons_succ]
          refine wpAnyH_take (i := 18) (oi := ⟨some 31, _, _, _, _, _⟩) (v := ?vvb19) rfl (by kernel_rfl) (by kernel_rfl) (by kernel_rfl) (fun _ _ _ h => h) (Or.inl ⟨by rfl, ?yyb19⟩) hHeld ?rrb19
          case yyb19 => (intro wq hSw; (try dsimp only at hSw); go_simp; first | done | with_reducible rfl)
          simp only [Act.put, List.setIfInBounds_toArray, List.set_cons_zero, List.set_cons_succ]
          refine wpAnyH_done (by kernel_rfl) ?_ _
          clear hHeld
          by_cases hc : 0 ≤ cc
          · have hr : R = true := by rw [HO.out, HI2.out, decide_eq_true hc]; rfl
            subst hr
            go_wp2_with fail
            go_ret
            exact ⟨rfl, below_then HBW.out (below_then HBV.out hB4)⟩
          · have HN : Hid (badWs ws none = badWs (ws.drop (j + 1 + 1)) (prevK ws (j + 1 + 1))) := Lib.hid (by rw [HI2.out, decide_eq_false hc]; rfl)
            have hc2 : cc < 0 := by omega
            go_wp2_with fail
            exact ⟨⟨j + 1 + 1, by omega, by go_num, HN, below_then HBV.out hB4⟩, by simp [intOf]; omega⟩
      · have hr : R = true := by rw [HO.out, hI]; rfl
        subst hr
        clear hI hD HI h1 ks1 c1k hx hat hatV hV eV er erV
        go_wp2_with fail
        rw [← HV.out]
        clear c0 c1 c2 c3 c4 c5
        refine wp_region_held_drew (S := (fun w' => Below V.heap.size V w' ∧ w'.cell? ⟨wr.heap.size, 0, none⟩ = some (.int .i64 kd) ∧ w'.cell? ⟨wr.heap.size, 1, none⟩ = some (.int .i64 ka) ∧ w'.cell? ⟨wr.heap.size, 2, none⟩ = some (.int .i64 kb) ∧ w'.cell? ⟨wr.heap.size, 3, none⟩ = some (.string ks) ∧ w'.cell? ⟨wr.heap.size, 4, none⟩ = some (.string val) ∧ w'.cell? ⟨wr.heap.size, 5, none⟩ = some (.bool has))) (by kernel_rfl) (KS.out _ (Below.refl _ _).drew) (fun hHeld => ?_)
        refine wpAnyH_take (i := 0) (oi := ⟨some 13, _, _, _, _, _⟩) (v := ?vvc1) rfl (by kernel_rfl) (by kernel_rfl) (by kernel_rfl) (fun _ _ _ h => h) (Or.inl ⟨by rfl, ?yyc1⟩) hHeld ?rrc1
        case yyc1 => (intro wq hSw; (try dsimp only at hSw); go_simp; first | done | with_reducible rfl)
        simp only [Act.put, List.setIfInBounds_toArray, List.set_cons_zero, List.set_cons_succ]
        refine wpAnyH_ready (rs := [1]) (by kernel_rfl) (by simp) ?_
        refine AllReadyH.cons (o := ⟨some 14, _, _, _, _, _⟩) rfl (fun K hK => ?_) AllReadyH.nil
        go_simp
        refine (odd_any ⟨⟨kd, ka, kb, ks⟩, val, has⟩ _).mono ?_
        rintro e w3 ⟨rfl, b3⟩
        rw [H1.out]
        have hB3 := below_then hHeld.1 b3
        clear b3
        go_wp2_with fail
        refine hK.out _ _ ?ssc2 (fun hHeld => ?_)
        case ssc2 => (exact KS.out _ hB3)
        clear hK K
        try simp only [Act.put, List.setIfInBounds_toArray, List.set_cons_zero, List.set_cons_succ]
        refine wpAnyH_take (i := 2) (oi := ⟨some 15, _, _, _, _, _⟩) (v := ?vvc3) rfl (by kernel_rfl) (by kernel_rfl) (by kernel_rfl) (fun _ _ _ h => h) (Or.inl ⟨by rfl, ?yyc3⟩) hHeld ?rrc3
        case yyc3 => (intro wq hSw; (try dsimp only at hSw); go_simp; first | done | with_reducible rfl)
        simp only [Act.put, List.setIfInBounds_toArray, List.set_cons_zero, List.set_cons_succ]
        refine wpAnyH_take (i := 3) (oi := ⟨some 16, _, _, _, _, _⟩) (v := undef) rfl (by kernel_rfl) (by kernel_rfl) (by kernel_rfl) (fun _ _ _ h => h) (Or.inr ⟨by rfl, rfl⟩) hHeld ?_
        simp only [Act.put, List.setIfInBounds_toArray, List.set_cons_zero, List.set_cons_succ]
        refine wpAnyH_take (i := 4) (oi := ⟨some 17, _, _, _, _, _⟩) (v := undef) rfl (by kernel_rfl) (by kernel_rfl) (by kernel_rfl) (fun _ _ _ h => h) (Or.inr ⟨by rfl, rfl⟩) hHeld ?_
        simp only [Act.put, List.setIfInBounds_toArray, List.set_cons_zero, List.set_cons_succ]
        refine wpAnyH_take (i := 5) (oi := ⟨some 18, _, _, _, _, _⟩) (v := undef) rfl (by kernel_rfl) (by kernel_rfl) (by kernel_rfl) (fun _ _ _ h => h) (Or.inr ⟨by rfl, rfl⟩) hHeld ?_
        simp only [Act.put, List.setIfInBounds_toArray, List.set_cons_zero, List.set_cons_succ]
        refine wpAnyH_take (i := 6) (oi := ⟨some 19, _, _, _, _, _⟩) (v := undef) rfl (by kernel_rfl) (by kernel_rfl) (by kernel_rfl) (fun _ _ _ h => h) (Or.inr ⟨by rfl, rfl⟩) hHeld ?_
        simp only [Act.put, List.setIfInBounds_toArray, List.set_cons_zero, List.set_cons_succ]
        refine wpAnyH_take (i := 7) (oi := ⟨some 20, _, _, _, _, _⟩) (v := undef) rfl (by kernel_rfl) (by kernel_rfl) (by kernel_rfl) (fun _ _ _ h => h) (Or.inr ⟨by rfl, rfl⟩) hHeld ?_
        simp only [Act.put, List.setIfInBounds_toArray, List.set_cons_zero, List.set_cons_succ]
        refine wpAnyH_take (i := 8) (oi := ⟨some 21, _, _, _, _, _⟩) (v := undef) rfl (by kernel_rfl) (by kernel_rfl) (by kernel_rfl) (fun _ _ _ h => h) (Or.inr ⟨by rfl, rfl⟩) hHeld ?_
        simp only [Act.put, List.setIfInBounds_toArray, List.set_cons_zero, List.set_cons_succ]
        refine wpAnyH_take (i := 9) (oi := ⟨some 22, _, _, _, _, _⟩) (v := undef) rfl (by kernel_rfl) (by kernel_rfl) (by kernel_rfl) (fun _ _ _ h => h) (Or.inr ⟨by rfl, rfl⟩) hHeld ?_
        simp only [Act.put, List.setIfInBounds_toArray, List.set_cons_zero, List.set_cons_succ]
        refine wpAnyH_take (i := 10) (oi := ⟨some 23, _, _, _, _, _⟩) (v := undef) rfl (by kernel_rfl) (by kernel_rfl) (by kernel_rfl) (fun _ _ _ h => h) (Or.inr ⟨by rfl, rfl⟩) hHeld ?_
        simp only [Act.put, List.setIfInBounds_toArray, List.set_cons_zero, List.set_cons_succ]
        refine wpAnyH_take (i := 11) (oi := ⟨some 24, _, _, _, _, _⟩) (v := undef) rfl (by kernel_rfl) (by kernel_rfl) (by kernel_rfl) (fun _ _ _ h => h) (Or.inr ⟨by rfl, rfl⟩) hHeld ?_
        simp only [Act.put, List.setIfInBounds_toArray, List.set_cons_zero, List.set_cons_succ]
        refine wpAnyH_take (i := 12) (oi := ⟨some 25, _, _, _, _, _⟩) (v := undef) rfl (by kernel_rfl) (by kernel_rfl) (by kernel_rfl) (fun _ _ _ h => h) (Or.inr ⟨by rfl, rfl⟩) hHeld ?_
        simp only [Act.put, List.setIfInBounds_toArray, List.set_cons_zero, List.set_cons_succ]
        refine wpAnyH_take (i := 13) (oi := ⟨some 26, _, _, _, _, _⟩) (v := undef) rfl (by kernel_rfl) (by kernel_rfl) (by kernel_rfl) (fun _ _ _ h => h) (Or.inr ⟨by rfl, rfl⟩) hHeld ?_
        simp only [Act.put, List.setIfInBounds_toArray, List.set_cons_zero, List.set_cons_succ]
        refine wpAnyH_take (i := 14) (oi := ⟨some 27, _, _, _, _, _⟩) (v := undef) rfl (by kernel_rfl) (by kernel_rfl) (by kernel_rfl) (fun _ _ _ h => h) (Or.inr ⟨by rfl, rfl⟩) hHeld ?_
        simp only [Act.put, List.setIfInBounds_toArray, List.set_cons_zero, List.set_cons_succ]
        refine wpAnyH_take (i := 15) (oi := ⟨some 28, _, _, _, _, _⟩) (v := undef) rfl (by kernel_rfl) (by kernel_rfl) (by kernel_rfl) (fun _ _ _ h => h) (Or.inr ⟨by rfl, rfl⟩) hHeld ?_
        simp only [Act.put, List.setIfInBounds_toArray, List.set_cons_zero, List.set_cons_succ]
        refine wpAnyH_take (i := 16) (oi := ⟨some 29, _, _, _, _, _⟩) (v := undef) rfl (by kernel_rfl) (by kernel_rfl) (by kernel_rfl) (fun _ _ _ h => h) (Or.inr ⟨by rfl, rfl⟩) hHeld ?_
        simp only [Act.put, List.setIfInBounds_toArray, List.set_cons_zero, List.set_cons_succ]
        refine wpAnyH_take (i := 17) (oi := ⟨some 30, _, _, _, _, _⟩) (v := undef) rfl (by kernel_rfl) (by kernel_rfl) (by kernel_rfl) (fun _ _ _ h => h) (Or.inr ⟨by rfl, rfl⟩) hHeld ?_
        simp only [Act.put, List.setIfInBounds_toArray, List.set_cons_zero, List.set_cons_succ]
        refine wpAnyH_take (i := 18) (oi := ⟨some 31, _, _, _, _, _⟩) (v := ?vvc19) rfl (by kernel_rfl) (by kernel_rfl) (by kernel_rfl) (fun _ _ _ h => h) (Or.inl ⟨by rfl, ?yyc19⟩) hHeld ?rrc19
        case yyc19 => (intro wq hSw; (try dsimp only at hSw); go_simp; first | done | with_reducible rfl)
        simp only [Act.put, List.setIfInBounds_toArray, List.set_cons_zero, List.set_cons_succ]
        refine wpAnyH_done (by kernel_rfl) ?_ _
        clear hHeld
        go_wp2_with fail
        go_ret
        exact ⟨rfl, below_then HBW.out (below_then HBV.out hB3)⟩
    · obtain rfl : k = ws.length := by omega
      have hI : badWs ws none = false := by rw [HI.out, List.drop_length]; rfl
      have d0 := cell_of_blk er 0
      have d1 := cell_of_blk er 1
      simp at d0 d1
      have hI2 : R = (decide (st = 0) || decide (4611686018427387904 ≤ st) || decide (65535 < ws.length)) := by rw [HO.out, hI]; rfl
      have ks7 : ∀ w', Below wr.heap.size wr w' → (fun w' => Below wr.heap.size wr w' ∧ w'.cell? ⟨w.heap.size, 0, none⟩ = some (.int .u64 (st : Int)) ∧ w'.cell? ⟨w.heap.size, 1, none⟩ = some (.slice a ws.length cap)) w' := fun w' hb => by
        have e2 := (hb.block _ (Nat.lt_of_lt_of_le HLW.out hbr.size)).trans er
        exact ⟨hb, by rw [cell_of_blk e2]; rfl, by rw [cell_of_blk e2]; rfl⟩
      have KS := Lib.hid ks7
      obtain ⟨m, hm⟩ : ∃ m, st % 4611686018427387904 = m := ⟨_, rfl⟩
      have HM := Lib.hid hm
      have HS := Lib.hid hs
      have t65 : decide ((65535 : Int) < (ws.length : Int)) = decide (65535 < ws.length) := by
        by_cases h : 65535 < ws.length
        · rw [decide_eq_true h, decide_eq_true (by omega)]
        · rw [decide_eq_false h, decide_eq_false (by omega)]
      by_cases h0 : st = 0
      · have hr : R = true := by rw [hI2, decide_eq_true h0]; rfl
        have t0 : ((st : Int) == 0) = true := by rw [h0]; rfl
        subst hr
        clear hI hI2 h0 hm hs er HI ks7 t65
        go_wp2_with fail
        clear d0 d1
        refine wp_region_held_drew (S := (fun w' => Below wr.heap.size wr w' ∧ w'.cell? ⟨w.heap.size, 0, none⟩ = some (.int .u64 (st : Int)) ∧ w'.cell? ⟨w.heap.size, 1, none⟩ = some (.slice a ws.length cap))) (by kernel_rfl) (KS.out _ (Below.refl _ _).drew) (fun hHeld => ?_)
        refine wpAnyH_take (i := 0) (oi := ⟨some 33, _, _, _, _, _⟩) (v := ?vvd1) rfl (by kernel_rfl) (by kernel_rfl) (by kernel_rfl) (fun _ _ _ h => h) (Or.inl ⟨by rfl, ?yyd1⟩) hHeld ?rrd1
        case yyd1 => (intro wq hSw; (try dsimp only at hSw); go_simp; first | done | with_reducible rfl)
        simp only [Act.put, List.setIfInBounds_toArray, List.set_cons_zero, List.set_cons_succ]
        refine wpAnyH_take (i := 1) (oi := ⟨some 34, _, _, _, _, _⟩) (v := ?vvd2) rfl (by kernel_rfl) (by kernel_rfl) (by kernel_rfl) (fun _ _ _ h => h) (Or.inl ⟨by rfl, ?yyd2⟩) hHeld ?rrd2
        case yyd2 => (intro wq hSw; (try dsimp only at hSw); go_simp; first | done | with_reducible rfl)
        simp only [Act.put, List.setIfInBounds_toArray, List.set_cons_zero, List.set_cons_succ]
        refine wpAnyH_take (i := 2) (oi := ⟨some 35, _, _, _, _, _⟩) (v := ?vvd3) rfl (by kernel_rfl) (by kernel_rfl) (by kernel_rfl) (fun _ _ _ h => h) (Or.inl ⟨by rfl, ?yyd3⟩) hHeld ?rrd3
        case yyd3 => (intro wq hSw; (try dsimp only at hSw); go_simp; first | done | with_reducible rfl)
        simp only [Act.put, List.setIfInBounds_toArray, List.set_cons_zero, List.set_cons_succ]
        refine wpAnyH_take (i := 3) (oi := ⟨some 36, _, _, _, _, _⟩) (v := ?vvd4) rfl (by kernel_rfl) (by kernel_rfl) (by kernel_rfl) (fun _ _ _ h => h) (Or.inl ⟨by rfl, ?yyd4⟩) hHeld ?rrd4
        case yyd4 => (intro wq hSw; (try dsimp only at hSw); go_simp; first | done | with_reducible rfl)
        simp only [Act.put, List.setIfInBounds_toArray, List.set_cons_zero, List.set_cons_succ]
        refine wpAnyH_take (i := 4) (oi := ⟨some 37, _, _, _, _, _⟩) (v := undef) rfl (by kernel_rfl) (by kernel_rfl) (by kernel_rfl) (fun _ _ _ h => h) (Or.inr ⟨by rfl, rfl⟩) hHeld ?_
        simp only [Act.put, List.setIfInBounds_toArray, List.set_cons_zero, List.set_cons_succ]
        refine wpAnyH_take (i := 5) (oi := ⟨some 38, _, _, _, _, _⟩) (v := undef) rfl (by kernel_rfl) (by kernel_rfl) (by kernel_rfl) (fun _ _ _ h => h) (Or.inr ⟨by rfl, rfl⟩) hHeld ?_
        simp only [Act.put, List.setIfInBounds_toArray, List.set_cons_zero, List.set_cons_succ]
        refine wpAnyH_take (i := 6) (oi := ⟨some 39, _, _, _, _, _⟩) (v := undef) rfl (by kernel_rfl) (by kernel_rfl) (by kernel_rfl) (fun _ _ _ h => h) (Or.inr ⟨by rfl, rfl⟩) hHeld ?_
        simp only [Act.put, List.setIfInBounds_toArray, List.set_cons_zero, List.set_cons_succ]
        refine wpAnyH_take (i := 7) (oi := ⟨some 40, _, _, _, _, _⟩) (v := undef) rfl (by kernel_rfl) (by kernel_rfl) (by kernel_rfl) (fun _ _ _ h => h) (Or.inr ⟨by rfl, rfl⟩) hHeld ?_
        simp only [Act.put, List.setIfInBounds_toArray, List.set_cons_zero, List.set_cons_succ]
        refine wpAnyH_take (i := 8) (oi := ⟨some 41, _, _, _, _, _⟩) (v := undef) rfl (by kernel_rfl) (by kernel_rfl) (by kernel_rfl) (fun _ _ _ h => h) (Or.inr ⟨by rfl, rfl⟩) hHeld ?_
        simp only [Act.put, List.setIfInBounds_toArray, List.set_cons_zero, List.set_cons_succ]
        refine wpAnyH_take (i := 9) (oi := ⟨some 42, _, _, _, _, _⟩) (v := undef) rfl (by kernel_rfl) (by kernel_rfl) (by kernel_rfl) (fun _ _ _ h => h) (Or.inr ⟨by rfl, rfl⟩) hHeld ?_
        simp only [Act.put, List.setIfInBounds_toArray, List.set_cons_zero, List.set_cons_succ]
        refine wpAnyH_take (i := 10) (oi := ⟨some 43, _, _, _, _, _⟩) (v := ?vvd11) rfl (by kernel_rfl) (by kernel_rfl) (by kernel_rfl) (fun _ _ _ h => h) (Or.inl ⟨by rfl, ?yyd11⟩) hHeld ?rrd11
        case yyd11 => (intro wq hSw; (try dsimp only at hSw); go_simp; first | done | with_reducible rfl)
        simp only [Act.put, List.setIfInBounds_toArray, List.set_cons_zero, List.set_cons_succ]
        refine wpAnyH_take (i := 11) (oi := ⟨some 44, _, _, _, _, _⟩) (v := ?vvd12) rfl (by kernel_rfl) (by kernel_rfl) (by kernel_rfl) (fun _ _ _ h => h) (Or.inl ⟨by rfl, ?yyd12⟩) hHeld ?rrd12
        case yyd12 => (intro wq hSw; (try dsimp only at hSw); go_simp; first | done | with_reducible rfl)
        simp only [Act.put, List.setIfInBounds_toArray, List.set_cons_zero, List.set_cons_succ]
        refine wpAnyH_take (i := 12) (oi := ⟨some 45, _, _, _, _, _⟩) (v := undef) rfl (by kernel_rfl) (by kernel_rfl) (by kernel_rfl) (fun _ _ _ h => h) (Or.inr ⟨by rfl, rfl⟩) hHeld ?_
        simp only [Act.put, List.setIfInBounds_toArray, List.set_cons_zero, List.set_cons_succ]
        refine wpAnyH_take (i := 13) (oi := ⟨some 46, _, _, _, _, _⟩) (v := undef) rfl (by kernel_rfl) (by kernel_rfl) (by kernel_rfl) (fun _ _ _ h => h) (Or.inr ⟨by rfl, rfl⟩) hHeld ?_
        simp only [Act.put, List.setIfInBounds_toArray, List.set_cons_zero, List.set_cons_succ]
        refine wpAnyH_take (i := 14) (oi := ⟨some 47, _, _, _, _, _⟩) (v := undef) rfl (by kernel_rfl) (by kernel_rfl) (by kernel_rfl) (fun _ _ _ h => h) (Or.inr ⟨by rfl, rfl⟩) hHeld ?_
        simp only [Act.put, List.setIfInBounds_toArray, List.set_cons_zero, List.set_cons_succ]
        refine wpAnyH_take (i := 15) (oi := ⟨some 48, _, _, _, _, _⟩) (v := undef) rfl (by kernel_rfl) (by kernel_rfl) (by kernel_rfl) (fun _ _ _ h => h) (Or.inr ⟨by rfl, rfl⟩) hHeld ?_
        simp only [Act.put, List.setIfInBounds_toArray, List.set_cons_zero, List.set_cons_succ]
        refine wpAnyH_take (i := 16) (oi := ⟨some 49, _, _, _, _, _⟩) (v := ?vvd17) rfl (by kernel_rfl) (by kernel_rfl) (by kernel_rfl) (fun _ _ _ h => h) (Or.inl ⟨by rfl, ?yyd17⟩) hHeld ?rrd17
        case yyd17 => (intro wq hSw; (try dsimp only at hSw); go_simp; first | done | with_reducible rfl)
        simp only [Act.put, List.setIfInBounds_toArray, List.set_cons_zero, List.set_cons_succ]
        refine wpAnyH_take (i := 17) (oi := ⟨some 2, _, _, _, _, _⟩) (v := ?vvd18) rfl (by kernel_rfl) (by kernel_rfl) (by kernel_rfl) (fun _ _ _ h => h) (Or.inl ⟨by rfl, ?yyd18⟩) hHeld ?rrd18
        case yyd18 => (intro wq hSw; (try dsimp only at hSw); go_simp; first | done | with_reducible rfl)
        simp only [Act.put, List.setIfInBounds_toArray, List.set_cons_zero, List.set_cons_succ]
        refine wpAnyH_done (by kernel_rfl) ?_ _
        have hB5 := hHeld.1
        try dsimp only at hB5
        clear hHeld
        go_wp2_with fail
        go_ret
        exact ⟨rfl, below_then HBW.out (below_then HBR.out hB5)⟩
      · have t0 : ((st : Int) == 0) = false := by simp; omega
        by_cases h1 : 4611686018427387904 ≤ st
        · have hr : R = true := by rw [hI2, decide_eq_true h1, Bool.or_true]; rfl
          have t1 : ((m : Int) != (st : Int)) = true := by
            have : m ≠ st := by rw [← hm]; omega
            simp; omega
          subst hr
          clear hI hI2 h0 h1 hm hs er HI ks7 t65
          go_wp2_with fail
          clear d0 d1
          refine wp_region_held_drew (S := (fun w' => Below wr.heap.size wr w' ∧ w'.cell? ⟨w.heap.size, 0, none⟩ = some (.int .u64 (st : Int)) ∧ w'.cell? ⟨w.heap.size, 1, none⟩ = some (.slice a ws.length cap))) (by kernel_rfl) (KS.out _ (Below.refl _ _).drew) (fun hHeld => ?_)
          refine wpAnyH_take (i := 0) (oi := ⟨some 33, _, _, _, _, _⟩) (v := ?vve1) rfl (by kernel_rfl) (by kernel_rfl) (by kernel_rfl) (fun _ _ _ h => h) (Or.inl ⟨by rfl, ?yye1⟩) hHeld ?rre1
          case yye1 => (intro wq hSw; (try dsimp only at hSw); go_simp; first | done | with_reducible rfl)
          simp only [Act.put, List.setIfInBounds_toArray, List.set_cons_zero, List.set_cons_succ]
          refine wpAnyH_take (i := 1) (oi := ⟨some 34, _, _, _, _, _⟩) (v := ?vve2) rfl (by kernel_rfl) (by kernel_rfl) (by kernel_rfl) (fun _ _ _ h => h) (Or.inl ⟨by rfl, ?yye2⟩) hHeld ?rre2
          case yye2 => (intro wq hSw; (try dsimp only at hSw); go_simp; first | done | with_reducible rfl)
          simp only [Act.put, List.setIfInBounds_toArray, List.set_cons_zero, List.set_cons_succ]
          refine wpAnyH_take (i := 2) (oi := ⟨some 35, _, _, _, _, _⟩) (v := ?vve3) rfl (by kernel_rfl) (by kernel_rfl) (by kernel_rfl) (fun _ _ _ h => h) (Or.inl ⟨by rfl, ?yye3⟩) hHeld ?rre3
          case yye3 => (intro wq hSw; (try dsimp only at hSw); go_simp; first | done | with_reducible rfl)
          simp only [Act.put, List.setIfInBounds_toArray, List.set_cons_zero, List.set_cons_succ]
          refine wpAnyH_take (i := 3) (oi := ⟨some 36, _, _, _, _, _⟩) (v := ?vve4) rfl (by kernel_rfl) (by kernel_rfl) (by kernel_rfl) (fun _ _ _ h => h) (Or.inl ⟨by rfl, ?yye4⟩) hHeld ?rre4
          case yye4 => (intro wq hSw; (try dsimp only at hSw); go_simp; first | done | with_reducible rfl)
          simp only [Act.put, List.setIfInBounds_toArray, List.set_cons_zero, List.set_cons_succ]
          refine wpAnyH_take (i := 4) (oi := ⟨some 37, _, _, _, _, _⟩) (v := ?vve5) rfl (by kernel_rfl) (by kernel_rfl) (by kernel_rfl) (fun _ _ _ h => h) (Or.inl ⟨by rfl, ?yye5⟩) hHeld ?rre5
          case yye5 => (intro wq hSw; (try dsimp only at hSw); go_simp; first | done | with_reducible rfl)
          simp only [Act.put, List.setIfInBounds_toArray, List.set_cons_zero, List.set_cons_succ]
          refine wpAnyH_take (i := 5) (oi := ⟨some 38, _, _, _, _, _⟩) (v := ?vve6) rfl (by kernel_rfl) (by kernel_rfl) (by kernel_rfl) (fun _ _ _ h => h) (Or.inl ⟨by rfl, ?yye6⟩) hHeld ?rre6
          case yye6 => (intro wq hSw; (try dsimp only at hSw); go_simp; first | done | with_reducible rfl)
          simp only [Act.put, List.setIfInBounds_toArray, List.set_cons_zero, List.set_cons_succ]
          refine wpAnyH_take (i := 7) (oi := ⟨some 40, _, _, _, _, _⟩) (v := ?vve7) rfl (by kernel_rfl) (by kernel_rfl) (by kernel_rfl) (fun _ _ _ h => h) (Or.inl ⟨by rfl, ?yye7⟩) hHeld ?rre7
          case yye7 => (intro wq hSw; (try dsimp only at hSw); go_simp; first | done | with_reducible rfl)
          simp only [Act.put, List.setIfInBounds_toArray, List.set_cons_zero, List.set_cons_succ]
          refine wpAnyH_take (i := 8) (oi := ⟨some 41, _, _, _, _, _⟩) (v := ?vve8) rfl (by kernel_rfl) (by kernel_rfl) (by kernel_rfl) (fun _ _ _ h => h) (Or.inl ⟨by rfl, ?yye8⟩) hHeld ?rre8
          case yye8 => (intro wq hSw; (try dsimp only at hSw); go_simp; first | done | with_reducible rfl)
          simp only [Act.put, List.setIfInBounds_toArray, List.set_cons_zero, List.set_cons_succ]
          refine wpAnyH_ready (rs := [6]) (by kernel_rfl) (by simp) ?_
          refine AllReadyH.cons (o := ⟨some 39, _, _, _, _, _⟩) rfl (fun K hK => ?_) AllReadyH.nil
          go_simp
          refine (stamp_num' st _ HS.out).mono ?_
          rintro e w4 ⟨rfl, rfl⟩
          rw [HM.out]
          have hB4 := hHeld.1
          go_wp2_with fail
          refine hK.out _ _ ?sse9 (fun hHeld => ?_)
          case sse9 => (exact KS.out _ hB4)
          clear hK K
          try simp only [Act.put, List.setIfInBounds_toArray, List.set_cons_zero, List.set_cons_succ]
          refine wpAnyH_take (i := 9) (oi := ⟨some 42, _, _, _, _, _⟩) (v := ?vve10) rfl (by kernel_rfl) (by kernel_rfl) (by kernel_rfl) (fun _ _ _ h => h) (Or.inl ⟨by rfl, ?yye10⟩) hHeld ?rre10
          case yye10 => (intro wq hSw; (try dsimp only at hSw); go_simp; first | done | with_reducible rfl)
          simp only [Act.put, List.setIfInBounds_toArray, List.set_cons_zero, List.set_cons_succ]
          refine wpAnyH_take (i := 10) (oi := ⟨some 43, _, _, _, _, _⟩) (v := ?vve11) rfl (by kernel_rfl) (by kernel_rfl) (by kernel_rfl) (fun _ _ _ h => h) (Or.inl ⟨by rfl, ?yye11⟩) hHeld ?rre11
          case yye11 => (intro wq hSw; (try dsimp only at hSw); go_simp; first | done | with_reducible rfl)
          simp only [Act.put, List.setIfInBounds_toArray, List.set_cons_zero, List.set_cons_succ]
          refine wpAnyH_take (i := 11) (oi := ⟨some 44, _, _, _, _, _⟩) (v := ?vve12) rfl (by kernel_rfl) (by kernel_rfl) (by kernel_rfl) (fun _ _ _ h => h) (Or.inl ⟨by rfl, ?yye12⟩) hHeld ?rre12
          case yye12 => (intro wq hSw; (try dsimp only at hSw); go_simp; first | done | with_reducible rfl)
          simp only [Act.put, List.setIfInBounds_toArray, List.set_cons_zero, List.set_cons_succ]
          refine wpAnyH_take (i := 12) (oi := ⟨some 45, _, _, _, _, _⟩) (v := undef) rfl (by kernel_rfl) (by kernel_rfl) (by kernel_rfl) (fun _ _ _ h => h) (Or.inr ⟨by rfl, rfl⟩) hHeld ?_
          simp only [Act.put, List.setIfInBounds_toArray, List.set_cons_zero, List.set_cons_succ]
          refine wpAnyH_take (i := 13) (oi := ⟨some 46, _, _, _, _, _⟩) (v := undef) rfl (by kernel_rfl) (by kernel_rfl) (by kernel_rfl) (fun _ _ _ h => h) (Or.inr ⟨by rfl, rfl⟩) hHeld ?_
          simp only [Act.put, List.setIfInBounds_toArray, List.set_cons_zero, List.set_cons_succ]
          refine wpAnyH_take (i := 14) (oi := ⟨some 47, _, _, _, _, _⟩) (v := undef) rfl (by kernel_rfl) (by kernel_rfl) (by kernel_rfl) (fun _ _ _ h => h) (Or.inr ⟨by rfl, rfl⟩) hHeld ?_
          simp only [Act.put, List.setIfInBounds_toArray, List.set_cons_zero, List.set_cons_succ]
          refine wpAnyH_take (i := 15) (oi := ⟨some 48, _, _, _, _, _⟩) (v := undef) rfl (by kernel_rfl) (by kernel_rfl) (by kernel_rfl) (fun _ _ _ h => h) (Or.inr ⟨by rfl, rfl⟩) hHeld ?_
          simp only [Act.put, List.setIfInBounds_toArray, List.set_cons_zero, List.set_cons_succ]
          refine wpAnyH_take (i := 16) (oi := ⟨some 49, _, _, _, _, _⟩) (v := ?vve17) rfl (by kernel_rfl) (by kernel_rfl) (by kernel_rfl) (fun _ _ _ h => h) (Or.inl ⟨by rfl, ?yye17⟩) hHeld ?rre17
          case yye17 => (intro wq hSw; (try dsimp only at hSw); go_simp; first | done | with_reducible rfl)
          simp only [Act.put, List.setIfInBounds_toArray, List.set_cons_zero, List.set_cons_succ]
          refine wpAnyH_take (i := 17) (oi := ⟨some 2, _, _, _, _, _⟩) (v := ?vve18) rfl (by kernel_rfl) (by kernel_rfl) (by kernel_rfl) (fun _ _ _ h => h) (Or.inl ⟨by rfl, ?yye18⟩) hHeld ?rre18
          case yye18 => (intro wq hSw; (try dsimp only at hSw); go_simp; first | done | with_reducible rfl)
          simp only [Act.put, List.setIfInBounds_toArray, List.set_cons_zero, List.set_cons_succ]
          refine wpAnyH_done (by kernel_rfl) ?_ _
          have hB5 := hHeld.1
          try dsimp only at hB5
          clear hHeld
          go_wp2_with fail
          go_ret
          exact ⟨rfl, below_then HBW.out (below_then HBR.out hB5)⟩
        · have hr : R = decide (65535 < ws.length) := by rw [hI2, decide_eq_false h1, decide_eq_false h0]; rfl
          have t1 : ((m : Int) != (st : Int)) = false := by
            have : m = st := by rw [← hm]; omega
            rw [this]; simp
          have HR := Lib.hid hr
          have T65 := Lib.hid t65
          clear hI hI2 h0 h1 hm hs er HI ks7 hr t65
          go_wp2_with fail
          clear d0 d1
          refine wp_region_held_drew (S := (fun w' => Below wr.heap.size wr w' ∧ w'.cell? ⟨w.heap.size, 0, none⟩ = some (.int .u64 (st : Int)) ∧ w'.cell? ⟨w.heap.size, 1, none⟩ = some (.slice a ws.length cap))) (by kernel_rfl) (KS.out _ (Below.refl _ _).drew) (fun hHeld => ?_)
          refine wpAnyH_take (i := 0) (oi := ⟨some 33, _, _, _, _, _⟩) (v := ?vvf1) rfl (by kernel_rfl) (by kernel_rfl) (by kernel_rfl) (fun _ _ _ h => h) (Or.inl ⟨by rfl, ?yyf1⟩) hHeld ?rrf1
          case yyf1 => (intro wq hSw; (try dsimp only at hSw); go_simp; first | done | with_reducible rfl)
          simp only [Act.put, List.setIfInBounds_toArray, List.set_cons_zero, List.set_cons_succ]
          refine wpAnyH_take (i := 1) (oi := ⟨some 34, _, _, _, _, _⟩) (v := ?vvf2) rfl (by kernel_rfl) (by kernel_rfl) (by kernel_rfl) (fun _ _ _ h => h) (Or.inl ⟨by rfl, ?yyf2⟩) hHeld ?rrf2
          case yyf2 => (intro wq hSw; (try dsimp only at hSw); go_simp; first | done | with_reducible rfl)
          simp only [Act.put, List.setIfInBounds_toArray, List.set_cons_zero, List.set_cons_succ]
          refine wpAnyH_take (i := 2) (oi := ⟨some 35, _, _, _, _, _⟩) (v := ?vvf3) rfl (by kernel_rfl) (by kernel_rfl) (by kernel_rfl) (fun _ _ _ h => h) (Or.inl ⟨by rfl, ?yyf3⟩) hHeld ?rrf3
          case yyf3 => (intro wq hSw; (try dsimp only at hSw); go_simp; first | done | with_reducible rfl)
          simp only [Act.put, List.setIfInBounds_toArray, List.set_cons_zero, List.set_cons_succ]
          refine wpAnyH_take (i := 3) (oi := ⟨some 36, _, _, _, _, _⟩) (v := ?vvf4) rfl (by kernel_rfl) (by kernel_rfl) (by kernel_rfl) (fun _ _ _ h => h) (Or.inl ⟨by rfl, ?yyf4⟩) hHeld ?rrf4
          case yyf4 => (intro wq hSw; (try dsimp only at hSw); go_simp; first | done | with_reducible rfl)
          simp only [Act.put, List.setIfInBounds_toArray, List.set_cons_zero, List.set_cons_succ]
          refine wpAnyH_take (i := 4) (oi := ⟨some 37, _, _, _, _, _⟩) (v := ?vvf5) rfl (by kernel_rfl) (by kernel_rfl) (by kernel_rfl) (fun _ _ _ h => h) (Or.inl ⟨by rfl, ?yyf5⟩) hHeld ?rrf5
          case yyf5 => (intro wq hSw; (try dsimp only at hSw); go_simp; first | done | with_reducible rfl)
          simp only [Act.put, List.setIfInBounds_toArray, List.set_cons_zero, List.set_cons_succ]
          refine wpAnyH_take (i := 5) (oi := ⟨some 38, _, _, _, _, _⟩) (v := ?vvf6) rfl (by kernel_rfl) (by kernel_rfl) (by kernel_rfl) (fun _ _ _ h => h) (Or.inl ⟨by rfl, ?yyf6⟩) hHeld ?rrf6
          case yyf6 => (intro wq hSw; (try dsimp only at hSw); go_simp; first | done | with_reducible rfl)
          simp only [Act.put, List.setIfInBounds_toArray, List.set_cons_zero, List.set_cons_succ]
          refine wpAnyH_take (i := 7) (oi := ⟨some 40, _, _, _, _, _⟩) (v := ?vvf7) rfl (by kernel_rfl) (by kernel_rfl) (by kernel_rfl) (fun _ _ _ h => h) (Or.inl ⟨by rfl, ?yyf7⟩) hHeld ?rrf7
          case yyf7 => (intro wq hSw; (try dsimp only at hSw); go_simp; first | done | with_reducible rfl)
          simp only [Act.put, List.setIfInBounds_toArray, List.set_cons_zero, List.set_cons_succ]
          refine wpAnyH_take (i := 8) (oi := ⟨some 41, _, _, _, _, _⟩) (v := ?vvf8) rfl (by kernel_rfl) (by kernel_rfl) (by kernel_rfl) (fun _ _ _ h => h) (Or.inl ⟨by rfl, ?yyf8⟩) hHeld ?rrf8
          case yyf8 => (intro wq hSw; (try dsimp only at hSw); go_simp; first | done | with_reducible rfl)
          simp only [Act.put, List.setIfInBounds_toArray, List.set_cons_zero, List.set_cons_succ]
          refine wpAnyH_ready (rs := [6]) (by kernel_rfl) (by simp) ?_
          refine AllReadyH.cons (o := ⟨some 39, _, _, _, _, _⟩) rfl (fun K hK => ?_) AllReadyH.nil
          go_simp
          refine (stamp_num' st _ HS.out).mono ?_
          rintro e w4 ⟨rfl, rfl⟩
          rw [HM.out]
          have hB4 := hHeld.1
          go_wp2_with fail
          refine hK.out _ _ ?ssf9 (fun hHeld => ?_)
          case ssf9 => (exact KS.out _ hB4)
          clear hK K
          try simp only [Act.put, List.setIfInBounds_toArray, List.set_cons_zero, List.set_cons_succ]
          refine wpAnyH_take (i := 9) (oi := ⟨some 42, _, _, _, _, _⟩) (v := ?vvf10) rfl (by kernel_rfl) (by kernel_rfl) (by kernel_rfl) (fun _ _ _ h => h) (Or.inl ⟨by rfl, ?yyf10⟩) hHeld ?rrf10
          case yyf10 => (intro wq hSw; (try dsimp only at hSw); go_simp; first | done | with_reducible rfl)
          simp only [Act.put, List.setIfInBounds_toArray, List.set_cons_zero, List.set_cons_succ]
          refine wpAnyH_take (i := 10) (oi := ⟨some 43, _, _, _, _, _⟩) (v := ?vvf11) rfl (by kernel_rfl) (by kernel_rfl) (by kernel_rfl) (fun _ _ _ h => h) (Or.inl ⟨by rfl, ?yyf11⟩) hHeld ?rrf11
          case yyf11 => (intro wq hSw; (try dsimp only at hSw); go_simp; first | done | with_reducible rfl)
          simp only [Act.put, List.setIfInBounds_toArray, List.set_cons_zero, List.set_cons_succ]
          refine wpAnyH_take (i := 11) (oi := ⟨some 44, _, _, _, _, _⟩) (v := ?vvf12) rfl (by kernel_rfl) (by kernel_rfl) (by kernel_rfl) (fun _ _ _ h => h) (Or.inl ⟨by rfl, ?yyf12⟩) hHeld ?rrf12
          case yyf12 => (intro wq hSw; (try dsimp only at hSw); go_simp; first | done | with_reducible rfl)
          simp only [Act.put, List.setIfInBounds_toArray, List.set_cons_zero, List.set_cons_succ]
          refine wpAnyH_take (i := 12) (oi := ⟨some 45, _, _, _, _, _⟩) (v := ?vvf13) rfl (by kernel_rfl) (by kernel_rfl) (by kernel_rfl) (fun _ _ _ h => h) (Or.inl ⟨by rfl, ?yyf13⟩) hHeld ?rrf13
          case yyf13 => (intro wq hSw; (try dsimp only at hSw); go_simp; first | done | with_reducible rfl)
          simp only [Act.put, List.setIfInBounds_toArray, List.set_cons_zero, List.set_cons_succ]
          refine wpAnyH_take (i := 13) (oi := ⟨some 46, _, _, _, _, _⟩) (v := ?vvf14) rfl (by kernel_rfl) (by kernel_rfl) (by kernel_rfl) (fun _ _ _ h => h) (Or.inl ⟨by rfl, ?yyf14⟩) hHeld ?rrf14
          case yyf14 => (intro wq hSw; (try dsimp only at hSw); go_simp; first | done | with_reducible rfl)
          simp only [Act.put, List.setIfInBounds_toArray, List.set_cons_zero, List.set_cons_succ]
          refine wpAnyH_take (i := 14) (oi := ⟨some 47, _, _, _, _, _⟩) (v := ?vvf15) rfl (by kernel_rfl) (by kernel_rfl) (by kernel_rfl) (fun _ _ _ h => h) (Or.inl ⟨by rfl, ?yyf15⟩) hHeld ?rrf15
          case yyf15 => (intro wq hSw; (try dsimp only at hSw); go_simp; first | done | with_reducible rfl)
          simp only [Act.put, List.setIfInBounds_toArray, List.set_cons_zero, List.set_cons_succ]
          refine wpAnyH_take (i := 15) (oi := ⟨some 48, _, _, _, _, _⟩) (v := ?vvf16) rfl (by kernel_rfl) (by kernel_rfl) (by kernel_rfl) (fun _ _ _ h => h) (Or.inl ⟨by rfl, ?yyf16⟩) hHeld ?rrf16
          case yyf16 => (intro wq hSw; (try dsimp only at hSw); go_simp; first | done | with_reducible rfl)
          simp only [Act.put, List.setIfInBounds_toArray, List.set_cons_zero, List.set_cons_succ]
          refine wpAnyH_take (i := 16) (oi := ⟨some 49, _, _, _, _, _⟩) (v := ?vvf17) rfl (by kernel_rfl) (by kernel_rfl) (by kernel_rfl) (fun _ _ _ h => h) (Or.inl ⟨by rfl, ?yyf17⟩) hHeld ?rrf17
          case yyf17 => (intro wq hSw; (try dsimp only at hSw); go_simp; first | done | with_reducible rfl)
          simp only [Act.put, List.setIfInBounds_toArray, List.set_cons_zero, List.set_cons_succ]
          refine wpAnyH_take (i := 17) (oi := ⟨some 2, _, _, _, _, _⟩) (v := ?vvf18) rfl (by kernel_rfl) (by kernel_rfl) (by kernel_rfl) (fun _ _ _ h => h) (Or.inl ⟨by rfl, ?yyf18⟩) hHeld ?rrf18
          case yyf18 => (intro wq hSw; (try dsimp only at hSw); go_simp; first | done | with_reducible rfl)
          simp only [Act.put, List.setIfInBounds_toArray, List.set_cons_zero, List.set_cons_succ]
          refine wpAnyH_done (by kernel_rfl) ?_ _
          have hB5 := hHeld.1
          try dsimp only at hB5
          clear hHeld
          go_wp2_with fail
          go_ret
          exact ⟨by rw [HR.out, ← T65.out]; rfl, below_then HBW.out (below_then HBR.out hB5)⟩
end Go.Proofs.Ytcghgnncmnoalaa
namespace Go.Proofs.Ytcghgnncmnoalaa
open Go.RowKit Go.Maps

theorem r14in_any' (n t : Int) (w : World) : Calls Try.prog 94 #[.int .i64 n, .int .i64 t] w fun e w' => e = .returned (.bool (inB n t)) ∧ w = w' := (r14in_any n t w).mono fun _ _ h => ⟨h.1, h.2.symm⟩
/-- the order in which the reference asks -/
def badWs2 : List Wr → Option Ky → Bool
  | [], _ => false
  | x :: r, o => (x.big || (x.mute || lateW o x.k)) || badWs2 r (some x.k)
theorem badWs2_eq : ∀ (ws : List Wr) (o : Option Ky), badWs2 ws o = badWs ws o
  | [], _ => rfl
  | x :: r, o => by
    unfold badWs2 badWs Wr.odd
    rw [badWs2_eq r]
    cases x.big <;> cases x.mute <;> rfl
theorem badWs2_drop {ws : List Wr} {k : Nat} {x : Wr} (hx : ws[k]? = some x) : badWs2 (ws.drop k) (prevK ws k) = ((x.big || (x.mute || lateW (prevK ws k) x.k)) || badWs2 (ws.drop (k + 1)) (prevK ws (k + 1))) := by
  rw [badWs2_eq, badWs2_eq, badWs_drop hx]
  unfold Wr.odd
  rw [Bool.or_assoc x.big]
def Rc.right (r : Rc) : Bool := !((decide (r.stamp = 0) || (decide (4611686018427387904 ≤ r.stamp) || decide (65535 < r.ws.length))) || badWs2 r.ws none)
theorem right_eq (r : Rc) : r.right = !r.wrong := by
  unfold Rc.right Rc.wrong
  rw [badWs2_eq, Bool.or_comm]
  congr 2
  rw [Bool.or_assoc]
set_option maxRecDepth 100000 in
set_option maxHeartbeats 4000000 in
theorem r14right_any (st : Nat) (a : Option Addr) (cap : Nat) (ws : List Wr) (w : World) (h : WsV w a ws) (hs : st < 18446744073709551616) (hl : ws.length ≤ 1000000) :
    Calls Try.prog 25 #[.agg #[.int .u64 st, .slice a ws.length cap]] w (BoolPost w (Rc.right ⟨st, ws⟩)) := by
  obtain ⟨R, hR⟩ : ∃ r, Rc.right ⟨st, ws⟩ = r := ⟨_, rfl⟩
  have hO : R = !((decide (st = 0) || (decide (4611686018427387904 ≤ st) || decide (65535 < ws.length))) || badWs2 ws none) := by rw [← hR]; rfl
  rw [hR]
  have HO := Lib.hid hO
  obtain ⟨W, hW⟩ : ∃ W, W = w.alloc (.cells #[.int .u64 st, .slice a ws.length cap] 35) := ⟨_, rfl⟩
  have hBW : Below w.heap.size w W := by rw [hW]; exact below_box w _
  have eW : W.heap[w.heap.size]? = some (.cells #[.int .u64 st, .slice a ws.length cap] 35) := by rw [hW]; exact heap_new w _
  have HEW := Lib.hid eW
  have HBW := Lib.hid hBW
  have HW := Lib.hid hW
  have HWS := Lib.hid (h.below hBW)
  have hlw : w.heap.size < W.heap.size := by rw [hW]; simp
  have HLW := Lib.hid hlw
  have g0 := cell_of_blk eW 0
  have g1 := cell_of_blk eW 1
  simp at g0 g1
  obtain ⟨q1, h1⟩ : ∃ q, decide (4611686018427387904 ≤ st) = q := ⟨_, rfl⟩
  rw [h1] at hO
  have t1 : decide ((4611686018427387904 : Int) ≤ (st : Int)) = q1 := by
    rw [← h1]
    by_cases h : 4611686018427387904 ≤ st
    · rw [decide_eq_true h, decide_eq_true (by omega)]
    · rw [decide_eq_false h, decide_eq_false (by omega)]
  have HS := Lib.hid hs
  by_cases h0 : st = 0
  · have hr : R = false := by rw [hO, decide_eq_true h0]; rfl
    have t0 : ((st : Int) == 0) = true := by rw [h0]; rfl
    subst hr
    clear hO h0 hR hW hBW eW h HO hs h1
    go_enter Try.func25, Try.ntmps25
    go_upto_region 1 with fail
    rw [← HW.out]
    go_wp2_with fail
    go_ret
    exact ⟨rfl, HBW.out⟩
  · have t0 : ((st : Int) == 0) = false := by simp; omega
    cases q1
    · by_cases h5 : 65535 < ws.length
      · have hr : R = false := by rw [hO, decide_eq_true h5]; simp
        subst hr
        clear hO h0 hR hW hBW eW h HO hs h1
        go_enter Try.func25, Try.ntmps25
        go_upto_region 1 with fail
        rw [← HW.out]
        go_wp2_with fail
        go_ret
        exact ⟨rfl, HBW.out⟩
      · have HO2 : Hid (R = !(badWs2 ws none)) := Lib.hid (by rw [hO, decide_eq_false h0, decide_eq_false h5]; rfl)
        clear hO h0 hR hW hBW eW h HO hs h1
        go_enter Try.func25, Try.ntmps25
        go_upto_region 1 with fail
        rw [← HW.out]
        go_wp2_with fail
        clear g0 g1 hlw
        go_loopw [3] (fun i wr => ∃ k : Nat, k ≤ ws.length ∧ i = .int .i64 k ∧ Hid (badWs2 ws none = badWs2 (ws.drop k) (prevK ws k)) ∧ Below W.heap.size W wr) (fun i _ => ws.length - (intOf i).toNat)
        case atStart => exact ⟨0, by omega, rfl, Lib.hid rfl, Below.refl _ _⟩
        case round =>
          obtain ⟨k, hk, rfl, HI, hbr⟩ := hrel
          have er := (hbr.block _ HLW.out).trans HEW.out
          have HBR := Lib.hid hbr
          have g0 := cell_of_blk er 0
          have g1 := cell_of_blk er 1
          simp at g0 g1
          by_cases hlt : k < ws.length
          · obtain ⟨x, hx⟩ : ∃ x, ws[k]? = some x := ⟨_, List.getElem?_eq_getElem hlt⟩
            obtain ⟨b, off, rfl, hat⟩ := HWS.out (fun e => by rw [e] at hlt; simp at hlt)
            have HAR := Lib.hid (hat.below hbr)
            obtain ⟨c0, c1, c2, c3, c4, c5⟩ := (hat.below hbr).six hx
            have hD := badWs2_drop hx
            have hI := HI.out
            rw [hD] at hI
            obtain ⟨⟨⟨kd, ka, kb, ks⟩, val, has⟩, hxx⟩ : ∃ y, y = x := ⟨_, rfl⟩
            subst hxx
            simp only [] at c0 c1 c2 c3 c4 c5
            obtain ⟨V, hV⟩ : ∃ V, V = wr.alloc (.cells #[.int .i64 kd, .int .i64 ka, .int .i64 kb, .string ks, .string val, .bool has] 80) := ⟨_, rfl⟩
            have eV : V.heap[wr.heap.size]? = some (.cells #[.int .i64 kd, .int .i64 ka, .int .i64 kb, .string ks, .string val, .bool has] 80) := by rw [hV]; exact heap_new wr _
            have bV : Below wr.heap.size wr V := by rw [hV]; exact below_box wr _
            have zV : V.heap.size = wr.heap.size + 1 := by rw [hV]; simp
            have HV := Lib.hid hV
            have HBV := Lib.hid (below_then hbr bV)
            have erV := (bV.block _ (Nat.lt_of_lt_of_le HLW.out hbr.size)).trans er
            have g1V := cell_of_blk erV 1
            simp at g1V
            have hatV := (HAR.out.below bV)
            have c1k : ∀ p, ws[k - 1]? = some p → V.cell? ⟨b, off + (k - 1) * 6, none⟩ = some (.int .i64 p.k.kind) ∧ V.cell? ⟨b, off + (k - 1) * 6 + 1, none⟩ = some (.int .i64 p.k.a) ∧ V.cell? ⟨b, off + (k - 1) * 6 + 2, none⟩ = some (.int .i64 p.k.b) ∧ V.cell? ⟨b, off + (k - 1) * 6 + 3, none⟩ = some (.string p.k.s) ∧ p.Ok := fun p hp => by
              obtain ⟨d0, d1, d2, d3, _, _⟩ := hatV.six hp
              exact ⟨d0, d1, d2, d3, (hatV.cells _ _ hp).1⟩
            have hbl : b < V.heap.size := hatV.lt
            obtain ⟨q1, h1⟩ : ∃ q, inB kd 255 = q := ⟨_, rfl⟩
            obtain ⟨q2, h2⟩ : ∃ q, inB ka 1099511627775 = q := ⟨_, rfl⟩
            obtain ⟨q3, h3⟩ : ∃ q, inB kb 1099511627775 = q := ⟨_, rfl⟩
            have HBG : Hid ((⟨⟨kd, ka, kb, ks⟩, val, has⟩ : Wr).big = (!q1 || (!q2 || (!q3 || (decide (65535 < ks.size) || decide (65535 < val.size)))))) := Lib.hid (by rw [← h1, ← h2, ← h3]; rfl)
            have H1 := Lib.hid h1
            have H2 := Lib.hid h2
            have H3 := Lib.hid h3
            have ks1 : ∀ w', Below V.heap.size V w' → (fun w' => Below V.heap.size V w' ∧ w'.cell? ⟨wr.heap.size, 0, none⟩ = some (.int .i64 kd) ∧ w'.cell? ⟨wr.heap.size, 1, none⟩ = some (.int .i64 ka) ∧ w'.cell? ⟨wr.heap.size, 2, none⟩ = some (.int .i64 kb) ∧ w'.cell? ⟨wr.heap.size, 3, none⟩ = some (.string ks) ∧ w'.cell? ⟨wr.heap.size, 4, none⟩ = some (.string val) ∧ w'.cell? ⟨wr.heap.size, 5, none⟩ = some (.bool has)) w' := fun w' hb => by
              have e := (hb.block _ (by omega)).trans eV
              exact ⟨hb, by rw [cell_of_blk e]; rfl, by rw [cell_of_blk e]; rfl, by rw [cell_of_blk e]; rfl, by rw [cell_of_blk e]; rfl, by rw [cell_of_blk e]; rfl, by rw [cell_of_blk e]; rfl⟩
            have KS := Lib.hid ks1
            replace HI := Lib.hid hI
            have HI3F : Hid (q1 = true → q2 = true → q3 = true → ¬ 65535 < ks.size → ¬ 65535 < val.size → badWs2 ws none = (((⟨⟨kd, ka, kb, ks⟩, val, has⟩ : Wr).mute || lateW (prevK ws k) ⟨kd, ka, kb, ks⟩) || badWs2 (ws.drop (k + 1)) (prevK ws (k + 1)))) := Lib.hid (fun e1 e2 e3 e4 e5 => by
              rw [hI, HBG.out, e1, e2, e3, decide_eq_false e4, decide_eq_false e5]; rfl)
            clear h1 h2 h3 hI hD
            by_cases hk0 : k = 0
            · subst hk0
              simp only [Nat.zero_mul, Nat.add_zero] at c0 c1 c2 c3 c4 c5
              replace HI3F : Hid (q1 = true → q2 = true → q3 = true → ¬ 65535 < ks.size → ¬ 65535 < val.size → badWs2 ws none = ((⟨⟨kd, ka, kb, ks⟩, val, has⟩ : Wr).mute || badWs2 (ws.drop (0 + 1)) (prevK ws (0 + 1)))) := Lib.hid (fun e1 e2 e3 e4 e5 => by
                rw [HI3F.out e1 e2 e3 e4 e5]; simp [prevK, lateW])
              clear ks1 c1k hx hat hatV hV eV er erV
              go_wp2_with fail
              rw [← HV.out]
              clear c0 c1 c2 c3 c4 c5
              obtain ⟨_, s0, s1, s2, s3, s4, s5⟩ := KS.out V (Below.refl _ _)
              go_wp2_with fail
              refine (r14in_any' _ _ _).mono ?_
              rintro e w1 ⟨rfl, rfl⟩
              rw [H1.out]
              cases q1
              · have hr : R = false := by rw [HO2.out, HI.out, HBG.out]; simp
                subst hr
                go_wp2_with fail
                go_ret
                exact ⟨rfl, below_then HBW.out HBV.out⟩
              · go_wp2_with fail
                refine (r14in_any' _ _ _).mono ?_
                rintro e w1 ⟨rfl, rfl⟩
                rw [H2.out]
                cases q2
                · have hr : R = false := by rw [HO2.out, HI.out, HBG.out]; simp
                  subst hr
                  go_wp2_with fail
                  go_ret
                  exact ⟨rfl, below_then HBW.out HBV.out⟩
                · go_wp2_with fail
                  refine (r14in_any' _ _ _).mono ?_
                  rintro e w1 ⟨rfl, rfl⟩
                  rw [H3.out]
                  cases q3
                  · have hr : R = false := by rw [HO2.out, HI.out, HBG.out]; simp
                    subst hr
                    go_wp2_with fail
                    go_ret
                    exact ⟨rfl, below_then HBW.out HBV.out⟩
                  · by_cases h4 : 65535 < ks.size
                    · have t4 : decide ((65535 : Int) < (ks.size : Int)) = true := decide_eq_true (by omega)
                      have hr : R = false := by rw [HO2.out, HI.out, HBG.out, decide_eq_true h4]; simp
                      subst hr
                      go_wp2_with fail
                      go_ret
                      exact ⟨rfl, below_then HBW.out HBV.out⟩
                    · have t4 : decide ((65535 : Int) < (ks.size : Int)) = false := decide_eq_false (by omega)
                      by_cases h5' : 65535 < val.size
                      · have t5 : decide ((65535 : Int) < (val.size : Int)) = true := decide_eq_true (by omega)
                        have hr : R = false := by rw [HO2.out, HI.out, HBG.out, decide_eq_true h5']; simp
                        subst hr
                        go_wp2_with fail
                        go_ret
                        exact ⟨rfl, below_then HBW.out HBV.out⟩
                      · have t5 : decide ((65535 : Int) < (val.size : Int)) = false := decide_eq_false (by omega)
                        have HI3 : Hid (_ = _) := HI3F.out (by trivial) (by trivial) (by trivial) h4 h5'
                        cases has
                        · by_cases h6 : val.size = 0
                          · have hv : val = ⟨#[]⟩ := ba_empty h6
                            subst hv
                            have HN : Hid (badWs2 ws none = badWs2 (ws.drop (0 + 1)) (prevK ws (0 + 1))) := Lib.hid (by rw [HI3.out, show (⟨⟨kd, ka, kb, ks⟩, ⟨#[]⟩, false⟩ : Wr).mute = false from rfl]; rfl)
                            clear h6 t5
                            go_wp2_with fail
                            clear s0 s1 s2 s3 s4 s5
                            refine wp_region_held_drew (S := (fun w' => Below V.heap.size V w' ∧ w'.cell? ⟨wr.heap.size, 0, none⟩ = some (.int .i64 kd) ∧ w'.cell? ⟨wr.heap.size, 1, none⟩ = some (.int .i64 ka) ∧ w'.cell? ⟨wr.heap.size, 2, none⟩ = some (.int .i64 kb) ∧ w'.cell? ⟨wr.heap.size, 3, none⟩ = some (.string ks) ∧ w'.cell? ⟨wr.heap.size, 4, none⟩ = some (.string ⟨#[]⟩) ∧ w'.cell? ⟨wr.heap.size, 5, none⟩ = some (.bool false))) (by kernel_rfl) (KS.out _ (Below.refl _ _).drew) (fun hHeld => ?_)
                            refine wpAnyH_take (i := 0) (oi := ⟨some 63, _, _, _, _, _⟩) (v := ?vvap1) rfl (by kernel_rfl) (by kernel_rfl) (by kernel_rfl) (fun _ _ _ h => h) (Or.inl ⟨by rfl, ?yyap1⟩) hHeld ?rrap1
                            case yyap1 => (intro wq hSw; (try dsimp only at hSw); go_simp; first | done | with_reducible rfl)
                            simp only [Act.put, List.setIfInBounds_toArray, List.set_cons_zero, List.set_cons_succ]
                            refine wpAnyH_take (i := 1) (oi := ⟨some 64, _, _, _, _, _⟩) (v := ?vvap2) rfl (by kernel_rfl) (by kernel_rfl) (by kernel_rfl) (fun _ _ _ h => h) (Or.inl ⟨by rfl, ?yyap2⟩) hHeld ?rrap2
                            case yyap2 => (intro wq hSw; (try dsimp only at hSw); go_simp; first | done | with_reducible rfl)
                            simp only [Act.put, List.setIfInBounds_toArray, List.set_cons_zero, List.set_cons_succ]
                            refine wpAnyH_take (i := 2) (oi := ⟨some 65, _, _, _, _, _⟩) (v := ?vvap3) rfl (by kernel_rfl) (by kernel_rfl) (by kernel_rfl) (fun _ _ _ h => h) (Or.inl ⟨by rfl, ?yyap3⟩) hHeld ?rrap3
                            case yyap3 => (intro wq hSw; (try dsimp only at hSw); go_simp; first | done | with_reducible rfl)
                            simp only [Act.put, List.setIfInBounds_toArray, List.set_cons_zero, List.set_cons_succ]
                            refine wpAnyH_take (i := 3) (oi := ⟨some 66, _, _, _, _, _⟩) (v := ?vvap4) rfl (by kernel_rfl) (by kernel_rfl) (by kernel_rfl) (fun _ _ _ h => h) (Or.inl ⟨by rfl, ?yyap4⟩) hHeld ?rrap4
                            case yyap4 => (intro wq hSw; (try dsimp only at hSw); go_simp; first | done | with_reducible rfl)
                            simp only [Act.put, List.setIfInBounds_toArray, List.set_cons_zero, List.set_cons_succ]
                            refine wpAnyH_take (i := 4) (oi := ⟨some 67, _, _, _, _, _⟩) (v := ?vvap5) rfl (by kernel_rfl) (by kernel_rfl) (by kernel_rfl) (fun _ _ _ h => h) (Or.inl ⟨by rfl, ?yyap5⟩) hHeld ?rrap5
                            case yyap5 => (intro wq hSw; (try dsimp only at hSw); go_simp; first | done | with_reducible rfl)
                            simp only [Act.put, List.setIfInBounds_toArray, List.set_cons_zero, List.set_cons_succ]
                            refine wpAnyH_take (i := 5) (oi := ⟨some 68, _, _, _, _, _⟩) (v := ?vvap6) rfl (by kernel_rfl) (by kernel_rfl) (by kernel_rfl) (fun _ _ _ h => h) (Or.inl ⟨by rfl, ?yyap6⟩) hHeld ?rrap6
                            case yyap6 => (intro wq hSw; (try dsimp only at hSw); go_simp; first | done | with_reducible rfl)
                            simp only [Act.put, List.setIfInBounds_toArray, List.set_cons_zero, List.set_cons_succ]
                            refine wpAnyH_take (i := 6) (oi := ⟨some 69, _, _, _, _, _⟩) (v := ?vvap7) rfl (by kernel_rfl) (by kernel_rfl) (by kernel_rfl) (fun _ _ _ h => h) (Or.inl ⟨by rfl, ?yyap7⟩) hHeld ?rrap7
                            case yyap7 => (intro wq hSw; (try dsimp only at hSw); go_simp; first | done | with_reducible rfl)
                            simp only [Act.put, List.setIfInBounds_toArray, List.set_cons_zero, List.set_cons_succ]
                            refine wpAnyH_take (i := 7) (oi := ⟨some 70, _, _, _, _, _⟩) (v := ?vvap8) rfl (by kernel_rfl) (by kernel_rfl) (by kernel_rfl) (fun _ _ _ h => h) (Or.inl ⟨by rfl, ?yyap8⟩) hHeld ?rrap8
                            case yyap8 => (intro wq hSw; (try dsimp only at hSw); go_simp; first | done | with_reducible rfl)
                            simp only [Act.put, List.setIfInBounds_toArray, List.set_cons_zero, List.set_cons_succ]
                            refine wpAnyH_take (i := 8) (oi := ⟨some 71, _, _, _, _, _⟩) (v := ?vvap9) rfl (by kernel_rfl) (by kernel_rfl) (by kernel_rfl) (fun _ _ _ h => h) (Or.inl ⟨by rfl, ?yyap9⟩) hHeld ?rrap9
                            case yyap9 => (intro wq hSw; (try dsimp only at hSw); go_simp; first | done | with_reducible rfl)
                            simp only [Act.put, List.setIfInBounds_toArray, List.set_cons_zero, List.set_cons_succ]
                            refine wpAnyH_take (i := 9) (oi := ⟨some 72, _, _, _, _, _⟩) (v := ?vvap10) rfl (by kernel_rfl) (by kernel_rfl) (by kernel_rfl) (fun _ _ _ h => h) (Or.inl ⟨by rfl, ?yyap10⟩) hHeld ?rrap10
                            case yyap10 => (intro wq hSw; (try dsimp only at hSw); go_simp; first | done | with_reducible rfl)
                            simp only [Act.put, List.setIfInBounds_toArray, List.set_cons_zero, List.set_cons_succ]
                            refine wpAnyH_take (i := 10) (oi := ⟨some 73, _, _, _, _, _⟩) (v := ?vvap11) rfl (by kernel_rfl) (by kernel_rfl) (by kernel_rfl) (fun _ _ _ h => h) (Or.inl ⟨by rfl, ?yyap11⟩) hHeld ?rrap11
                            case yyap11 => (intro wq hSw; (try dsimp only at hSw); go_simp; first | done | with_reducible rfl)
                            simp only [Act.put, List.setIfInBounds_toArray, List.set_cons_zero, List.set_cons_succ]
                            refine wpAnyH_take (i := 11) (oi := ⟨some 74, _, _, _, _, _⟩) (v := ?vvap12) rfl (by kernel_rfl) (by kernel_rfl) (by kernel_rfl) (fun _ _ _ h => h) (Or.inl ⟨by rfl, ?yyap12⟩) hHeld ?rrap12
                            case yyap12 => (intro wq hSw; (try dsimp only at hSw); go_simp; first | done | with_reducible rfl)
                            simp only [Act.put, List.setIfInBounds_toArray, List.set_cons_zero, List.set_cons_succ]
                            refine wpAnyH_take (i := 12) (oi := ⟨some 75, _, _, _, _, _⟩) (v := undef) rfl (by kernel_rfl) (by kernel_rfl) (by kernel_rfl) (fun _ _ _ h => h) (Or.inr ⟨by rfl, rfl⟩) hHeld ?_
                            simp only [Act.put, List.setIfInBounds_toArray, List.set_cons_zero, List.set_cons_succ]
                            refine wpAnyH_take (i := 13) (oi := ⟨some 76, _, _, _, _, _⟩) (v := undef) rfl (by kernel_rfl) (by kernel_rfl) (by kernel_rfl) (fun _ _ _ h => h) (Or.inr ⟨by rfl, rfl⟩) hHeld ?_
                            simp only [Act.put, List.setIfInBounds_toArray, List.set_cons_zero, List.set_cons_succ]
                            refine wpAnyH_take (i := 14) (oi := ⟨some 77, _, _, _, _, _⟩) (v := undef) rfl (by kernel_rfl) (by kernel_rfl) (by kernel_rfl) (fun _ _ _ h => h) (Or.inr ⟨by rfl, rfl⟩) hHeld ?_
                            simp only [Act.put, List.setIfInBounds_toArray, List.set_cons_zero, List.set_cons_succ]
                            refine wpAnyH_take (i := 15) (oi := ⟨some 78, _, _, _, _, _⟩) (v := undef) rfl (by kernel_rfl) (by kernel_rfl) (by kernel_rfl) (fun _ _ _ h => h) (Or.inr ⟨by rfl, rfl⟩) hHeld ?_
                            simp only [Act.put, List.setIfInBounds_toArray, List.set_cons_zero, List.set_cons_succ]
                            refine wpAnyH_take (i := 16) (oi := ⟨some 79, _, _, _, _, _⟩) (v := undef) rfl (by kernel_rfl) (by kernel_rfl) (by kernel_rfl) (fun _ _ _ h => h) (Or.inr ⟨by rfl, rfl⟩) hHeld ?_
                            simp only [Act.put, List.setIfInBounds_toArray, List.set_cons_zero, List.set_cons_succ]
                            refine wpAnyH_take (i := 17) (oi := ⟨some 80, _, _, _, _, _⟩) (v := undef) rfl (by kernel_rfl) (by kernel_rfl) (by kernel_rfl) (fun _ _ _ h => h) (Or.inr ⟨by rfl, rfl⟩) hHeld ?_
                            simp only [Act.put, List.setIfInBounds_toArray, List.set_cons_zero, List.set_cons_succ]
                            refine wpAnyH_take (i := 18) (oi := ⟨some 81, _, _, _, _, _⟩) (v := undef) rfl (by kernel_rfl) (by kernel_rfl) (by kernel_rfl) (fun _ _ _ h => h) (Or.inr ⟨by rfl, rfl⟩) hHeld ?_
                            simp only [Act.put, List.setIfInBounds_toArray, List.set_cons_zero, List.set_cons_succ]
                            refine wpAnyH_take (i := 19) (oi := ⟨some 82, _, _, _, _, _⟩) (v := undef) rfl (by kernel_rfl) (by kernel_rfl) (by kernel_rfl) (fun _ _ _ h => h) (Or.inr ⟨by rfl, rfl⟩) hHeld ?_
                            simp only [Act.put, List.setIfInBounds_toArray, List.set_cons_zero, List.set_cons_succ]
                            refine wpAnyH_take (i := 20) (oi := ⟨some 83, _, _, _, _, _⟩) (v := undef) rfl (by kernel_rfl) (by kernel_rfl) (by kernel_rfl) (fun _ _ _ h => h) (Or.inr ⟨by rfl, rfl⟩) hHeld ?_
                            simp only [Act.put, List.setIfInBounds_toArray, List.set_cons_zero, List.set_cons_succ]
                            refine wpAnyH_take (i := 21) (oi := ⟨some 84, _, _, _, _, _⟩) (v := undef) rfl (by kernel_rfl) (by kernel_rfl) (by kernel_rfl) (fun _ _ _ h => h) (Or.inr ⟨by rfl, rfl⟩) hHeld ?_
                            simp only [Act.put, List.setIfInBounds_toArray, List.set_cons_zero, List.set_cons_succ]
                            refine wpAnyH_take (i := 22) (oi := ⟨some 85, _, _, _, _, _⟩) (v := undef) rfl (by kernel_rfl) (by kernel_rfl) (by kernel_rfl) (fun _ _ _ h => h) (Or.inr ⟨by rfl, rfl⟩) hHeld ?_
                            simp only [Act.put, List.setIfInBounds_toArray, List.set_cons_zero, List.set_cons_succ]
                            refine wpAnyH_take (i := 23) (oi := ⟨some 86, _, _, _, _, _⟩) (v := ?vvap24) rfl (by kernel_rfl) (by kernel_rfl) (by kernel_rfl) (fun _ _ _ h => h) (Or.inl ⟨by rfl, ?yyap24⟩) hHeld ?rrap24
                            case yyap24 => (intro wq hSw; (try dsimp only at hSw); go_simp; first | done | with_reducible rfl)
                            simp only [Act.put, List.setIfInBounds_toArray, List.set_cons_zero, List.set_cons_succ]
                            refine wpAnyH_take (i := 24) (oi := ⟨some 87, _, _, _, _, _⟩) (v := ?vvap25) rfl (by kernel_rfl) (by kernel_rfl) (by kernel_rfl) (fun _ _ _ h => h) (Or.inl ⟨by rfl, ?yyap25⟩) hHeld ?rrap25
                            case yyap25 => (intro wq hSw; (try dsimp only at hSw); go_simp; first | done | with_reducible rfl)
                            simp only [Act.put, List.setIfInBounds_toArray, List.set_cons_zero, List.set_cons_succ]
                            refine wpAnyH_done (by kernel_rfl) ?_ _
                            have hB5 := hHeld.1
                            try dsimp only at hB5
                            clear hHeld
                            go_wp2_with fail
                            exact ⟨⟨0 + 1, by omega, by go_num, HN, below_then HBV.out hB5⟩, by simp [intOf]; omega⟩
                          · have he : (val.toList == ([] : List UInt8)) = false := by rw [size0, decide_eq_false h6]
                            have hr : R = false := by rw [HO2.out, HI3.out, show (⟨⟨kd, ka, kb, ks⟩, val, false⟩ : Wr).mute = true by simp [Wr.mute, h6]]; simp
                            subst hr
                            clear h6
                            go_wp2_with fail
                            clear s0 s1 s2 s3 s4 s5
                            refine wp_region_held_drew (S := (fun w' => Below V.heap.size V w' ∧ w'.cell? ⟨wr.heap.size, 0, none⟩ = some (.int .i64 kd) ∧ w'.cell? ⟨wr.heap.size, 1, none⟩ = some (.int .i64 ka) ∧ w'.cell? ⟨wr.heap.size, 2, none⟩ = some (.int .i64 kb) ∧ w'.cell? ⟨wr.heap.size, 3, none⟩ = some (.string ks) ∧ w'.cell? ⟨wr.heap.size, 4, none⟩ = some (.string val) ∧ w'.cell? ⟨wr.heap.size, 5, none⟩ = some (.bool false))) (by kernel_rfl) (KS.out _ (Below.refl _ _).drew) (fun hHeld => ?_)
                            refine wpAnyH_take (i := 0) (oi := ⟨some 63, _, _, _, _, _⟩) (v := ?vvaq1) rfl (by kernel_rfl) (by kernel_rfl) (by kernel_rfl) (fun _ _ _ h => h) (Or.inl ⟨by rfl, ?yyaq1⟩) hHeld ?rraq1
                            case yyaq1 => (intro wq hSw; (try dsimp only at hSw); go_simp; first | done | with_reducible rfl)
                            simp only [Act.put, List.setIfInBounds_toArray, List.set_cons_zero, List.set_cons_succ]
                            refine wpAnyH_take (i := 1) (oi := ⟨some 64, _, _, _, _, _⟩) (v := ?vvaq2) rfl (by kernel_rfl) (by kernel_rfl) (by kernel_rfl) (fun _ _ _ h => h) (Or.inl ⟨by rfl, ?yyaq2⟩) hHeld ?rraq2
                            case yyaq2 => (intro wq hSw; (try dsimp only at hSw); go_simp; first | done | with_reducible rfl)
                            simp only [Act.put, List.setIfInBounds_toArray, List.set_cons_zero, List.set_cons_succ]
                            refine wpAnyH_take (i := 2) (oi := ⟨some 65, _, _, _, _, _⟩) (v := ?vvaq3) rfl (by kernel_rfl) (by kernel_rfl) (by kernel_rfl) (fun _ _ _ h => h) (Or.inl ⟨by rfl, ?yyaq3⟩) hHeld ?rraq3
                            case yyaq3 => (intro wq hSw; (try dsimp only at hSw); go_simp; first | done | with_reducible rfl)
                            simp only [Act.put, List.setIfInBounds_toArray, List.set_cons_zero, List.set_cons_succ]
                            refine wpAnyH_take (i := 3) (oi := ⟨some 66, _, _, _, _, _⟩) (v := ?vvaq4) rfl (by kernel_rfl) (by kernel_rfl) (by kernel_rfl) (fun _ _ _ h => h) (Or.inl ⟨by rfl, ?yyaq4⟩) hHeld ?rraq4
                            case yyaq4 => (intro wq hSw; (try dsimp only at hSw); go_simp; first | done | with_reducible rfl)
                            simp only [Act.put, List.setIfInBounds_toArray, List.set_cons_zero, List.set_cons_succ]
                            refine wpAnyH_take (i := 4) (oi := ⟨some 67, _, _, _, _, _⟩) (v := ?vvaq5) rfl (by kernel_rfl) (by kernel_rfl) (by kernel_rfl) (fun _ _ _ h => h) (Or.inl ⟨by rfl, ?yyaq5⟩) hHeld ?rraq5
                            case yyaq5 => (intro wq hSw; (try dsimp only at hSw); go_simp; first | done | with_reducible rfl)
                            simp only [Act.put, List.setIfInBounds_toArray, List.set_cons_zero, List.set_cons_succ]
                            refine wpAnyH_take (i := 5) (oi := ⟨some 68, _, _, _, _, _⟩) (v := ?vvaq6) rfl (by kernel_rfl) (by kernel_rfl) (by kernel_rfl) (fun _ _ _ h => h) (Or.inl ⟨by rfl, ?yyaq6⟩) hHeld ?rraq6
                            case yyaq6 => (intro wq hSw; (try dsimp only at hSw); go_simp; first | done | with_reducible rfl)
                            simp only [Act.put, List.setIfInBounds_toArray, List.set_cons_zero, List.set_cons_succ]
                            refine wpAnyH_take (i := 6) (oi := ⟨some 69, _, _, _, _, _⟩) (v := ?vvaq7) rfl (by kernel_rfl) (by kernel_rfl) (by kernel_rfl) (fun _ _ _ h => h) (Or.inl ⟨by rfl, ?yyaq7⟩) hHeld ?rraq7
                            case yyaq7 => (intro wq hSw; (try dsimp only at hSw); go_simp; first | done | with_reducible rfl)
                            simp only [Act.put, List.setIfInBounds_toArray, List.set_cons_zero, List.set_cons_succ]
                            refine wpAnyH_take (i := 7) (oi := ⟨some 70, _, _, _, _, _⟩) (v := ?vvaq8) rfl (by kernel_rfl) (by kernel_rfl) (by kernel_rfl) (fun _ _ _ h => h) (Or.inl ⟨by rfl, ?yyaq8⟩) hHeld ?rraq8
                            case yyaq8 => (intro wq hSw; (try dsimp only at hSw); go_simp; first | done | with_reducible rfl)
                            simp only [Act.put, List.setIfInBounds_toArray, List.set_cons_zero, List.set_cons_succ]
                            refine wpAnyH_take (i := 8) (oi := ⟨some 71, _, _, _, _, _⟩) (v := ?vvaq9) rfl (by kernel_rfl) (by kernel_rfl) (by kernel_rfl) (fun _ _ _ h => h) (Or.inl ⟨by rfl, ?yyaq9⟩) hHeld ?rraq9
                            case yyaq9 => (intro wq hSw; (try dsimp only at hSw); go_simp; first | done | with_reducible rfl)
                            simp only [Act.put, List.setIfInBounds_toArray, List.set_cons_zero, List.set_cons_succ]
                            refine wpAnyH_take (i := 9) (oi := ⟨some 72, _, _, _, _, _⟩) (v := undef) rfl (by kernel_rfl) (by kernel_rfl) (by kernel_rfl) (fun _ _ _ h => h) (Or.inr ⟨by rfl, rfl⟩) hHeld ?_
                            simp only [Act.put, List.setIfInBounds_toArray, List.set_cons_zero, List.set_cons_succ]
                            refine wpAnyH_take (i := 10) (oi := ⟨some 73, _, _, _, _, _⟩) (v := undef) rfl (by kernel_rfl) (by kernel_rfl) (by kernel_rfl) (fun _ _ _ h => h) (Or.inr ⟨by rfl, rfl⟩) hHeld ?_
                            simp only [Act.put, List.setIfInBounds_toArray, List.set_cons_zero, List.set_cons_succ]
                            refine wpAnyH_take (i := 11) (oi := ⟨some 74, _, _, _, _, _⟩) (v := undef) rfl (by kernel_rfl) (by kernel_rfl) (by kernel_rfl) (fun _ _ _ h => h) (Or.inr ⟨by rfl, rfl⟩) hHeld ?_
                            simp only [Act.put, List.setIfInBounds_toArray, List.set_cons_zero, List.set_cons_succ]
                            refine wpAnyH_take (i := 12) (oi := ⟨some 75, _, _, _, _, _⟩) (v := undef) rfl (by kernel_rfl) (by kernel_rfl) (by kernel_rfl) (fun _ _ _ h => h) (Or.inr ⟨by rfl, rfl⟩) hHeld ?_
                            simp only [Act.put, List.setIfInBounds_toArray, List.set_cons_zero, List.set_cons_succ]
                            refine wpAnyH_take (i := 13) (oi := ⟨some 76, _, _, _, _, _⟩) (v := undef) rfl (by kernel_rfl) (by kernel_rfl) (by kernel_rfl) (fun _ _ _ h => h) (Or.inr ⟨by rfl, rfl⟩) hHeld ?_
                            simp only [Act.put, List.setIfInBounds_toArray, List.set_cons_zero, List.set_cons_succ]
                            refine wpAnyH_take (i := 14) (oi := ⟨some 77, _, _, _, _, _⟩) (v := undef) rfl (by kernel_rfl) (by kernel_rfl) (by kernel_rfl) (fun _ _ _ h => h) (Or.inr ⟨by rfl, rfl⟩) hHeld ?_
                            simp only [Act.put, List.setIfInBounds_toArray, List.set_cons_zero, List.set_cons_succ]
                            refine wpAnyH_take (i := 15) (oi := ⟨some 78, _, _, _, _, _⟩) (v := undef) rfl (by kernel_rfl) (by kernel_rfl) (by kernel_rfl) (fun _ _ _ h => h) (Or.inr ⟨by rfl, rfl⟩) hHeld ?_
                            simp only [Act.put, List.setIfInBounds_toArray, List.set_cons_zero, List.set_cons_succ]
                            refine wpAnyH_take (i := 16) (oi := ⟨some 79, _, _, _, _, _⟩) (v := undef) rfl (by kernel_rfl) (by kernel_rfl) (by kernel_rfl) (fun _ _ _ h => h) (Or.inr ⟨by rfl, rfl⟩) hHeld ?_
                            simp only [Act.put, List.setIfInBounds_toArray, List.set_cons_zero, List.set_cons_succ]
                            refine wpAnyH_take (i := 17) (oi := ⟨some 80, _, _, _, _, _⟩) (v := undef) rfl (by kernel_rfl) (by kernel_rfl) (by kernel_rfl) (fun _ _ _ h => h) (Or.inr ⟨by rfl, rfl⟩) hHeld ?_
                            simp only [Act.put, List.setIfInBounds_toArray, List.set_cons_zero, List.set_cons_succ]
                            refine wpAnyH_take (i := 18) (oi := ⟨some 81, _, _, _, _, _⟩) (v := undef) rfl (by kernel_rfl) (by kernel_rfl) (by kernel_rfl) (fun _ _ _ h => h) (Or.inr ⟨by rfl, rfl⟩) hHeld ?_
                            simp only [Act.put, List.setIfInBounds_toArray, List.set_cons_zero, List.set_cons_succ]
                            refine wpAnyH_take (i := 19) (oi := ⟨some 82, _, _, _, _, _⟩) (v := undef) rfl (by kernel_rfl) (by kernel_rfl) (by kernel_rfl) (fun _ _ _ h => h) (Or.inr ⟨by rfl, rfl⟩) hHeld ?_
                            simp only [Act.put, List.setIfInBounds_toArray, List.set_cons_zero, List.set_cons_succ]
                            refine wpAnyH_take (i := 20) (oi := ⟨some 83, _, _, _, _, _⟩) (v := undef) rfl (by kernel_rfl) (by kernel_rfl) (by kernel_rfl) (fun _ _ _ h => h) (Or.inr ⟨by rfl, rfl⟩) hHeld ?_
                            simp only [Act.put, List.setIfInBounds_toArray, List.set_cons_zero, List.set_cons_succ]
                            refine wpAnyH_take (i := 21) (oi := ⟨some 84, _, _, _, _, _⟩) (v := undef) rfl (by kernel_rfl) (by kernel_rfl) (by kernel_rfl) (fun _ _ _ h => h) (Or.inr ⟨by rfl, rfl⟩) hHeld ?_
                            simp only [Act.put, List.setIfInBounds_toArray, List.set_cons_zero, List.set_cons_succ]
                            refine wpAnyH_take (i := 22) (oi := ⟨some 85, _, _, _, _, _⟩) (v := undef) rfl (by kernel_rfl) (by kernel_rfl) (by kernel_rfl) (fun _ _ _ h => h) (Or.inr ⟨by rfl, rfl⟩) hHeld ?_
                            simp only [Act.put, List.setIfInBounds_toArray, List.set_cons_zero, List.set_cons_succ]
                            refine wpAnyH_take (i := 23) (oi := ⟨some 86, _, _, _, _, _⟩) (v := undef) rfl (by kernel_rfl) (by kernel_rfl) (by kernel_rfl) (fun _ _ _ h => h) (Or.inr ⟨by rfl, rfl⟩) hHeld ?_
                            simp only [Act.put, List.setIfInBounds_toArray, List.set_cons_zero, List.set_cons_succ]
                            refine wpAnyH_take (i := 24) (oi := ⟨some 87, _, _, _, _, _⟩) (v := ?vvaq25) rfl (by kernel_rfl) (by kernel_rfl) (by kernel_rfl) (fun _ _ _ h => h) (Or.inl ⟨by rfl, ?yyaq25⟩) hHeld ?rraq25
                            case yyaq25 => (intro wq hSw; (try dsimp only at hSw); go_simp; first | done | with_reducible rfl)
                            simp only [Act.put, List.setIfInBounds_toArray, List.set_cons_zero, List.set_cons_succ]
                            refine wpAnyH_done (by kernel_rfl) ?_ _
                            have hB5 := hHeld.1
                            try dsimp only at hB5
                            clear hHeld
                            go_wp2_with fail
                            go_ret
                            exact ⟨rfl, below_then HBW.out (below_then HBV.out hB5)⟩
                        · have HN : Hid (badWs2 ws none = badWs2 (ws.drop (0 + 1)) (prevK ws (0 + 1))) := Lib.hid (by rw [HI3.out, show (⟨⟨kd, ka, kb, ks⟩, val, true⟩ : Wr).mute = false from rfl]; rfl)
                          go_wp2_with fail
                          clear s0 s1 s2 s3 s4 s5
                          refine wp_region_held_drew (S := (fun w' => Below V.heap.size V w' ∧ w'.cell? ⟨wr.heap.size, 0, none⟩ = some (.int .i64 kd) ∧ w'.cell? ⟨wr.heap.size, 1, none⟩ = some (.int .i64 ka) ∧ w'.cell? ⟨wr.heap.size, 2, none⟩ = some (.int .i64 kb) ∧ w'.cell? ⟨wr.heap.size, 3, none⟩ = some (.string ks) ∧ w'.cell? ⟨wr.heap.size, 4, none⟩ = some (.string val) ∧ w'.cell? ⟨wr.heap.size, 5, none⟩ = some (.bool true))) (by kernel_rfl) (KS.out _ (Below.refl _ _).drew) (fun hHeld => ?_)
                          refine wpAnyH_take (i := 0) (oi := ⟨some 63, _, _, _, _, _⟩) (v := ?vvar1) rfl (by kernel_rfl) (by kernel_rfl) (by kernel_rfl) (fun _ _ _ h => h) (Or.inl ⟨by rfl, ?yyar1⟩) hHeld ?rrar1
                          case yyar1 => (intro wq hSw; (try dsimp only at hSw); go_simp; first | done | with_reducible rfl)
                          simp only [Act.put, List.setIfInBounds_toArray, List.set_cons_zero, List.set_cons_succ]
                          refine wpAnyH_take (i := 1) (oi := ⟨some 64, _, _, _, _, _⟩) (v := ?vvar2) rfl (by kernel_rfl) (by kernel_rfl) (by kernel_rfl) (fun _ _ _ h => h) (Or.inl ⟨by rfl, ?yyar2⟩) hHeld ?rrar2
                          case yyar2 => (intro wq hSw; (try dsimp only at hSw); go_simp; first | done | with_reducible rfl)
                          simp only [Act.put, List.setIfInBounds_toArray, List.set_cons_zero, List.set_cons_succ]
                          refine wpAnyH_take (i := 2) (oi := ⟨some 65, _, _, _, _, _⟩) (v := ?vvar3) rfl (by kernel_rfl) (by kernel_rfl) (by kernel_rfl) (fun _ _ _ h => h) (Or.inl ⟨by rfl, ?yyar3⟩) hHeld ?rrar3
                          case yyar3 => (intro wq hSw; (try dsimp only at hSw); go_simp; first | done | with_reducible rfl)
                          simp only [Act.put, List.setIfInBounds_toArray, List.set_cons_zero, List.set_cons_succ]
                          refine wpAnyH_take (i := 3) (oi := ⟨some 66, _, _, _, _, _⟩) (v := ?vvar4) rfl (by kernel_rfl) (by kernel_rfl) (by kernel_rfl) (fun _ _ _ h => h) (Or.inl ⟨by rfl, ?yyar4⟩) hHeld ?rrar4
                          case yyar4 => (intro wq hSw; (try dsimp only at hSw); go_simp; first | done | with_reducible rfl)
                          simp only [Act.put, List.setIfInBounds_toArray, List.set_cons_zero, List.set_cons_succ]
                          refine wpAnyH_take (i := 4) (oi := ⟨some 67, _, _, _, _, _⟩) (v := undef) rfl (by kernel_rfl) (by kernel_rfl) (by kernel_rfl) (fun _ _ _ h => h) (Or.inr ⟨by rfl, rfl⟩) hHeld ?_
                          simp only [Act.put, List.setIfInBounds_toArray, List.set_cons_zero, List.set_cons_succ]
                          refine wpAnyH_take (i := 5) (oi := ⟨some 68, _, _, _, _, _⟩) (v := undef) rfl (by kernel_rfl) (by kernel_rfl) (by kernel_rfl) (fun _ _ _ h => h) (Or.inr ⟨by rfl, rfl⟩) hHeld ?_
                          simp only [Act.put, List.setIfInBounds_toArray, List.set_cons_zero, List.set_cons_succ]
                          refine wpAnyH_take (i := 6) (oi := ⟨some 69, _, _, _, _, _⟩) (v := undef) rfl (by kernel_rfl) (by kernel_rfl) (by kernel_rfl) (fun _ _ _ h => h) (Or.inr ⟨by rfl, rfl⟩) hHeld ?_
                          simp only [Act.put, List.setIfInBounds_toArray, List.set_cons_zero, List.set_cons_succ]
                          refine wpAnyH_take (i := 7) (oi := ⟨some 70, _, _, _, _, _⟩) (v := ?vvar8) rfl (by kernel_rfl) (by kernel_rfl) (by kernel_rfl) (fun _ _ _ h => h) (Or.inl ⟨by rfl, ?yyar8⟩) hHeld ?rrar8
                          case yyar8 => (intro wq hSw; (try dsimp only at hSw); go_simp; first | done | with_reducible rfl)
                          simp only [Act.put, List.setIfInBounds_toArray, List.set_cons_zero, List.set_cons_succ]
                          refine wpAnyH_take (i := 8) (oi := ⟨some 71, _, _, _, _, _⟩) (v := ?vvar9) rfl (by kernel_rfl) (by kernel_rfl) (by kernel_rfl) (fun _ _ _ h => h) (Or.inl ⟨by rfl, ?yyar9⟩) hHeld ?rrar9
                          case yyar9 => (intro wq hSw; (try dsimp only at hSw); go_simp; first | done | with_reducible rfl)
                          simp only [Act.put, List.setIfInBounds_toArray, List.set_cons_zero, List.set_cons_succ]
                          refine wpAnyH_take (i := 9) (oi := ⟨some 72, _, _, _, _, _⟩) (v := ?vvar10) rfl (by kernel_rfl) (by kernel_rfl) (by kernel_rfl) (fun _ _ _ h => h) (Or.inl ⟨by rfl, ?yyar10⟩) hHeld ?rrar10
                          case yyar10 => (intro wq hSw; (try dsimp only at hSw); go_simp; first | done | with_reducible rfl)
                          simp only [Act.put, List.setIfInBounds_toArray, List.set_cons_zero, List.set_cons_succ]
                          refine wpAnyH_take (i := 10) (oi := ⟨some 73, _, _, _, _, _⟩) (v := ?vvar11) rfl (by kernel_rfl) (by kernel_rfl) (by kernel_rfl) (fun _ _ _ h => h) (Or.inl ⟨by rfl, ?yyar11⟩) hHeld ?rrar11
                          case yyar11 => (intro wq hSw; (try dsimp only at hSw); go_simp; first | done | with_reducible rfl)
                          simp only [Act.put, List.setIfInBounds_toArray, List.set_cons_zero, List.set_cons_succ]
                          refine wpAnyH_take (i := 11) (oi := ⟨some 74, _, _, _, _, _⟩) (v := ?vvar12) rfl (by kernel_rfl) (by kernel_rfl) (by kernel_rfl) (fun _ _ _ h => h) (Or.inl ⟨by rfl, ?yyar12⟩) hHeld ?rrar12
                          case yyar12 => (intro wq hSw; (try dsimp only at hSw); go_simp; first | done | with_reducible rfl)
                          simp only [Act.put, List.setIfInBounds_toArray, List.set_cons_zero, List.set_cons_succ]
                          refine wpAnyH_take (i := 12) (oi := ⟨some 75, _, _, _, _, _⟩) (v := undef) rfl (by kernel_rfl) (by kernel_rfl) (by kernel_rfl) (fun _ _ _ h => h) (Or.inr ⟨by rfl, rfl⟩) hHeld ?_
                          simp only [Act.put, List.setIfInBounds_toArray, List.set_cons_zero, List.set_cons_succ]
                          refine wpAnyH_take (i := 13) (oi := ⟨some 76, _, _, _, _, _⟩) (v := undef) rfl (by kernel_rfl) (by kernel_rfl) (by kernel_rfl) (fun _ _ _ h => h) (Or.inr ⟨by rfl, rfl⟩) hHeld ?_
                          simp only [Act.put, List.setIfInBounds_toArray, List.set_cons_zero, List.set_cons_succ]
                          refine wpAnyH_take (i := 14) (oi := ⟨some 77, _, _, _, _, _⟩) (v := undef) rfl (by kernel_rfl) (by kernel_rfl) (by kernel_rfl) (fun _ _ _ h => h) (Or.inr ⟨by rfl, rfl⟩) hHeld ?_
                          simp only [Act.put, List.setIfInBounds_toArray, List.set_cons_zero, List.set_cons_succ]
                          refine wpAnyH_take (i := 15) (oi := ⟨some 78, _, _, _, _, _⟩) (v := undef) rfl (by kernel_rfl) (by kernel_rfl) (by kernel_rfl) (fun _ _ _ h => h) (Or.inr ⟨by rfl, rfl⟩) hHeld ?_
                          simp only [Act.put, List.setIfInBounds_toArray, List.set_cons_zero, List.set_cons_succ]
                          refine wpAnyH_take (i := 16) (oi := ⟨some 79, _, _, _, _, _⟩) (v := undef) rfl (by kernel_rfl) (by kernel_rfl) (by kernel_rfl) (fun _ _ _ h => h) (Or.inr ⟨by rfl, rfl⟩) hHeld ?_
                          simp only [Act.put, List.setIfInBounds_toArray, List.set_cons_zero, List.set_cons_succ]
                          refine wpAnyH_take (i := 17) (oi := ⟨some 80, _, _, _, _, _⟩) (v := undef) rfl (by kernel_rfl) (by kernel_rfl) (by kernel_rfl) (fun _ _ _ h => h) (Or.inr ⟨by rfl, rfl⟩) hHeld ?_
                          simp only [Act.put, List.setIfInBounds_toArray, List.set_cons_zero, List.set_cons_succ]
                          refine wpAnyH_take (i := 18) (oi := ⟨some 81, _, _, _, _, _⟩) (v := undef) rfl (by kernel_rfl) (by kernel_rfl) (by kernel_rfl) (fun _ _ _ h => h) (Or.inr ⟨by rfl, rfl⟩) hHeld ?_
                          simp only [Act.put, List.setIfInBounds_toArray, List.set_cons_zero, List.set_cons_succ]
                          refine wpAnyH_take (i := 19) (oi := ⟨some 82, _, _, _, _, _⟩) (v := undef) rfl (by kernel_rfl) (by kernel_rfl) (by kernel_rfl) (fun _ _ _ h => h) (Or.inr ⟨by rfl, rfl⟩) hHeld ?_
                          simp only [Act.put, List.setIfInBounds_toArray, List.set_cons_zero, List.set_cons_succ]
                          refine wpAnyH_take (i := 20) (oi := ⟨some 83, _, _, _, _, _⟩) (v := undef) rfl (by kernel_rfl) (by kernel_rfl) (by kernel_rfl) (fun _ _ _ h => h) (Or.inr ⟨by rfl, rfl⟩) hHeld ?_
                          simp only [Act.put, List.setIfInBounds_toArray, List.set_cons_zero, List.set_cons_succ]
                          refine wpAnyH_take (i := 21) (oi := ⟨some 84, _, _, _, _, _⟩) (v := undef) rfl (by kernel_rfl) (by kernel_rfl) (by kernel_rfl) (fun _ _ _ h => h) (Or.inr ⟨by rfl, rfl⟩) hHeld ?_
                          simp only [Act.put, List.setIfInBounds_toArray, List.set_cons_zero, List.set_cons_succ]
                          refine wpAnyH_take (i := 22) (oi := ⟨some 85, _, _, _, _, _⟩) (v := undef) rfl (by kernel_rfl) (by kernel_rfl) (by kernel_rfl) (fun _ _ _ h => h) (Or.inr ⟨by rfl, rfl⟩) hHeld ?_
                          simp only [Act.put, List.setIfInBounds_toArray, List.set_cons_zero, List.set_cons_succ]
                          refine wpAnyH_take (i := 23) (oi := ⟨some 86, _, _, _, _, _⟩) (v := ?vvar24) rfl (by kernel_rfl) (by kernel_rfl) (by kernel_rfl) (fun _ _ _ h => h) (Or.inl ⟨by rfl, ?yyar24⟩) hHeld ?rrar24
                          case yyar24 => (intro wq hSw; (try dsimp only at hSw); go_simp; first | done | with_reducible rfl)
                          simp only [Act.put, List.setIfInBounds_toArray, List.set_cons_zero, List.set_cons_succ]
                          refine wpAnyH_take (i := 24) (oi := ⟨some 87, _, _, _, _, _⟩) (v := ?vvar25) rfl (by kernel_rfl) (by kernel_rfl) (by kernel_rfl) (fun _ _ _ h => h) (Or.inl ⟨by rfl, ?yyar25⟩) hHeld ?rrar25
                          case yyar25 => (intro wq hSw; (try dsimp only at hSw); go_simp; first | done | with_reducible rfl)
                          simp only [Act.put, List.setIfInBounds_toArray, List.set_cons_zero, List.set_cons_succ]
                          refine wpAnyH_done (by kernel_rfl) ?_ _
                          have hB5 := hHeld.1
                          try dsimp only at hB5
                          clear hHeld
                          go_wp2_with fail
                          exact ⟨⟨0 + 1, by omega, by go_num, HN, below_then HBV.out hB5⟩, by simp [intOf]; omega⟩
            · obtain ⟨p, hp⟩ : ∃ p, ws[k - 1]? = some p := ⟨_, List.getElem?_eq_getElem (by omega)⟩
              obtain ⟨d0, d1, d2, d3, pok⟩ := c1k p hp
              obtain ⟨⟨⟨pd, pa, pb, ps⟩, pv, ph⟩, hpp⟩ : ∃ y, y = p := ⟨_, rfl⟩
              subst hpp
              simp only [] at d0 d1 d2 d3
              have HPS := Lib.hid pok.k.s
              obtain ⟨j, hj⟩ : ∃ j, j = k - 1 := ⟨_, rfl⟩
              have hkj : k = j + 1 := by omega
              subst hkj
              simp only [Nat.add_sub_cancel] at hj d0 d1 d2 d3 hp
              have hpk : prevK ws (j + 1) = some ⟨pd, pa, pb, ps⟩ := by unfold prevK; rw [if_neg (by omega), Nat.add_sub_cancel, hp]; rfl
              obtain ⟨cc, hcc⟩ : ∃ c, (⟨pd, pa, pb, ps⟩ : Ky).cmp ⟨kd, ka, kb, ks⟩ = c := ⟨_, rfl⟩
              have HCC := Lib.hid hcc
              replace HI3F : Hid (q1 = true → q2 = true → q3 = true → ¬ 65535 < ks.size → ¬ 65535 < val.size → badWs2 ws none = ((⟨⟨kd, ka, kb, ks⟩, val, has⟩ : Wr).mute || decide (0 ≤ cc) || badWs2 (ws.drop (j + 1 + 1)) (prevK ws (j + 1 + 1)))) := Lib.hid (fun e1 e2 e3 e4 e5 => by
                rw [HI3F.out e1 e2 e3 e4 e5, hpk, show lateW (some ⟨pd, pa, pb, ps⟩) (⟨kd, ka, kb, ks⟩ : Ky) = decide (0 ≤ cc) by rw [← hcc]; rfl])
              have t1 : decide ((0 : Int) < (j : Int) + 1) = true := decide_eq_true (by omega)
              have ks2 : ∀ w', Below V.heap.size V w' → (fun w' => Below V.heap.size V w' ∧ w'.cell? ⟨wr.heap.size, 0, none⟩ = some (.int .i64 kd) ∧ w'.cell? ⟨wr.heap.size, 1, none⟩ = some (.int .i64 ka) ∧ w'.cell? ⟨wr.heap.size, 2, none⟩ = some (.int .i64 kb) ∧ w'.cell? ⟨wr.heap.size, 3, none⟩ = some (.string ks) ∧ w'.cell? ⟨wr.heap.size, 4, none⟩ = some (.string val) ∧ w'.cell? ⟨wr.heap.size, 5, none⟩ = some (.bool has) ∧ w'.cell? ⟨w.heap.size, 1, none⟩ = some (.slice (some ⟨b, off, none⟩) ws.length cap) ∧ w'.cell? ⟨b, off + j * 6, none⟩ = some (.int .i64 pd) ∧ w'.cell? ⟨b, off + j * 6 + 1, none⟩ = some (.int .i64 pa) ∧ w'.cell? ⟨b, off + j * 6 + 2, none⟩ = some (.int .i64 pb) ∧ w'.cell? ⟨b, off + j * 6 + 3, none⟩ = some (.string ps)) w' := fun w' hb => by
                have e2 := (hb.block _ (by have := HLW.out; have := HBV.out.size; omega)).trans erV
                obtain ⟨_, s0, s1, s2, s3, s4, s5⟩ := KS.out w' hb
                exact ⟨hb, s0, s1, s2, s3, s4, s5, by rw [cell_of_blk e2]; rfl, below_cell hb _ hbl d0, below_cell hb _ hbl d1, below_cell hb _ hbl d2, below_cell hb _ hbl d3⟩
              have KS2 := Lib.hid ks2
              have hjl : j < ws.length := by omega
              have hjl3 : (j : Int) < (ws.length : Int) := by omega
              have hwj : IntKind.i64.wrap (j : Int) = (j : Int) := by rw [IntKind.wrap_i64]; omega
              clear hk0 ks1 ks2 c1k hx hat hatV hV eV er erV hcc hpk hp hj d0 d1 d2 d3 pok
              go_wp2_with fail
              rw [← HV.out]
              clear c0 c1 c2 c3 c4 c5
              obtain ⟨_, s0, s1, s2, s3, s4, s5⟩ := KS.out V (Below.refl _ _)
              go_wp2_with fail
              refine (r14in_any' _ _ _).mono ?_
              rintro e w1 ⟨rfl, rfl⟩
              rw [H1.out]
              cases q1
              · have hr : R = false := by rw [HO2.out, HI.out, HBG.out]; simp
                subst hr
                go_wp2_with fail
                go_ret
                exact ⟨rfl, below_then HBW.out HBV.out⟩
              · go_wp2_with fail
                refine (r14in_any' _ _ _).mono ?_
                rintro e w1 ⟨rfl, rfl⟩
                rw [H2.out]
                cases q2
                · have hr : R = false := by rw [HO2.out, HI.out, HBG.out]; simp
                  subst hr
                  go_wp2_with fail
                  go_ret
                  exact ⟨rfl, below_then HBW.out HBV.out⟩
                · go_wp2_with fail
                  refine (r14in_any' _ _ _).mono ?_
                  rintro e w1 ⟨rfl, rfl⟩
                  rw [H3.out]
                  cases q3
                  · have hr : R = false := by rw [HO2.out, HI.out, HBG.out]; simp
                    subst hr
                    go_wp2_with fail
                    go_ret
                    exact ⟨rfl, below_then HBW.out HBV.out⟩
                  · by_cases h4 : 65535 < ks.size
                    · have t4 : decide ((65535 : Int) < (ks.size : Int)) = true := decide_eq_true (by omega)
                      have hr : R = false := by rw [HO2.out, HI.out, HBG.out, decide_eq_true h4]; simp
                      subst hr
                      go_wp2_with fail
                      go_ret
                      exact ⟨rfl, below_then HBW.out HBV.out⟩
                    · have t4 : decide ((65535 : Int) < (ks.size : Int)) = false := decide_eq_false (by omega)
                      by_cases h5' : 65535 < val.size
                      · have t5 : decide ((65535 : Int) < (val.size : Int)) = true := decide_eq_true (by omega)
                        have hr : R = false := by rw [HO2.out, HI.out, HBG.out, decide_eq_true h5']; simp
                        subst hr
                        go_wp2_with fail
                        go_ret
                        exact ⟨rfl, below_then HBW.out HBV.out⟩
                      · have t5 : decide ((65535 : Int) < (val.size : Int)) = false := decide_eq_false (by omega)
                        have HI3 : Hid (_ = _) := HI3F.out (by trivial) (by trivial) (by trivial) h4 h5'
                        cases has
                        · by_cases h6 : val.size = 0
                          · have hv : val = ⟨#[]⟩ := ba_empty h6
                            subst hv
                            have HI2 : Hid (badWs2 ws none = (decide (0 ≤ cc) || badWs2 (ws.drop (j + 1 + 1)) (prevK ws (j + 1 + 1)))) := Lib.hid (by rw [HI3.out, show (⟨⟨kd, ka, kb, ks⟩, ⟨#[]⟩, false⟩ : Wr).mute = false from rfl]; rfl)
                            clear h6 t5
                            go_wp2_with fail
                            clear s0 s1 s2 s3 s4 s5
                            refine wp_region_held_drew (S := (fun w' => Below V.heap.size V w' ∧ w'.cell? ⟨wr.heap.size, 0, none⟩ = some (.int .i64 kd) ∧ w'.cell? ⟨wr.heap.size, 1, none⟩ = some (.int .i64 ka) ∧ w'.cell? ⟨wr.heap.size, 2, none⟩ = some (.int .i64 kb) ∧ w'.cell? ⟨wr.heap.size, 3, none⟩ = some (.string ks) ∧ w'.cell? ⟨wr.heap.size, 4, none⟩ = some (.string ⟨#[]⟩) ∧ w'.cell? ⟨wr.heap.size, 5, none⟩ = some (.bool false) ∧ w'.cell? ⟨w.heap.size, 1, none⟩ = some (.slice (some ⟨b, off, none⟩) ws.length cap) ∧ w'.cell? ⟨b, off + j * 6, none⟩ = some (.int .i64 pd) ∧ w'.cell? ⟨b, off + j * 6 + 1, none⟩ = some (.int .i64 pa) ∧ w'.cell? ⟨b, off + j * 6 + 2, none⟩ = some (.int .i64 pb) ∧ w'.cell? ⟨b, off + j * 6 + 3, none⟩ = some (.string ps))) (by kernel_rfl) (KS2.out _ (Below.refl _ _).drew) (fun hHeld => ?_)
                            refine wpAnyH_take (i := 0) (oi := ⟨some 63, _, _, _, _, _⟩) (v := ?vvbp1) rfl (by kernel_rfl) (by kernel_rfl) (by kernel_rfl) (fun _ _ _ h => h) (Or.inl ⟨by rfl, ?yybp1⟩) hHeld ?rrbp1
                            case yybp1 => (intro wq hSw; (try dsimp only at hSw); go_simp; first | done | with_reducible rfl)
                            simp only [Act.put, List.setIfInBounds_toArray, List.set_cons_zero, List.set_cons_succ]
                            refine wpAnyH_take (i := 1) (oi := ⟨some 64, _, _, _, _, _⟩) (v := ?vvbp2) rfl (by kernel_rfl) (by kernel_rfl) (by kernel_rfl) (fun _ _ _ h => h) (Or.inl ⟨by rfl, ?yybp2⟩) hHeld ?rrbp2
                            case yybp2 => (intro wq hSw; (try dsimp only at hSw); go_simp; first | done | with_reducible rfl)
                            simp only [Act.put, List.setIfInBounds_toArray, List.set_cons_zero, List.set_cons_succ]
                            refine wpAnyH_take (i := 2) (oi := ⟨some 65, _, _, _, _, _⟩) (v := ?vvbp3) rfl (by kernel_rfl) (by kernel_rfl) (by kernel_rfl) (fun _ _ _ h => h) (Or.inl ⟨by rfl, ?yybp3⟩) hHeld ?rrbp3
                            case yybp3 => (intro wq hSw; (try dsimp only at hSw); go_simp; first | done | with_reducible rfl)
                            simp only [Act.put, List.setIfInBounds_toArray, List.set_cons_zero, List.set_cons_succ]
                            refine wpAnyH_take (i := 3) (oi := ⟨some 66, _, _, _, _, _⟩) (v := ?vvbp4) rfl (by kernel_rfl) (by kernel_rfl) (by kernel_rfl) (fun _ _ _ h => h) (Or.inl ⟨by rfl, ?yybp4⟩) hHeld ?rrbp4
                            case yybp4 => (intro wq hSw; (try dsimp only at hSw); go_simp; first | done | with_reducible rfl)
                            simp only [Act.put, List.setIfInBounds_toArray, List.set_cons_zero, List.set_cons_succ]
                            refine wpAnyH_take (i := 4) (oi := ⟨some 67, _, _, _, _, _⟩) (v := ?vvbp5) rfl (by kernel_rfl) (by kernel_rfl) (by kernel_rfl) (fun _ _ _ h => h) (Or.inl ⟨by rfl, ?yybp5⟩) hHeld ?rrbp5
                            case yybp5 => (intro wq hSw; (try dsimp only at hSw); go_simp; first | done | with_reducible rfl)
                            simp only [Act.put, List.setIfInBounds_toArray, List.set_cons_zero, List.set_cons_succ]
                            refine wpAnyH_take (i := 5) (oi := ⟨some 68, _, _, _, _, _⟩) (v := ?vvbp6) rfl (by kernel_rfl) (by kernel_rfl) (by kernel_rfl) (fun _ _ _ h => h) (Or.inl ⟨by rfl, ?yybp6⟩) hHeld ?rrbp6
                            case yybp6 => (intro wq hSw; (try dsimp only at hSw); go_simp; first | done | with_reducible rfl)
                            simp only [Act.put, List.setIfInBounds_toArray, List.set_cons_zero, List.set_cons_succ]
                            refine wpAnyH_take (i := 6) (oi := ⟨some 69, _, _, _, _, _⟩) (v := ?vvbp7) rfl (by kernel_rfl) (by kernel_rfl) (by kernel_rfl) (fun _ _ _ h => h) (Or.inl ⟨by rfl, ?yybp7⟩) hHeld ?rrbp7
                            case yybp7 => (intro wq hSw; (try dsimp only at hSw); go_simp; first | done | with_reducible rfl)
                            simp only [Act.put, List.setIfInBounds_toArray, List.set_cons_zero, List.set_cons_succ]
                            refine wpAnyH_take (i := 7) (oi := ⟨some 70, _, _, _, _, _⟩) (v := ?vvbp8) rfl (by kernel_rfl) (by kernel_rfl) (by kernel_rfl) (fun _ _ _ h => h) (Or.inl ⟨by rfl, ?yybp8⟩) hHeld ?rrbp8
                            case yybp8 => (intro wq hSw; (try dsimp only at hSw); go_simp; first | done | with_reducible rfl)
                            simp only [Act.put, List.setIfInBounds_toArray, List.set_cons_zero, List.set_cons_succ]
                            refine wpAnyH_take (i := 8) (oi := ⟨some 71, _, _, _, _, _⟩) (v := ?vvbp9) rfl (by kernel_rfl) (by kernel_rfl) (by kernel_rfl) (fun _ _ _ h => h) (Or.inl ⟨by rfl, ?yybp9⟩) hHeld ?rrbp9
                            case yybp9 => (intro wq hSw; (try dsimp only at hSw); go_simp; first | done | with_reducible rfl)
                            simp only [Act.put, List.setIfInBounds_toArray, List.set_cons_zero, List.set_cons_succ]
                            refine wpAnyH_take (i := 9) (oi := ⟨some 72, _, _, _, _, _⟩) (v := ?vvbp10) rfl (by kernel_rfl) (by kernel_rfl) (by kernel_rfl) (fun _ _ _ h => h) (Or.inl ⟨by rfl, ?yybp10⟩) hHeld ?rrbp10
                            case yybp10 => (intro wq hSw; (try dsimp only at hSw); go_simp; first | done | with_reducible rfl)
                            simp only [Act.put, List.setIfInBounds_toArray, List.set_cons_zero, List.set_cons_succ]
                            refine wpAnyH_take (i := 10) (oi := ⟨some 73, _, _, _, _, _⟩) (v := ?vvbp11) rfl (by kernel_rfl) (by kernel_rfl) (by kernel_rfl) (fun _ _ _ h => h) (Or.inl ⟨by rfl, ?yybp11⟩) hHeld ?rrbp11
                            case yybp11 => (intro wq hSw; (try dsimp only at hSw); go_simp; first | done | with_reducible rfl)
                            simp only [Act.put, List.setIfInBounds_toArray, List.set_cons_zero, List.set_cons_succ]
                            refine wpAnyH_take (i := 11) (oi := ⟨some 74, _, _, _, _, _⟩) (v := ?vvbp12) rfl (by kernel_rfl) (by kernel_rfl) (by kernel_rfl) (fun _ _ _ h => h) (Or.inl ⟨by rfl, ?yybp12⟩) hHeld ?rrbp12
                            case yybp12 => (intro wq hSw; (try dsimp only at hSw); go_simp; first | done | with_reducible rfl)
                            simp only [Act.put, List.setIfInBounds_toArray, List.set_cons_zero, List.set_cons_succ]
                            refine wpAnyH_take (i := 12) (oi := ⟨some 75, _, _, _, _, _⟩) (v := ?vvbp13) rfl (by kernel_rfl) (by kernel_rfl) (by kernel_rfl) (fun _ _ _ h => h) (Or.inl ⟨by rfl, ?yybp13⟩) hHeld ?rrbp13
                            case yybp13 => (intro wq hSw; (try dsimp only at hSw); go_simp; first | done | with_reducible rfl)
                            simp only [Act.put, List.setIfInBounds_toArray, List.set_cons_zero, List.set_cons_succ]
                            refine wpAnyH_take (i := 13) (oi := ⟨some 76, _, _, _, _, _⟩) (v := ?vvbp14) rfl (by kernel_rfl) (by kernel_rfl) (by kernel_rfl) (fun _ _ _ h => h) (Or.inl ⟨by rfl, ?yybp14⟩) hHeld ?rrbp14
                            case yybp14 => (intro wq hSw; (try dsimp only at hSw); go_simp; first | done | with_reducible rfl)
                            simp only [Act.put, List.setIfInBounds_toArray, List.set_cons_zero, List.set_cons_succ]
                            refine wpAnyH_take (i := 14) (oi := ⟨some 77, _, _, _, _, _⟩) (v := ?vvbp15) rfl (by kernel_rfl) (by kernel_rfl) (by kernel_rfl) (fun _ _ _ h => h) (Or.inl ⟨by rfl, ?yybp15⟩) hHeld ?rrbp15
                            case yybp15 => (intro wq hSw; (try dsimp only at hSw); go_simp; first | done | with_reducible rfl)
                            simp only [Act.put, List.setIfInBounds_toArray, List.set_cons_zero, List.set_cons_succ]
                            refine wpAnyH_take (i := 15) (oi := ⟨some 78, _, _, _, _, _⟩) (v := ?vvbp16) rfl (by kernel_rfl) (by kernel_rfl) (by kernel_rfl) (fun _ _ _ h => h) (Or.inl ⟨by rfl, ?yybp16⟩) hHeld ?rrbp16
                            case yybp16 => (intro wq hSw; (try dsimp only at hSw); go_simp; first | done | with_reducible rfl)
                            simp only [Act.put, List.setIfInBounds_toArray, List.set_cons_zero, List.set_cons_succ]
                            refine wpAnyH_take (i := 16) (oi := ⟨some 79, _, _, _, _, _⟩) (v := ?vvbp17) rfl (by kernel_rfl) (by kernel_rfl) (by kernel_rfl) (fun _ _ _ h => h) (Or.inl ⟨by rfl, ?yybp17⟩) hHeld ?rrbp17
                            case yybp17 => (intro wq hSw; (try dsimp only at hSw); go_simp; first | done | with_reducible rfl)
                            simp only [Act.put, List.setIfInBounds_toArray, List.set_cons_zero, List.set_cons_succ]
                            refine wpAnyH_take (i := 17) (oi := ⟨some 80, _, _, _, _, _⟩) (v := ?vvbp18) rfl (by kernel_rfl) (by kernel_rfl) (by kernel_rfl) (fun _ _ _ h => h) (Or.inl ⟨by rfl, ?yybp18⟩) hHeld ?rrbp18
                            case yybp18 => (intro wq hSw; (try dsimp only at hSw); go_simp; first | done | with_reducible rfl)
                            simp only [Act.put, List.setIfInBounds_toArray, List.set_cons_zero, List.set_cons_succ]
                            refine wpAnyH_take (i := 18) (oi := ⟨some 81, _, _, _, _, _⟩) (v := ?vvbp19) rfl (by kernel_rfl) (by kernel_rfl) (by kernel_rfl) (fun _ _ _ h => h) (Or.inl ⟨by rfl, ?yybp19⟩) hHeld ?rrbp19
                            case yybp19 => (intro wq hSw; (try dsimp only at hSw); go_simp; first | done | with_reducible rfl)
                            simp only [Act.put, List.setIfInBounds_toArray, List.set_cons_zero, List.set_cons_succ]
                            refine wpAnyH_take (i := 19) (oi := ⟨some 82, _, _, _, _, _⟩) (v := ?vvbp20) rfl (by kernel_rfl) (by kernel_rfl) (by kernel_rfl) (fun _ _ _ h => h) (Or.inl ⟨by rfl, ?yybp20⟩) hHeld ?rrbp20
                            case yybp20 => (intro wq hSw; (try dsimp only at hSw); go_simp; first | done | with_reducible rfl)
                            simp only [Act.put, List.setIfInBounds_toArray, List.set_cons_zero, List.set_cons_succ]
                            refine wpAnyH_take (i := 20) (oi := ⟨some 83, _, _, _, _, _⟩) (v := ?vvbp21) rfl (by kernel_rfl) (by kernel_rfl) (by kernel_rfl) (fun _ _ _ h => h) (Or.inl ⟨by rfl, ?yybp21⟩) hHeld ?rrbp21
                            case yybp21 => (intro wq hSw; (try dsimp only at hSw); go_simp; first | done | with_reducible rfl)
                            simp only [Act.put, List.setIfInBounds_toArray, List.set_cons_zero, List.set_cons_succ]
                            refine wpAnyH_ready (rs := [21]) (by kernel_rfl) (by simp) ?_
                            refine AllReadyH.cons (o := ⟨some 84, _, _, _, _, _⟩) rfl (fun K hK => ?_) AllReadyH.nil
                            go_simp
                            refine (r9order_any ⟨pd, pa, pb, ps⟩ ⟨kd, ka, kb, ks⟩ _ HPS.out).mono ?_
                            rintro e w4 ⟨rfl, b4⟩
                            rw [HCC.out]
                            have hB4 := below_then hHeld.1 b4
                            clear b4
                            go_wp2_with fail
                            refine hK.out _ _ ?ssbp22 (fun hHeld => ?_)
                            case ssbp22 => (exact KS2.out _ hB4)
                            clear hK K
                            try simp only [Act.put, List.setIfInBounds_toArray, List.set_cons_zero, List.set_cons_succ]
                            refine wpAnyH_take (i := 22) (oi := ⟨some 85, _, _, _, _, _⟩) (v := ?vvbp23) rfl (by kernel_rfl) (by kernel_rfl) (by kernel_rfl) (fun _ _ _ h => h) (Or.inl ⟨by rfl, ?yybp23⟩) hHeld ?rrbp23
                            case yybp23 => (intro wq hSw; (try dsimp only at hSw); go_simp; first | done | with_reducible rfl)
                            simp only [Act.put, List.setIfInBounds_toArray, List.set_cons_zero, List.set_cons_succ]
                            refine wpAnyH_take (i := 23) (oi := ⟨some 86, _, _, _, _, _⟩) (v := ?vvbp24) rfl (by kernel_rfl) (by kernel_rfl) (by kernel_rfl) (fun _ _ _ h => h) (Or.inl ⟨by rfl, ?yybp24⟩) hHeld ?rrbp24
                            case yybp24 => (intro wq hSw; (try dsimp only at hSw); go_simp; first | done | with_reducible rfl)
                            simp only [Act.put, List.setIfInBounds_toArray, List.set_cons_zero, List.set_cons_succ]
                            refine wpAnyH_take (i := 24) (oi := ⟨some 87, _, _, _, _, _⟩) (v := ?vvbp25) rfl (by kernel_rfl) (by kernel_rfl) (by kernel_rfl) (fun _ _ _ h => h) (Or.inl ⟨by rfl, ?yybp25⟩) hHeld ?rrbp25
                            case yybp25 => (intro wq hSw; (try dsimp only at hSw); go_simp; first | done | with_reducible rfl)
                            simp only [Act.put, List.setIfInBounds_toArray, List.set_cons_zero, List.set_cons_succ]
                            refine wpAnyH_done (by kernel_rfl) ?_ _
                            clear hHeld
                            by_cases hc : 0 ≤ cc
                            · have hr : R = false := by rw [HO2.out, HI2.out, decide_eq_true hc]; simp
                              subst hr
                              go_wp2_with fail
                              go_ret
                              exact ⟨rfl, below_then HBW.out (below_then HBV.out hB4)⟩
                            · have HN : Hid (badWs2 ws none = badWs2 (ws.drop (j + 1 + 1)) (prevK ws (j + 1 + 1))) := Lib.hid (by rw [HI2.out, decide_eq_false hc]; rfl)
                              have hc2 : cc < 0 := by omega
                              go_wp2_with fail
                              exact ⟨⟨j + 1 + 1, by omega, by go_num, HN, below_then HBV.out hB4⟩, by simp [intOf]; omega⟩
                          · have he : (val.toList == ([] : List UInt8)) = false := by rw [size0, decide_eq_false h6]
                            have hr : R = false := by rw [HO2.out, HI3.out, show (⟨⟨kd, ka, kb, ks⟩, val, false⟩ : Wr).mute = true by simp [Wr.mute, h6]]; simp
                            subst hr
                            clear h6
                            go_wp2_with fail
                            clear s0 s1 s2 s3 s4 s5
                            refine wp_region_held_drew (S := (fun w' => Below V.heap.size V w' ∧ w'.cell? ⟨wr.heap.size, 0, none⟩ = some (.int .i64 kd) ∧ w'.cell? ⟨wr.heap.size, 1, none⟩ = some (.int .i64 ka) ∧ w'.cell? ⟨wr.heap.size, 2, none⟩ = some (.int .i64 kb) ∧ w'.cell? ⟨wr.heap.size, 3, none⟩ = some (.string ks) ∧ w'.cell? ⟨wr.heap.size, 4, none⟩ = some (.string val) ∧ w'.cell? ⟨wr.heap.size, 5, none⟩ = some (.bool false) ∧ w'.cell? ⟨w.heap.size, 1, none⟩ = some (.slice (some ⟨b, off, none⟩) ws.length cap) ∧ w'.cell? ⟨b, off + j * 6, none⟩ = some (.int .i64 pd) ∧ w'.cell? ⟨b, off + j * 6 + 1, none⟩ = some (.int .i64 pa) ∧ w'.cell? ⟨b, off + j * 6 + 2, none⟩ = some (.int .i64 pb) ∧ w'.cell? ⟨b, off + j * 6 + 3, none⟩ = some (.string ps))) (by kernel_rfl) (KS2.out _ (Below.refl _ _).drew) (fun hHeld => ?_)
                            refine wpAnyH_take (i := 0) (oi := ⟨some 63, _, _, _, _, _⟩) (v := ?vvbq1) rfl (by kernel_rfl) (by kernel_rfl) (by kernel_rfl) (fun _ _ _ h => h) (Or.inl ⟨by rfl, ?yybq1⟩) hHeld ?rrbq1
                            case yybq1 => (intro wq hSw; (try dsimp only at hSw); go_simp; first | done | with_reducible rfl)
                            simp only [Act.put, List.setIfInBounds_toArray, List.set_cons_zero, List.set_cons_succ]
                            refine wpAnyH_take (i := 1) (oi := ⟨some 64, _, _, _, _, _⟩) (v := ?vvbq2) rfl (by kernel_rfl) (by kernel_rfl) (by kernel_rfl) (fun _ _ _ h => h) (Or.inl ⟨by rfl, ?yybq2⟩) hHeld ?rrbq2
                            case yybq2 => (intro wq hSw; (try dsimp only at hSw); go_simp; first | done | with_reducible rfl)
                            simp only [Act.put, List.setIfInBounds_toArray, List.set_cons_zero, List.set_cons_succ]
                            refine wpAnyH_take (i := 2) (oi := ⟨some 65, _, _, _, _, _⟩) (v := ?vvbq3) rfl (by kernel_rfl) (by kernel_rfl) (by kernel_rfl) (fun _ _ _ h => h) (Or.inl ⟨by rfl, ?yybq3⟩) hHeld ?rrbq3
                            case yybq3 => (intro wq hSw; (try dsimp only at hSw); go_simp; first | done | with_reducible rfl)
                            simp only [Act.put, List.setIfInBounds_toArray, List.set_cons_zero, List.set_cons_succ]
                            refine wpAnyH_take (i := 3) (oi := ⟨some 66, _, _, _, _, _⟩) (v := ?vvbq4) rfl (by kernel_rfl) (by kernel_rfl) (by kernel_rfl) (fun _ _ _ h => h) (Or.inl ⟨by rfl, ?yybq4⟩) hHeld ?rrbq4
                            case yybq4 => (intro wq hSw; (try dsimp only at hSw); go_simp; first | done | with_reducible rfl)
                            simp only [Act.put, List.setIfInBounds_toArray, List.set_cons_zero, List.set_cons_succ]
                            refine wpAnyH_take (i := 4) (oi := ⟨some 67, _, _, _, _, _⟩) (v := ?vvbq5) rfl (by kernel_rfl) (by kernel_rfl) (by kernel_rfl) (fun _ _ _ h => h) (Or.inl ⟨by rfl, ?yybq5⟩) hHeld ?rrbq5
                            case yybq5 => (intro wq hSw; (try dsimp only at hSw); go_simp; first | done | with_reducible rfl)
                            simp only [Act.put, List.setIfInBounds_toArray, List.set_cons_zero, List.set_cons_succ]
                            refine wpAnyH_take (i := 5) (oi := ⟨some 68, _, _, _, _, _⟩) (v := ?vvbq6) rfl (by kernel_rfl) (by kernel_rfl) (by kernel_rfl) (fun _ _ _ h => h) (Or.inl ⟨by rfl, ?yybq6⟩) hHeld ?rrbq6
                            case yybq6 => (intro wq hSw; (try dsimp only at hSw); go_simp; first | done | with_reducible rfl)
                            simp only [Act.put, List.setIfInBounds_toArray, List.set_cons_zero, List.set_cons_succ]
                            refine wpAnyH_take (i := 6) (oi := ⟨some 69, _, _, _, _, _⟩) (v := ?vvbq7) rfl (by kernel_rfl) (by kernel_rfl) (by kernel_rfl) (fun _ _ _ h => h) (Or.inl ⟨by rfl, ?yybq7⟩) hHeld ?rrbq7
                            case yybq7 => (intro wq hSw; (try dsimp only at hSw); go_simp; first | done | with_reducible rfl)
                            simp only [Act.put, List.setIfInBounds_toArray, List.set_cons_zero, List.set_cons_succ]
                            refine wpAnyH_take (i := 7) (oi := ⟨some 70, _, _, _, _, _⟩) (v := ?vvbq8) rfl (by kernel_rfl) (by kernel_rfl) (by kernel_rfl) (fun _ _ _ h => h) (Or.inl ⟨by rfl, ?yybq8⟩) hHeld ?rrbq8
                            case yybq8 => (intro wq hSw; (try dsimp only at hSw); go_simp; first | done | with_reducible rfl)
                            simp only [Act.put, List.setIfInBounds_toArray, List.set_cons_zero, List.set_cons_succ]
                            refine wpAnyH_take (i := 8) (oi := ⟨some 71, _, _, _, _, _⟩) (v := ?vvbq9) rfl (by kernel_rfl) (by kernel_rfl) (by kernel_rfl) (fun _ _ _ h => h) (Or.inl ⟨by rfl, ?yybq9⟩) hHeld ?rrbq9
                            case yybq9 => (intro wq hSw; (try dsimp only at hSw); go_simp; first | done | with_reducible rfl)
                            simp only [Act.put, List.setIfInBounds_toArray, List.set_cons_zero, List.set_cons_succ]
                            refine wpAnyH_take (i := 9) (oi := ⟨some 72, _, _, _, _, _⟩) (v := undef) rfl (by kernel_rfl) (by kernel_rfl) (by kernel_rfl) (fun _ _ _ h => h) (Or.inr ⟨by rfl, rfl⟩) hHeld ?_
                            simp only [Act.put, List.setIfInBounds_toArray, List.set_cons_zero, List.set_cons_succ]
                            refine wpAnyH_take (i := 10) (oi := ⟨some 73, _, _, _, _, _⟩) (v := undef) rfl (by kernel_rfl) (by kernel_rfl) (by kernel_rfl) (fun _ _ _ h => h) (Or.inr ⟨by rfl, rfl⟩) hHeld ?_
                            simp only [Act.put, List.setIfInBounds_toArray, List.set_cons_zero, List.set_cons_succ]
                            refine wpAnyH_take (i := 11) (oi := ⟨some 74, _, _, _, _, _⟩) (v := undef) rfl (by kernel_rfl) (by kernel_rfl) (by kernel_rfl) (fun _ _ _ h => h) (Or.inr ⟨by rfl, rfl⟩) hHeld ?_
                            simp only [Act.put, List.setIfInBounds_toArray, List.set_cons_zero, List.set_cons_succ]
                            refine wpAnyH_take (i := 12) (oi := ⟨some 75, _, _, _, _, _⟩) (v := undef) rfl (by kernel_rfl) (by kernel_rfl) (by kernel_rfl) (fun _ _ _ h => h) (Or.inr ⟨by rfl, rfl⟩) hHeld ?_
                            simp only [Act.put, List.setIfInBounds_toArray, List.set_cons_zero, List.set_cons_succ]
                            refine wpAnyH_take (i := 13) (oi := ⟨some 76, _, _, _, _, _⟩) (v := undef) rfl (by kernel_rfl) (by kernel_rfl) (by kernel_rfl) (fun _ _ _ h => h) (Or.inr ⟨by rfl, rfl⟩) hHeld ?_
                            simp only [Act.put, List.setIfInBounds_toArray, List.set_cons_zero, List.set_cons_succ]
                            refine wpAnyH_take (i := 14) (oi := ⟨some 77, _, _, _, _, _⟩) (v := undef) rfl (by kernel_rfl) (by kernel_rfl) (by kernel_rfl) (fun _ _ _ h => h) (Or.inr ⟨by rfl, rfl⟩) hHeld ?_
                            simp only [Act.put, List.setIfInBounds_toArray, List.set_cons_zero, List.set_cons_succ]
                            refine wpAnyH_take (i := 15) (oi := ⟨some 78, _, _, _, _, _⟩) (v := undef) rfl (by kernel_rfl) (by kernel_rfl) (by kernel_rfl) (fun _ _ _ h => h) (Or.inr ⟨by rfl, rfl⟩) hHeld ?_
                            simp only [Act.put, List.setIfInBounds_toArray, List.set_cons_zero, List.set_cons_succ]
                            refine wpAnyH_take (i := 16) (oi := ⟨some 79, _, _, _, _, _⟩) (v := undef) rfl (by kernel_rfl) (by kernel_rfl) (by kernel_rfl) (fun _ _ _ h => h) (Or.inr ⟨by rfl, rfl⟩) hHeld ?_
                            simp only [Act.put, List.setIfInBounds_toArray, List.set_cons_zero, List.set_cons_succ]
                            refine wpAnyH_take (i := 17) (oi := ⟨some 80, _, _, _, _, _⟩) (v := undef) rfl (by kernel_rfl) (by kernel_rfl) (by kernel_rfl) (fun _ _ _ h => h) (Or.inr ⟨by rfl, rfl⟩) hHeld ?_
                            simp only [Act.put, List.setIfInBounds_toArray, List.set_cons_zero, List.set_cons_succ]
                            refine wpAnyH_take (i := 18) (oi := ⟨some 81, _, _, _, _, _⟩) (v := undef) rfl (by kernel_rfl) (by kernel_rfl) (by kernel_rfl) (fun _ _ _ h => h) (Or.inr ⟨by rfl, rfl⟩) hHeld ?_
                            simp only [Act.put, List.setIfInBounds_toArray, List.set_cons_zero, List.set_cons_succ]
                            refine wpAnyH_take (i := 19) (oi := ⟨some 82, _, _, _, _, _⟩) (v := undef) rfl (by kernel_rfl) (by kernel_rfl) (by kernel_rfl) (fun _ _ _ h => h) (Or.inr ⟨by rfl, rfl⟩) hHeld ?_
                            simp only [Act.put, List.setIfInBounds_toArray, List.set_cons_zero, List.set_cons_succ]
                            refine wpAnyH_take (i := 20) (oi := ⟨some 83, _, _, _, _, _⟩) (v := undef) rfl (by kernel_rfl) (by kernel_rfl) (by kernel_rfl) (fun _ _ _ h => h) (Or.inr ⟨by rfl, rfl⟩) hHeld ?_
                            simp only [Act.put, List.setIfInBounds_toArray, List.set_cons_zero, List.set_cons_succ]
                            refine wpAnyH_take (i := 21) (oi := ⟨some 84, _, _, _, _, _⟩) (v := undef) rfl (by kernel_rfl) (by kernel_rfl) (by kernel_rfl) (fun _ _ _ h => h) (Or.inr ⟨by rfl, rfl⟩) hHeld ?_
                            simp only [Act.put, List.setIfInBounds_toArray, List.set_cons_zero, List.set_cons_succ]
                            refine wpAnyH_take (i := 22) (oi := ⟨some 85, _, _, _, _, _⟩) (v := undef) rfl (by kernel_rfl) (by kernel_rfl) (by kernel_rfl) (fun _ _ _ h => h) (Or.inr ⟨by rfl, rfl⟩) hHeld ?_
                            simp only [Act.put, List.setIfInBounds_toArray, List.set_cons_zero, List.set_cons_succ]
                            refine wpAnyH_take (i := 23) (oi := ⟨some 86, _, _, _, _, _⟩) (v := undef) rfl (by kernel_rfl) (by kernel_rfl) (by kernel_rfl) (fun _ _ _ h => h) (Or.inr ⟨by rfl, rfl⟩) hHeld ?_
                            simp only [Act.put, List.setIfInBounds_toArray, List.set_cons_zero, List.set_cons_succ]
                            refine wpAnyH_take (i := 24) (oi := ⟨some 87, _, _, _, _, _⟩) (v := ?vvbq25) rfl (by kernel_rfl) (by kernel_rfl) (by kernel_rfl) (fun _ _ _ h => h) (Or.inl ⟨by rfl, ?yybq25⟩) hHeld ?rrbq25
                            case yybq25 => (intro wq hSw; (try dsimp only at hSw); go_simp; first | done | with_reducible rfl)
                            simp only [Act.put, List.setIfInBounds_toArray, List.set_cons_zero, List.set_cons_succ]
                            refine wpAnyH_done (by kernel_rfl) ?_ _
                            have hB5 := hHeld.1
                            try dsimp only at hB5
                            clear hHeld
                            go_wp2_with fail
                            go_ret
                            exact ⟨rfl, below_then HBW.out (below_then HBV.out hB5)⟩
                        · have HI2 : Hid (badWs2 ws none = (decide (0 ≤ cc) || badWs2 (ws.drop (j + 1 + 1)) (prevK ws (j + 1 + 1)))) := Lib.hid (by rw [HI3.out, show (⟨⟨kd, ka, kb, ks⟩, val, true⟩ : Wr).mute = false from rfl]; rfl)
                          go_wp2_with fail
                          clear s0 s1 s2 s3 s4 s5
                          refine wp_region_held_drew (S := (fun w' => Below V.heap.size V w' ∧ w'.cell? ⟨wr.heap.size, 0, none⟩ = some (.int .i64 kd) ∧ w'.cell? ⟨wr.heap.size, 1, none⟩ = some (.int .i64 ka) ∧ w'.cell? ⟨wr.heap.size, 2, none⟩ = some (.int .i64 kb) ∧ w'.cell? ⟨wr.heap.size, 3, none⟩ = some (.string ks) ∧ w'.cell? ⟨wr.heap.size, 4, none⟩ = some (.string val) ∧ w'.cell? ⟨wr.heap.size, 5, none⟩ = some (.bool true) ∧ w'.cell? ⟨w.heap.size, 1, none⟩ = some (.slice (some ⟨b, off, none⟩) ws.length cap) ∧ w'.cell? ⟨b, off + j * 6, none⟩ = some (.int .i64 pd) ∧ w'.cell? ⟨b, off + j * 6 + 1, none⟩ = some (.int .i64 pa) ∧ w'.cell? ⟨b, off + j * 6 + 2, none⟩ = some (.int .i64 pb) ∧ w'.cell? ⟨b, off + j * 6 + 3, none⟩ = some (.string ps))) (by kernel_rfl) (KS2.out _ (Below.refl _ _).drew) (fun hHeld => ?_)
                          refine wpAnyH_take (i := 0) (oi := ⟨some 63, _, _, _, _, _⟩) (v := ?vvbr1) rfl (by kernel_rfl) (by kernel_rfl) (by kernel_rfl) (fun _ _ _ h => h) (Or.inl ⟨by rfl, ?yybr1⟩) hHeld ?rrbr1
                          case yybr1 => (intro wq hSw; (try dsimp only at hSw); go_simp; first | done | with_reducible rfl)
                          simp only [Act.put, List.setIfInBounds_toArray, List.set_cons_zero, List.set_cons_succ]
                          refine wpAnyH_take (i := 1) (oi := ⟨some 64, _, _, _, _, _⟩) (v := ?vvbr2) rfl (by kernel_rfl) (by kernel_rfl) (by kernel_rfl) (fun _ _ _ h => h) (Or.inl ⟨by rfl, ?yybr2⟩) hHeld ?rrbr2
                          case yybr2 => (intro wq hSw; (try dsimp only at hSw); go_simp; first | done | with_reducible rfl)
                          simp only [Act.put, List.setIfInBounds_toArray, List.set_cons_zero, List.set_cons_succ]
                          refine wpAnyH_take (i := 2) (oi := ⟨some 65, _, _, _, _, _⟩) (v := ?vvbr3) rfl (by kernel_rfl) (by kernel_rfl) (by kernel_rfl) (fun _ _ _ h => h) (Or.inl ⟨by rfl, ?yybr3⟩) hHeld ?rrbr3
                          case yybr3 => (intro wq hSw; (try dsimp only at hSw); go_simp; first | done | with_reducible rfl)
                          simp only [Act.put, List.setIfInBounds_toArray, List.set_cons_zero, List.set_cons_succ]
                          refine wpAnyH_take (i := 3) (oi := ⟨some 66, _, _, _, _, _⟩) (v := ?vvbr4) rfl (by kernel_rfl) (by kernel_rfl) (by kernel_rfl) (fun _ _ _ h => h) (Or.inl ⟨by rfl, ?yybr4⟩) hHeld ?rrbr4
                          case yybr4 => (intro wq hSw; (try dsimp only at hSw); go_simp; first | done | with_reducible rfl)
                          simp only [Act.put, List.setIfInBounds_toArray, List.set_cons_zero, List.set_cons_succ]
                          refine wpAnyH_take (i := 4) (oi := ⟨some 67, _, _, _, _, _⟩) (v := undef) rfl (by kernel_rfl) (by kernel_rfl) (by kernel_rfl) (fun _ _ _ h => h) (Or.inr ⟨by rfl, rfl⟩) hHeld ?_
                          simp only [Act.put, List.setIfInBounds_toArray, List.set_cons_zero, List.set_cons_succ]
                          refine wpAnyH_take (i := 5) (oi := ⟨some 68, _, _, _, _, _⟩) (v := undef) rfl (by kernel_rfl) (by kernel_rfl) (by kernel_rfl) (fun _ _ _ h => h) (Or.inr ⟨by rfl, rfl⟩) hHeld ?_
                          simp only [Act.put, List.setIfInBounds_toArray, List.set_cons_zero, List.set_cons_succ]
                          refine wpAnyH_take (i := 6) (oi := ⟨some 69, _, _, _, _, _⟩) (v := undef) rfl (by kernel_rfl) (by kernel_rfl) (by kernel_rfl) (fun _ _ _ h => h) (Or.inr ⟨by rfl, rfl⟩) hHeld ?_
                          simp only [Act.put, List.setIfInBounds_toArray, List.set_cons_zero, List.set_cons_succ]
                          refine wpAnyH_take (i := 7) (oi := ⟨some 70, _, _, _, _, _⟩) (v := ?vvbr8) rfl (by kernel_rfl) (by kernel_rfl) (by kernel_rfl) (fun _ _ _ h => h) (Or.inl ⟨by rfl, ?yybr8⟩) hHeld ?rrbr8
                          case yybr8 => (intro wq hSw; (try dsimp only at hSw); go_simp; first | done | with_reducible rfl)
                          simp only [Act.put, List.setIfInBounds_toArray, List.set_cons_zero, List.set_cons_succ]
                          refine wpAnyH_take (i := 8) (oi := ⟨some 71, _, _, _, _, _⟩) (v := ?vvbr9) rfl (by kernel_rfl) (by kernel_rfl) (by kernel_rfl) (fun _ _ _ h => h) (Or.inl ⟨by rfl, ?yybr9⟩) hHeld ?rrbr9
                          case yybr9 => (intro wq hSw; (try dsimp only at hSw); go_simp; first | done | with_reducible rfl)
                          simp only [Act.put, List.setIfInBounds_toArray, List.set_cons_zero, List.set_cons_succ]
                          refine wpAnyH_take (i := 9) (oi := ⟨some 72, _, _, _, _, _⟩) (v := ?vvbr10) rfl (by kernel_rfl) (by kernel_rfl) (by kernel_rfl) (fun _ _ _ h => h) (Or.inl ⟨by rfl, ?yybr10⟩) hHeld ?rrbr10
                          case yybr10 => (intro wq hSw; (try dsimp only at hSw); go_simp; first | done | with_reducible rfl)
                          simp only [Act.put, List.setIfInBounds_toArray, List.set_cons_zero, List.set_cons_succ]
                          refine wpAnyH_take (i := 10) (oi := ⟨some 73, _, _, _, _, _⟩) (v := ?vvbr11) rfl (by kernel_rfl) (by kernel_rfl) (by kernel_rfl) (fun _ _ _ h => h) (Or.inl ⟨by rfl, ?yybr11⟩) hHeld ?rrbr11
                          case yybr11 => (intro wq hSw; (try dsimp only at hSw); go_simp; first | done | with_reducible rfl)
                          simp only [Act.put, List.setIfInBounds_toArray, List.set_cons_zero, List.set_cons_succ]
                          refine wpAnyH_take (i := 11) (oi := ⟨some 74, _, _, _, _, _⟩) (v := ?vvbr12) rfl (by kernel_rfl) (by kernel_rfl) (by kernel_rfl) (fun _ _ _ h => h) (Or.inl ⟨by rfl, ?yybr12⟩) hHeld ?rrbr12
                          case yybr12 => (intro wq hSw; (try dsimp only at hSw); go_simp; first | done | with_reducible rfl)
                          simp only [Act.put, List.setIfInBounds_toArray, List.set_cons_zero, List.set_cons_succ]
                          refine wpAnyH_take (i := 12) (oi := ⟨some 75, _, _, _, _, _⟩) (v := ?vvbr13) rfl (by kernel_rfl) (by kernel_rfl) (by kernel_rfl) (fun _ _ _ h => h) (Or.inl ⟨by rfl, ?yybr13⟩) hHeld ?rrbr13
                          case yybr13 => (intro wq hSw; (try dsimp only at hSw); go_simp; first | done | with_reducible rfl)
                          simp only [Act.put, List.setIfInBounds_toArray, List.set_cons_zero, List.set_cons_succ]
                          refine wpAnyH_take (i := 13) (oi := ⟨some 76, _, _, _, _, _⟩) (v := ?vvbr14) rfl (by kernel_rfl) (by kernel_rfl) (by kernel_rfl) (fun _ _ _ h => h) (Or.inl ⟨by rfl, ?yybr14⟩) hHeld ?rrbr14
                          case yybr14 => (intro wq hSw; (try dsimp only at hSw); go_simp; first | done | with_reducible rfl)
                          simp only [Act.put, List.setIfInBounds_toArray, List.set_cons_zero, List.set_cons_succ]
                          refine wpAnyH_take (i := 14) (oi := ⟨some 77, _, _, _, _, _⟩) (v := ?vvbr15) rfl (by kernel_rfl) (by kernel_rfl) (by kernel_rfl) (fun _ _ _ h => h) (Or.inl ⟨by rfl, ?yybr15⟩) hHeld ?rrbr15
                          case yybr15 => (intro wq hSw; (try dsimp only at hSw); go_simp; first | done | with_reducible rfl)
                          simp only [Act.put, List.setIfInBounds_toArray, List.set_cons_zero, List.set_cons_succ]
                          refine wpAnyH_take (i := 15) (oi := ⟨some 78, _, _, _, _, _⟩) (v := ?vvbr16) rfl (by kernel_rfl) (by kernel_rfl) (by kernel_rfl) (fun _ _ _ h => h) (Or.inl ⟨by rfl, ?yybr16⟩) hHeld ?rrbr16
                          case yybr16 => (intro wq hSw; (try dsimp only at hSw); go_simp; first | done | with_reducible rfl)
                          simp only [Act.put, List.setIfInBounds_toArray, List.set_cons_zero, List.set_cons_succ]
                          refine wpAnyH_take (i := 16) (oi := ⟨some 79, _, _, _, _, _⟩) (v := ?vvbr17) rfl (by kernel_rfl) (by kernel_rfl) (by kernel_rfl) (fun _ _ _ h => h) (Or.inl ⟨by rfl, ?yybr17⟩) hHeld ?rrbr17
                          case yybr17 => (intro wq hSw; (try dsimp only at hSw); go_simp; first | done | with_reducible rfl)
                          simp only [Act.put, List.setIfInBounds_toArray, List.set_cons_zero, List.set_cons_succ]
                          refine wpAnyH_take (i := 17) (oi := ⟨some 80, _, _, _, _, _⟩) (v := ?vvbr18) rfl (by kernel_rfl) (by kernel_rfl) (by kernel_rfl) (fun _ _ _ h => h) (Or.inl ⟨by rfl, ?yybr18⟩) hHeld ?rrbr18
                          case yybr18 => (intro wq hSw; (try dsimp only at hSw); go_simp; first | done | with_reducible rfl)
                          simp only [Act.put, List.setIfInBounds_toArray, List.set_cons_zero, List.set_cons_succ]
                          refine wpAnyH_take (i := 18) (oi := ⟨some 81, _, _, _, _, _⟩) (v := ?vvbr19) rfl (by kernel_rfl) (by kernel_rfl) (by kernel_rfl) (fun _ _ _ h => h) (Or.inl ⟨by rfl, ?yybr19⟩) hHeld ?rrbr19
                          case yybr19 => (intro wq hSw; (try dsimp only at hSw); go_simp; first | done | with_reducible rfl)
                          simp only [Act.put, List.setIfInBounds_toArray, List.set_cons_zero, List.set_cons_succ]
                          refine wpAnyH_take (i := 19) (oi := ⟨some 82, _, _, _, _, _⟩) (v := ?vvbr20) rfl (by kernel_rfl) (by kernel_rfl) (by kernel_rfl) (fun _ _ _ h => h) (Or.inl ⟨by rfl, ?yybr20⟩) hHeld ?rrbr20
                          case yybr20 => (intro wq hSw; (try dsimp only at hSw); go_simp; first | done | with_reducible rfl)
                          simp only [Act.put, List.setIfInBounds_toArray, List.set_cons_zero, List.set_cons_succ]
                          refine wpAnyH_take (i := 20) (oi := ⟨some 83, _, _, _, _, _⟩) (v := ?vvbr21) rfl (by kernel_rfl) (by kernel_rfl) (by kernel_rfl) (fun _ _ _ h => h) (Or.inl ⟨by rfl, ?yybr21⟩) hHeld ?rrbr21
                          case yybr21 => (intro wq hSw; (try dsimp only at hSw); go_simp; first | done | with_reducible rfl)
                          simp only [Act.put, List.setIfInBounds_toArray, List.set_cons_zero, List.set_cons_succ]
                          refine wpAnyH_ready (rs := [21]) (by kernel_rfl) (by simp) ?_
                          refine AllReadyH.cons (o := ⟨some 84, _, _, _, _, _⟩) rfl (fun K hK => ?_) AllReadyH.nil
                          go_simp
                          refine (r9order_any ⟨pd, pa, pb, ps⟩ ⟨kd, ka, kb, ks⟩ _ HPS.out).mono ?_
                          rintro e w4 ⟨rfl, b4⟩
                          rw [HCC.out]
                          have hB4 := below_then hHeld.1 b4
                          clear b4
                          go_wp2_with fail
                          refine hK.out _ _ ?ssbr22 (fun hHeld => ?_)
                          case ssbr22 => (exact KS2.out _ hB4)
                          clear hK K
                          try simp only [Act.put, List.setIfInBounds_toArray, List.set_cons_zero, List.set_cons_succ]
                          refine wpAnyH_take (i := 22) (oi := ⟨some 85, _, _, _, _, _⟩) (v := ?vvbr23) rfl (by kernel_rfl) (by kernel_rfl) (by kernel_rfl) (fun _ _ _ h => h) (Or.inl ⟨by rfl, ?yybr23⟩) hHeld ?rrbr23
                          case yybr23 => (intro wq hSw; (try dsimp only at hSw); go_simp; first | done | with_reducible rfl)
                          simp only [Act.put, List.setIfInBounds_toArray, List.set_cons_zero, List.set_cons_succ]
                          refine wpAnyH_take (i := 23) (oi := ⟨some 86, _, _, _, _, _⟩) (v := ?vvbr24) rfl (by kernel_rfl) (by kernel_rfl) (by kernel_rfl) (fun _ _ _ h => h) (Or.inl ⟨by rfl, ?yybr24⟩) hHeld ?rrbr24
                          case yybr24 => (intro wq hSw; (try dsimp only at hSw); go_simp; first | done | with_reducible rfl)
                          simp only [Act.put, List.setIfInBounds_toArray, List.set_cons_zero, List.set_cons_succ]
                          refine wpAnyH_take (i := 24) (oi := ⟨some 87, _, _, _, _, _⟩) (v := ?vvbr25) rfl (by kernel_rfl) (by kernel_rfl) (by kernel_rfl) (fun _ _ _ h => h) (Or.inl ⟨by rfl, ?yybr25⟩) hHeld ?rrbr25
                          case yybr25 => (intro wq hSw; (try dsimp only at hSw); go_simp; first | done | with_reducible rfl)
                          simp only [Act.put, List.setIfInBounds_toArray, List.set_cons_zero, List.set_cons_succ]
                          refine wpAnyH_done (by kernel_rfl) ?_ _
                          clear hHeld
                          by_cases hc : 0 ≤ cc
                          · have hr : R = false := by rw [HO2.out, HI2.out, decide_eq_true hc]; simp
                            subst hr
                            go_wp2_with fail
                            go_ret
                            exact ⟨rfl, below_then HBW.out (below_then HBV.out hB4)⟩
                          · have HN : Hid (badWs2 ws none = badWs2 (ws.drop (j + 1 + 1)) (prevK ws (j + 1 + 1))) := Lib.hid (by rw [HI2.out, decide_eq_false hc]; rfl)
                            have hc2 : cc < 0 := by omega
                            go_wp2_with fail
                            exact ⟨⟨j + 1 + 1, by omega, by go_num, HN, below_then HBV.out hB4⟩, by simp [intOf]; omega⟩
          · obtain rfl : k = ws.length := by omega
            have hI : badWs2 ws none = false := by rw [HI.out, List.drop_length]; rfl
            have hr : R = true := by rw [HO2.out, hI]; rfl
            subst hr
            clear hI er
            go_wp2_with fail
            go_ret
            exact ⟨rfl, below_then HBW.out HBR.out⟩
    · have hr : R = false := by rw [hO]; simp
      subst hr
      clear hO h0 hR hW hBW eW h HO hs h1
      go_enter Try.func25, Try.ntmps25
      go_upto_region 1 with fail
      rw [← HW.out]
      go_wp2_with fail
      go_ret
      exact ⟨rfl, HBW.out⟩
end Go.Proofs.Ytcghgnncmnoalaa
namespace Go.Proofs.Ytcghgnncmnoalaa
open Go.RowKit Go.Maps

/-- a record as it lies: its stamp, where its writes are, its writes -/
structure Rv where
  stamp : Nat
  a : Option Addr
  cap : Nat
  ws : List Wr
def Rv.rc (r : Rv) : Rc := ⟨r.stamp, r.ws⟩
def Rv.val (r : Rv) : Value := .agg #[.int .u64 r.stamp, .slice r.a r.ws.length r.cap]
structure Rv.Ok (w : World) (r : Rv) : Prop where
  stamp : r.stamp < 18446744073709551616
  ws : WsV w r.a r.ws
  len : r.ws.length ≤ 1000000
theorem Rv.Ok.below {w w' : World} {r : Rv} (h : r.Ok w) (hb : Below w.heap.size w w') : r.Ok w' := ⟨h.stamp, h.ws.below hb, h.len⟩
/-- records in memory, one behind the other -/
structure RsAt (w : World) (b off : Nat) (l : List Rv) : Prop where
  cells : ∀ (i : Nat) (x : Rv), l[i]? = some x → x.Ok w ∧ w.cell? ⟨b, off + i * 2, none⟩ = some (.int .u64 x.stamp) ∧ w.cell? ⟨b, off + i * 2 + 1, none⟩ = some (.slice x.a x.ws.length x.cap)
  lt : b < w.heap.size
theorem RsAt.below {w w' : World} {b off : Nat} {l : List Rv} (h : RsAt w b off l) (hb : Below w.heap.size w w') : RsAt w' b off l :=
  ⟨fun i x hx => by
    obtain ⟨h1, h2, h3⟩ := h.cells i x hx
    exact ⟨h1.below hb, below_cell hb _ h.lt h2, below_cell hb _ h.lt h3⟩, Nat.lt_of_lt_of_le h.lt hb.size⟩
def RsV (w : World) (a : Option Addr) (l : List Rv) : Prop := l ≠ [] → ∃ b off, a = some ⟨b, off, none⟩ ∧ RsAt w b off l
theorem RsV.below {w w' : World} {a : Option Addr} {l : List Rv} (h : RsV w a l) (hb : Below w.heap.size w w') : RsV w' a l := fun hn => by
  obtain ⟨b, off, e, hat⟩ := h hn
  exact ⟨b, off, e, hat.below hb⟩

/-- the first wrong one's place -/
def idxW : List Rv → Int → Int
  | [], _ => -1
  | r :: l, i => if r.rc.wrong = true then i else idxW l (i + 1)
theorem idxW_drop {l : List Rv} {k : Nat} {x : Rv} (hx : l[k]? = some x) : idxW (l.drop k) k = if x.rc.wrong = true then (k : Int) else idxW (l.drop (k + 1)) (k + 1) := by
  obtain ⟨hk, rfl⟩ := List.getElem?_eq_some_iff.1 hx
  rw [List.drop_eq_getElem_cons hk]
  rfl
theorem idxW_any : ∀ (l : List Rv) (i : Int), 0 ≤ i → decide (0 ≤ idxW l i) = l.any (·.rc.wrong)
  | [], _, _ => rfl
  | r :: l, i, hi => by
    unfold idxW
    cases h : r.rc.wrong
    · rw [if_neg (by decide), idxW_any l (i + 1) (by omega)]; simp [h]
    · rw [if_pos rfl]; simp [h, hi]
def IntPost (w : World) (n : Int) (e : Ending) (w' : World) : Prop := e = .returned (.int .i64 n) ∧ Below w.heap.size w w'
set_option maxRecDepth 100000 in
set_option maxHeartbeats 2000000 in
theorem idxR_any (a : Option Addr) (cap : Nat) (l : List Rv) (w : World) (h : RsV w a l) (hl : l.length ≤ 1000000) :
    Calls Try.prog 122 #[.slice a l.length cap, .func (.func 84) #[] #[]] w (IntPost w (idxW l 0)) := by
  have HR := Lib.hid h
  clear h
  go_enter Try.func122, Try.ntmps122
  go_wp2_with fail
  go_loopw [8] (fun i wr => ∃ k : Nat, k ≤ l.length ∧ i = .int .i64 k ∧ Hid (idxW l 0 = idxW (l.drop k) k) ∧ Below w.heap.size w wr) (fun i _ => l.length - (intOf i).toNat)
  case atStart => exact ⟨0, by omega, rfl, Lib.hid rfl, Below.refl _ _⟩
  case round =>
    obtain ⟨k, hk, rfl, HI, hbr⟩ := hrel
    by_cases hlt : k < l.length
    · obtain ⟨x, hx⟩ : ∃ x, l[k]? = some x := ⟨_, List.getElem?_eq_getElem hlt⟩
      obtain ⟨b, off, rfl, hat⟩ := HR.out (fun e => by rw [e] at hlt; simp at hlt)
      obtain ⟨hok, c0, c1⟩ := (hat.below hbr).cells k x hx
      obtain ⟨st, ra, rc, ws⟩ := x
      simp only [] at c0 c1
      have HW := Lib.hid hok
      have hD := Lib.hid (idxW_drop hx)
      obtain ⟨q, hq⟩ : ∃ q, (⟨st, ws⟩ : Rc).wrong = q := ⟨_, rfl⟩
      have HQ := Lib.hid hq
      have HBR := Lib.hid hbr
      clear hx hat hok hq
      go_wp2_with fail
      refine (wrong_any st ra rc ws _ HW.out.ws HW.out.stamp HW.out.len).mono ?_
      rintro e w1 ⟨rfl, b1⟩
      rw [HQ.out]
      have HB1 := Lib.hid (below_then hbr b1)
      clear b1 c0 c1
      cases q
      · have HN : Hid (idxW l 0 = idxW (l.drop (k + 1)) ((k + 1 : Nat) : Int)) := Lib.hid (by rw [HI.out, hD.out, show (⟨st, ra, rc, ws⟩ : Rv).rc.wrong = false from HQ.out, if_neg (by decide)]; rfl)
        go_wp2_with fail
        exact ⟨⟨k + 1, by omega, by go_num, HN, HB1.out⟩, by simp [intOf]; omega⟩
      · have HN : Hid (idxW l 0 = k) := Lib.hid (by rw [HI.out, hD.out, show (⟨st, ra, rc, ws⟩ : Rv).rc.wrong = true from HQ.out, if_pos rfl])
        go_wp2_with fail
        go_ret
        exact ⟨by rw [HN.out]; rfl, HB1.out⟩
    · obtain rfl : k = l.length := by omega
      have HN : Hid (idxW l 0 = -1) := Lib.hid (by rw [HI.out, List.drop_length]; rfl)
      go_wp2_with fail
      go_ret
      exact ⟨by rw [HN.out]; rfl, hbr⟩
set_option maxRecDepth 100000 in
theorem conR_any (a : Option Addr) (cap : Nat) (l : List Rv) (w : World) (h : RsV w a l) (hl : l.length ≤ 1000000) :
    Calls Try.prog 96 #[.slice a l.length cap, .func (.func 84) #[] #[]] w (BoolPost w (l.any (·.rc.wrong))) := by
  have hi := Lib.hid (idxW_any l 0 (by omega))
  go_enter Try.func96, Try.ntmps96
  go_wp2_with fail
  refine (idxR_any a cap l _ h hl).mono ?_
  rintro e w1 ⟨rfl, b1⟩
  go_wp2_with fail
  go_ret
  exact ⟨by rw [← hi.out]; rfl, b1⟩
set_option maxRecDepth 100000 in
theorem dright_any (a : Option Addr) (cap : Nat) (l : List Rv) (w : World) (h : RsV w a l) (hl : l.length ≤ 1000000) :
    Calls Try.prog 26 #[.slice a l.length cap] w (BoolPost w (!(l.any (·.rc.wrong)))) := by
  go_enter Try.func26, Try.ntmps26
  go_wp2_with fail
  refine (conR_any a cap l _ h hl).mono ?_
  rintro e w1 ⟨rfl, b1⟩
  go_wp2_with fail
  go_ret
  exact ⟨rfl, b1⟩
/-- not too great -/
def smallW (n m : Nat) (ws : List Wr) : Bool := decide (ws.length ≤ n) && ws.all (fun x => decide (x.k.s.size ≤ m) && decide (x.val.size ≤ m))
set_option maxRecDepth 100000 in
set_option maxHeartbeats 2000000 in
theorem small14_any (st : Nat) (a : Option Addr) (cap : Nat) (ws : List Wr) (w : World) (h : WsV w a ws) (hl : ws.length ≤ maxLen) :
    Calls Try.prog 19 #[.agg #[.int .u64 st, .slice a ws.length cap]] w (BoolPost w (smallW 20 300 ws)) := by
  unfold maxLen at hl
  obtain ⟨W, hW⟩ : ∃ W, W = w.alloc (.cells #[.int .u64 st, .slice a ws.length cap] 35) := ⟨_, rfl⟩
  have hBW : Below w.heap.size w W := by rw [hW]; exact below_box w _
  have eW : W.heap[w.heap.size]? = some (.cells #[.int .u64 st, .slice a ws.length cap] 35) := by rw [hW]; exact heap_new w _
  have HBW := Lib.hid hBW
  have HW := Lib.hid hW
  have HWS := Lib.hid (h.below hBW)
  have g0 := cell_of_blk eW 0
  have g1 := cell_of_blk eW 1
  simp at g0 g1
  obtain ⟨R, hR⟩ : ∃ r, smallW 20 300 ws = r := ⟨_, rfl⟩
  rw [hR]
  unfold smallW at hR
  have HR := Lib.hid hR
  clear hW hBW eW h hR
  by_cases h20 : 20 < ws.length
  · have hr : R = false := by rw [← HR.out, decide_eq_false (by omega)]; rfl
    subst hr
    go_enter Try.func19, Try.ntmps19
    go_upto_region 1 with fail
    rw [← HW.out]
    go_wp2_with fail
    go_ret
    exact ⟨rfl, HBW.out⟩
  · have HR2 : Hid (ws.all (fun x => decide (x.k.s.size ≤ 300) && decide (x.val.size ≤ 300)) = R) := Lib.hid (by rw [← HR.out, decide_eq_true (show ws.length ≤ 20 by omega)]; simp)
    go_enter Try.func19, Try.ntmps19
    go_upto_region 1 with fail
    rw [← HW.out]
    go_wp2_with fail
    go_loopw [3] (fun i wr => ∃ k : Nat, k ≤ ws.length ∧ i = .int .i64 k ∧ Hid ((ws.drop k).all (fun x => decide (x.k.s.size ≤ 300) && decide (x.val.size ≤ 300)) = R) ∧ W = wr) (fun i _ => ws.length - (intOf i).toNat)
    case atStart => exact ⟨0, by omega, rfl, HR2, rfl⟩
    case round =>
      obtain ⟨k, hk, rfl, HI, rfl⟩ := hrel
      by_cases hlt : k < ws.length
      · obtain ⟨x, hx⟩ : ∃ x, ws[k]? = some x := ⟨_, List.getElem?_eq_getElem hlt⟩
        obtain ⟨b, off, rfl, hat⟩ := HWS.out (fun e => by rw [e] at hlt; simp at hlt)
        obtain ⟨c0, c1, c2, c3, c4, c5⟩ := hat.six hx
        have hI := HI.out
        obtain ⟨hk2, hxe⟩ := List.getElem?_eq_some_iff.1 hx
        rw [List.drop_eq_getElem_cons hk2, hxe, List.all_cons] at hI
        obtain ⟨⟨⟨kd, ka, kb, ks⟩, val, has⟩, hxx⟩ : ∃ y, y = x := ⟨_, rfl⟩
        subst hxx
        simp only [] at c0 c1 c2 c3 c4 c5 hI
        have hlt2 : (k : Int) < (ws.length : Int) := by omega
        by_cases h1 : 300 < ks.size
        · have hr : R = false := by rw [← hI, decide_eq_false (show ¬ ks.size ≤ 300 by omega)]; rfl
          have t1 : decide ((300 : Int) < (ks.size : Int)) = true := decide_eq_true (by omega)
          subst hr
          clear hI HI HR HR2 hx hxe hat c0 c1 c2 c5
          go_wp2_with fail
          go_ret
          exact ⟨rfl, HBW.out⟩
        · have t1 : decide ((300 : Int) < (ks.size : Int)) = false := decide_eq_false (by omega)
          by_cases h2 : 300 < val.size
          · have hr : R = false := by rw [← hI, decide_eq_false (show ¬ val.size ≤ 300 by omega)]; simp
            have t2 : decide ((300 : Int) < (val.size : Int)) = true := decide_eq_true (by omega)
            subst hr
            clear hI HI HR HR2 hx hxe hat c0 c1 c2 c5
            go_wp2_with fail
            go_ret
            exact ⟨rfl, HBW.out⟩
          · have t2 : decide ((300 : Int) < (val.size : Int)) = false := decide_eq_false (by omega)
            have HN : Hid ((ws.drop (k + 1)).all (fun x => decide (x.k.s.size ≤ 300) && decide (x.val.size ≤ 300)) = R) := Lib.hid (by rw [← hI, decide_eq_true (show ks.size ≤ 300 by omega), decide_eq_true (show val.size ≤ 300 by omega)]; rfl)
            clear hI HI HR HR2 hx hxe hat c0 c1 c2 c5
            go_wp2_with fail
            exact ⟨⟨k + 1, by omega, by go_num, HN, trivial⟩, by simp [intOf]; omega⟩
      · obtain rfl : k = ws.length := by omega
        have hr : R = true := by rw [← HI.out, List.drop_length]; rfl
        subst hr
        clear HI HR HR2
        go_wp2_with fail
        go_ret
        exact ⟨rfl, HBW.out⟩
end Go.Proofs.Ytcghgnncmnoalaa
