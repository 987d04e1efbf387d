/- cobwebref02.Take. Conditions: each contract's own premises. -/
import Derived.Test.YtcafedfldmcbiaaWb18
namespace Go.Proofs.Ytcafedfldmcbiaa
open Go.RowKit Go.Maps

theorem u64_back2 (u : Nat) (h : u < 18446744073709551616) : IntKind.i64.wrap (IntKind.u64.wrap ((u : Int) - 9223372036854775808)) = (u : Int) - 9223372036854775808 := by
  simp [IntKind.wrap, IntKind.bits, IntKind.signed]; omega
theorem str_snoc (acc : List UInt8) (x : UInt8) : (⟨acc.toArray⟩ : ByteArray) ++ ⟨[x].toArray⟩ = ⟨(acc ++ [x]).toArray⟩ := by
  apply ByteArray.ext; simp
theorem tk_retX {w wr : World} {t : TypeId} {a0 a1 a2 : Value} (e : wr.heap[w.heap.size]? = some (.cells #[a0, a1, a2] t)) (hb : Below w.heap.size w wr) (X : Obj) (F : Func) (a : Act) (o : Option (Vl × Nat)) (v : Vl) (n : Nat) (k : Int)
    (hF : F.results = #[.cell 2 42, .tmp 3, .tmp 4]) (h2 : a.tmps[2]?.getD undef = .pointer (some ⟨w.heap.size, 0, none⟩)) (h3 : a.tmps[3]?.getD undef = .int .i64 n) (h4 : a.tmps[4]?.getD undef = .int .i64 k) (hd : a.defers = [])
    (h : (k = 0 ∧ o = some (v, n)) ∨ (k ≠ 0 ∧ o = none)) :
    bodyPost Try.prog F (TkPost w o) .ret a ((((wr.setCell ⟨w.heap.size, 0, none⟩ (.int .i64 v.kind)).setCell ⟨w.heap.size, 1, none⟩ (.int .i64 v.n)).setCell ⟨w.heap.size, 2, none⟩ (.string v.s)).alloc X) := by
  obtain ⟨w3, hw3⟩ : ∃ w3, w3 = ((wr.setCell ⟨w.heap.size, 0, none⟩ (.int .i64 v.kind)).setCell ⟨w.heap.size, 1, none⟩ (.int .i64 v.n)).setCell ⟨w.heap.size, 2, none⟩ (.string v.s) := ⟨_, rfl⟩
  obtain ⟨b3, d0, d1, d2⟩ := set3 e hb _ _ _ w3 hw3
  rw [← hw3]
  have hlt : w.heap.size < w3.heap.size := by rw [hw3]; simp; exact (Array.getElem?_eq_some_iff.1 e).1
  clear hw3
  have b4 := below_then b3 (below_box w3 X)
  replace d0 := below_cell (below_box w3 X) 0 hlt d0
  replace d1 := below_cell (below_box w3 X) 1 hlt d1
  replace d2 := below_cell (below_box w3 X) 2 hlt d2
  obtain ⟨w4, hw4⟩ : ∃ w4, w4 = w3.alloc X := ⟨_, rfl⟩
  rw [← hw4] at b4 d0 d1 d2 ⊢
  clear hw4 b3
  refine bodyPost_ret (v := .tuple #[.agg #[.int .i64 v.kind, .int .i64 v.n, .string v.s], .int .i64 n, .int .i64 k]) ?_ hd ⟨b4, v, n, k, rfl, h⟩
  simp [results, hF, go_sem, h2, h3, h4, d0, d1, d2]
def R2Rel (l : List UInt8) (R : Option (List UInt8 × Nat)) (W : World) (s i : Value) (wr : World) : Prop := ∃ (k : Nat) (acc : List UInt8) (st : ByteArray), k ≤ l.length ∧ i = .int .i64 ((k + 1 : Nat) : Int) ∧ s = .string st ∧ Hid (st = ⟨acc.toArray⟩) ∧ acc.length ≤ 200 ∧ Below W.heap.size W wr ∧ Hid (R = tkT (l.drop k) acc (k + 1))
set_option maxRecDepth 100000 in
set_option maxHeartbeats 2000000 in
theorem r2take_text (b off cap : Nat) (l : List UInt8) (w : World) (h : BsAt w b off (2 :: l)) (hl : l.length ≤ 1000000) :
    Calls Try.prog 65 #[.slice (some ⟨b, off, none⟩) (2 :: l).length cap] w (TkPost w ((tkT l [] 1).map (fun x => (⟨2, 0, ⟨x.1.toArray⟩⟩, x.2)))) := by
  have hlw := h.lt
  have q0 := h.cells 0 2 rfl
  unfold bv at q0
  rw [Nat.add_zero] at q0
  simp at q0
  obtain ⟨R, hR⟩ : ∃ R, R = tkT l [] 1 := ⟨_, rfl⟩
  rw [← hR]
  have HR := Lib.hid hR
  clear hR
  have HH := Lib.hid h
  clear h
  go_enter Try.func65, Try.ntmps65
  go_wp2_with fail
  obtain ⟨W, hW⟩ : ∃ W, W = w.alloc (.cells #[.int .i64 0, .int .i64 0, .string ⟨#[]⟩] 42) := ⟨_, rfl⟩
  have hzW : W.heap.size = w.heap.size + 1 := by rw [hW]; simp
  have hBW : Below w.heap.size w W := by rw [hW]; exact below_box w _
  have eW : W.heap[w.heap.size]? = some (.cells #[.int .i64 0, .int .i64 0, .string ⟨#[]⟩] 42) := by rw [hW]; exact heap_new w _
  have HEW := Lib.hid eW
  have HW := Lib.hid hW
  have HZ := Lib.hid hzW
  clear eW hW hzW q0
  go_loopw [7, 8] (fun s i wr => R2Rel l R W s i wr) (fun _ i _ => l.length + 1 - (intOf i).toNat)
  case atStart => exact ⟨0, [], _, by omega, rfl, rfl, Lib.hid rfl, by simp, by rw [HW.out]; exact Below.refl _ _, HR⟩
  case round =>
    obtain ⟨k, acc, st, hk, rfl, rfl, HS, hac, hbel, HT⟩ := hrel
    have hz := hbel.size
    have hst : st.size = acc.length := by rw [HS.out]; rfl
    have hat := HH.out.below (hBW.trans (hbel.mono hBW.size))
    have eB := (hbel.block w.heap.size (by rw [HZ.out]; omega)).trans HEW.out
    have f0 := frozen_of_blk eB 0
    have f1 := frozen_of_blk eB 1
    have f2 := frozen_of_blk eB 2
    have c0 := cell_of_blk eB 0
    have c1 := cell_of_blk eB 1
    have c2 := cell_of_blk eB 2
    simp at c0 c1 c2
    have hlr : w.heap.size < wr.heap.size := (Array.getElem?_eq_some_iff.1 eB).1
    have HAT := Lib.hid hat
    have hlb : b < wr.heap.size := hat.lt
    have HB := Lib.hid eB
    clear eB hat
    by_cases hlt : k < l.length
    · obtain ⟨x, hx⟩ : ∃ x, l[k]? = some x := ⟨_, List.getElem?_eq_getElem hlt⟩
      have q1 := HAT.out.cells (k + 1) x (by simpa using hx)
      unfold bv at q1
      have hdk : l.drop k = x :: l.drop (k + 1) := by
        rw [List.drop_eq_getElem_cons hlt]
        rw [List.getElem?_eq_getElem hlt] at hx
        injection hx with hx
        rw [hx]
      have HD := Lib.hid hdk
      clear hdk hx
      by_cases h0 : x = 0
      · subst h0
        simp at q1
        by_cases hlt2 : k + 1 < l.length
        · obtain ⟨y, hy⟩ : ∃ y, l[k + 1]? = some y := ⟨_, List.getElem?_eq_getElem hlt2⟩
          have q2 := HAT.out.cells (k + 1 + 1) y (by simpa using hy)
          unfold bv at q2
          have HD2 : Hid (l.drop k = 0 :: y :: l.drop (k + 2)) := Lib.hid (by
            rw [HD.out, List.drop_eq_getElem_cons hlt2]
            rw [List.getElem?_eq_getElem hlt2] at hy
            injection hy with hy
            rw [hy])
          clear HD hy
          by_cases h1 : y = 0
          · subst h1
            simp at q2
            have HN : Hid (R = some (acc, k + 1 + 2)) := Lib.hid (by rw [HT.out, HD2.out, tkT_end])
            go_wp2_with (refine wpList_toStr _ rfl (.tmp 52) rfl ⟨wr.heap.size, 0, none⟩ 1 1 [0] rfl rfl (new_one rfl) ?_)
            exact tk_retX HB.out (hBW.trans (hbel.mono hBW.size)) _ _ _ _ ⟨2, 0, st⟩ (k + 1 + 2) 0 Try.results65 rfl (by go_num) rfl rfl (.inl ⟨rfl, by rw [HN.out, HS.out]; rfl⟩)
          · have n1 : ((y.toNat : Int) == 0) = false := u8_ne (b := 0) h1
            by_cases h2 : y = 255
            · subst h2
              simp at q2
              by_cases hf : acc.length = 200
              · have HN : Hid (R = none) := Lib.hid (by rw [HT.out, HD2.out, tkT_zfull hf])
                rw [hf] at hst
                go_wp2_with (refine wpList_toStr _ rfl (.tmp 52) rfl ⟨wr.heap.size, 0, none⟩ 1 1 [0] rfl rfl (new_one rfl) ?_)
                exact tk_retX HB.out (hBW.trans (hbel.mono hBW.size)) _ _ _ _ ⟨0, 0, ⟨#[]⟩⟩ 0 32 Try.results65 rfl rfl rfl rfl (.inr ⟨by decide, by rw [HN.out]; rfl⟩)
              · have HN : Hid (R = tkT (l.drop (k + 2)) (acc ++ [0]) (k + 2 + 1)) := Lib.hid (by rw [HT.out, HD2.out, tkT_zero hf])
                have hst2 : st.size < 200 := by omega
                have HST : Hid (st ++ ⟨#[0]⟩ = ⟨(acc ++ [0]).toArray⟩) := Lib.hid (by rw [HS.out]; exact str_snoc acc 0)
                go_wp2_with (refine wpList_toStr _ rfl (.tmp 52) rfl ⟨wr.heap.size, 0, none⟩ 1 1 [0] rfl rfl (new_one rfl) ?_)
                refine ⟨?_, by simp [intOf]; omega⟩
                (repeat with_reducible apply Exists.intro)
                exact ⟨⟨k + 2, acc ++ [0], _, by omega, by go_num, rfl, HST, by simp; omega, below_al hbel _, HN⟩, rfl⟩
            · have n2 : ((y.toNat : Int) == 255) = false := u8_ne (b := 255) h2
              have HN : Hid (R = none) := Lib.hid (by rw [HT.out, HD2.out, tkT_form h1 h2])
              clear h1 h2
              go_wp2_with (refine wpList_toStr _ rfl (.tmp 52) rfl ⟨wr.heap.size, 0, none⟩ 1 1 [0] rfl rfl (new_one rfl) ?_)
              exact tk_retX HB.out (hBW.trans (hbel.mono hBW.size)) _ _ _ _ ⟨0, 0, ⟨#[]⟩⟩ 0 10 Try.results65 rfl rfl rfl rfl (.inr ⟨by decide, by rw [HN.out]; rfl⟩)
        · have HN : Hid (R = none) := Lib.hid (by rw [HT.out, HD.out, List.drop_eq_nil_of_le (by omega), tkT_one])
          go_wp2_with (refine wpList_toStr _ rfl (.tmp 52) rfl ⟨wr.heap.size, 0, none⟩ 1 1 [0] rfl rfl (new_one rfl) ?_)
          exact tk_retX HB.out (hBW.trans (hbel.mono hBW.size)) _ _ _ _ ⟨0, 0, ⟨#[]⟩⟩ 0 20 Try.results65 rfl rfl rfl rfl (.inr ⟨by decide, by rw [HN.out]; rfl⟩)
      · have n1 : ((x.toNat : Int) == 0) = false := u8_ne (b := 0) h0
        by_cases hf : acc.length = 200
        · have HN : Hid (R = none) := Lib.hid (by rw [HT.out, HD.out, tkT_full h0 hf])
          rw [hf] at hst
          clear h0
          go_wp2_with (refine wpList_toStr _ rfl (.tmp 52) rfl ⟨wr.heap.size, 0, none⟩ 1 1 [x] rfl rfl (new_one rfl) ?_)
          exact tk_retX HB.out (hBW.trans (hbel.mono hBW.size)) _ _ _ _ ⟨0, 0, ⟨#[]⟩⟩ 0 32 Try.results65 rfl rfl rfl rfl (.inr ⟨by decide, by rw [HN.out]; rfl⟩)
        · have HN : Hid (R = tkT (l.drop (k + 1)) (acc ++ [x]) (k + 1 + 1)) := Lib.hid (by rw [HT.out, HD.out, tkT_byte h0 hf])
          have hst2 : st.size < 200 := by omega
          have HST : Hid (st ++ ⟨#[x]⟩ = ⟨(acc ++ [x]).toArray⟩) := Lib.hid (by rw [HS.out]; exact str_snoc acc x)
          clear h0
          go_wp2_with (refine wpList_toStr _ rfl (.tmp 52) rfl ⟨wr.heap.size, 0, none⟩ 1 1 [x] rfl rfl (new_one rfl) ?_)
          refine ⟨?_, by simp [intOf]; omega⟩
          (repeat with_reducible apply Exists.intro)
          exact ⟨⟨k + 1, acc ++ [x], _, by omega, by go_num, rfl, HST, by simp; omega, below_al hbel _, HN⟩, rfl⟩
    · obtain rfl : k = l.length := by omega
      have HN : Hid (R = none) := Lib.hid (by rw [HT.out, List.drop_length, tkT_nil])
      go_wp2_with fail
      exact tk_ret HB.out (hBW.trans (hbel.mono hBW.size)) _ _ _ ⟨0, 0, ⟨#[]⟩⟩ 0 20 Try.results65 rfl rfl rfl rfl (.inr ⟨by decide, by rw [HN.out]; rfl⟩)

set_option maxRecDepth 100000 in
set_option maxHeartbeats 2000000 in
theorem r2take_any (b off cap : Nat) (l : List UInt8) (w : World) (h : BsAt w b off l) (hl : l.length ≤ 1000000) :
    Calls Try.prog 65 #[.slice (some ⟨b, off, none⟩) l.length cap] w (TkPost w (tkV l)) := by
  have hlw := h.lt
  have HH := Lib.hid h
  match l, h with
  | [], h =>
    clear h
    obtain ⟨R, hR⟩ : ∃ R, R = tkV [] := ⟨_, rfl⟩
    rw [← hR]
    have HR := Lib.hid hR
    clear hR
    go_enter Try.func65, Try.ntmps65
    go_wp2_with fail
    exact tk_retA w _ _ _ ⟨0, 0, ⟨#[]⟩⟩ 0 20 Try.results65 rfl rfl rfl rfl (.inr ⟨by decide, HR.out⟩)
  | x :: r, h =>
    have q0 := h.cells 0 x rfl
    unfold bv at q0
    rw [Nat.add_zero] at q0
    simp at hl
    by_cases h2 : x = 2
    · subst h2
      rw [tkV_text]
      exact r2take_text b off cap r w h (by omega)
    · have n2 : ((x.toNat : Int) == 2) = false := u8_ne (b := 2) h2
      obtain ⟨R, hR⟩ : ∃ R, R = tkV (x :: r) := ⟨_, rfl⟩
      rw [← hR]
      have HR := Lib.hid hR
      clear hR
      by_cases h1 : x = 1
      · subst h1
        simp at q0
        by_cases hs : r.length < 8
        · have HN : Hid (R = none) := Lib.hid (by rw [HR.out, tkV_short hs])
          clear h2 h
          go_enter Try.func65, Try.ntmps65
          go_wp2_with fail
          exact tk_retA w _ _ _ ⟨0, 0, ⟨#[]⟩⟩ 0 20 Try.results65 rfl rfl rfl rfl (.inr ⟨by decide, HN.out⟩)
        · have HN : Hid (R = some (⟨1, (numL (r.take 8) : Int) - 9223372036854775808, ⟨#[]⟩⟩, 9)) := Lib.hid (by rw [HR.out, tkV_num hs])
          have h8 : 8 ≤ r.length := by omega
          clear h2 h hs
          go_enter Try.func65, Try.ntmps65
          go_wp2_with fail
          go_loop [5, 6] (fun n i => ∃ k : Nat, k ≤ 8 ∧ i = .int .i64 ((k + 1 : Nat) : Int) ∧ n = .int .u64 (numL (r.take k) : Nat)) (fun _ i => 9 - (intOf i).toNat)
          case atStart => exact ⟨0, by omega, rfl, rfl⟩
          case round =>
            obtain ⟨k, hk, rfl, rfl⟩ := hrel
            by_cases hlt : k < 8
            · have hlk : k < r.length := by omega
              have c1 := HH.out.cells (k + 1) r[k] (by simp [hlk])
              unfold bv at c1
              have hs := Lib.hid (numL_snoc hlk)
              have hn2 := numL_small (l := r) (k := k) (by omega) (by omega)
              obtain ⟨y, hy⟩ : ∃ y, (r[k]).toNat = y := ⟨_, rfl⟩
              have hy2 : y < 256 := by rw [← hy]; exact (r[k]).toNat_lt
              rw [hy] at c1 hs
              obtain ⟨m, hm'⟩ : ∃ m, numL (r.take k) = m := ⟨_, rfl⟩
              rw [hm'] at hs hn2 ⊢
              clear hy hm'
              go_wp2
              go_round
              case rel => exact ⟨k + 1, by omega, by go_num, by rw [hs.out]; simp⟩
              case measure => simp [intOf]; omega
            · obtain rfl : k = 8 := by omega
              have hn8 : numL (r.take 8) < 18446744073709551616 := Nat.lt_of_lt_of_le (numL_take r 8 h8) (by decide)
              obtain ⟨m, hm'⟩ : ∃ m, numL (r.take 8) = m := ⟨_, rfl⟩
              rw [hm'] at hn8 HN ⊢
              have hb := u64_back2 m hn8
              clear hm'
              go_wp2
              exact tk_retA w _ _ _ ⟨1, (m : Int) - 9223372036854775808, ⟨#[]⟩⟩ 9 0 Try.results65 rfl rfl rfl rfl (.inl ⟨rfl, HN.out⟩)
      · have n1 : ((x.toNat : Int) == 1) = false := u8_ne (b := 1) h1
        have HN : Hid (R = none) := Lib.hid (by rw [HR.out, tkV_kind h2 h1])
        clear h2 h1 h
        go_enter Try.func65, Try.ntmps65
        go_wp2_with fail
        exact tk_retA w _ _ _ ⟨0, 0, ⟨#[]⟩⟩ 0 22 Try.results65 rfl rfl rfl rfl (.inr ⟨by decide, HN.out⟩)
end Go.Proofs.Ytcafedfldmcbiaa
