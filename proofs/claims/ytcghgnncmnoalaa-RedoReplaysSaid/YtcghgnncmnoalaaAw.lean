/- The example of layer 14: its records, and a log of records and marks. Conditions: each contract's own premises. cobwebref14.All of like records. Conditions: each contract's own premises. The example of layer 14, its log in plain words. Conditions: each lemma's own premises. The example of layer 14 holds. Conditions: none. -/
import Derived.Test.YtcghgnncmnoalaaLogPlain
import Derived.Test.YtcghgnncmnoalaaRd17h
namespace Go.Proofs.Ytcghgnncmnoalaa
open Go.RowKit Go.Maps

def exW (s : Nat) : Wr := ⟨⟨0, s, 0, ⟨#[]⟩⟩, ⟨#[120]⟩, true⟩
def ExPost (w : World) (st s : Nat) (e : Ending) (w' : World) : Prop :=
  ∃ b, w.heap.size ≤ b ∧ e = .returned (.agg #[.int .u64 st, .slice (some ⟨b, 0, none⟩) 1 1]) ∧ WsV w' (some ⟨b, 0, none⟩) [exW s] ∧ Below w.heap.size w w'
set_option maxRecDepth 100000 in
theorem record14_any (e s st : Nat) (he : e < 100) (hs : s < 100) (hst : e * 2147483648 + s = st) (w : World) : Calls Try.prog 73 #[.int .i64 e, .int .i64 s] w (ExPost w st s) := by
  obtain ⟨b, hb⟩ : ∃ b, w.heap.size + 1 = b := ⟨_, rfl⟩
  obtain ⟨W, hW⟩ : ∃ W, ((w.alloc (.cells #[.int .u64 ((e : Int) * 2147483648 + s), .slice (some ⟨b, 0, none⟩) 1 1] 35)).alloc (.cells #[.int .i64 0, .int .i64 s, .int .i64 0, .string ⟨#[]⟩, .string ⟨#[120]⟩, .bool true] 80)) = W := ⟨_, rfl⟩
  have hB : Below w.heap.size w W := by rw [← hW]; exact (below_box w _).alloc (by (try simp only [size_alloc]); omega) _
  have e1 : W.heap[w.heap.size]? = some (.cells #[.int .u64 ((e : Int) * 2147483648 + s), .slice (some ⟨b, 0, none⟩) 1 1] 35) := by rw [← hW, Below.heap_alloc _ _ _ (by (try simp only [size_alloc]); omega)]; exact heap_new w _
  have e2 : W.heap[b]? = some (.cells #[.int .i64 0, .int .i64 s, .int .i64 0, .string ⟨#[]⟩, .string ⟨#[120]⟩, .bool true] 80) := by
    have := heap_new (w.alloc (.cells #[.int .u64 ((e : Int) * 2147483648 + s), .slice (some ⟨b, 0, none⟩) 1 1] 35)) (.cells #[.int .i64 0, .int .i64 s, .int .i64 0, .string ⟨#[]⟩, .string ⟨#[120]⟩, .bool true] 80)
    rw [size_alloc, hb, hW] at this; exact this
  have c0 : W.cell? ⟨w.heap.size, 0, none⟩ = some (.int .u64 ((e : Int) * 2147483648 + s)) := cell_of_blk e1 0
  have c1 : W.cell? ⟨w.heap.size, 1, none⟩ = some (.slice (some ⟨b, 0, none⟩) 1 1) := cell_of_blk e1 1
  have hx : (exW s).Ok := by
    constructor
    · constructor <;> simp [exW, I64, maxLen, ByteArray.size] <;> omega
    · show 1 ≤ maxLen
      unfold maxLen; omega
  have HWS : Hid (WsV W (some ⟨b, 0, none⟩) [exW s]) := Lib.hid (fun _ => ⟨b, 0, rfl, ⟨fun i x hi => by
    obtain ⟨hi2, rfl⟩ := List.getElem?_eq_some_iff.1 hi
    have hi0 : i = 0 := by simpa using hi2
    subst hi0
    refine ⟨hx, fun j v hv => ?_⟩
    rw [cell_of_blk e2, ← hv]
    simp [exW, Wr.cells], (Array.getElem?_eq_some_iff.1 e2).1⟩⟩)
  have hbz : w.heap.size ≤ b := by omega
  have HBW := Lib.hid hB
  have HW := Lib.hid hW
  have HB := Lib.hid hb
  have HST := Lib.hid hst
  clear hW hB hb e1 e2 hx hst
  go_enter Try.func73, Try.ntmps73
  go_upto_region 1 with fail
  go_wp2_with fail
  rw [HB.out, HW.out]
  refine bodyPost_ret (v := .agg #[.int .u64 ((e : Int) * 2147483648 + s), .slice (some ⟨b, 0, none⟩) 1 1]) ?_ rfl ⟨b, hbz, ?_, HWS.out, HBW.out⟩
  · simp [results, Try.results73, go_sem, c0, c1]
  · rw [← HST.out]; simp
/-! a log of records and marks -/
/-- which of them a number says -/
def itO (zs : List Rv) (o : Int) : It := if 0 ≤ o then .mk o.toNat else .rc (zs[(-1 - o).toNat]!).rc
def OsAt (w : World) (b off : Nat) (os : List Int) : Prop := b < w.heap.size ∧ ∀ (i : Nat) (o : Int), os[i]? = some o → w.cell? ⟨b, off + i, none⟩ = some (.int .i64 o)
/-- may it stand in a log? -/
def ordOk (zs : List Rv) (o : Int) : Prop := (0 ≤ o ∧ o ≤ 2147483647) ∨ (o < 0 ∧ (-1 - o).toNat < zs.length ∧ (zs[(-1 - o).toNat]!).rc.wrong = false ∧ (bodyL (zs[(-1 - o).toNat]!).stamp (zs[(-1 - o).toNat]!).ws).length ≤ 4000)
def LogPost (w : World) (l : List UInt8) (e : Ending) (w' : World) : Prop := ∃ v, e = .returned (.tuple #[v, .bool true]) ∧ BsO w' w.heap.size v l ∧ Below w.heap.size w w'
theorem itB_le (zs : List Rv) (o : Int) (h : ordOk zs o) : (itB (itO zs o)).length ≤ 4010 := by
  unfold itO
  rcases h with ⟨h1, h2⟩ | ⟨h1, _, _, h4⟩
  · rw [if_pos h1]; unfold itB; rw [pack_len]; simp [fourL]
  · rw [if_neg (by omega)]; unfold itB; rw [pack_len]
    have : (bodyL (zs[(-1 - o).toNat]!).rc.stamp (zs[(-1 - o).toNat]!).rc.ws).length ≤ 4000 := h4
    omega
theorem items_le (zs : List Rv) : ∀ (os : List Int), (∀ o ∈ os, ordOk zs o) → ((os.map (itO zs)).flatMap itB).length ≤ os.length * 4010
  | [], _ => by simp
  | o :: os, h => by
    have h1 := itB_le zs o (h o (by simp))
    have h2 := items_le zs os (fun x hx => h x (by simp [hx]))
    simp only [List.map_cons, List.flatMap_cons, List.length_append, List.length_cons]
    omega
set_option maxRecDepth 100000 in
set_option maxHeartbeats 4000000 in
theorem log14_any (ra : Option Addr) (rcap : Nat) (zs : List Rv) (ob ooff ocap : Nat) (os : List Int) (w : World) (hz : RsV w ra zs) (hzl : zs.length ≤ 1000) (ho : OsAt w ob ooff os) (hol : os.length ≤ 100) (hok : ∀ o ∈ os, ordOk zs o) :
    Calls Try.prog 74 #[.slice ra zs.length rcap, .slice (some ⟨ob, ooff, none⟩) os.length ocap] w (LogPost w ((os.map (itO zs)).flatMap itB)) := by
  have HZ := Lib.hid hz
  have HO := Lib.hid ho
  have HK := Lib.hid hok
  clear hz ho hok
  go_enter Try.func74, Try.ntmps74
  go_wp2_with fail
  go_loopw [6, 7, 8, 9] (fun vb vi _ _ wr => ∃ (i : Nat) (ba : Option Addr) (bn bc : Nat), i ≤ os.length ∧ vi = .int .i64 i ∧ vb = .slice ba bn bc ∧ Hid (BsO wr w.heap.size vb (((os.take i).map (itO zs)).flatMap itB) ∧ Below w.heap.size w wr)) (fun _ i _ _ _ => os.length - (intOf i).toNat)
  case atStart => exact ⟨0, none, 0, 0, by omega, rfl, rfl, Lib.hid ⟨BsO.nil _ _, Below.refl _ _⟩⟩
  case round =>
    obtain ⟨i, ba, bn, bc, hi, rfl, rfl, HR⟩ := hrel
    by_cases hlt : i < os.length
    · obtain ⟨o, hoi⟩ : ∃ o, os[i]? = some o := ⟨_, List.getElem?_eq_getElem hlt⟩
      have c0 : wr.cell? ⟨ob, ooff + i, none⟩ = some (.int .i64 o) := (HR.out.2.cell (p := ⟨ob, ooff + i, none⟩) HO.out.1).trans (HO.out.2 i o hoi)
      have HKO := Lib.hid (HK.out o (List.mem_of_getElem? hoi))
      have HLN : Hid ((((os.take i).map (itO zs)).flatMap itB).length ≤ 401000) := Lib.hid (by
        have := items_le zs (os.take i) (fun x hx => HK.out x (List.take_subset _ _ hx))
        rw [List.length_take] at this
        have h2 : min i os.length * 4010 ≤ 100 * 4010 := Nat.mul_le_mul_right _ (by omega)
        omega)
      have HNX : Hid (((os.take (i + 1)).map (itO zs)).flatMap itB = ((os.take i).map (itO zs)).flatMap itB ++ itB (itO zs o)) := Lib.hid (by
        rw [List.take_add_one, hoi, List.map_append, List.flatMap_append]; simp)
      clear hoi
      by_cases ho0 : 0 ≤ o
      · have t1 : decide ((0 : Int) ≤ o) = true := decide_eq_true ho0
        have HIO : Hid (itO zs o = .mk o.toNat) := Lib.hid (by unfold itO; rw [if_pos ho0])
        go_wp2_with fail
        (with_reducible refine (mark_any o _).mono ?_)
        rintro e w1 ⟨b1, h⟩
        have HB1 := Lib.hid b1
        rcases h with ⟨h1, _⟩ | ⟨_, v, rfl, o1⟩
        · exact absurd h1 (by
            have := HKO.out
            unfold ordOk at this
            unfold epB inB
            simp; omega)
        · obtain ⟨a1, c1, hv1⟩ := o1.shape
          subst hv1
          have HO1 := Lib.hid o1
          have HOB := Lib.hid (HR.out.1.below b1)
          have HLE : Hid ((packL 2 (fourL o.toNat)).length ≤ 4010) := Lib.hid (by rw [pack_len]; simp [fourL])
          obtain ⟨m, hm⟩ : ∃ m, m = packL 2 (fourL o.toNat) := ⟨_, rfl⟩
          rw [← hm] at HO1 HLE o1
          have HM := Lib.hid hm
          obtain ⟨mn, hmn⟩ : ∃ mn, mn = m.length := ⟨_, rfl⟩
          have HMN := Lib.hid hmn
          rw [← HM.out, ← hmn]
          rw [← hmn] at HO1
          have HSRC := Lib.hid ((BsO.bsV HO1.out).src c1)
          rw [← hmn] at HSRC
          clear b1 o1 hm hmn c0
          go_wp2_with ((at_builtin; refine wpList_appX _ rfl (.tmp 43) (.tmp 44) 22 rfl w.heap.size _ _ rfl HOB.out (.slice a1 mn c1) mn m rfl HMN.out.symm HSRC.out (by have := HLN.out; have := HLE.out; omega) (Nat.le_trans HR.out.2.size HB1.out.size) ?_; rintro v9 w9 ⟨o9, b9, _, _⟩; have H9 := Lib.hid (And.intro o9 b9); clear o9 b9))
          obtain ⟨a9, c9, hv9⟩ := H9.out.1.shape
          subst hv9
          exact ⟨⟨i + 1, a9, _, c9, by omega, by go_num, rfl, Lib.hid ⟨by rw [HNX.out, HIO.out, show itB (.mk o.toNat) = m from HM.out.symm]; exact H9.out.1, (below_then HR.out.2 HB1.out).trans H9.out.2⟩⟩, by simp [intOf]; omega⟩
      · have t1 : decide ((0 : Int) ≤ o) = false := decide_eq_false ho0
        obtain ⟨j, hj⟩ : ∃ j, j = (-1 - o).toNat := ⟨_, rfl⟩
        obtain ⟨x, hx⟩ : ∃ x, x = zs[(-1 - o).toNat]! := ⟨_, rfl⟩
        have HIO : Hid (itO zs o = .rc x.rc) := Lib.hid (by unfold itO; rw [if_neg ho0, hx])
        have hkx : j < zs.length ∧ x.rc.wrong = false ∧ (bodyL x.stamp x.ws).length ≤ 4000 := by
          rcases HKO.out with h | ⟨_, h2, h3, h4⟩
          · exact absurd h.1 ho0
          · rw [hj, hx]; exact ⟨h2, h3, h4⟩
        obtain ⟨hjl, hxw, hxb⟩ := hkx
        have hxj : zs[j]? = some x := by rw [hx, ← hj, getElem!_pos zs j hjl]; exact List.getElem?_eq_getElem hjl
        obtain ⟨rb, roff, rfl, hat⟩ := HZ.out (fun e => by rw [e] at hjl; simp at hjl)
        obtain ⟨hxo, d0, d1⟩ := (hat.below HR.out.2).cells j x hxj
        have HXO := Lib.hid hxo
        have HXW := Lib.hid (And.intro hxw hxb)
        have w1 : IntKind.i64.wrap (-1 - o) = (j : Int) := by rw [IntKind.wrap_i64]; omega
        have w2 : -1 - o = (j : Int) := by omega
        have z1 : (j : Int) < (zs.length : Int) := by omega
        clear hj hx hxw hxb hxj hat hxo
        go_wp2_with fail
        (with_reducible refine (commit_any x.stamp x.a x.cap x.ws _ HXO.out.ws HXO.out.stamp HXO.out.len (by have := HXW.out.2; omega)).mono ?_)
        rintro e w1 ⟨b1, h⟩
        have HB1 := Lib.hid b1
        rcases h with ⟨h1, _⟩ | ⟨_, v, rfl, o1⟩
        · exact absurd h1 (by
            have h2 := HXW.out.1
            intro h3
            have h4 : x.rc.wrong = true := h3
            rw [h4] at h2; cases h2)
        · obtain ⟨a1, c1, hv1⟩ := o1.shape
          subst hv1
          have HO1 := Lib.hid o1
          have HOB := Lib.hid (HR.out.1.below b1)
          have HLE : Hid ((packL 1 (bodyL x.stamp x.ws)).length ≤ 4010) := Lib.hid (by rw [pack_len]; have := HXW.out.2; omega)
          obtain ⟨m, hm⟩ : ∃ m, m = packL 1 (bodyL x.stamp x.ws) := ⟨_, rfl⟩
          have HO1' : Hid (BsO w1 wr.heap.size (.slice a1 m.length c1) m) := Lib.hid (by rw [hm]; exact HO1.out)
          rw [← hm] at HLE
          have HM := Lib.hid hm
          obtain ⟨mn, hmn⟩ : ∃ mn, mn = m.length := ⟨_, rfl⟩
          have HMN := Lib.hid hmn
          have e9 : (packL 1 (bodyL (⟨x.stamp, x.ws⟩ : Rc).stamp (⟨x.stamp, x.ws⟩ : Rc).ws)).length = mn := by rw [hmn, hm]
          rw [e9]
          rw [← hmn] at HO1'
          have HSRC := Lib.hid ((BsO.bsV HO1'.out).src c1)
          rw [← hmn] at HSRC
          clear b1 o1 hm hmn c0 HO1 e9 d0 d1
          go_wp2_with ((at_builtin; refine wpList_appX _ rfl (.tmp 43) (.tmp 44) 22 rfl w.heap.size _ _ rfl HOB.out (.slice a1 mn c1) mn m rfl HMN.out.symm HSRC.out (by have := HLN.out; have := HLE.out; omega) (Nat.le_trans HR.out.2.size HB1.out.size) ?_; rintro v9 w9 ⟨o9, b9, _, _⟩; have H9 := Lib.hid (And.intro o9 b9); clear o9 b9))
          obtain ⟨a9, c9, hv9⟩ := H9.out.1.shape
          subst hv9
          exact ⟨⟨i + 1, a9, _, c9, by omega, by go_num, rfl, Lib.hid ⟨by rw [HNX.out, HIO.out, show itB (.rc x.rc) = m from HM.out.symm]; exact H9.out.1, (below_then HR.out.2 HB1.out).trans H9.out.2⟩⟩, by simp [intOf]; omega⟩
    · have HF : Hid (BsO wr w.heap.size (.slice ba bn bc) ((os.map (itO zs)).flatMap itB)) := Lib.hid (by
        have := HR.out.1
        rw [List.take_of_length_le (by omega)] at this
        exact this)
      go_wp2_with fail
      go_ret2
      exact ⟨.slice ba bn bc, rfl, HF.out, HR.out.2⟩
end Go.Proofs.Ytcghgnncmnoalaa
namespace Go.Proofs.Ytcghgnncmnoalaa
open Go.RowKit Go.Maps

theorem same_at (st1 st2 : Nat) (a1 a2 : Option Addr) (p1 p2 n1 n2 : Nat) (ws : List Wr) (w : World) (h0 : st1 = st2) (e1 : n1 = ws.length) (e2 : n2 = ws.length) (h1 : WsV w a1 ws) (h2 : WsV w a2 ws) (hl : ws.length ≤ 1000000) :
    Calls Try.prog 24 #[.agg #[.int .u64 st1, .slice a1 n1 p1], .agg #[.int .u64 st2, .slice a2 n2 p2]] w (BoolPost w true) := by
  subst h0 e1 e2; exact same_eq st1 a1 a2 p1 p2 ws w h1 h2 hl
set_option maxRecDepth 100000 in
set_option maxHeartbeats 4000000 in
theorem all14_eq (a1 a2 : Option Addr) (cap1 cap2 : Nat) (z1 z2 : List Rv) (w : World) (h1 : RsV w a1 z1) (h2 : RsV w a2 z2) (he : z1.map Rv.rc = z2.map Rv.rc) (hl : z1.length ≤ 1000000) :
    Calls Try.prog 18 #[.slice a1 z1.length cap1, .slice a2 z2.length cap2] w (BoolPost w true) := by
  have hlen : z1.length = z2.length := by have := congrArg List.length he; simpa using this
  obtain ⟨n, hn⟩ : ∃ n, n = z1.length := ⟨_, rfl⟩
  rw [← hlen, ← hn]
  have H1 := Lib.hid h1
  have H2 := Lib.hid h2
  have HE := Lib.hid he
  have HN := Lib.hid hn
  have HL := Lib.hid hlen
  have hnl : n ≤ 1000000 := by omega
  have t0 : ((n : Int) != (n : Int)) = false := by simp
  clear h1 h2 he hn hlen hl
  go_enter Try.func18, Try.ntmps18
  go_wp2_with fail
  go_loopw [5] (fun i wr => ∃ k : Nat, k ≤ n ∧ i = .int .i64 k ∧ Below w.heap.size w wr) (fun i _ => n - (intOf i).toNat)
  case atStart => exact ⟨0, by omega, rfl, Below.refl _ _⟩
  case round =>
    obtain ⟨k, hk, rfl, hbr⟩ := hrel
    by_cases hlt : k < n
    · obtain ⟨x, hx⟩ : ∃ x, z1[k]? = some x := ⟨_, List.getElem?_eq_getElem (by have := HN.out; omega)⟩
      obtain ⟨y, hy⟩ : ∃ y, z2[k]? = some y := ⟨_, List.getElem?_eq_getElem (by have := HN.out; have := HL.out; omega)⟩
      have hxy : x.rc = y.rc := by
        have := congrArg (fun l => l[k]?) HE.out
        simp only [List.getElem?_map, hx, hy, Option.map_some] at this
        injection this
      obtain ⟨b1, o1, rfl, hat1⟩ := H1.out (fun e => by rw [e] at hx; simp at hx)
      obtain ⟨b2, o2, rfl, hat2⟩ := H2.out (fun e => by rw [e] at hy; simp at hy)
      have lt1 : b1 < wr.heap.size := Nat.lt_of_lt_of_le hat1.lt hbr.size
      have lt2 : b2 < wr.heap.size := Nat.lt_of_lt_of_le hat2.lt hbr.size
      obtain ⟨hok1, c0, c1⟩ := (hat1.below hbr).cells k x hx
      obtain ⟨hok2, d0, d1⟩ := (hat2.below hbr).cells k y hy
      obtain ⟨s1, r1, p1, ws1⟩ := x
      obtain ⟨s2, r2, p2, ws2⟩ := y
      simp only [Rv.rc, Rc.mk.injEq] at hxy
      simp only [] at c0 c1 d0 d1
      obtain ⟨rfl, rfl⟩ := hxy
      have HK1 := Lib.hid hok1
      have HK2 := Lib.hid hok2
      have HBR := Lib.hid hbr
      have ks : ∀ w', Below wr.heap.size wr w' → Below wr.heap.size wr w' ∧ w'.cell? ⟨b1, o1 + k * 2, none⟩ = some (.int .u64 s1) ∧ w'.cell? ⟨b1, o1 + k * 2 + 1, none⟩ = some (.slice r1 ws1.length p1) ∧ w'.cell? ⟨b2, o2 + k * 2, none⟩ = some (.int .u64 s1) ∧ w'.cell? ⟨b2, o2 + k * 2 + 1, none⟩ = some (.slice r2 ws1.length p2) := fun w' hb => ⟨hb, below_cell hb _ lt1 c0, below_cell hb _ lt1 c1, below_cell hb _ lt2 d0, below_cell hb _ lt2 d1⟩
      have KS := Lib.hid ks
      have HS : Hid (Calls Try.prog 24 #[.agg #[.int .u64 s1, .slice r1 ws1.length p1], .agg #[.int .u64 s1, .slice r2 ws1.length p2]] wr.drew (BoolPost wr.drew true)) := Lib.hid (same_at s1 s1 r1 r2 p1 p2 _ _ ws1 _ rfl rfl rfl (HK1.out.ws.below ((Below.refl _ _).drew)) (HK2.out.ws.below ((Below.refl _ _).drew)) HK1.out.len)
      have z1' : (k : Int) < (n : Int) := by omega
      clear hx hy hat1 hat2 hok1 hok2 ks c0 c1 d0 d1 hbr
      go_wp2_with fail
      go_region_held3 (fun w' => Below wr.heap.size wr w' ∧ w'.cell? ⟨b1, o1 + k * 2, none⟩ = some (.int .u64 s1) ∧ w'.cell? ⟨b1, o1 + k * 2 + 1, none⟩ = some (.slice r1 ws1.length p1) ∧ w'.cell? ⟨b2, o2 + k * 2, none⟩ = some (.int .u64 s1) ∧ w'.cell? ⟨b2, o2 + k * 2 + 1, none⟩ = some (.slice r2 ws1.length p2))
        (first | exact KS.out _ (Below.refl _ _).drew | (go_split_ands; refine KS.out _ (below_then ?_ hbc); assumption))
        ((go_at_call 24; refine HS.out.mono ?_; rintro e wc ⟨rfl, hbc⟩))
      go_split_ands
      have HBZ := Lib.hid (show Below wr.heap.size wr wc by assumption)
      go_wp2_with fail
      exact ⟨⟨k + 1, by omega, by go_num, below_then HBR.out HBZ.out⟩, by simp [intOf]; omega⟩
    · go_wp2_with fail
      go_ret
      exact ⟨rfl, hbr⟩
end Go.Proofs.Ytcghgnncmnoalaa
namespace Go.Proofs.Ytcghgnncmnoalaa
open Go.RowKit Go.Maps

def ex1 : Rc := ⟨2147483649, [exW 1]⟩
def ex2 : Rc := ⟨2147483650, [exW 2]⟩
def ex3 : Rc := ⟨4294967297, [exW 1]⟩
theorem ex1_ok : ex1.wrong = false := by kernel_rfl
theorem ex2_ok : ex2.wrong = false := by kernel_rfl
theorem ex3_ok : ex3.wrong = false := by kernel_rfl
theorem ex1_len : (bodyL ex1.stamp ex1.ws).length = 27 := by kernel_rfl
theorem ex2_len : (bodyL ex2.stamp ex2.ws).length = 27 := by kernel_rfl
theorem ex3_len : (bodyL ex3.stamp ex3.ws).length = 27 := by kernel_rfl
def exI : List It := [.rc ex1, .rc ex2, .mk 1, .rc ex3]
def exL : List UInt8 := exI.flatMap itB
theorem i1_len : (itB (.rc ex1)).length = 37 := by unfold itB; rw [pack_len, ex1_len]
theorem i2_len : (itB (.rc ex2)).length = 37 := by unfold itB; rw [pack_len, ex2_len]
theorem i3_len : (itB (.rc ex3)).length = 37 := by unfold itB; rw [pack_len, ex3_len]
theorem im_len : (itB (.mk 1)).length = 14 := by unfold itB; rw [pack_len]; rfl
theorem exL_eq : exL = itB (.rc ex1) ++ (itB (.rc ex2) ++ (itB (.mk 1) ++ itB (.rc ex3))) := by
  unfold exL exI; simp only [List.flatMap_cons, List.flatMap_nil, List.append_nil]
theorem exL_len : exL.length = 125 := by
  rw [exL_eq, List.length_append, List.length_append, List.length_append, i1_len, i2_len, i3_len, im_len]
theorem exL_run : lgN exL = ⟨[ex1, ex2, ex3], [ex1, ex2], 1, 88, 125⟩ := by
  have h := lgN_items exI [] ⟨ex1_ok, by rw [ex1_len]; omega, ex2_ok, by rw [ex2_len]; omega, by omega, by omega, ex3_ok, by rw [ex3_len]; omega, trivial⟩ tkE_nil
  rw [List.append_nil] at h
  refine h.trans ?_
  unfold exI itS
  simp only [List.foldl_cons, List.foldl_nil, i1_len, i2_len, i3_len, im_len]
  rfl
theorem exL_out : lgOut ⟨[ex1, ex2, ex3], [ex1, ex2], 1, 88, 125⟩ = [ex1, ex2] := by kernel_rfl
theorem exL_cut : exL.take 87 = [It.rc ex1, It.rc ex2].flatMap itB ++ (itB (.mk 1)).take 13 := by
  rw [exL_eq]
  simp only [List.flatMap_cons, List.flatMap_nil, List.append_nil]
  rw [← List.append_assoc, ← List.append_assoc, List.take_append_of_le_length (by simp only [List.length_append, i1_len, i2_len, im_len]; omega), List.take_append, List.take_of_length_le (by simp only [List.length_append, i1_len, i2_len]; omega)]
  simp only [List.length_append, i1_len, i2_len]
theorem exC_run : lgN (exL.take 87) = ⟨[ex1, ex2], [], -1, 0, 74⟩ := by
  rw [exL_cut]
  have h := lgN_items [.rc ex1, .rc ex2] ((itB (.mk 1)).take 13) ⟨ex1_ok, by rw [ex1_len]; omega, ex2_ok, by rw [ex2_len]; omega, trivial⟩ (tkE_cut 2 (fourL 1) (by simp [fourL]) 13 (by simp [fourL]))
  refine h.trans ?_
  unfold itS
  simp only [List.foldl_cons, List.foldl_nil, i1_len, i2_len]
  rfl
theorem exC_out : lgOut ⟨[ex1, ex2], [], -1, 0, 74⟩ = [] := by kernel_rfl
theorem ex11 (st : Nat) (h : st = 2147483649) (w : World) : Calls Try.prog 73 #[.int .i64 1, .int .i64 1] w (ExPost w st 1) := record14_any 1 1 st (by omega) (by omega) (by omega) w
theorem ex12 (st : Nat) (h : st = 2147483650) (w : World) : Calls Try.prog 73 #[.int .i64 1, .int .i64 2] w (ExPost w st 2) := record14_any 1 2 st (by omega) (by omega) (by omega) w
theorem ex21 (st : Nat) (h : st = 4294967297) (w : World) : Calls Try.prog 73 #[.int .i64 2, .int .i64 1] w (ExPost w st 1) := record14_any 2 1 st (by omega) (by omega) (by omega) w
theorem log14_at (ra : Option Addr) (rcap rn : Nat) (zs : List Rv) (ob on ocap : Nat) (os : List Int) (w : World) (l : List UInt8) (hn : rn = zs.length) (hon : on = os.length) (hl : (os.map (itO zs)).flatMap itB = l) (hz : RsV w ra zs) (hzl : zs.length ≤ 1000) (ho : OsAt w ob 0 os) (hol : os.length ≤ 100) (hok : ∀ o ∈ os, ordOk zs o) :
    Calls Try.prog 74 #[.slice ra rn rcap, .slice (some ⟨ob, 0, none⟩) on ocap] w (LogPost w l) := by
  subst hn hon hl; exact log14_any ra rcap zs ob 0 ocap os w hz hzl ho hol hok
theorem recover_at (a : Option Addr) (cap n : Nat) (l : List UInt8) (w : World) (hn : n = l.length) (h : BsV w a l) (hcap : n ≤ cap) (hl : l.length ≤ 1000000) : Calls Try.prog 16 #[.slice a n cap] w (RecvPost w l) := by
  subst hn; exact recover_any a cap l w h hcap hl
theorem all14_at (a1 a2 : Option Addr) (cap1 cap2 n1 n2 : Nat) (z1 z2 : List Rv) (w : World) (e1 : n1 = z1.length) (e2 : n2 = z2.length) (h1 : RsV w a1 z1) (h2 : RsV w a2 z2) (he : z1.map Rv.rc = z2.map Rv.rc) (hl : z1.length ≤ 1000000) :
    Calls Try.prog 18 #[.slice a1 n1 cap1, .slice a2 n2 cap2] w (BoolPost w true) := by
  subst e1 e2; exact all14_eq a1 a2 cap1 cap2 z1 z2 w h1 h2 he hl
end Go.Proofs.Ytcghgnncmnoalaa
namespace Go.Proofs.Ytcghgnncmnoalaa
open Go.RowKit Go.Maps

set_option maxRecDepth 100000 in
set_option maxHeartbeats 4000000 in
theorem awake14_any (w : World) : Calls Try.prog 15 #[] w (BoolPost w true) := by
  obtain ⟨s1, hs1⟩ : ∃ s, s = 2147483649 := ⟨_, rfl⟩
  obtain ⟨s2, hs2⟩ : ∃ s, s = 2147483650 := ⟨_, rfl⟩
  obtain ⟨s3, hs3⟩ : ∃ s, s = 4294967297 := ⟨_, rfl⟩
  have S1 := Lib.hid hs1
  have S2 := Lib.hid hs2
  have S3 := Lib.hid hs3
  clear hs1 hs2 hs3
  go_enter Try.func15, Try.ntmps15
  go_wp2_with fail
  (with_reducible refine (ex11 s1 S1.out _).mono ?_)
  rintro e w1 ⟨b1, hb1, rfl, q1, k1⟩
  have K1 := Lib.hid (And.intro q1 k1)
  clear q1 k1
  go_wp2_with fail
  (with_reducible refine (ex12 s2 S2.out _).mono ?_)
  rintro e w2 ⟨b2, hb2, rfl, q2, k2⟩
  have K2 := Lib.hid (And.intro q2 k2)
  clear q2 k2
  go_wp2_with fail
  (with_reducible refine (ex21 s3 S3.out _).mono ?_)
  rintro e w3 ⟨b3, hb3, rfl, q3, k3⟩
  have K3 := Lib.hid (And.intro q3 k3)
  clear q3 k3
  obtain ⟨zs, hzs⟩ : ∃ zs : List Rv, zs = [⟨s1, some ⟨b1, 0, none⟩, 1, [exW 1]⟩, ⟨s2, some ⟨b2, 0, none⟩, 1, [exW 2]⟩, ⟨s3, some ⟨b3, 0, none⟩, 1, [exW 1]⟩] := ⟨_, rfl⟩
  have hrc : zs.map Rv.rc = [ex1, ex2, ex3] := by rw [hzs, S1.out, S2.out, S3.out]; rfl
  have hzl : zs.length = 3 := by rw [hzs]; rfl
  obtain ⟨W, hW⟩ : ∃ W, w3.alloc (.cells #[.int .u64 s1, .slice (some ⟨b1, 0, none⟩) 1 1, .int .u64 s2, .slice (some ⟨b2, 0, none⟩) 1 1, .int .u64 s3, .slice (some ⟨b3, 0, none⟩) 1 1] 35) = W := ⟨_, rfl⟩
  have eW : W.heap[w3.heap.size]? = some (.cells #[.int .u64 s1, .slice (some ⟨b1, 0, none⟩) 1 1, .int .u64 s2, .slice (some ⟨b2, 0, none⟩) 1 1, .int .u64 s3, .slice (some ⟨b3, 0, none⟩) 1 1] 35) := by rw [← hW]; exact heap_new w3 _
  have hBW : Below w3.heap.size w3 W := by rw [← hW]; exact below_box w3 _
  obtain ⟨g, hg⟩ : ∃ g, w3.heap.size = g := ⟨_, rfl⟩
  have hRS : RsV W (some ⟨g, 0, none⟩) zs := fun _ => ⟨g, 0, rfl, ⟨fun i x hx => by
    obtain ⟨hi, rfl⟩ := List.getElem?_eq_some_iff.1 hx
    have o1 : (⟨s1, some ⟨b1, 0, none⟩, 1, [exW 1]⟩ : Rv).Ok W := ⟨by show s1 < _; rw [S1.out]; omega, ((K1.out.1.below K2.out.2).below K3.out.2).below hBW, by show 1 ≤ _; omega⟩
    have o2 : (⟨s2, some ⟨b2, 0, none⟩, 1, [exW 2]⟩ : Rv).Ok W := ⟨by show s2 < _; rw [S2.out]; omega, (K2.out.1.below K3.out.2).below hBW, by show 1 ≤ _; omega⟩
    have o3 : (⟨s3, some ⟨b3, 0, none⟩, 1, [exW 1]⟩ : Rv).Ok W := ⟨by show s3 < _; rw [S3.out]; omega, K3.out.1.below hBW, by show 1 ≤ _; omega⟩
    subst hzs
    rw [← hg, cell_of_blk eW, cell_of_blk eW]
    have hi3 : i = 0 ∨ i = 1 ∨ i = 2 := by simp at hi; omega
    rcases hi3 with rfl | rfl | rfl
    · exact ⟨o1, rfl, rfl⟩
    · exact ⟨o2, rfl, rfl⟩
    · exact ⟨o3, rfl, rfl⟩, by rw [← hg]; exact (Array.getElem?_eq_some_iff.1 eW).1⟩⟩
  obtain ⟨V, hV⟩ : ∃ V, W.alloc (.cells #[.int .i64 (-1), .int .i64 (-2), .int .i64 1, .int .i64 (-3)] 3) = V := ⟨_, rfl⟩
  have eV : V.heap[W.heap.size]? = some (.cells #[.int .i64 (-1), .int .i64 (-2), .int .i64 1, .int .i64 (-3)] 3) := by rw [← hV]; exact heap_new W _
  have hBV : Below W.heap.size W V := by rw [← hV]; exact below_box W _
  obtain ⟨h, hh⟩ : ∃ h, W.heap.size = h := ⟨_, rfl⟩
  have hOS : OsAt V h 0 [-1, -2, 1, -3] := ⟨by rw [← hh]; exact (Array.getElem?_eq_some_iff.1 eV).1, fun i o hi => by
    obtain ⟨hi2, rfl⟩ := List.getElem?_eq_some_iff.1 hi
    rw [← hh, cell_of_blk eV]
    have hi3 : i = 0 ∨ i = 1 ∨ i = 2 ∨ i = 3 := by simp at hi2; omega
    rcases hi3 with rfl | rfl | rfl | rfl <;> rfl⟩
  have hx : ∀ (i : Nat) (r : Rc), [ex1, ex2, ex3][i]? = some r → (zs[i]!).rc = r := fun i r hr => by
    have h1 := congrArg (fun l => l[i]?) hrc
    simp only [List.getElem?_map, hr] at h1
    cases h2 : zs[i]? with
    | none => rw [h2] at h1; cases h1
    | some y =>
      rw [h2] at h1
      injection h1 with h1
      rw [List.getElem!_eq_getElem?_getD, h2]; exact h1
  have hit : ([-1, -2, 1, -3].map (itO zs)).flatMap itB = exL := by
    have e1 : itO zs (-1) = .rc ex1 := by unfold itO; rw [if_neg (by decide)]; exact congrArg It.rc (hx 0 ex1 rfl)
    have e2 : itO zs (-2) = .rc ex2 := by unfold itO; rw [if_neg (by decide)]; exact congrArg It.rc (hx 1 ex2 rfl)
    have e3 : itO zs 1 = .mk 1 := by unfold itO; rw [if_pos (by decide)]; rfl
    have e4 : itO zs (-3) = .rc ex3 := by unfold itO; rw [if_neg (by decide)]; exact congrArg It.rc (hx 2 ex3 rfl)
    simp only [List.map_cons, List.map_nil, e1, e2, e3, e4]
    rfl
  have hok : ∀ o ∈ ([-1, -2, 1, -3] : List Int), ordOk zs o := fun o ho => by
    have key : ∀ (i : Nat) (r : Rc), [ex1, ex2, ex3][i]? = some r → r.wrong = false → (bodyL r.stamp r.ws).length = 27 → ordOk zs (-1 - (i : Int)) := fun i r hr hw hl => by
      have hxx := hx i r hr
      have hi := (List.getElem?_eq_some_iff.1 hr).1
      refine .inr ⟨by omega, ?_, ?_, ?_⟩
      · rw [show (-1 - (-1 - (i : Int))).toNat = i by omega, hzl]; simpa using hi
      · rw [show (-1 - (-1 - (i : Int))).toNat = i by omega, hxx]; exact hw
      · rw [show (-1 - (-1 - (i : Int))).toNat = i by omega]
        have : (bodyL (zs[i]!).rc.stamp (zs[i]!).rc.ws).length ≤ 4000 := by rw [hxx, hl]; omega
        exact this
    simp only [List.mem_cons, List.not_mem_nil, or_false] at ho
    rcases ho with rfl | rfl | rfl | rfl
    · exact key 0 ex1 rfl ex1_ok ex1_len
    · exact key 1 ex2 rfl ex2_ok ex2_len
    · exact .inl ⟨by omega, by omega⟩
    · exact key 2 ex3 rfl ex3_ok ex3_len
  have HRS := Lib.hid hRS
  have HOS := Lib.hid hOS
  have HIT := Lib.hid hit
  have HOK := Lib.hid hok
  have HRC := Lib.hid hrc
  have HZL := Lib.hid hzl
  have HBV := Lib.hid hBV
  have HB0 : Hid (Below w.heap.size w V) := Lib.hid (below_then (below_then (below_then (below_then K1.out.2 K2.out.2) K3.out.2) hBW) hBV)
  have HW := Lib.hid hW
  have HV := Lib.hid hV
  have HG := Lib.hid hg
  have HH := Lib.hid hh
  clear hRS hOS hit hok hrc hzl hBV hBW hW hV hg hh hx eW eV hzs
  go_upto_region 2 with fail
  rw [HW.out, HG.out]
  go_wp2_with fail
  rw [HV.out, HH.out]
  (with_reducible refine (log14_at (some ⟨g, 0, none⟩) 3 3 zs h 4 4 [-1, -2, 1, -3] _ exL HZL.out.symm rfl HIT.out (HRS.out.below HBV.out) (by have := HZL.out; omega) HOS.out (by simp) HOK.out).mono ?_)
  rintro e w4 ⟨v, rfl, o4, k4⟩
  obtain ⟨a4, c4, hv4⟩ := o4.shape
  rw [exL_len] at hv4
  subst hv4
  have hc4 : 125 ≤ c4 := by
    rcases o4.2 with ⟨h1, h2⟩ | ⟨gg, cp, cur, h1, h2, h3, h4, _⟩
    · rw [exL_len] at h2; cases h2
    · injection h1 with e1 e2 e3
      rw [exL_len] at h4; omega
  have HV4 := Lib.hid (BsO.bsV o4)
  have HB4 := Lib.hid k4
  clear o4 k4
  go_wp2_with fail
  (with_reducible refine (recover_at a4 c4 125 exL _ exL_len.symm HV4.out hc4 (by rw [exL_len]; omega)).mono ?_)
  rintro e w5 ⟨v5, rs, rfl, o5, k5, m5, b5⟩
  rw [exL_run]
  rw [exL_run, exL_out] at m5
  have hl5 : rs.length = 2 := by have := congrArg List.length m5; simpa using this
  obtain ⟨a5, c5, hv5, hz5⟩ := o5.shape
  rw [hl5] at hv5
  subst hv5
  have HZ5 := Lib.hid (hz5 k5)
  have HM5 := Lib.hid m5
  have HL5 := Lib.hid hl5
  have HB5 := Lib.hid b5
  clear o5 k5 m5 b5 hz5 hl5
  go_wp2_with fail
  have hV6 : BsV w5 a4 (exL.take 87) := fun _ => by
    obtain ⟨b, off, e, hat⟩ := HV4.out (fun e => by have := exL_len; rw [e] at this; cases this)
    exact ⟨b, off, e, (hat.take 87).below HB5.out⟩
  have HV6 := Lib.hid hV6
  clear hV6
  (with_reducible refine (recover_at a4 c4 87 (exL.take 87) _ (by rw [List.length_take, exL_len]; decide) HV6.out (by omega) (by rw [List.length_take, exL_len]; decide)).mono ?_)
  rintro e w6 ⟨v6, rs6, rfl, o6, k6, m6, b6⟩
  rw [exC_run]
  rw [exC_run, exC_out] at m6
  have hl6 : rs6.length = 0 := by have := congrArg List.length m6; simpa using this
  obtain ⟨a6, c6, hv6, _⟩ := o6.shape
  rw [hl6] at hv6
  subst hv6
  have HB6 := Lib.hid b6
  clear o6 k6 m6 b6 hl6
  have HBA : Hid (Below V.heap.size V w6) := Lib.hid (below_then (below_then HB4.out HB5.out) HB6.out)
  have HRT : Hid (RsV w6 (some ⟨g, 0, none⟩) (zs.take 2)) := Lib.hid (fun _ => by
    obtain ⟨b, off, e, hat⟩ := (HRS.out.below HBV.out).below HBA.out (fun e => by have := HZL.out; rw [e] at this; cases this)
    exact ⟨b, off, e, ⟨fun i x hx => hat.cells i x (by
      rw [List.getElem?_take] at hx
      split at hx
      · exact hx
      · cases hx), hat.lt⟩⟩)
  have HRE : Hid (rs.map Rv.rc = (zs.take 2).map Rv.rc) := Lib.hid (by rw [HM5.out, List.map_take, HRC.out]; rfl)
  go_wp2_with fail
  (with_reducible refine (all14_at a5 (some ⟨g, 0, none⟩) c5 3 2 2 rs (zs.take 2) _ HL5.out.symm (by rw [List.length_take, HZL.out]; decide) (HZ5.out.below HB6.out) HRT.out HRE.out (by have := HL5.out; omega)).mono ?_)
  rintro e w7 ⟨rfl, b7⟩
  have HB7 := Lib.hid b7
  clear b7
  go_wp2_with fail
  go_ret
  exact ⟨rfl, below_then (below_then HB0.out HBA.out) HB7.out⟩
end Go.Proofs.Ytcghgnncmnoalaa
