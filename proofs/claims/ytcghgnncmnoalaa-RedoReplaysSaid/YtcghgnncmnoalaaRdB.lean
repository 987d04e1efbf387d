/- redo.lay; cobwebref14.num. Conditions: each contract's own premises. redo.body. Conditions: each contract's own premises. cobwebref14.Body. Conditions: each contract's own premises. redo.Commit, redo.Mark; cobwebref14.Mark. Conditions: each contract's own premises. -/
import Derived.Test.YtcghgnncmnoalaaRdA
namespace Go.Proofs.Ytcghgnncmnoalaa
open Go.RowKit Go.Maps

/-- a number's last bytes, the great ones first -/
def beL (n : Nat) : Nat → List UInt8
  | 0 => []
  | k + 1 => UInt8.ofNat (n / 256 ^ k) :: beL n k
theorem beL_len (n : Nat) : ∀ k, (beL n k).length = k
  | 0 => rfl
  | k + 1 => by unfold beL; rw [List.length_cons, beL_len n k]
theorem beL_four (n : Nat) : beL n 4 = fourL n := by simp [beL, fourL]
/-- a step of one's own bytes, seen from an earlier world -/
def OwnR (V : World) (r0 : Option Nat) (v : Value) : Prop := v.ownBlock = r0 ∨ ∃ g, v.ownBlock = some g ∧ V.heap.size ≤ g
theorem grw_refl (w : World) (r : Option Nat) : w.grownBy w r := ⟨rfl, rfl, rfl, Nat.le_refl _, fun _ _ _ => rfl⟩
theorem grw_below {w w' : World} (h : Below w.heap.size w w') (r : Option Nat) : w.grownBy w' r := ⟨h.os, h.tape, h.output, h.size, fun k hk _ => h.block k hk⟩
theorem grw_step {V w1 w2 : World} {r0 : Option Nat} {v : Value} (h : V.grownBy w1 r0) (hr : OwnR V r0 v) (k : w1.grownBy w2 v.ownBlock) : V.grownBy w2 r0 :=
  ⟨k.os.trans h.os, k.tape.trans h.tape, k.output.trans h.output, Nat.le_trans h.size k.size, fun i hi hn => (k.block i (Nat.lt_of_lt_of_le hi h.size) (fun e => by
    rcases hr with hr | ⟨g, hg, hl⟩
    · exact hn (e.trans hr)
    · rw [hg] at e; injection e with e; omega)).trans (h.block i hi hn)⟩
theorem grw_below2 {V w1 w2 : World} {r0 : Option Nat} (h : V.grownBy w1 r0) (k : Below w1.heap.size w1 w2) : V.grownBy w2 r0 :=
  ⟨k.os.trans h.os, k.tape.trans h.tape, k.output.trans h.output, Nat.le_trans h.size k.size, fun i hi hn => (k.block i (Nat.lt_of_lt_of_le hi h.size)).trans (h.block i hi hn)⟩
theorem OwnR.step {V w1 : World} {r0 : Option Nat} {v v' : Value} (h : OwnR V r0 v) (hs : V.heap.size ≤ w1.heap.size) (k : v'.ownBlock = v.ownBlock ∨ ∃ g, v'.ownBlock = some g ∧ w1.heap.size ≤ g) : OwnR V r0 v' := by
  rcases k with k | ⟨g, k, hl⟩
  · rcases h with h | ⟨g, h, hg⟩
    · exact .inl (k.trans h)
    · exact .inr ⟨g, k.trans h, hg⟩
  · exact .inr ⟨g, k, by omega⟩
theorem grw_from {B : Nat} {w w' : World} {v : Value} {l : List UInt8} (h : BsO w B v l) (hg : w.grownBy w' v.ownBlock) (hB : B ≤ w.heap.size) : Below B w w' := below_grown h hg hB
def LayPost (w : World) (B : Nat) (r : Option Nat) (l : List UInt8) (e : Ending) (w' : World) : Prop := ∃ v', e = .returned v' ∧ BsO w' B v' l ∧ w.grownBy w' r ∧ OwnR w r v'
set_option maxRecDepth 100000 in
set_option maxHeartbeats 4000000 in
theorem lay_any (B : Nat) (v : Value) (l : List UInt8) (n size : Nat) (w : World) (hO : BsO w B v l) (hB : B ≤ w.heap.size) (hl : l.length ≤ 3000000) (hn : n < 18446744073709551616) (hs : size ≤ 8) :
    Calls Try.prog 88 #[v, .int .u64 n, .int .i64 size] w (LayPost w B v.ownBlock (l ++ beL n size)) := by
  obtain ⟨L, hL⟩ : ∃ L, beL n size = L := ⟨_, rfl⟩
  rw [hL]
  have HL := Lib.hid hL
  have HO := Lib.hid hO
  have hwz : IntKind.i64.wrap ((size : Int) - 1) = (size : Int) - 1 := by rw [IntKind.wrap_i64]; omega
  obtain ⟨R, hR⟩ : ∃ R, v.ownBlock = R := ⟨_, rfl⟩
  obtain ⟨va, vc, hv⟩ := hO.shape
  subst hv
  rw [hR]
  have HR := Lib.hid hR
  clear hO hL hR
  go_enter Try.func88, Try.ntmps88
  go_wp2_with fail
  clear hwz
  go_loopw [0, 7] (fun b i wr => ∃ (k : Nat) (pre : List UInt8), k ≤ size ∧ i = .int .i64 ((k : Int) - 1) ∧ Hid (L = pre ++ beL n k) ∧ Hid (pre.length ≤ 8) ∧ Hid (BsO wr B b (l ++ pre)) ∧ Hid (w.grownBy wr R) ∧ Hid (OwnR w R b)) (fun _ i _ => (intOf i + 1).toNat)
  case atStart => exact ⟨size, [], Nat.le_refl _, rfl, Lib.hid (by rw [HL.out]; rfl), Lib.hid (by simp), Lib.hid (by rw [List.append_nil]; exact HO.out), Lib.hid (grw_refl _ _), Lib.hid (.inl HR.out)⟩
  case round =>
    obtain ⟨k, pre, hk, rfl, HP, HQ, HOR, HG, HW⟩ := hrel
    obtain ⟨va, vc, hv⟩ := HOR.out.shape
    subst hv
    have hz := HG.out.size
    have hpl := HP.out
    have hc : k = 0 ∨ k = 1 ∨ k = 2 ∨ k = 3 ∨ k = 4 ∨ k = 5 ∨ k = 6 ∨ k = 7 ∨ k = 8 := by omega
    have hbl : B ≤ wr.heap.size := by omega
    have hle := HQ.out
    clear hpl
    rcases hc with rfl | rfl | rfl | rfl | rfl | rfl | rfl | rfl | rfl
    · have HE : Hid (L = pre) := Lib.hid (by rw [HP.out]; simp [beL])
      go_wp2_with fail
      go_ret
      exact ⟨_, rfl, by rw [HE.out]; exact HOR.out, HG.out, HW.out⟩
    · have HE : Hid (L = (pre ++ [UInt8.ofNat (n / 1)]) ++ beL n 0) := Lib.hid (by rw [HP.out]; simp [beL])
      have hpre : pre.length ≤ 7 := by
        have h1 := congrArg List.length HP.out
        have h2 := congrArg List.length HL.out
        rw [List.length_append, beL_len] at h1
        rw [beL_len] at h2
        omega
      go_wp2_with (at_builtin; refine wpList_appB _ rfl (.tmp 14) (.tmp 20) rfl B _ _ rfl (HOR.out.alloc _) ⟨wr.heap.size, 0, none⟩ 1 1 [UInt8.ofNat (n / 1)] rfl rfl (new_one ?hx1) (by simp; omega) (by simp; omega) ?_; (case hx1 => (simp [bv] <;> omega)); intro v1 w2 o1 b1 g1 k1)
      exact ⟨⟨0, pre ++ [UInt8.ofNat (n / 1)], by omega, rfl, HE, Lib.hid (by simp; omega), Lib.hid (by rw [← List.append_assoc]; exact o1), Lib.hid (grw_step (grw_below2 HG.out (below_box wr _)) HW.out g1), Lib.hid (HW.out.step (w1 := wr) hz (k1.imp id (fun h => ⟨_, h, by simp⟩)))⟩, by simp [intOf]⟩
    · have HE : Hid (L = (pre ++ [UInt8.ofNat (n / 256)]) ++ beL n 1) := Lib.hid (by rw [HP.out]; simp [beL])
      have hpre : pre.length ≤ 7 := by
        have h1 := congrArg List.length HP.out
        have h2 := congrArg List.length HL.out
        rw [List.length_append, beL_len] at h1
        rw [beL_len] at h2
        omega
      go_wp2_with (at_builtin; refine wpList_appB _ rfl (.tmp 14) (.tmp 20) rfl B _ _ rfl (HOR.out.alloc _) ⟨wr.heap.size, 0, none⟩ 1 1 [UInt8.ofNat (n / 256)] rfl rfl (new_one ?hx2) (by simp; omega) (by simp; omega) ?_; (case hx2 => (simp [bv] <;> omega)); intro v1 w2 o1 b1 g1 k1)
      exact ⟨⟨1, pre ++ [UInt8.ofNat (n / 256)], by omega, rfl, HE, Lib.hid (by simp; omega), Lib.hid (by rw [← List.append_assoc]; exact o1), Lib.hid (grw_step (grw_below2 HG.out (below_box wr _)) HW.out g1), Lib.hid (HW.out.step (w1 := wr) hz (k1.imp id (fun h => ⟨_, h, by simp⟩)))⟩, by simp [intOf]⟩
    · have HE : Hid (L = (pre ++ [UInt8.ofNat (n / 65536)]) ++ beL n 2) := Lib.hid (by rw [HP.out]; simp [beL])
      have hpre : pre.length ≤ 7 := by
        have h1 := congrArg List.length HP.out
        have h2 := congrArg List.length HL.out
        rw [List.length_append, beL_len] at h1
        rw [beL_len] at h2
        omega
      go_wp2_with (at_builtin; refine wpList_appB _ rfl (.tmp 14) (.tmp 20) rfl B _ _ rfl (HOR.out.alloc _) ⟨wr.heap.size, 0, none⟩ 1 1 [UInt8.ofNat (n / 65536)] rfl rfl (new_one ?hx3) (by simp; omega) (by simp; omega) ?_; (case hx3 => (simp [bv] <;> omega)); intro v1 w2 o1 b1 g1 k1)
      exact ⟨⟨2, pre ++ [UInt8.ofNat (n / 65536)], by omega, rfl, HE, Lib.hid (by simp; omega), Lib.hid (by rw [← List.append_assoc]; exact o1), Lib.hid (grw_step (grw_below2 HG.out (below_box wr _)) HW.out g1), Lib.hid (HW.out.step (w1 := wr) hz (k1.imp id (fun h => ⟨_, h, by simp⟩)))⟩, by simp [intOf]⟩
    · have HE : Hid (L = (pre ++ [UInt8.ofNat (n / 16777216)]) ++ beL n 3) := Lib.hid (by rw [HP.out]; simp [beL])
      have hpre : pre.length ≤ 7 := by
        have h1 := congrArg List.length HP.out
        have h2 := congrArg List.length HL.out
        rw [List.length_append, beL_len] at h1
        rw [beL_len] at h2
        omega
      go_wp2_with (at_builtin; refine wpList_appB _ rfl (.tmp 14) (.tmp 20) rfl B _ _ rfl (HOR.out.alloc _) ⟨wr.heap.size, 0, none⟩ 1 1 [UInt8.ofNat (n / 16777216)] rfl rfl (new_one ?hx4) (by simp; omega) (by simp; omega) ?_; (case hx4 => (simp [bv] <;> omega)); intro v1 w2 o1 b1 g1 k1)
      exact ⟨⟨3, pre ++ [UInt8.ofNat (n / 16777216)], by omega, rfl, HE, Lib.hid (by simp; omega), Lib.hid (by rw [← List.append_assoc]; exact o1), Lib.hid (grw_step (grw_below2 HG.out (below_box wr _)) HW.out g1), Lib.hid (HW.out.step (w1 := wr) hz (k1.imp id (fun h => ⟨_, h, by simp⟩)))⟩, by simp [intOf]⟩
    · have HE : Hid (L = (pre ++ [UInt8.ofNat (n / 4294967296)]) ++ beL n 4) := Lib.hid (by rw [HP.out]; simp [beL])
      have hpre : pre.length ≤ 7 := by
        have h1 := congrArg List.length HP.out
        have h2 := congrArg List.length HL.out
        rw [List.length_append, beL_len] at h1
        rw [beL_len] at h2
        omega
      go_wp2_with (at_builtin; refine wpList_appB _ rfl (.tmp 14) (.tmp 20) rfl B _ _ rfl (HOR.out.alloc _) ⟨wr.heap.size, 0, none⟩ 1 1 [UInt8.ofNat (n / 4294967296)] rfl rfl (new_one ?hx5) (by simp; omega) (by simp; omega) ?_; (case hx5 => (simp [bv] <;> omega)); intro v1 w2 o1 b1 g1 k1)
      exact ⟨⟨4, pre ++ [UInt8.ofNat (n / 4294967296)], by omega, rfl, HE, Lib.hid (by simp; omega), Lib.hid (by rw [← List.append_assoc]; exact o1), Lib.hid (grw_step (grw_below2 HG.out (below_box wr _)) HW.out g1), Lib.hid (HW.out.step (w1 := wr) hz (k1.imp id (fun h => ⟨_, h, by simp⟩)))⟩, by simp [intOf]⟩
    · have HE : Hid (L = (pre ++ [UInt8.ofNat (n / 1099511627776)]) ++ beL n 5) := Lib.hid (by rw [HP.out]; simp [beL])
      have hpre : pre.length ≤ 7 := by
        have h1 := congrArg List.length HP.out
        have h2 := congrArg List.length HL.out
        rw [List.length_append, beL_len] at h1
        rw [beL_len] at h2
        omega
      go_wp2_with (at_builtin; refine wpList_appB _ rfl (.tmp 14) (.tmp 20) rfl B _ _ rfl (HOR.out.alloc _) ⟨wr.heap.size, 0, none⟩ 1 1 [UInt8.ofNat (n / 1099511627776)] rfl rfl (new_one ?hx6) (by simp; omega) (by simp; omega) ?_; (case hx6 => (simp [bv] <;> omega)); intro v1 w2 o1 b1 g1 k1)
      exact ⟨⟨5, pre ++ [UInt8.ofNat (n / 1099511627776)], by omega, rfl, HE, Lib.hid (by simp; omega), Lib.hid (by rw [← List.append_assoc]; exact o1), Lib.hid (grw_step (grw_below2 HG.out (below_box wr _)) HW.out g1), Lib.hid (HW.out.step (w1 := wr) hz (k1.imp id (fun h => ⟨_, h, by simp⟩)))⟩, by simp [intOf]⟩
    · have HE : Hid (L = (pre ++ [UInt8.ofNat (n / 281474976710656)]) ++ beL n 6) := Lib.hid (by rw [HP.out]; simp [beL])
      have hpre : pre.length ≤ 7 := by
        have h1 := congrArg List.length HP.out
        have h2 := congrArg List.length HL.out
        rw [List.length_append, beL_len] at h1
        rw [beL_len] at h2
        omega
      go_wp2_with (at_builtin; refine wpList_appB _ rfl (.tmp 14) (.tmp 20) rfl B _ _ rfl (HOR.out.alloc _) ⟨wr.heap.size, 0, none⟩ 1 1 [UInt8.ofNat (n / 281474976710656)] rfl rfl (new_one ?hx7) (by simp; omega) (by simp; omega) ?_; (case hx7 => (simp [bv] <;> omega)); intro v1 w2 o1 b1 g1 k1)
      exact ⟨⟨6, pre ++ [UInt8.ofNat (n / 281474976710656)], by omega, rfl, HE, Lib.hid (by simp; omega), Lib.hid (by rw [← List.append_assoc]; exact o1), Lib.hid (grw_step (grw_below2 HG.out (below_box wr _)) HW.out g1), Lib.hid (HW.out.step (w1 := wr) hz (k1.imp id (fun h => ⟨_, h, by simp⟩)))⟩, by simp [intOf]⟩
    · have HE : Hid (L = (pre ++ [UInt8.ofNat (n / 72057594037927936)]) ++ beL n 7) := Lib.hid (by rw [HP.out]; simp [beL])
      have hpre : pre.length ≤ 7 := by
        have h1 := congrArg List.length HP.out
        have h2 := congrArg List.length HL.out
        rw [List.length_append, beL_len] at h1
        rw [beL_len] at h2
        omega
      go_wp2_with (at_builtin; refine wpList_appB _ rfl (.tmp 14) (.tmp 20) rfl B _ _ rfl (HOR.out.alloc _) ⟨wr.heap.size, 0, none⟩ 1 1 [UInt8.ofNat (n / 72057594037927936)] rfl rfl (new_one ?hx8) (by simp; omega) (by simp; omega) ?_; (case hx8 => (simp [bv] <;> omega)); intro v1 w2 o1 b1 g1 k1)
      exact ⟨⟨7, pre ++ [UInt8.ofNat (n / 72057594037927936)], by omega, rfl, HE, Lib.hid (by simp; omega), Lib.hid (by rw [← List.append_assoc]; exact o1), Lib.hid (grw_step (grw_below2 HG.out (below_box wr _)) HW.out g1), Lib.hid (HW.out.step (w1 := wr) hz (k1.imp id (fun h => ⟨_, h, by simp⟩)))⟩, by simp [intOf]⟩
set_option maxRecDepth 100000 in
set_option maxHeartbeats 2000000 in
theorem r14num_any (n size : Nat) (w : World) (hn : n < 18446744073709551616) (hs : size ≤ 8) :
    Calls Try.prog 99 #[.int .u64 n, .int .i64 size] w fun e w' => ∃ v', e = .returned v' ∧ BsO w' w.heap.size v' (beL n size) ∧ Below w.heap.size w w' := by
  go_enter Try.func99, Try.ntmps99
  go_wp2_with fail
  go_loopw [0, 5, 6] (fun m b i wr => ∃ k mm : Nat, k ≤ size ∧ i = .int .i64 k ∧ m = .int .u64 mm ∧ Hid (mm = n / 256 ^ k) ∧ Hid (BsO wr w.heap.size b (beL n k)) ∧ Below w.heap.size w wr) (fun _ _ i _ => size - (intOf i).toNat)
  case atStart => exact ⟨0, n, by omega, rfl, rfl, Lib.hid (by simp), Lib.hid (BsO.nil _ _), Below.refl _ _⟩
  case round =>
    obtain ⟨k, m, hk, rfl, rfl, HM, HO, hbr⟩ := hrel
    obtain ⟨va, vc, hv⟩ := HO.out.shape
    subst hv
    by_cases hlt : k < size
    · have hm : m < 18446744073709551616 := by rw [HM.out]; exact Nat.lt_of_le_of_lt (Nat.div_le_self _ _) hn
      have HN : Hid (m / 256 = n / 256 ^ (k + 1)) := Lib.hid (by rw [HM.out, Nat.div_div_eq_div_mul, Nat.pow_succ])
      have HL : Hid (beL n (k + 1) = UInt8.ofNat m :: beL n k) := Lib.hid (by rw [HM.out]; rfl)
      have HLN := Lib.hid (beL_len n k)
      have bb := below_box wr (.cells #[.int .u8 ((m : Int) % 256)] 5)
      have OV : Hid (BsV (wr.alloc (.cells #[.int .u8 ((m : Int) % 256)] 5)) va (beL n k)) := Lib.hid (fun hne => by
        obtain ⟨g, c, hv, _, hat⟩ := HO.out.at' hne
        injection hv with h1 h2 h3
        exact ⟨g, 0, h1, hat.below bb⟩)
      have NB : Hid (BsO (wr.alloc (.cells #[.int .u8 ((m : Int) % 256)] 5)) wr.heap.size (.slice (some ⟨wr.heap.size, 0, none⟩) 1 1) [UInt8.ofNat m]) := Lib.hid (BsO.new (l := [UInt8.ofNat m]) (heap_new wr _) (Nat.le_refl _) (by simp [bv]) (by simp [maxLen]))
      go_wp2_with (at_builtin; refine wpList_appX _ rfl (.tmp 15) (.tmp 16) 22 rfl wr.heap.size _ _ rfl NB.out (.slice va (beL n k).length vc) (beL n k).length (beL n k) rfl rfl (OV.out.src vc) (by rw [HLN.out]; simp; omega) (by simp) ?_; rintro v2 w2 ⟨o2, b2, g2, k2⟩)
      exact ⟨⟨k + 1, m / 256, by omega, by go_num, by simp, HN, Lib.hid (by rw [HL.out]; exact o2.mono hbr.size), below_then hbr (bb.trans b2)⟩, by simp [intOf]; omega⟩
    · obtain rfl : k = size := by omega
      go_wp2_with fail
      go_ret
      exact ⟨_, rfl, HO.out, hbr⟩
end Go.Proofs.Ytcghgnncmnoalaa
namespace Go.Proofs.Ytcghgnncmnoalaa
open Go.RowKit Go.Maps

theorem baL (s : ByteArray) : s.data.toList.length = s.size := rfl
/-- a write's bytes -/
def wrB (x : Wr) : List UInt8 := UInt8.ofNat x.k.kind.toNat :: (beL x.k.a.toNat 5 ++ (beL x.k.b.toNat 5 ++ (beL x.k.s.size 2 ++ (x.k.s.data.toList ++ ((if x.has = true then 1 else 0) :: (beL x.val.size 2 ++ x.val.data.toList))))))
/-- a record's bytes -/
def headB (st n : Nat) : List UInt8 := beL st 8 ++ beL n 2
def bodyL (st : Nat) (ws : List Wr) : List UInt8 := headB st ws.length ++ ws.flatMap wrB
theorem headB_len (st n : Nat) : (headB st n).length = 10 := by simp [headB, beL_len]
theorem wrB_len (x : Wr) : (wrB x).length = x.k.s.size + x.val.size + 16 := by
  have h1 : x.k.s.data.toList.length = x.k.s.size := rfl
  have h2 : x.val.data.toList.length = x.val.size := rfl
  simp only [wrB, List.length_cons, List.length_append, beL_len, h1, h2]
  omega
theorem badWs_mem : ∀ {ws : List Wr} {o : Option Ky} {x : Wr}, badWs ws o = false → x ∈ ws → x.odd = false
  | y :: r, o, x, h, hx => by
    unfold badWs at h
    simp at h
    rcases List.mem_cons.1 hx with rfl | hx
    · exact h.1.1
    · exact badWs_mem h.2 hx
/-- what a write that may be is -/
structure Wr.Fine (x : Wr) : Prop where
  kind : ∃ n : Nat, x.k.kind = n ∧ n < 256
  a : ∃ n : Nat, x.k.a = n ∧ n < 1099511627776
  b : ∃ n : Nat, x.k.b = n ∧ n < 1099511627776
  s : x.k.s.size < 65536
  val : x.val.size < 65536
theorem Wr.fine {x : Wr} (h : x.odd = false) : x.Fine := by
  unfold Wr.odd Wr.big inB at h
  simp at h
  obtain ⟨⟨⟨h1, h2⟩, ⟨h3, h4⟩, ⟨h5, h6⟩, h7, h8⟩, _⟩ := h
  exact ⟨⟨x.k.kind.toNat, by omega, by omega⟩, ⟨x.k.a.toNat, by omega, by omega⟩, ⟨x.k.b.toNat, by omega, by omega⟩, by omega, by omega⟩
theorem flat_take {ws : List Wr} {k : Nat} {x : Wr} (hx : ws[k]? = some x) : (ws.take (k + 1)).flatMap wrB = (ws.take k).flatMap wrB ++ wrB x := by
  obtain ⟨hk, rfl⟩ := List.getElem?_eq_some_iff.1 hx
  rw [List.take_succ_eq_append_getElem hk, List.flatMap_append]
  simp
theorem flat_len {ws : List Wr} {k : Nat} {x : Wr} (hx : ws[k]? = some x) : ((ws.take k).flatMap wrB).length + (wrB x).length ≤ (ws.flatMap wrB).length := by
  have h := flat_take hx
  have e : ws = ws.take (k + 1) ++ ws.drop (k + 1) := (List.take_append_drop _ _).symm
  conv => rhs; rw [e, List.flatMap_append, h]
  simp
theorem grw_drew {V w : World} {r : Option Nat} (h : V.grownBy w r) : V.grownBy w.drew r := ⟨h.os, h.tape, h.output, h.size, h.block⟩
theorem grw_none {V w : World} (h : V.grownBy w none) : Below V.heap.size V w := ⟨h.os, h.tape, h.output, h.size, fun k hk => h.block k hk (fun e => by cases e)⟩
def OutPost (w : World) (l : List UInt8) (e : Ending) (w' : World) : Prop := ∃ v, e = .returned v ∧ BsO w' w.heap.size v l ∧ Below w.heap.size w w'
theorem newX {w : World} {b : UInt8} {v : Value} (h : v = bv b) : BsV (w.alloc (.cells #[v] 5)) (some ⟨w.heap.size, 0, none⟩) [b] := fun _ => ⟨_, 0, rfl, new_at (by rw [h]; rfl)⟩
theorem BsO.grown {w w' : World} {B : Nat} {v : Value} {l : List UInt8} {r : Option Nat} (h : BsO w B v l) (hg : w.grownBy w' r) (hn : ∀ k, v.ownBlock = some k → some k ≠ r) : BsO w' B v l :=
  ownsRow_of_block h (fun k hk => hg.block k (h.lt k hk).2 (hn k hk))
theorem OwnR.next {V w1 : World} {r0 : Option Nat} {v v' : Value} (h : OwnR V r0 v) (hs : V.heap.size ≤ w1.heap.size) (k : v'.ownBlock = v.ownBlock ∨ v'.ownBlock = some w1.heap.size) : OwnR V r0 v' := h.step hs (k.imp id (fun e => ⟨_, e, Nat.le_refl _⟩))
set_option maxRecDepth 100000 in
set_option maxHeartbeats 4000000 in
theorem body_any (st : Nat) (a : Option Addr) (cap : Nat) (ws : List Wr) (w : World) (h : WsV w a ws) (hs : st < 18446744073709551616) (hl : ws.length < 65536) (hb : badWs ws none = false) (hlen : (bodyL st ws).length ≤ 1000000) :
    Calls Try.prog 86 #[.agg #[.int .u64 st, .slice a ws.length cap]] w (OutPost w (bodyL st ws)) := by
  obtain ⟨W, hW⟩ : ∃ W, W = w.alloc (.cells #[.int .u64 st, .slice a ws.length cap] 35) := ⟨_, rfl⟩
  have hBW : Below w.heap.size w W := by rw [hW]; exact below_box w _
  have eW : W.heap[w.heap.size]? = some (.cells #[.int .u64 st, .slice a ws.length cap] 35) := by rw [hW]; exact heap_new w _
  have HEW := Lib.hid eW
  have HBW := Lib.hid hBW
  have HW := Lib.hid hW
  have HWS := Lib.hid (h.below hBW)
  have hlw : w.heap.size < W.heap.size := by rw [hW]; simp
  have HLW := Lib.hid hlw
  have HF : Hid (∀ x, x ∈ ws → x.Fine) := Lib.hid (fun x hx => Wr.fine (badWs_mem hb hx))
  have hfl : (ws.flatMap wrB).length + 10 ≤ 1000000 := by
    unfold bodyL at hlen
    rw [List.length_append, headB_len] at hlen
    omega
  have HFL := Lib.hid hfl
  have HBD : Hid (bodyL st ws = headB st ws.length ++ ws.flatMap wrB) := Lib.hid rfl
  have HHB : Hid ([] ++ beL st 8 ++ beL ws.length 2 = headB st ws.length) := Lib.hid (by simp [headB])
  have HHL := Lib.hid (headB_len st ws.length)
  have HS := Lib.hid hs
  have hw64 : IntKind.u64.wrap (ws.length : Int) = ws.length := by simp [IntKind.wrap, IntKind.bits, IntKind.signed]; omega
  have ks1 : ∀ w', W.grownBy w' none → (fun w' => W.grownBy w' none ∧ w'.cell? ⟨w.heap.size, 0, none⟩ = some (.int .u64 (st : Int)) ∧ w'.cell? ⟨w.heap.size, 1, none⟩ = some (.slice a ws.length cap)) w' := fun w' hb => by
    have e := (hb.block w.heap.size hlw (fun e => by cases e)).trans eW
    exact ⟨hb, by rw [cell_of_blk e]; rfl, by rw [cell_of_blk e]; rfl⟩
  have KS := Lib.hid ks1
  clear hW hBW eW h hb hs hlen hfl hlw ks1
  go_enter Try.func86, Try.ntmps86
  go_upto_region 1 with fail
  rw [← HW.out]
  refine wp_region_held_drew (S := (fun w' => W.grownBy w' none ∧ w'.cell? ⟨w.heap.size, 0, none⟩ = some (.int .u64 (st : Int)) ∧ w'.cell? ⟨w.heap.size, 1, none⟩ = some (.slice a ws.length cap))) (by kernel_rfl) (KS.out _ (grw_below (Below.refl _ _).drew _)) (fun hHeld => ?_)
  refine wpAnyH_take (i := 0) (oi := ⟨some 7, _, _, _, _, _⟩) (v := ?vvz1) rfl (by kernel_rfl) (by kernel_rfl) (by kernel_rfl) (fun _ _ _ h => h) (Or.inl ⟨by rfl, ?yyz1⟩) hHeld ?rrz1
  case yyz1 => (intro wq hSw; (try dsimp only at hSw); go_simp; first | done | with_reducible rfl)
  simp only [Act.put, List.setIfInBounds_toArray, List.set_cons_zero, List.set_cons_succ]
  refine wpAnyH_take (i := 1) (oi := ⟨some 8, _, _, _, _, _⟩) (v := ?vvz2) rfl (by kernel_rfl) (by kernel_rfl) (by kernel_rfl) (fun _ _ _ h => h) (Or.inl ⟨by rfl, ?yyz2⟩) hHeld ?rrz2
  case yyz2 => (intro wq hSw; (try dsimp only at hSw); go_simp; first | done | with_reducible rfl)
  simp only [Act.put, List.setIfInBounds_toArray, List.set_cons_zero, List.set_cons_succ]
  refine wpAnyH_take (i := 3) (oi := ⟨some 10, _, _, _, _, _⟩) (v := ?vvz3) rfl (by kernel_rfl) (by kernel_rfl) (by kernel_rfl) (fun _ _ _ h => h) (Or.inl ⟨by rfl, ?yyz3⟩) hHeld ?rrz3
  case yyz3 => (intro wq hSw; (try dsimp only at hSw); go_simp; first | done | with_reducible rfl)
  simp only [Act.put, List.setIfInBounds_toArray, List.set_cons_zero, List.set_cons_succ]
  refine wpAnyH_take (i := 4) (oi := ⟨some 11, _, _, _, _, _⟩) (v := ?vvz4) rfl (by kernel_rfl) (by kernel_rfl) (by kernel_rfl) (fun _ _ _ h => h) (Or.inl ⟨by rfl, ?yyz4⟩) hHeld ?rrz4
  case yyz4 => (intro wq hSw; (try dsimp only at hSw); go_simp; first | done | with_reducible rfl)
  simp only [Act.put, List.setIfInBounds_toArray, List.set_cons_zero, List.set_cons_succ]
  refine wpAnyH_take (i := 5) (oi := ⟨some 12, _, _, _, _, _⟩) (v := ?vvz5) rfl (by kernel_rfl) (by kernel_rfl) (by kernel_rfl) (fun _ _ _ h => h) (Or.inl ⟨by rfl, ?yyz5⟩) hHeld ?rrz5
  case yyz5 => (intro wq hSw; (try dsimp only at hSw); go_simp; first | done | with_reducible rfl)
  simp only [Act.put, List.setIfInBounds_toArray, List.set_cons_zero, List.set_cons_succ]
  refine wpAnyH_take (i := 6) (oi := ⟨some 13, _, _, _, _, _⟩) (v := ?vvz6) rfl (by kernel_rfl) (by kernel_rfl) (by kernel_rfl) (fun _ _ _ h => h) (Or.inl ⟨by rfl, ?yyz6⟩) hHeld ?rrz6
  case yyz6 => (intro wq hSw; (try dsimp only at hSw); go_simp; first | done | with_reducible rfl)
  simp only [Act.put, List.setIfInBounds_toArray, List.set_cons_zero, List.set_cons_succ]
  refine wpAnyH_ready (rs := [2]) (by kernel_rfl) (by simp) ?_
  refine AllReadyH.cons (o := ⟨some 9, _, _, _, _, _⟩) rfl (fun K hK => ?_) AllReadyH.nil
  go_simp
  refine (lay_any W.heap.size (.slice none 0 0) [] st 8 _ (BsO.nil _ _) hHeld.1.size (by simp) HS.out (by omega)).mono ?_
  rintro e w1 ⟨v1, rfl, o1, g1, r1⟩
  have hG1 := grw_step (v := .slice none 0 0) hHeld.1 (.inl rfl) g1
  have R1 : Hid (OwnR W none v1) := Lib.hid (OwnR.step (v := .slice none 0 0) (.inl rfl) hHeld.1.size r1)
  have O1 := Lib.hid o1
  clear o1 g1 r1
  go_wp2_with fail
  refine hK.out _ _ ?ssz7 (fun hHeld => ?_)
  case ssz7 => (exact KS.out _ hG1)
  clear hK K
  try simp only [Act.put, List.setIfInBounds_toArray, List.set_cons_zero, List.set_cons_succ]
  refine wpAnyH_ready (rs := [7]) (by kernel_rfl) (by simp) ?_
  refine AllReadyH.cons (o := ⟨some 14, _, _, _, _, _⟩) rfl (fun K hK => ?_) AllReadyH.nil
  go_simp
  refine (lay_any W.heap.size _ _ ws.length 2 _ O1.out hG1.size (by simp [beL_len]) (by omega) (by omega)).mono ?_
  rintro e w2 ⟨v2, rfl, o2, g2, r2⟩
  have hG2 := grw_step hG1 R1.out g2
  have R2 : Hid (OwnR W none v2) := Lib.hid (R1.out.step hG1.size r2)
  rw [HHB.out] at o2
  have O2 := Lib.hid o2
  clear o2 g2 r2
  go_wp2_with fail
  refine hK.out _ _ ?ssz8 (fun hHeld => ?_)
  case ssz8 => (exact KS.out _ hG2)
  clear hK K
  try simp only [Act.put, List.setIfInBounds_toArray, List.set_cons_zero, List.set_cons_succ]
  refine wpAnyH_take (i := 8) (oi := ⟨some 3, _, _, _, _, _⟩) (v := ?vvz9) rfl (by kernel_rfl) (by kernel_rfl) (by kernel_rfl) (fun _ _ _ h => h) (Or.inl ⟨by rfl, ?yyz9⟩) hHeld ?rrz9
  case yyz9 => (intro wq hSw; (try dsimp only at hSw); go_simp; first | done | with_reducible rfl)
  simp only [Act.put, List.setIfInBounds_toArray, List.set_cons_zero, List.set_cons_succ]
  refine wpAnyH_done (by kernel_rfl) ?_ _
  clear hHeld
  obtain ⟨_, g0, g1⟩ := KS.out _ hG2
  go_wp2_with fail
  clear g0 g1
  go_loopw [3, 18] (fun bb i wr => ∃ (k : Nat) (v0 : Value), k ≤ ws.length ∧ i = .int .i64 k ∧ v0 = bb ∧ Hid (BsO wr W.heap.size bb (headB st ws.length ++ (ws.take k).flatMap wrB)) ∧ Hid (OwnR W none bb) ∧ W.grownBy wr none) (fun _ i _ => ws.length - (intOf i).toNat)
  case atStart => exact ⟨0, _, by omega, rfl, rfl, Lib.hid (by simpa using O2.out), R2, hG2⟩
  case round =>
    obtain ⟨k, v0, hk, rfl, rfl, HO, HR, hgr⟩ := hrel
    by_cases hlt : k < ws.length
    · obtain ⟨x, hx⟩ : ∃ x, ws[k]? = some x := ⟨_, List.getElem?_eq_getElem hlt⟩
      obtain ⟨b, off, rfl, hat⟩ := HWS.out (fun e => by rw [e] at hlt; simp at hlt)
      have hbw := grw_none hgr
      obtain ⟨c0, c1, c2, c3, c4, c5⟩ := (hat.below hbw).six hx
      obtain ⟨⟨kn, hkn, lkn⟩, ⟨an, han, lan⟩, ⟨bn, hbn, lbn⟩, lks, lval⟩ := HF.out x (List.mem_of_getElem? hx)
      have hfl := flat_len hx
      rw [wrB_len] at hfl
      obtain ⟨⟨⟨kd, ka, kb, ks⟩, val, has⟩, hxx⟩ : ∃ y, y = x := ⟨_, rfl⟩
      subst hxx
      simp only [] at hkn han hbn
      subst hkn han hbn
      simp only [] at c0 c1 c2 c3 c4 c5 lks lval hfl
      obtain ⟨P, hP⟩ : ∃ P, headB st ws.length ++ (ws.take k).flatMap wrB = P := ⟨_, rfl⟩
      have HPL : Hid (P.length + ks.size + val.size + 16 ≤ 1000000) := Lib.hid (by rw [← hP, List.length_append, HHL.out]; have := HFL.out; omega)
      have HX := Lib.hid hx
      rw [hP] at HO
      have HP := Lib.hid hP
      obtain ⟨V, hV⟩ : ∃ V, V = wr.alloc (.cells #[.int .i64 (kn : Int), .int .i64 (an : Int), .int .i64 (bn : Int), .string ks, .string val, .bool has] 80) := ⟨_, rfl⟩
      have eV : V.heap[wr.heap.size]? = some (.cells #[.int .i64 (kn : Int), .int .i64 (an : Int), .int .i64 (bn : Int), .string ks, .string val, .bool has] 80) := by rw [hV]; exact heap_new wr _
      have bV : Below wr.heap.size wr V := by rw [hV]; exact below_box wr _
      have zV : V.heap.size = wr.heap.size + 1 := by rw [hV]; simp
      have HV := Lib.hid hV
      have HBX := Lib.hid bV
      have HZV := Lib.hid zV
      obtain ⟨r0, hr0⟩ : ∃ r, v0.ownBlock = r := ⟨_, rfl⟩
      have HR0 := Lib.hid hr0
      have O0 := Lib.hid (HO.out.below bV)
      have R0 : Hid (OwnR V r0 v0) := Lib.hid (.inl hr0)
      have hG0 := grw_refl V r0
      have hBV : W.heap.size ≤ V.heap.size := by have := hgr.size; omega
      have ks5 : ∀ w', V.grownBy w' r0 → (fun w' => V.grownBy w' r0 ∧ w'.cell? ⟨wr.heap.size, 0, none⟩ = some (.int .i64 (kn : Int)) ∧ w'.cell? ⟨wr.heap.size, 1, none⟩ = some (.int .i64 (an : Int)) ∧ w'.cell? ⟨wr.heap.size, 2, none⟩ = some (.int .i64 (bn : Int)) ∧ w'.cell? ⟨wr.heap.size, 3, none⟩ = some (.string ks) ∧ w'.cell? ⟨wr.heap.size, 4, none⟩ = some (.string val) ∧ w'.cell? ⟨wr.heap.size, 5, none⟩ = some (.bool has)) w' := fun w' hb => by
        have e := (hb.block wr.heap.size (by omega) (fun e => by
          have := (HO.out.lt _ (hr0.trans e.symm)).2
          omega)).trans eV
        exact ⟨hb, by rw [cell_of_blk e]; rfl, by rw [cell_of_blk e]; rfl, by rw [cell_of_blk e]; rfl, by rw [cell_of_blk e]; rfl, by rw [cell_of_blk e]; rfl, by rw [cell_of_blk e]; rfl⟩
      have KS5 := Lib.hid ks5
      have hw8 : IntKind.u8.wrap (kn : Int) = kn := by simp [IntKind.wrap, IntKind.bits, IntKind.signed]; omega
      have hwa : IntKind.u64.wrap (an : Int) = an := by simp [IntKind.wrap, IntKind.bits, IntKind.signed]; omega
      have hwb : IntKind.u64.wrap (bn : Int) = bn := by simp [IntKind.wrap, IntKind.bits, IntKind.signed]; omega
      have hws : IntKind.u64.wrap (ks.size : Int) = ks.size := by simp [IntKind.wrap, IntKind.bits, IntKind.signed]; omega
      have hwv : IntKind.u64.wrap (val.size : Int) = val.size := by simp [IntKind.wrap, IntKind.bits, IntKind.signed]; omega
      clear hV eV bV zV hr0 hx hat hbw hP ks5 hfl
      go_wp2_with fail
      rw [← HV.out]
      clear c0 c1 c2 c3 c4 c5
      refine wp_region_held_drew (S := (fun w' => V.grownBy w' r0 ∧ w'.cell? ⟨wr.heap.size, 0, none⟩ = some (.int .i64 (kn : Int)) ∧ w'.cell? ⟨wr.heap.size, 1, none⟩ = some (.int .i64 (an : Int)) ∧ w'.cell? ⟨wr.heap.size, 2, none⟩ = some (.int .i64 (bn : Int)) ∧ w'.cell? ⟨wr.heap.size, 3, none⟩ = some (.string ks) ∧ w'.cell? ⟨wr.heap.size, 4, none⟩ = some (.string val) ∧ w'.cell? ⟨wr.heap.size, 5, none⟩ = some (.bool has))) (by kernel_rfl) (KS5.out _ (grw_drew hG0)) (fun hHeld => ?_)
      obtain ⟨u5, hGen⟩ : ∃ u, u = World.drew V := ⟨_, rfl⟩
      rw [← hGen] at hHeld ⊢
      have O0 := Lib.hid (show BsO u5 W.heap.size _ _ by rw [hGen]; exact O0.out.drew)
      clear hGen
      refine wpAnyH_take (i := 0) (oi := ⟨some 22, _, _, _, _, _⟩) (v := ?vvc1) rfl (by kernel_rfl) (by kernel_rfl) (by kernel_rfl) (fun _ _ _ h => h) (Or.inl ⟨by rfl, ?yyc1⟩) hHeld ?rrc1
      case yyc1 => (intro wq hSw; (try dsimp only at hSw); go_simp; first | done | with_reducible rfl)
      simp only [Act.put, List.setIfInBounds_toArray, List.set_cons_zero, List.set_cons_succ]
      refine wpAnyH_take (i := 1) (oi := ⟨some 23, _, _, _, _, _⟩) (v := ?vvc2) rfl (by kernel_rfl) (by kernel_rfl) (by kernel_rfl) (fun _ _ _ h => h) (Or.inl ⟨by rfl, ?yyc2⟩) hHeld ?rrc2
      case yyc2 => (intro wq hSw; (try dsimp only at hSw); go_simp; first | done | with_reducible rfl)
      simp only [Act.put, List.setIfInBounds_toArray, List.set_cons_zero, List.set_cons_succ]
      refine wpAnyH_take (i := 2) (oi := ⟨some 24, _, _, _, _, _⟩) (v := ?vvc3) rfl (by kernel_rfl) (by kernel_rfl) (by kernel_rfl) (fun _ _ _ h => h) (Or.inl ⟨by rfl, ?yyc3⟩) hHeld ?rrc3
      case yyc3 => (intro wq hSw; (try dsimp only at hSw); go_simp; first | done | with_reducible rfl)
      simp only [Act.put, List.setIfInBounds_toArray, List.set_cons_zero, List.set_cons_succ]
      refine wpAnyH_take (i := 3) (oi := ⟨some 25, _, _, _, _, _⟩) (v := ?vvc4) rfl (by kernel_rfl) (by kernel_rfl) (by kernel_rfl) (fun _ _ _ h => h) (Or.inl ⟨by rfl, ?yyc4⟩) hHeld ?rrc4
      case yyc4 => (intro wq hSw; (try dsimp only at hSw); go_simp; first | done | with_reducible rfl)
      simp only [Act.put, List.setIfInBounds_toArray, List.set_cons_zero, List.set_cons_succ]
      refine wpAnyH_take (i := 4) (oi := ⟨some 26, _, _, _, _, _⟩) (v := ?vvc5) rfl (by kernel_rfl) (by kernel_rfl) (by kernel_rfl) (fun _ _ _ h => h) (Or.inl ⟨by rfl, ?yyc5⟩) hHeld ?rrc5
      case yyc5 => (intro wq hSw; (try dsimp only at hSw); go_simp; first | done | with_reducible rfl)
      simp only [Act.put, List.setIfInBounds_toArray, List.set_cons_zero, List.set_cons_succ]
      refine wpAnyH_take (i := 7) (oi := ⟨some 29, _, _, _, _, _⟩) (v := ?vvc6) rfl (by kernel_rfl) (by kernel_rfl) (by kernel_rfl) (fun _ _ _ h => h) (Or.inl ⟨by rfl, ?yyc6⟩) hHeld ?rrc6
      case yyc6 => (intro wq hSw; (try dsimp only at hSw); go_simp; first | done | with_reducible rfl)
      simp only [Act.put, List.setIfInBounds_toArray, List.set_cons_zero, List.set_cons_succ]
      refine wpAnyH_take (i := 8) (oi := ⟨some 30, _, _, _, _, _⟩) (v := ?vvc7) rfl (by kernel_rfl) (by kernel_rfl) (by kernel_rfl) (fun _ _ _ h => h) (Or.inl ⟨by rfl, ?yyc7⟩) hHeld ?rrc7
      case yyc7 => (intro wq hSw; (try dsimp only at hSw); go_simp; first | done | with_reducible rfl)
      simp only [Act.put, List.setIfInBounds_toArray, List.set_cons_zero, List.set_cons_succ]
      refine wpAnyH_take (i := 9) (oi := ⟨some 31, _, _, _, _, _⟩) (v := ?vvc8) rfl (by kernel_rfl) (by kernel_rfl) (by kernel_rfl) (fun _ _ _ h => h) (Or.inl ⟨by rfl, ?yyc8⟩) hHeld ?rrc8
      case yyc8 => (intro wq hSw; (try dsimp only at hSw); go_simp; first | done | with_reducible rfl)
      simp only [Act.put, List.setIfInBounds_toArray, List.set_cons_zero, List.set_cons_succ]
      refine wpAnyH_take (i := 10) (oi := ⟨some 32, _, _, _, _, _⟩) (v := ?vvc9) rfl (by kernel_rfl) (by kernel_rfl) (by kernel_rfl) (fun _ _ _ h => h) (Or.inl ⟨by rfl, ?yyc9⟩) hHeld ?rrc9
      case yyc9 => (intro wq hSw; (try dsimp only at hSw); go_simp; first | done | with_reducible rfl)
      simp only [Act.put, List.setIfInBounds_toArray, List.set_cons_zero, List.set_cons_succ]
      refine wpAnyH_take (i := 12) (oi := ⟨some 34, _, _, _, _, _⟩) (v := ?vvc10) rfl (by kernel_rfl) (by kernel_rfl) (by kernel_rfl) (fun _ _ _ h => h) (Or.inl ⟨by rfl, ?yyc10⟩) hHeld ?rrc10
      case yyc10 => (intro wq hSw; (try dsimp only at hSw); go_simp; first | done | with_reducible rfl)
      simp only [Act.put, List.setIfInBounds_toArray, List.set_cons_zero, List.set_cons_succ]
      refine wpAnyH_take (i := 13) (oi := ⟨some 35, _, _, _, _, _⟩) (v := ?vvc11) rfl (by kernel_rfl) (by kernel_rfl) (by kernel_rfl) (fun _ _ _ h => h) (Or.inl ⟨by rfl, ?yyc11⟩) hHeld ?rrc11
      case yyc11 => (intro wq hSw; (try dsimp only at hSw); go_simp; first | done | with_reducible rfl)
      simp only [Act.put, List.setIfInBounds_toArray, List.set_cons_zero, List.set_cons_succ]
      refine wpAnyH_take (i := 14) (oi := ⟨some 36, _, _, _, _, _⟩) (v := ?vvc12) rfl (by kernel_rfl) (by kernel_rfl) (by kernel_rfl) (fun _ _ _ h => h) (Or.inl ⟨by rfl, ?yyc12⟩) hHeld ?rrc12
      case yyc12 => (intro wq hSw; (try dsimp only at hSw); go_simp; first | done | with_reducible rfl)
      simp only [Act.put, List.setIfInBounds_toArray, List.set_cons_zero, List.set_cons_succ]
      refine wpAnyH_take (i := 15) (oi := ⟨some 37, _, _, _, _, _⟩) (v := ?vvc13) rfl (by kernel_rfl) (by kernel_rfl) (by kernel_rfl) (fun _ _ _ h => h) (Or.inl ⟨by rfl, ?yyc13⟩) hHeld ?rrc13
      case yyc13 => (intro wq hSw; (try dsimp only at hSw); go_simp; first | done | with_reducible rfl)
      simp only [Act.put, List.setIfInBounds_toArray, List.set_cons_zero, List.set_cons_succ]
      refine wpAnyH_ready (rs := [5]) (by kernel_rfl) (by simp) ?_
      refine AllReadyH.cons (o := ⟨some 27, _, _, _, _, _⟩) rfl (fun K hK => ?_) AllReadyH.nil
      go_simp
      refine hK.out _ _ ?ssc14 (fun hHeld => ?_)
      case ssc14 => (exact KS5.out _ (grw_below2 hHeld.1 (below_box u5 (.cells #[.int .u8 (kn : Int)] 5))))
      clear hK K
      try simp only [Act.put, List.setIfInBounds_toArray, List.set_cons_zero, List.set_cons_succ]
      refine wpAnyH_ready (rs := [6]) (by kernel_rfl) (by simp) ?_
      refine AllReadyH.cons (o := ⟨some 28, _, _, _, _, _⟩) rfl (fun K hK => ?_) AllReadyH.nil
      have hS0 := hHeld.1.size
      refine step_appX _ rfl (.tmp 22) (.tmp 27) 22 rfl W.heap.size _ _ rfl (O0.out.alloc _) (.slice (some ⟨u5.heap.size, 0, none⟩) 1 1) 1 [UInt8.ofNat kn] rfl rfl ((newX (w := u5) (by simp [bv]; omega)).src 1) (by have := HPL.out; (repeat (first | rw [List.length_append] | rw [List.length_cons] | rw [List.length_nil] | rw [beL_len] | rw [baL])); omega) (Nat.le_trans hBV hHeld.1.size) ?_
      rintro v101 w101 ⟨o, _, g, r⟩
      have hG101 := grw_step hHeld.1 R0.out g
      have R101 : Hid (OwnR V r0 v101) := Lib.hid (R0.out.next hHeld.1.size r)
      have O101 := Lib.hid o
      clear o g r
      refine hK.out _ _ ?ssc15 (fun hHeld => ?_)
      case ssc15 => (exact KS5.out _ hG101)
      clear hK K
      try simp only [Act.put, List.setIfInBounds_toArray, List.set_cons_zero, List.set_cons_succ]
      refine wpAnyH_ready (rs := [11]) (by kernel_rfl) (by simp) ?_
      refine AllReadyH.cons (o := ⟨some 33, _, _, _, _, _⟩) rfl (fun K hK => ?_) AllReadyH.nil
      go_simp
      refine (lay_any W.heap.size _ _ an 5 _ O101.out (Nat.le_trans hBV hHeld.1.size) (by have := HPL.out; (repeat (first | rw [List.length_append] | rw [List.length_cons] | rw [List.length_nil] | rw [beL_len] | rw [baL])); omega) (by omega) (by omega)).mono ?_
      rintro e w102 ⟨v102, rfl, o, g, r⟩
      have hG102 := grw_step hHeld.1 R101.out g
      have R102 : Hid (OwnR V r0 v102) := Lib.hid (R101.out.step hHeld.1.size r)
      have O102 := Lib.hid o
      clear o g r
      go_wp2_with fail
      refine hK.out _ _ ?ssc16 (fun hHeld => ?_)
      case ssc16 => (exact KS5.out _ hG102)
      clear hK K
      try simp only [Act.put, List.setIfInBounds_toArray, List.set_cons_zero, List.set_cons_succ]
      refine wpAnyH_ready (rs := [16]) (by kernel_rfl) (by simp) ?_
      refine AllReadyH.cons (o := ⟨some 38, _, _, _, _, _⟩) rfl (fun K hK => ?_) AllReadyH.nil
      go_simp
      refine (lay_any W.heap.size _ _ bn 5 _ O102.out (Nat.le_trans hBV hHeld.1.size) (by have := HPL.out; (repeat (first | rw [List.length_append] | rw [List.length_cons] | rw [List.length_nil] | rw [beL_len] | rw [baL])); omega) (by omega) (by omega)).mono ?_
      rintro e w103 ⟨v103, rfl, o, g, r⟩
      have hG103 := grw_step hHeld.1 R102.out g
      have R103 : Hid (OwnR V r0 v103) := Lib.hid (R102.out.step hHeld.1.size r)
      have O103 := Lib.hid o
      clear o g r
      go_wp2_with fail
      refine hK.out _ _ ?ssc17 (fun hHeld => ?_)
      case ssc17 => (exact KS5.out _ hG103)
      clear hK K
      try simp only [Act.put, List.setIfInBounds_toArray, List.set_cons_zero, List.set_cons_succ]
      refine wpAnyH_take (i := 17) (oi := ⟨some 3, _, _, _, _, _⟩) (v := ?vvc18) rfl (by kernel_rfl) (by kernel_rfl) (by kernel_rfl) (fun _ _ _ h => h) (Or.inl ⟨by rfl, ?yyc18⟩) hHeld ?rrc18
      case yyc18 => (intro wq hSw; (try dsimp only at hSw); go_simp; first | done | with_reducible rfl)
      simp only [Act.put, List.setIfInBounds_toArray, List.set_cons_zero, List.set_cons_succ]
      refine wpAnyH_done (by kernel_rfl) ?_ _
      clear hHeld
      obtain ⟨_, s0, s1, s2, s3, s4, s5⟩ := KS5.out _ hG103
      go_wp2_with fail
      clear s0 s1 s2 s3 s4 s5
      refine wp_region_held_drew (S := (fun w' => V.grownBy w' r0 ∧ w'.cell? ⟨wr.heap.size, 0, none⟩ = some (.int .i64 (kn : Int)) ∧ w'.cell? ⟨wr.heap.size, 1, none⟩ = some (.int .i64 (an : Int)) ∧ w'.cell? ⟨wr.heap.size, 2, none⟩ = some (.int .i64 (bn : Int)) ∧ w'.cell? ⟨wr.heap.size, 3, none⟩ = some (.string ks) ∧ w'.cell? ⟨wr.heap.size, 4, none⟩ = some (.string val) ∧ w'.cell? ⟨wr.heap.size, 5, none⟩ = some (.bool has))) (by kernel_rfl) (KS5.out _ (grw_drew hG103)) (fun hHeld => ?_)
      obtain ⟨u6, hGen⟩ : ∃ u, u = World.drew w103 := ⟨_, rfl⟩
      rw [← hGen] at hHeld ⊢
      have O103 := Lib.hid (show BsO u6 W.heap.size _ _ by rw [hGen]; exact O103.out.drew)
      clear hGen
      refine wpAnyH_take (i := 0) (oi := ⟨some 39, _, _, _, _, _⟩) (v := ?vvd1) rfl (by kernel_rfl) (by kernel_rfl) (by kernel_rfl) (fun _ _ _ h => h) (Or.inl ⟨by rfl, ?yyd1⟩) hHeld ?rrd1
      case yyd1 => (intro wq hSw; (try dsimp only at hSw); go_simp; first | done | with_reducible rfl)
      simp only [Act.put, List.setIfInBounds_toArray, List.set_cons_zero, List.set_cons_succ]
      refine wpAnyH_take (i := 1) (oi := ⟨some 40, _, _, _, _, _⟩) (v := ?vvd2) rfl (by kernel_rfl) (by kernel_rfl) (by kernel_rfl) (fun _ _ _ h => h) (Or.inl ⟨by rfl, ?yyd2⟩) hHeld ?rrd2
      case yyd2 => (intro wq hSw; (try dsimp only at hSw); go_simp; first | done | with_reducible rfl)
      simp only [Act.put, List.setIfInBounds_toArray, List.set_cons_zero, List.set_cons_succ]
      refine wpAnyH_take (i := 2) (oi := ⟨some 41, _, _, _, _, _⟩) (v := ?vvd3) rfl (by kernel_rfl) (by kernel_rfl) (by kernel_rfl) (fun _ _ _ h => h) (Or.inl ⟨by rfl, ?yyd3⟩) hHeld ?rrd3
      case yyd3 => (intro wq hSw; (try dsimp only at hSw); go_simp; first | done | with_reducible rfl)
      simp only [Act.put, List.setIfInBounds_toArray, List.set_cons_zero, List.set_cons_succ]
      refine wpAnyH_take (i := 3) (oi := ⟨some 42, _, _, _, _, _⟩) (v := ?vvd4) rfl (by kernel_rfl) (by kernel_rfl) (by kernel_rfl) (fun _ _ _ h => h) (Or.inl ⟨by rfl, ?yyd4⟩) hHeld ?rrd4
      case yyd4 => (intro wq hSw; (try dsimp only at hSw); go_simp; first | done | with_reducible rfl)
      simp only [Act.put, List.setIfInBounds_toArray, List.set_cons_zero, List.set_cons_succ]
      refine wpAnyH_take (i := 4) (oi := ⟨some 43, _, _, _, _, _⟩) (v := ?vvd5) rfl (by kernel_rfl) (by kernel_rfl) (by kernel_rfl) (fun _ _ _ h => h) (Or.inl ⟨by rfl, ?yyd5⟩) hHeld ?rrd5
      case yyd5 => (intro wq hSw; (try dsimp only at hSw); go_simp; first | done | with_reducible rfl)
      simp only [Act.put, List.setIfInBounds_toArray, List.set_cons_zero, List.set_cons_succ]
      refine wpAnyH_take (i := 5) (oi := ⟨some 44, _, _, _, _, _⟩) (v := ?vvd6) rfl (by kernel_rfl) (by kernel_rfl) (by kernel_rfl) (fun _ _ _ h => h) (Or.inl ⟨by rfl, ?yyd6⟩) hHeld ?rrd6
      case yyd6 => (intro wq hSw; (try dsimp only at hSw); go_simp; first | done | with_reducible rfl)
      simp only [Act.put, List.setIfInBounds_toArray, List.set_cons_zero, List.set_cons_succ]
      refine wpAnyH_take (i := 7) (oi := ⟨some 46, _, _, _, _, _⟩) (v := ?vvd7) rfl (by kernel_rfl) (by kernel_rfl) (by kernel_rfl) (fun _ _ _ h => h) (Or.inl ⟨by rfl, ?yyd7⟩) hHeld ?rrd7
      case yyd7 => (intro wq hSw; (try dsimp only at hSw); go_simp; first | done | with_reducible rfl)
      simp only [Act.put, List.setIfInBounds_toArray, List.set_cons_zero, List.set_cons_succ]
      refine wpAnyH_take (i := 8) (oi := ⟨some 47, _, _, _, _, _⟩) (v := ?vvd8) rfl (by kernel_rfl) (by kernel_rfl) (by kernel_rfl) (fun _ _ _ h => h) (Or.inl ⟨by rfl, ?yyd8⟩) hHeld ?rrd8
      case yyd8 => (intro wq hSw; (try dsimp only at hSw); go_simp; first | done | with_reducible rfl)
      simp only [Act.put, List.setIfInBounds_toArray, List.set_cons_zero, List.set_cons_succ]
      refine wpAnyH_take (i := 9) (oi := ⟨some 48, _, _, _, _, _⟩) (v := ?vvd9) rfl (by kernel_rfl) (by kernel_rfl) (by kernel_rfl) (fun _ _ _ h => h) (Or.inl ⟨by rfl, ?yyd9⟩) hHeld ?rrd9
      case yyd9 => (intro wq hSw; (try dsimp only at hSw); go_simp; first | done | with_reducible rfl)
      simp only [Act.put, List.setIfInBounds_toArray, List.set_cons_zero, List.set_cons_succ]
      refine wpAnyH_ready (rs := [6]) (by kernel_rfl) (by simp) ?_
      refine AllReadyH.cons (o := ⟨some 45, _, _, _, _, _⟩) rfl (fun K hK => ?_) AllReadyH.nil
      go_simp
      refine (lay_any W.heap.size _ _ ks.size 2 _ O103.out (Nat.le_trans hBV hHeld.1.size) (by have := HPL.out; (repeat (first | rw [List.length_append] | rw [List.length_cons] | rw [List.length_nil] | rw [beL_len] | rw [baL])); omega) (by omega) (by omega)).mono ?_
      rintro e w104 ⟨v104, rfl, o, g, r⟩
      have hG104 := grw_step hHeld.1 R103.out g
      have R104 : Hid (OwnR V r0 v104) := Lib.hid (R103.out.step hHeld.1.size r)
      have O104 := Lib.hid o
      clear o g r
      go_wp2_with fail
      refine hK.out _ _ ?ssd10 (fun hHeld => ?_)
      case ssd10 => (exact KS5.out _ hG104)
      clear hK K
      try simp only [Act.put, List.setIfInBounds_toArray, List.set_cons_zero, List.set_cons_succ]
      refine wpAnyH_ready (rs := [10]) (by kernel_rfl) (by simp) ?_
      refine AllReadyH.cons (o := ⟨some 49, _, _, _, _, _⟩) rfl (fun K hK => ?_) AllReadyH.nil
      refine step_appX _ rfl (.tmp 45) (.tmp 48) 9 rfl W.heap.size _ _ rfl O104.out (.string ks) ks.size ks.data.toList rfl rfl (src_str ks) (by have := HPL.out; (repeat (first | rw [List.length_append] | rw [List.length_cons] | rw [List.length_nil] | rw [beL_len] | rw [baL])); omega) (Nat.le_trans hBV hHeld.1.size) ?_
      rintro v105 w105 ⟨o, _, g, r⟩
      have hG105 := grw_step hHeld.1 R104.out g
      have R105 : Hid (OwnR V r0 v105) := Lib.hid (R104.out.next hHeld.1.size r)
      have O105 := Lib.hid o
      clear o g r
      refine hK.out _ _ ?ssd11 (fun hHeld => ?_)
      case ssd11 => (exact KS5.out _ hG105)
      clear hK K
      try simp only [Act.put, List.setIfInBounds_toArray, List.set_cons_zero, List.set_cons_succ]
      refine wpAnyH_take (i := 11) (oi := ⟨some 3, _, _, _, _, _⟩) (v := ?vvd12) rfl (by kernel_rfl) (by kernel_rfl) (by kernel_rfl) (fun _ _ _ h => h) (Or.inl ⟨by rfl, ?yyd12⟩) hHeld ?rrd12
      case yyd12 => (intro wq hSw; (try dsimp only at hSw); go_simp; first | done | with_reducible rfl)
      simp only [Act.put, List.setIfInBounds_toArray, List.set_cons_zero, List.set_cons_succ]
      refine wpAnyH_done (by kernel_rfl) ?_ _
      clear hHeld
      obtain ⟨va, vc, hv⟩ := O105.out.shape
      have HV105 := Lib.hid hv
      clear hv
      cases has
      · have HNX : Hid (headB st ws.length ++ (ws.take (k + 1)).flatMap wrB = P ++ (UInt8.ofNat kn :: (beL an 5 ++ (beL bn 5 ++ (beL ks.size 2 ++ (ks.data.toList ++ (0 :: (beL val.size 2 ++ val.data.toList)))))))) := Lib.hid (by rw [flat_take HX.out, ← List.append_assoc, HP.out]; rfl)
        obtain ⟨_, s0, s1, s2, s3, s4, s5⟩ := KS5.out _ hG105
        go_wp2_with fail
        clear s0 s1 s2 s3 s4 s5
        refine wp_region_held_drew (S := (fun w' => V.grownBy w' r0 ∧ w'.cell? ⟨wr.heap.size, 0, none⟩ = some (.int .i64 (kn : Int)) ∧ w'.cell? ⟨wr.heap.size, 1, none⟩ = some (.int .i64 (an : Int)) ∧ w'.cell? ⟨wr.heap.size, 2, none⟩ = some (.int .i64 (bn : Int)) ∧ w'.cell? ⟨wr.heap.size, 3, none⟩ = some (.string ks) ∧ w'.cell? ⟨wr.heap.size, 4, none⟩ = some (.string val) ∧ w'.cell? ⟨wr.heap.size, 5, none⟩ = some (.bool false))) (by kernel_rfl) (KS5.out _ (grw_drew hG105)) (fun hHeld => ?_)
        obtain ⟨uf, hGen⟩ : ∃ u, u = World.drew w105 := ⟨_, rfl⟩
        rw [← hGen] at hHeld ⊢
        have O105 := Lib.hid (show BsO uf W.heap.size _ _ by rw [hGen]; exact O105.out.drew)
        clear hGen
        refine wpAnyH_take (i := 0) (oi := ⟨some 52, _, _, _, _, _⟩) (v := ?vvef1) rfl (by kernel_rfl) (by kernel_rfl) (by kernel_rfl) (fun _ _ _ h => h) (Or.inl ⟨by rfl, ?yyef1⟩) hHeld ?rref1
        case yyef1 => (intro wq hSw; (try dsimp only at hSw); go_simp; first | done | with_reducible rfl)
        simp only [Act.put, List.setIfInBounds_toArray, List.set_cons_zero, List.set_cons_succ]
        refine wpAnyH_take (i := 1) (oi := ⟨some 53, _, _, _, _, _⟩) (v := ?vvef2) rfl (by kernel_rfl) (by kernel_rfl) (by kernel_rfl) (fun _ _ _ h => h) (Or.inl ⟨by rfl, ?yyef2⟩) hHeld ?rref2
        case yyef2 => (intro wq hSw; (try dsimp only at hSw); go_simp; first | done | with_reducible rfl)
        simp only [Act.put, List.setIfInBounds_toArray, List.set_cons_zero, List.set_cons_succ]
        refine wpAnyH_take (i := 4) (oi := ⟨some 56, _, _, _, _, _⟩) (v := ?vvef3) rfl (by kernel_rfl) (by kernel_rfl) (by kernel_rfl) (fun _ _ _ h => h) (Or.inl ⟨by rfl, ?yyef3⟩) hHeld ?rref3
        case yyef3 => (intro wq hSw; (try dsimp only at hSw); go_simp; first | done | with_reducible rfl)
        simp only [Act.put, List.setIfInBounds_toArray, List.set_cons_zero, List.set_cons_succ]
        refine wpAnyH_take (i := 5) (oi := ⟨some 57, _, _, _, _, _⟩) (v := ?vvef4) rfl (by kernel_rfl) (by kernel_rfl) (by kernel_rfl) (fun _ _ _ h => h) (Or.inl ⟨by rfl, ?yyef4⟩) hHeld ?rref4
        case yyef4 => (intro wq hSw; (try dsimp only at hSw); go_simp; first | done | with_reducible rfl)
        simp only [Act.put, List.setIfInBounds_toArray, List.set_cons_zero, List.set_cons_succ]
        refine wpAnyH_take (i := 6) (oi := ⟨some 58, _, _, _, _, _⟩) (v := ?vvef5) rfl (by kernel_rfl) (by kernel_rfl) (by kernel_rfl) (fun _ _ _ h => h) (Or.inl ⟨by rfl, ?yyef5⟩) hHeld ?rref5
        case yyef5 => (intro wq hSw; (try dsimp only at hSw); go_simp; first | done | with_reducible rfl)
        simp only [Act.put, List.setIfInBounds_toArray, List.set_cons_zero, List.set_cons_succ]
        refine wpAnyH_take (i := 7) (oi := ⟨some 59, _, _, _, _, _⟩) (v := ?vvef6) rfl (by kernel_rfl) (by kernel_rfl) (by kernel_rfl) (fun _ _ _ h => h) (Or.inl ⟨by rfl, ?yyef6⟩) hHeld ?rref6
        case yyef6 => (intro wq hSw; (try dsimp only at hSw); go_simp; first | done | with_reducible rfl)
        simp only [Act.put, List.setIfInBounds_toArray, List.set_cons_zero, List.set_cons_succ]
        refine wpAnyH_take (i := 9) (oi := ⟨some 61, _, _, _, _, _⟩) (v := ?vvef7) rfl (by kernel_rfl) (by kernel_rfl) (by kernel_rfl) (fun _ _ _ h => h) (Or.inl ⟨by rfl, ?yyef7⟩) hHeld ?rref7
        case yyef7 => (intro wq hSw; (try dsimp only at hSw); go_simp; first | done | with_reducible rfl)
        simp only [Act.put, List.setIfInBounds_toArray, List.set_cons_zero, List.set_cons_succ]
        refine wpAnyH_take (i := 10) (oi := ⟨some 62, _, _, _, _, _⟩) (v := ?vvef8) rfl (by kernel_rfl) (by kernel_rfl) (by kernel_rfl) (fun _ _ _ h => h) (Or.inl ⟨by rfl, ?yyef8⟩) hHeld ?rref8
        case yyef8 => (intro wq hSw; (try dsimp only at hSw); go_simp; first | done | with_reducible rfl)
        simp only [Act.put, List.setIfInBounds_toArray, List.set_cons_zero, List.set_cons_succ]
        refine wpAnyH_ready (rs := [2]) (by kernel_rfl) (by simp) ?_
        refine AllReadyH.cons (o := ⟨some 54, _, _, _, _, _⟩) rfl (fun K hK => ?_) AllReadyH.nil
        go_simp
        refine hK.out _ _ ?ssef9 (fun hHeld => ?_)
        case ssef9 => (exact KS5.out _ (grw_below2 hHeld.1 (below_box uf (.cells #[.int .u8 0] 5))))
        clear hK K
        try simp only [Act.put, List.setIfInBounds_toArray, List.set_cons_zero, List.set_cons_succ]
        refine wpAnyH_ready (rs := [3]) (by kernel_rfl) (by simp) ?_
        refine AllReadyH.cons (o := ⟨some 55, _, _, _, _, _⟩) rfl (fun K hK => ?_) AllReadyH.nil
        have hS0 := hHeld.1.size
        refine step_appX _ rfl (.tmp 52) (.tmp 54) 22 rfl W.heap.size _ _ rfl (O105.out.alloc _) (.slice (some ⟨uf.heap.size, 0, none⟩) 1 1) 1 [0] rfl rfl ((newX (w := uf) (rfl)).src 1) (by have := HPL.out; (repeat (first | rw [List.length_append] | rw [List.length_cons] | rw [List.length_nil] | rw [beL_len] | rw [baL])); omega) (Nat.le_trans hBV hHeld.1.size) ?_
        rintro v106 w106 ⟨o, _, g, r⟩
        have hG106 := grw_step hHeld.1 R105.out g
        have R106 : Hid (OwnR V r0 v106) := Lib.hid (R105.out.next hHeld.1.size r)
        have O106 := Lib.hid o
        clear o g r
        refine hK.out _ _ ?ssef10 (fun hHeld => ?_)
        case ssef10 => (exact KS5.out _ hG106)
        clear hK K
        try simp only [Act.put, List.setIfInBounds_toArray, List.set_cons_zero, List.set_cons_succ]
        refine wpAnyH_ready (rs := [8]) (by kernel_rfl) (by simp) ?_
        refine AllReadyH.cons (o := ⟨some 60, _, _, _, _, _⟩) rfl (fun K hK => ?_) AllReadyH.nil
        go_simp
        refine (lay_any W.heap.size _ _ val.size 2 _ O106.out (Nat.le_trans hBV hHeld.1.size) (by have := HPL.out; (repeat (first | rw [List.length_append] | rw [List.length_cons] | rw [List.length_nil] | rw [beL_len] | rw [baL])); omega) (by omega) (by omega)).mono ?_
        rintro e w107 ⟨v107, rfl, o, g, r⟩
        have hG107 := grw_step hHeld.1 R106.out g
        have R107 : Hid (OwnR V r0 v107) := Lib.hid (R106.out.step hHeld.1.size r)
        have O107 := Lib.hid o
        clear o g r
        go_wp2_with fail
        refine hK.out _ _ ?ssef11 (fun hHeld => ?_)
        case ssef11 => (exact KS5.out _ hG107)
        clear hK K
        try simp only [Act.put, List.setIfInBounds_toArray, List.set_cons_zero, List.set_cons_succ]
        refine wpAnyH_ready (rs := [11]) (by kernel_rfl) (by simp) ?_
        refine AllReadyH.cons (o := ⟨some 63, _, _, _, _, _⟩) rfl (fun K hK => ?_) AllReadyH.nil
        refine step_appX _ rfl (.tmp 60) (.tmp 62) 9 rfl W.heap.size _ _ rfl O107.out (.string val) val.size val.data.toList rfl rfl (src_str val) (by have := HPL.out; (repeat (first | rw [List.length_append] | rw [List.length_cons] | rw [List.length_nil] | rw [beL_len] | rw [baL])); omega) (Nat.le_trans hBV hHeld.1.size) ?_
        rintro v108 w108 ⟨o, _, g, r⟩
        have hG108 := grw_step hHeld.1 R107.out g
        have R108 : Hid (OwnR V r0 v108) := Lib.hid (R107.out.next hHeld.1.size r)
        have O108 := Lib.hid o
        clear o g r
        refine hK.out _ _ ?ssef12 (fun hHeld => ?_)
        case ssef12 => (exact KS5.out _ hG108)
        clear hK K
        try simp only [Act.put, List.setIfInBounds_toArray, List.set_cons_zero, List.set_cons_succ]
        refine wpAnyH_take (i := 12) (oi := ⟨some 3, _, _, _, _, _⟩) (v := ?vvef13) rfl (by kernel_rfl) (by kernel_rfl) (by kernel_rfl) (fun _ _ _ h => h) (Or.inl ⟨by rfl, ?yyef13⟩) hHeld ?rref13
        case yyef13 => (intro wq hSw; (try dsimp only at hSw); go_simp; first | done | with_reducible rfl)
        simp only [Act.put, List.setIfInBounds_toArray, List.set_cons_zero, List.set_cons_succ]
        refine wpAnyH_done (by kernel_rfl) ?_ _
        clear hHeld
        go_wp2_with fail
        exact ⟨⟨k + 1, _, by omega, by go_num, rfl, Lib.hid (by rw [HNX.out]; simpa [List.append_assoc] using O108.out), Lib.hid (HR.out.step (Nat.le_trans hgr.size (by rw [HZV.out]; omega)) (by rw [HR0.out]; exact R108.out)), grw_step (grw_below2 hgr HBX.out) HR.out (by rw [HR0.out]; exact hG108)⟩, by simp [intOf]; omega⟩
      · have HNX : Hid (headB st ws.length ++ (ws.take (k + 1)).flatMap wrB = P ++ (UInt8.ofNat kn :: (beL an 5 ++ (beL bn 5 ++ (beL ks.size 2 ++ (ks.data.toList ++ (1 :: (beL val.size 2 ++ val.data.toList)))))))) := Lib.hid (by rw [flat_take HX.out, ← List.append_assoc, HP.out]; rfl)
        obtain ⟨_, s0, s1, s2, s3, s4, s5⟩ := KS5.out _ hG105
        go_wp2_with fail
        clear s0 s1 s2 s3 s4 s5
        refine wp_region_held_drew (S := (fun w' => V.grownBy w' r0 ∧ w'.cell? ⟨wr.heap.size, 0, none⟩ = some (.int .i64 (kn : Int)) ∧ w'.cell? ⟨wr.heap.size, 1, none⟩ = some (.int .i64 (an : Int)) ∧ w'.cell? ⟨wr.heap.size, 2, none⟩ = some (.int .i64 (bn : Int)) ∧ w'.cell? ⟨wr.heap.size, 3, none⟩ = some (.string ks) ∧ w'.cell? ⟨wr.heap.size, 4, none⟩ = some (.string val) ∧ w'.cell? ⟨wr.heap.size, 5, none⟩ = some (.bool true))) (by kernel_rfl) (KS5.out _ (grw_drew hG105)) (fun hHeld => ?_)
        obtain ⟨ut, hGen⟩ : ∃ u, u = World.drew w105 := ⟨_, rfl⟩
        rw [← hGen] at hHeld ⊢
        have O105 := Lib.hid (show BsO ut W.heap.size _ _ by rw [hGen]; exact O105.out.drew)
        clear hGen
        refine wpAnyH_take (i := 0) (oi := ⟨some 52, _, _, _, _, _⟩) (v := ?vvet1) rfl (by kernel_rfl) (by kernel_rfl) (by kernel_rfl) (fun _ _ _ h => h) (Or.inl ⟨by rfl, ?yyet1⟩) hHeld ?rret1
        case yyet1 => (intro wq hSw; (try dsimp only at hSw); go_simp; first | done | with_reducible rfl)
        simp only [Act.put, List.setIfInBounds_toArray, List.set_cons_zero, List.set_cons_succ]
        refine wpAnyH_take (i := 1) (oi := ⟨some 53, _, _, _, _, _⟩) (v := ?vvet2) rfl (by kernel_rfl) (by kernel_rfl) (by kernel_rfl) (fun _ _ _ h => h) (Or.inl ⟨by rfl, ?yyet2⟩) hHeld ?rret2
        case yyet2 => (intro wq hSw; (try dsimp only at hSw); go_simp; first | done | with_reducible rfl)
        simp only [Act.put, List.setIfInBounds_toArray, List.set_cons_zero, List.set_cons_succ]
        refine wpAnyH_take (i := 4) (oi := ⟨some 56, _, _, _, _, _⟩) (v := ?vvet3) rfl (by kernel_rfl) (by kernel_rfl) (by kernel_rfl) (fun _ _ _ h => h) (Or.inl ⟨by rfl, ?yyet3⟩) hHeld ?rret3
        case yyet3 => (intro wq hSw; (try dsimp only at hSw); go_simp; first | done | with_reducible rfl)
        simp only [Act.put, List.setIfInBounds_toArray, List.set_cons_zero, List.set_cons_succ]
        refine wpAnyH_take (i := 5) (oi := ⟨some 57, _, _, _, _, _⟩) (v := ?vvet4) rfl (by kernel_rfl) (by kernel_rfl) (by kernel_rfl) (fun _ _ _ h => h) (Or.inl ⟨by rfl, ?yyet4⟩) hHeld ?rret4
        case yyet4 => (intro wq hSw; (try dsimp only at hSw); go_simp; first | done | with_reducible rfl)
        simp only [Act.put, List.setIfInBounds_toArray, List.set_cons_zero, List.set_cons_succ]
        refine wpAnyH_take (i := 6) (oi := ⟨some 58, _, _, _, _, _⟩) (v := ?vvet5) rfl (by kernel_rfl) (by kernel_rfl) (by kernel_rfl) (fun _ _ _ h => h) (Or.inl ⟨by rfl, ?yyet5⟩) hHeld ?rret5
        case yyet5 => (intro wq hSw; (try dsimp only at hSw); go_simp; first | done | with_reducible rfl)
        simp only [Act.put, List.setIfInBounds_toArray, List.set_cons_zero, List.set_cons_succ]
        refine wpAnyH_take (i := 7) (oi := ⟨some 59, _, _, _, _, _⟩) (v := ?vvet6) rfl (by kernel_rfl) (by kernel_rfl) (by kernel_rfl) (fun _ _ _ h => h) (Or.inl ⟨by rfl, ?yyet6⟩) hHeld ?rret6
        case yyet6 => (intro wq hSw; (try dsimp only at hSw); go_simp; first | done | with_reducible rfl)
        simp only [Act.put, List.setIfInBounds_toArray, List.set_cons_zero, List.set_cons_succ]
        refine wpAnyH_take (i := 9) (oi := ⟨some 61, _, _, _, _, _⟩) (v := ?vvet7) rfl (by kernel_rfl) (by kernel_rfl) (by kernel_rfl) (fun _ _ _ h => h) (Or.inl ⟨by rfl, ?yyet7⟩) hHeld ?rret7
        case yyet7 => (intro wq hSw; (try dsimp only at hSw); go_simp; first | done | with_reducible rfl)
        simp only [Act.put, List.setIfInBounds_toArray, List.set_cons_zero, List.set_cons_succ]
        refine wpAnyH_take (i := 10) (oi := ⟨some 62, _, _, _, _, _⟩) (v := ?vvet8) rfl (by kernel_rfl) (by kernel_rfl) (by kernel_rfl) (fun _ _ _ h => h) (Or.inl ⟨by rfl, ?yyet8⟩) hHeld ?rret8
        case yyet8 => (intro wq hSw; (try dsimp only at hSw); go_simp; first | done | with_reducible rfl)
        simp only [Act.put, List.setIfInBounds_toArray, List.set_cons_zero, List.set_cons_succ]
        refine wpAnyH_ready (rs := [2]) (by kernel_rfl) (by simp) ?_
        refine AllReadyH.cons (o := ⟨some 54, _, _, _, _, _⟩) rfl (fun K hK => ?_) AllReadyH.nil
        go_simp
        refine hK.out _ _ ?sset9 (fun hHeld => ?_)
        case sset9 => (exact KS5.out _ (grw_below2 hHeld.1 (below_box ut (.cells #[.int .u8 1] 5))))
        clear hK K
        try simp only [Act.put, List.setIfInBounds_toArray, List.set_cons_zero, List.set_cons_succ]
        refine wpAnyH_ready (rs := [3]) (by kernel_rfl) (by simp) ?_
        refine AllReadyH.cons (o := ⟨some 55, _, _, _, _, _⟩) rfl (fun K hK => ?_) AllReadyH.nil
        have hS0 := hHeld.1.size
        refine step_appX _ rfl (.tmp 52) (.tmp 54) 22 rfl W.heap.size _ _ rfl (O105.out.alloc _) (.slice (some ⟨ut.heap.size, 0, none⟩) 1 1) 1 [1] rfl rfl ((newX (w := ut) (rfl)).src 1) (by have := HPL.out; (repeat (first | rw [List.length_append] | rw [List.length_cons] | rw [List.length_nil] | rw [beL_len] | rw [baL])); omega) (Nat.le_trans hBV hHeld.1.size) ?_
        rintro v109 w109 ⟨o, _, g, r⟩
        have hG109 := grw_step hHeld.1 R105.out g
        have R109 : Hid (OwnR V r0 v109) := Lib.hid (R105.out.next hHeld.1.size r)
        have O109 := Lib.hid o
        clear o g r
        refine hK.out _ _ ?sset10 (fun hHeld => ?_)
        case sset10 => (exact KS5.out _ hG109)
        clear hK K
        try simp only [Act.put, List.setIfInBounds_toArray, List.set_cons_zero, List.set_cons_succ]
        refine wpAnyH_ready (rs := [8]) (by kernel_rfl) (by simp) ?_
        refine AllReadyH.cons (o := ⟨some 60, _, _, _, _, _⟩) rfl (fun K hK => ?_) AllReadyH.nil
        go_simp
        refine (lay_any W.heap.size _ _ val.size 2 _ O109.out (Nat.le_trans hBV hHeld.1.size) (by have := HPL.out; (repeat (first | rw [List.length_append] | rw [List.length_cons] | rw [List.length_nil] | rw [beL_len] | rw [baL])); omega) (by omega) (by omega)).mono ?_
        rintro e w110 ⟨v110, rfl, o, g, r⟩
        have hG110 := grw_step hHeld.1 R109.out g
        have R110 : Hid (OwnR V r0 v110) := Lib.hid (R109.out.step hHeld.1.size r)
        have O110 := Lib.hid o
        clear o g r
        go_wp2_with fail
        refine hK.out _ _ ?sset11 (fun hHeld => ?_)
        case sset11 => (exact KS5.out _ hG110)
        clear hK K
        try simp only [Act.put, List.setIfInBounds_toArray, List.set_cons_zero, List.set_cons_succ]
        refine wpAnyH_ready (rs := [11]) (by kernel_rfl) (by simp) ?_
        refine AllReadyH.cons (o := ⟨some 63, _, _, _, _, _⟩) rfl (fun K hK => ?_) AllReadyH.nil
        refine step_appX _ rfl (.tmp 60) (.tmp 62) 9 rfl W.heap.size _ _ rfl O110.out (.string val) val.size val.data.toList rfl rfl (src_str val) (by have := HPL.out; (repeat (first | rw [List.length_append] | rw [List.length_cons] | rw [List.length_nil] | rw [beL_len] | rw [baL])); omega) (Nat.le_trans hBV hHeld.1.size) ?_
        rintro v111 w111 ⟨o, _, g, r⟩
        have hG111 := grw_step hHeld.1 R110.out g
        have R111 : Hid (OwnR V r0 v111) := Lib.hid (R110.out.next hHeld.1.size r)
        have O111 := Lib.hid o
        clear o g r
        refine hK.out _ _ ?sset12 (fun hHeld => ?_)
        case sset12 => (exact KS5.out _ hG111)
        clear hK K
        try simp only [Act.put, List.setIfInBounds_toArray, List.set_cons_zero, List.set_cons_succ]
        refine wpAnyH_take (i := 12) (oi := ⟨some 3, _, _, _, _, _⟩) (v := ?vvet13) rfl (by kernel_rfl) (by kernel_rfl) (by kernel_rfl) (fun _ _ _ h => h) (Or.inl ⟨by rfl, ?yyet13⟩) hHeld ?rret13
        case yyet13 => (intro wq hSw; (try dsimp only at hSw); go_simp; first | done | with_reducible rfl)
        simp only [Act.put, List.setIfInBounds_toArray, List.set_cons_zero, List.set_cons_succ]
        refine wpAnyH_done (by kernel_rfl) ?_ _
        clear hHeld
        go_wp2_with fail
        exact ⟨⟨k + 1, _, by omega, by go_num, rfl, Lib.hid (by rw [HNX.out]; simpa [List.append_assoc] using O111.out), Lib.hid (HR.out.step (Nat.le_trans hgr.size (by rw [HZV.out]; omega)) (by rw [HR0.out]; exact R111.out)), grw_step (grw_below2 hgr HBX.out) HR.out (by rw [HR0.out]; exact hG111)⟩, by simp [intOf]; omega⟩
    · obtain rfl : k = ws.length := by omega
      have HE : Hid (headB st ws.length ++ (ws.take ws.length).flatMap wrB = bodyL st ws) := Lib.hid (by rw [HBD.out, List.take_length])
      obtain ⟨va, vc, hv⟩ := HO.out.shape
      subst hv
      go_wp2_with fail
      go_ret
      exact ⟨_, rfl, by rw [← HE.out]; exact HO.out.mono HBW.out.size, below_then HBW.out (grw_none hgr)⟩
end Go.Proofs.Ytcghgnncmnoalaa
namespace Go.Proofs.Ytcghgnncmnoalaa
open Go.RowKit Go.Maps

theorem own_ge {W w : World} {v : Value} {l : List UInt8} (h : BsO w W.heap.size v l) : OwnR W none v := by
  rcases h.2 with ⟨rfl, _⟩ | ⟨g, cap, cur, rfl, hg, _⟩
  · exact .inl rfl
  · exact .inr ⟨g, rfl, hg⟩
set_option maxRecDepth 100000 in
set_option maxHeartbeats 4000000 in
theorem r14body_any (st : Nat) (a : Option Addr) (cap : Nat) (ws : List Wr) (w : World) (h : WsV w a ws) (hs : st < 18446744073709551616) (hl : ws.length < 65536) (hb : badWs ws none = false) (hlen : (bodyL st ws).length ≤ 1000000) :
    Calls Try.prog 28 #[.agg #[.int .u64 st, .slice a ws.length cap]] w (OutPost w (bodyL st ws)) := by
  obtain ⟨W, hW⟩ : ∃ W, W = w.alloc (.cells #[.int .u64 st, .slice a ws.length cap] 35) := ⟨_, rfl⟩
  have hBW : Below w.heap.size w W := by rw [hW]; exact below_box w _
  have eW : W.heap[w.heap.size]? = some (.cells #[.int .u64 st, .slice a ws.length cap] 35) := by rw [hW]; exact heap_new w _
  have HEW := Lib.hid eW
  have HBW := Lib.hid hBW
  have HW := Lib.hid hW
  have HWS := Lib.hid (h.below hBW)
  have hlw : w.heap.size < W.heap.size := by rw [hW]; simp
  have HLW := Lib.hid hlw
  have HF : Hid (∀ x, x ∈ ws → x.Fine) := Lib.hid (fun x hx => Wr.fine (badWs_mem hb hx))
  have hfl : (ws.flatMap wrB).length + 10 ≤ 1000000 := by
    unfold bodyL at hlen
    rw [List.length_append, headB_len] at hlen
    omega
  have HFL := Lib.hid hfl
  have HBD : Hid (bodyL st ws = headB st ws.length ++ ws.flatMap wrB) := Lib.hid rfl
  have HHB : Hid (beL st 8 ++ beL ws.length 2 = headB st ws.length) := Lib.hid rfl
  have HHL := Lib.hid (headB_len st ws.length)
  have HS := Lib.hid hs
  have hw64 : IntKind.u64.wrap (ws.length : Int) = ws.length := by simp [IntKind.wrap, IntKind.bits, IntKind.signed]; omega
  have ks1 : ∀ w', W.grownBy w' none → (fun w' => W.grownBy w' none ∧ w'.cell? ⟨w.heap.size, 0, none⟩ = some (.int .u64 (st : Int)) ∧ w'.cell? ⟨w.heap.size, 1, none⟩ = some (.slice a ws.length cap)) w' := fun w' hb => by
    have e := (hb.block w.heap.size hlw (fun e => by cases e)).trans eW
    exact ⟨hb, by rw [cell_of_blk e]; rfl, by rw [cell_of_blk e]; rfl⟩
  have KS := Lib.hid ks1
  clear hW hBW eW h hb hs hlen hfl hlw ks1
  go_enter Try.func28, Try.ntmps28
  go_upto_region 1 with fail
  rw [← HW.out]
  refine wp_region_held_drew (S := (fun w' => W.grownBy w' none ∧ w'.cell? ⟨w.heap.size, 0, none⟩ = some (.int .u64 (st : Int)) ∧ w'.cell? ⟨w.heap.size, 1, none⟩ = some (.slice a ws.length cap))) (by kernel_rfl) (KS.out _ (grw_below (Below.refl _ _).drew _)) (fun hHeld => ?_)
  refine wpAnyH_take (i := 0) (oi := ⟨some 6, _, _, _, _, _⟩) (v := ?vvz1) rfl (by kernel_rfl) (by kernel_rfl) (by kernel_rfl) (fun _ _ _ h => h) (Or.inl ⟨by rfl, ?yyz1⟩) hHeld ?rrz1
  case yyz1 => (intro wq hSw; (try dsimp only at hSw); go_simp; first | done | with_reducible rfl)
  simp only [Act.put, List.setIfInBounds_toArray, List.set_cons_zero, List.set_cons_succ]
  refine wpAnyH_take (i := 1) (oi := ⟨some 7, _, _, _, _, _⟩) (v := ?vvz2) rfl (by kernel_rfl) (by kernel_rfl) (by kernel_rfl) (fun _ _ _ h => h) (Or.inl ⟨by rfl, ?yyz2⟩) hHeld ?rrz2
  case yyz2 => (intro wq hSw; (try dsimp only at hSw); go_simp; first | done | with_reducible rfl)
  simp only [Act.put, List.setIfInBounds_toArray, List.set_cons_zero, List.set_cons_succ]
  refine wpAnyH_take (i := 3) (oi := ⟨some 9, _, _, _, _, _⟩) (v := ?vvz3) rfl (by kernel_rfl) (by kernel_rfl) (by kernel_rfl) (fun _ _ _ h => h) (Or.inl ⟨by rfl, ?yyz3⟩) hHeld ?rrz3
  case yyz3 => (intro wq hSw; (try dsimp only at hSw); go_simp; first | done | with_reducible rfl)
  simp only [Act.put, List.setIfInBounds_toArray, List.set_cons_zero, List.set_cons_succ]
  refine wpAnyH_take (i := 4) (oi := ⟨some 10, _, _, _, _, _⟩) (v := ?vvz4) rfl (by kernel_rfl) (by kernel_rfl) (by kernel_rfl) (fun _ _ _ h => h) (Or.inl ⟨by rfl, ?yyz4⟩) hHeld ?rrz4
  case yyz4 => (intro wq hSw; (try dsimp only at hSw); go_simp; first | done | with_reducible rfl)
  simp only [Act.put, List.setIfInBounds_toArray, List.set_cons_zero, List.set_cons_succ]
  refine wpAnyH_take (i := 5) (oi := ⟨some 11, _, _, _, _, _⟩) (v := ?vvz5) rfl (by kernel_rfl) (by kernel_rfl) (by kernel_rfl) (fun _ _ _ h => h) (Or.inl ⟨by rfl, ?yyz5⟩) hHeld ?rrz5
  case yyz5 => (intro wq hSw; (try dsimp only at hSw); go_simp; first | done | with_reducible rfl)
  simp only [Act.put, List.setIfInBounds_toArray, List.set_cons_zero, List.set_cons_succ]
  refine wpAnyH_take (i := 6) (oi := ⟨some 12, _, _, _, _, _⟩) (v := ?vvz6) rfl (by kernel_rfl) (by kernel_rfl) (by kernel_rfl) (fun _ _ _ h => h) (Or.inl ⟨by rfl, ?yyz6⟩) hHeld ?rrz6
  case yyz6 => (intro wq hSw; (try dsimp only at hSw); go_simp; first | done | with_reducible rfl)
  simp only [Act.put, List.setIfInBounds_toArray, List.set_cons_zero, List.set_cons_succ]
  refine wpAnyH_ready (rs := [2]) (by kernel_rfl) (by simp) ?_
  refine AllReadyH.cons (o := ⟨some 8, _, _, _, _, _⟩) rfl (fun K hK => ?_) AllReadyH.nil
  go_simp
  refine (r14num_any st 8 _ HS.out (by omega)).mono ?_
  rintro e w1 ⟨v1, rfl, o1, b1⟩
  have hG1 := grw_below2 hHeld.1 b1
  have O1 := Lib.hid (o1.mono hHeld.1.size)
  clear o1 b1
  go_wp2_with fail
  refine hK.out _ _ ?ssz7 (fun hHeld => ?_)
  case ssz7 => (exact KS.out _ hG1)
  clear hK K
  try simp only [Act.put, List.setIfInBounds_toArray, List.set_cons_zero, List.set_cons_succ]
  refine wpAnyH_ready (rs := [7]) (by kernel_rfl) (by simp) ?_
  refine AllReadyH.cons (o := ⟨some 13, _, _, _, _, _⟩) rfl (fun K hK => ?_) AllReadyH.nil
  go_simp
  refine (r14num_any ws.length 2 _ (by omega) (by omega)).mono ?_
  rintro e w2 ⟨v2, rfl, o2, b2⟩
  have hG2 := grw_below2 hG1 b2
  obtain ⟨gn, cn, rfl, _, atn⟩ := o2.at' (by simp [beL])
  have ATN := Lib.hid atn
  replace O1 := Lib.hid (O1.out.below b2)
  clear o2 b2 atn
  go_wp2_with fail
  refine hK.out _ _ ?ssz8 (fun hHeld => ?_)
  case ssz8 => (exact KS.out _ hG2)
  clear hK K
  try simp only [Act.put, List.setIfInBounds_toArray, List.set_cons_zero, List.set_cons_succ]
  refine wpAnyH_ready (rs := [8]) (by kernel_rfl) (by simp) ?_
  refine AllReadyH.cons (o := ⟨some 14, _, _, _, _, _⟩) rfl (fun K hK => ?_) AllReadyH.nil
  refine step_appX _ rfl (.tmp 8) (.tmp 13) 22 rfl W.heap.size _ _ rfl O1.out (.slice (some ⟨gn, 0, none⟩) (beL ws.length 2).length cn) (beL ws.length 2).length (beL ws.length 2) rfl rfl (BsV.src (fun _ => ⟨gn, 0, rfl, ATN.out⟩) cn) (by simp [beL_len]) hG2.size ?_
  rintro v3 w3 ⟨o3, b3, _, _⟩
  have hG3 : W.grownBy w3 none := grw_below ((grw_none hG2).trans b3) none
  rw [HHB.out] at o3
  have O3 := Lib.hid o3
  clear o3 b3 O1
  refine hK.out _ _ ?ssz9 (fun hHeld => ?_)
  case ssz9 => (exact KS.out _ hG3)
  clear hK K
  try simp only [Act.put, List.setIfInBounds_toArray, List.set_cons_zero, List.set_cons_succ]
  refine wpAnyH_take (i := 9) (oi := ⟨some 3, _, _, _, _, _⟩) (v := ?vvz10) rfl (by kernel_rfl) (by kernel_rfl) (by kernel_rfl) (fun _ _ _ h => h) (Or.inl ⟨by rfl, ?yyz10⟩) hHeld ?rrz10
  case yyz10 => (intro wq hSw; (try dsimp only at hSw); go_simp; first | done | with_reducible rfl)
  simp only [Act.put, List.setIfInBounds_toArray, List.set_cons_zero, List.set_cons_succ]
  refine wpAnyH_done (by kernel_rfl) ?_ _
  clear hHeld
  obtain ⟨_, g0, g1⟩ := KS.out _ hG3
  go_wp2_with fail
  clear g0 g1
  go_loopw [3, 4] (fun bb i wr => ∃ (k : Nat) (v0 : Value), k ≤ ws.length ∧ i = .int .i64 k ∧ v0 = bb ∧ Hid (BsO wr W.heap.size bb (headB st ws.length ++ (ws.take k).flatMap wrB)) ∧ Hid (OwnR W none bb) ∧ W.grownBy wr none) (fun _ i _ => ws.length - (intOf i).toNat)
  case atStart => exact ⟨0, _, by omega, rfl, rfl, Lib.hid (by simpa using O3.out), Lib.hid (own_ge O3.out), hG3⟩
  case round =>
    obtain ⟨k, v0, hk, rfl, rfl, HO, HR, hgr⟩ := hrel
    by_cases hlt : k < ws.length
    · obtain ⟨x, hx⟩ : ∃ x, ws[k]? = some x := ⟨_, List.getElem?_eq_getElem hlt⟩
      obtain ⟨b, off, rfl, hat⟩ := HWS.out (fun e => by rw [e] at hlt; simp at hlt)
      have hbw := grw_none hgr
      have hbwx := hbw
      obtain ⟨c0, c1, c2, c3, c4, c5⟩ := (hat.below hbw).six hx
      obtain ⟨⟨kn, hkn, lkn⟩, ⟨an, han, lan⟩, ⟨bn, hbn, lbn⟩, lks, lval⟩ := HF.out x (List.mem_of_getElem? hx)
      have hfl := flat_len hx
      rw [wrB_len] at hfl
      obtain ⟨⟨⟨kd, ka, kb, ks⟩, val, has⟩, hxx⟩ : ∃ y, y = x := ⟨_, rfl⟩
      subst hxx
      simp only [] at hkn han hbn
      subst hkn han hbn
      simp only [] at c0 c1 c2 c3 c4 c5 lks lval hfl
      obtain ⟨P, hP⟩ : ∃ P, headB st ws.length ++ (ws.take k).flatMap wrB = P := ⟨_, rfl⟩
      have HPL : Hid (P.length + ks.size + val.size + 16 ≤ 1000000) := Lib.hid (by rw [← hP, List.length_append, HHL.out]; have := HFL.out; omega)
      have HX := Lib.hid hx
      rw [hP] at HO
      have HP := Lib.hid hP
      obtain ⟨V, hV⟩ : ∃ V, V = wr.alloc (.cells #[.int .i64 (kn : Int), .int .i64 (an : Int), .int .i64 (bn : Int), .string ks, .string val, .bool has] 80) := ⟨_, rfl⟩
      have eV : V.heap[wr.heap.size]? = some (.cells #[.int .i64 (kn : Int), .int .i64 (an : Int), .int .i64 (bn : Int), .string ks, .string val, .bool has] 80) := by rw [hV]; exact heap_new wr _
      have bV : Below wr.heap.size wr V := by rw [hV]; exact below_box wr _
      have zV : V.heap.size = wr.heap.size + 1 := by rw [hV]; simp
      have HV := Lib.hid hV
      have HBX := Lib.hid bV
      have HZV := Lib.hid zV
      obtain ⟨r0, hr0⟩ : ∃ r, v0.ownBlock = r := ⟨_, rfl⟩
      have HR0 := Lib.hid hr0
      have O0 := Lib.hid (HO.out.below bV)
      have R0 : Hid (OwnR V r0 v0) := Lib.hid (.inl hr0)
      have hG0 := grw_refl V r0
      have hBV : W.heap.size ≤ V.heap.size := by have := hgr.size; omega
      have ks5 : ∀ w', V.grownBy w' r0 → (fun w' => V.grownBy w' r0 ∧ w'.cell? ⟨wr.heap.size, 0, none⟩ = some (.int .i64 (kn : Int)) ∧ w'.cell? ⟨wr.heap.size, 1, none⟩ = some (.int .i64 (an : Int)) ∧ w'.cell? ⟨wr.heap.size, 2, none⟩ = some (.int .i64 (bn : Int)) ∧ w'.cell? ⟨wr.heap.size, 3, none⟩ = some (.string ks) ∧ w'.cell? ⟨wr.heap.size, 4, none⟩ = some (.string val) ∧ w'.cell? ⟨wr.heap.size, 5, none⟩ = some (.bool has)) w' := fun w' hb => by
        have e := (hb.block wr.heap.size (by omega) (fun e => by
          have := (HO.out.lt _ (hr0.trans e.symm)).2
          omega)).trans eV
        exact ⟨hb, by rw [cell_of_blk e]; rfl, by rw [cell_of_blk e]; rfl, by rw [cell_of_blk e]; rfl, by rw [cell_of_blk e]; rfl, by rw [cell_of_blk e]; rfl, by rw [cell_of_blk e]; rfl⟩
      have KS5 := Lib.hid ks5
      have hw8 : IntKind.u8.wrap (kn : Int) = kn := by simp [IntKind.wrap, IntKind.bits, IntKind.signed]; omega
      have hwa : IntKind.u64.wrap (an : Int) = an := by simp [IntKind.wrap, IntKind.bits, IntKind.signed]; omega
      have hwb : IntKind.u64.wrap (bn : Int) = bn := by simp [IntKind.wrap, IntKind.bits, IntKind.signed]; omega
      have hws : IntKind.u64.wrap (ks.size : Int) = ks.size := by simp [IntKind.wrap, IntKind.bits, IntKind.signed]; omega
      have hwv : IntKind.u64.wrap (val.size : Int) = val.size := by simp [IntKind.wrap, IntKind.bits, IntKind.signed]; omega
      clear hV eV bV zV hr0 hx hat hbw hP ks5 hfl
      have er := cell_of_blk ((hbwx.block _ HLW.out).trans HEW.out) 1
      simp at er
      go_upto_region 6 with fail
      rw [← HV.out]
      clear c0 c1 c2 c3 c4 c5 er
      have hGc := hG0
      obtain ⟨_, s0, s1, s2, s3, s4, s5⟩ := KS5.out _ hG0
      have NX : Hid (∀ u : World, Src Try.prog 1 22 (.slice (some ⟨u.heap.size, 0, none⟩) 1 1) 1 ([UInt8.ofNat kn].map bv) (u.alloc (.cells #[.int .u8 (kn : Int)] 5))) := Lib.hid (fun u => (newX (w := u) (b := UInt8.ofNat kn) (by simp [bv]; omega)).src 1)
      have hGc := grw_below2 hG0 (below_box V (.cells #[.int .u8 (kn : Int)] 5))
      go_wp2_with (at_builtin; refine wpList_appX _ rfl (.tmp 27) (.tmp 32) 22 rfl W.heap.size _ _ rfl (O0.out.alloc _) (.slice (some ⟨V.heap.size, 0, none⟩) 1 1) (1) ([UInt8.ofNat kn]) rfl rfl (NX.out V) (by have := HPL.out; (repeat (first | rw [List.length_append] | rw [List.length_cons] | rw [List.length_nil] | rw [beL_len] | rw [baL])); omega) (Nat.le_trans hBV hGc.size) ?_; rintro v101 w101 ⟨o, _, g, r⟩; have hG101 := grw_step hGc R0.out g; have R101 : Hid (OwnR V r0 v101) := Lib.hid (R0.out.next hGc.size r); have O101 := Lib.hid o; clear o g r; clear s0 s1 s2 s3 s4 s5; obtain ⟨hGc, s0, s1, s2, s3, s4, s5⟩ := KS5.out _ hG101)
      refine (r14num_any an 5 _ (by omega) (by omega)).mono ?_
      rintro e wn ⟨vn, rfl, on, bn'⟩
      replace hGc := grw_below2 hGc bn'
      obtain ⟨gn, cn, rfl, _, atn⟩ := on.at' (by simp [beL])
      have ATN := Lib.hid atn
      replace O101 := Lib.hid (O101.out.below bn')
      clear on bn' atn s0 s1 s2 s3 s4 s5
      obtain ⟨_, s0, s1, s2, s3, s4, s5⟩ := KS5.out _ hGc
      go_wp2_with (at_builtin; refine wpList_appX _ rfl (.tmp 34) (.tmp 39) 22 rfl W.heap.size _ _ rfl (O101.out) (.slice (some ⟨gn, 0, none⟩) (beL an 5).length cn) ((beL an 5).length) (beL an 5) rfl rfl (BsV.src (fun _ => ⟨gn, 0, rfl, ATN.out⟩) cn) (by have := HPL.out; (repeat (first | rw [List.length_append] | rw [List.length_cons] | rw [List.length_nil] | rw [beL_len] | rw [baL])); omega) (Nat.le_trans hBV hGc.size) ?_; rintro v102 w102 ⟨o, _, g, r⟩; have hG102 := grw_step hGc R101.out g; have R102 : Hid (OwnR V r0 v102) := Lib.hid (R101.out.next hGc.size r); have O102 := Lib.hid o; clear o g r; obtain ⟨hGc, s0, s1, s2, s3, s4, s5⟩ := KS5.out _ hG102)
      refine (r14num_any bn 5 _ (by omega) (by omega)).mono ?_
      rintro e wn ⟨vn, rfl, on, bn'⟩
      replace hGc := grw_below2 hGc bn'
      obtain ⟨gn, cn, rfl, _, atn⟩ := on.at' (by simp [beL])
      have ATN := Lib.hid atn
      replace O102 := Lib.hid (O102.out.below bn')
      clear on bn' atn s0 s1 s2 s3 s4 s5
      obtain ⟨_, s0, s1, s2, s3, s4, s5⟩ := KS5.out _ hGc
      go_wp2_with (at_builtin; refine wpList_appX _ rfl (.tmp 41) (.tmp 46) 22 rfl W.heap.size _ _ rfl (O102.out) (.slice (some ⟨gn, 0, none⟩) (beL bn 5).length cn) ((beL bn 5).length) (beL bn 5) rfl rfl (BsV.src (fun _ => ⟨gn, 0, rfl, ATN.out⟩) cn) (by have := HPL.out; (repeat (first | rw [List.length_append] | rw [List.length_cons] | rw [List.length_nil] | rw [beL_len] | rw [baL])); omega) (Nat.le_trans hBV hGc.size) ?_; rintro v103 w103 ⟨o, _, g, r⟩; have hG103 := grw_step hGc R102.out g; have R103 : Hid (OwnR V r0 v103) := Lib.hid (R102.out.next hGc.size r); have O103 := Lib.hid o; clear o g r; obtain ⟨hGc, s0, s1, s2, s3, s4, s5⟩ := KS5.out _ hG103)
      refine (r14num_any ks.size 2 _ (by omega) (by omega)).mono ?_
      rintro e wn ⟨vn, rfl, on, bn'⟩
      replace hGc := grw_below2 hGc bn'
      obtain ⟨gn, cn, rfl, _, atn⟩ := on.at' (by simp [beL])
      have ATN := Lib.hid atn
      replace O103 := Lib.hid (O103.out.below bn')
      clear on bn' atn s0 s1 s2 s3 s4 s5
      obtain ⟨_, s0, s1, s2, s3, s4, s5⟩ := KS5.out _ hGc
      go_upto_region 10 with (first | (at_builtin; refine wpList_appX _ rfl (.tmp 48) (.tmp 54) 22 rfl W.heap.size _ _ rfl (O103.out) (.slice (some ⟨gn, 0, none⟩) (beL ks.size 2).length cn) ((beL ks.size 2).length) (beL ks.size 2) rfl rfl (BsV.src (fun _ => ⟨gn, 0, rfl, ATN.out⟩) cn) (by have := HPL.out; (repeat (first | rw [List.length_append] | rw [List.length_cons] | rw [List.length_nil] | rw [beL_len] | rw [baL])); omega) (Nat.le_trans hBV hGc.size) ?_; rintro v104 w104 ⟨o, _, g, r⟩; have hG104 := grw_step hGc R103.out g; have R104 : Hid (OwnR V r0 v104) := Lib.hid (R103.out.next hGc.size r); have O104 := Lib.hid o; clear o g r; obtain ⟨hGc, s0, s1, s2, s3, s4, s5⟩ := KS5.out _ hG104) | fail)
      go_upto_region 11 with (first | (at_builtin; refine wpList_appX _ rfl (.tmp 56) (.tmp 59) 9 rfl W.heap.size _ _ rfl (O104.out) (.string ks) (ks.size) (ks.data.toList) rfl rfl (src_str ks) (by have := HPL.out; (repeat (first | rw [List.length_append] | rw [List.length_cons] | rw [List.length_nil] | rw [beL_len] | rw [baL])); omega) (Nat.le_trans hBV hGc.size) ?_; rintro v105 w105 ⟨o, _, g, r⟩; have hG105 := grw_step hGc R104.out g; have R105 : Hid (OwnR V r0 v105) := Lib.hid (R104.out.next hGc.size r); have O105 := Lib.hid o; clear o g r; obtain ⟨hGc, s0, s1, s2, s3, s4, s5⟩ := KS5.out _ hG105) | fail)
      cases has
      · have HNX : Hid (headB st ws.length ++ (ws.take (k + 1)).flatMap wrB = P ++ (UInt8.ofNat kn :: (beL an 5 ++ (beL bn 5 ++ (beL ks.size 2 ++ (ks.data.toList ++ (0 :: (beL val.size 2 ++ val.data.toList)))))))) := Lib.hid (by rw [flat_take HX.out, ← List.append_assoc, HP.out]; rfl)
        have NX : Hid (∀ u : World, Src Try.prog 1 22 (.slice (some ⟨u.heap.size, 0, none⟩) 1 1) 1 ([(0 : UInt8)].map bv) (u.alloc (.cells #[.int .u8 0] 5))) := Lib.hid (fun u => (newX (w := u) (b := 0) rfl).src 1)
        have hGc := grw_below2 hGc (below_box w105 (.cells #[.int .u8 0] 5))
        go_upto_region 14 with (first | (at_builtin; refine wpList_appX _ rfl (.tmp 66) (.tmp 67) 22 rfl W.heap.size _ _ rfl (O105.out.alloc _) (.slice (some ⟨w105.heap.size, 0, none⟩) 1 1) (1) ([(0 : UInt8)]) rfl rfl (NX.out w105) (by have := HPL.out; (repeat (first | rw [List.length_append] | rw [List.length_cons] | rw [List.length_nil] | rw [beL_len] | rw [baL])); omega) (Nat.le_trans hBV hGc.size) ?_; rintro v106 w106 ⟨o, _, g, r⟩; have hG106 := grw_step hGc R105.out g; have R106 : Hid (OwnR V r0 v106) := Lib.hid (R105.out.next hGc.size r); have O106 := Lib.hid o; clear o g r; clear s0 s1 s2 s3 s4 s5; obtain ⟨hGc, s0, s1, s2, s3, s4, s5⟩ := KS5.out _ hG106) | fail)
        go_wp2_with fail
        refine (r14num_any val.size 2 _ (by omega) (by omega)).mono ?_
        rintro e wn ⟨vn, rfl, on, bn'⟩
        replace hGc := grw_below2 hGc bn'
        obtain ⟨gn, cn, rfl, _, atn⟩ := on.at' (by simp [beL])
        have ATN := Lib.hid atn
        replace O106 := Lib.hid (O106.out.below bn')
        clear on bn' atn s0 s1 s2 s3 s4 s5
        obtain ⟨_, s0, s1, s2, s3, s4, s5⟩ := KS5.out _ hGc
        go_upto_region 15 with (first | (at_builtin; refine wpList_appX _ rfl (.tmp 69) (.tmp 74) 22 rfl W.heap.size _ _ rfl (O106.out) (.slice (some ⟨gn, 0, none⟩) (beL val.size 2).length cn) ((beL val.size 2).length) (beL val.size 2) rfl rfl (BsV.src (fun _ => ⟨gn, 0, rfl, ATN.out⟩) cn) (by have := HPL.out; (repeat (first | rw [List.length_append] | rw [List.length_cons] | rw [List.length_nil] | rw [beL_len] | rw [baL])); omega) (Nat.le_trans hBV hGc.size) ?_; rintro v107 w107 ⟨o, _, g, r⟩; have hG107 := grw_step hGc R106.out g; have R107 : Hid (OwnR V r0 v107) := Lib.hid (R106.out.next hGc.size r); have O107 := Lib.hid o; clear o g r; obtain ⟨hGc, s0, s1, s2, s3, s4, s5⟩ := KS5.out _ hG107) | fail)
        go_wp2_with (first | (at_builtin; refine wpList_appX _ rfl (.tmp 76) (.tmp 78) 9 rfl W.heap.size _ _ rfl (O107.out) (.string val) (val.size) (val.data.toList) rfl rfl (src_str val) (by have := HPL.out; (repeat (first | rw [List.length_append] | rw [List.length_cons] | rw [List.length_nil] | rw [beL_len] | rw [baL])); omega) (Nat.le_trans hBV hGc.size) ?_; rintro v108 w108 ⟨o, _, g, r⟩; have hG108 := grw_step hGc R107.out g; have R108 : Hid (OwnR V r0 v108) := Lib.hid (R107.out.next hGc.size r); have O108 := Lib.hid o; clear o g r; obtain ⟨hGc, s0, s1, s2, s3, s4, s5⟩ := KS5.out _ hG108) | fail)
        exact ⟨⟨k + 1, _, by omega, by go_num, rfl, Lib.hid (by rw [HNX.out]; simpa [List.append_assoc] using O108.out), Lib.hid (HR.out.step (Nat.le_trans hgr.size (by rw [HZV.out]; omega)) (by rw [HR0.out]; exact R108.out)), grw_step (grw_below2 hgr HBX.out) HR.out (by rw [HR0.out]; exact hG108)⟩, by simp [intOf]; omega⟩
      · have HNX : Hid (headB st ws.length ++ (ws.take (k + 1)).flatMap wrB = P ++ (UInt8.ofNat kn :: (beL an 5 ++ (beL bn 5 ++ (beL ks.size 2 ++ (ks.data.toList ++ (1 :: (beL val.size 2 ++ val.data.toList)))))))) := Lib.hid (by rw [flat_take HX.out, ← List.append_assoc, HP.out]; rfl)
        have NX : Hid (∀ u : World, Src Try.prog 1 22 (.slice (some ⟨u.heap.size, 0, none⟩) 1 1) 1 ([(1 : UInt8)].map bv) (u.alloc (.cells #[.int .u8 1] 5))) := Lib.hid (fun u => (newX (w := u) (b := 1) rfl).src 1)
        have hGc := grw_below2 hGc (below_box w105 (.cells #[.int .u8 1] 5))
        go_upto_region 14 with (first | (at_builtin; refine wpList_appX _ rfl (.tmp 63) (.tmp 64) 22 rfl W.heap.size _ _ rfl (O105.out.alloc _) (.slice (some ⟨w105.heap.size, 0, none⟩) 1 1) (1) ([(1 : UInt8)]) rfl rfl (NX.out w105) (by have := HPL.out; (repeat (first | rw [List.length_append] | rw [List.length_cons] | rw [List.length_nil] | rw [beL_len] | rw [baL])); omega) (Nat.le_trans hBV hGc.size) ?_; rintro v109 w109 ⟨o, _, g, r⟩; have hG109 := grw_step hGc R105.out g; have R109 : Hid (OwnR V r0 v109) := Lib.hid (R105.out.next hGc.size r); have O109 := Lib.hid o; clear o g r; clear s0 s1 s2 s3 s4 s5; obtain ⟨hGc, s0, s1, s2, s3, s4, s5⟩ := KS5.out _ hG109) | fail)
        go_wp2_with fail
        refine (r14num_any val.size 2 _ (by omega) (by omega)).mono ?_
        rintro e wn ⟨vn, rfl, on, bn'⟩
        replace hGc := grw_below2 hGc bn'
        obtain ⟨gn, cn, rfl, _, atn⟩ := on.at' (by simp [beL])
        have ATN := Lib.hid atn
        replace O109 := Lib.hid (O109.out.below bn')
        clear on bn' atn s0 s1 s2 s3 s4 s5
        obtain ⟨_, s0, s1, s2, s3, s4, s5⟩ := KS5.out _ hGc
        go_upto_region 15 with (first | (at_builtin; refine wpList_appX _ rfl (.tmp 69) (.tmp 74) 22 rfl W.heap.size _ _ rfl (O109.out) (.slice (some ⟨gn, 0, none⟩) (beL val.size 2).length cn) ((beL val.size 2).length) (beL val.size 2) rfl rfl (BsV.src (fun _ => ⟨gn, 0, rfl, ATN.out⟩) cn) (by have := HPL.out; (repeat (first | rw [List.length_append] | rw [List.length_cons] | rw [List.length_nil] | rw [beL_len] | rw [baL])); omega) (Nat.le_trans hBV hGc.size) ?_; rintro v110 w110 ⟨o, _, g, r⟩; have hG110 := grw_step hGc R109.out g; have R110 : Hid (OwnR V r0 v110) := Lib.hid (R109.out.next hGc.size r); have O110 := Lib.hid o; clear o g r; obtain ⟨hGc, s0, s1, s2, s3, s4, s5⟩ := KS5.out _ hG110) | fail)
        go_wp2_with (first | (at_builtin; refine wpList_appX _ rfl (.tmp 76) (.tmp 78) 9 rfl W.heap.size _ _ rfl (O110.out) (.string val) (val.size) (val.data.toList) rfl rfl (src_str val) (by have := HPL.out; (repeat (first | rw [List.length_append] | rw [List.length_cons] | rw [List.length_nil] | rw [beL_len] | rw [baL])); omega) (Nat.le_trans hBV hGc.size) ?_; rintro v111 w111 ⟨o, _, g, r⟩; have hG111 := grw_step hGc R110.out g; have R111 : Hid (OwnR V r0 v111) := Lib.hid (R110.out.next hGc.size r); have O111 := Lib.hid o; clear o g r; obtain ⟨hGc, s0, s1, s2, s3, s4, s5⟩ := KS5.out _ hG111) | fail)
        exact ⟨⟨k + 1, _, by omega, by go_num, rfl, Lib.hid (by rw [HNX.out]; simpa [List.append_assoc] using O111.out), Lib.hid (HR.out.step (Nat.le_trans hgr.size (by rw [HZV.out]; omega)) (by rw [HR0.out]; exact R111.out)), grw_step (grw_below2 hgr HBX.out) HR.out (by rw [HR0.out]; exact hG111)⟩, by simp [intOf]; omega⟩
    · obtain rfl : k = ws.length := by omega
      have HE : Hid (headB st ws.length ++ (ws.take ws.length).flatMap wrB = bodyL st ws) := Lib.hid (by rw [HBD.out, List.take_length])
      obtain ⟨va, vc, hv⟩ := HO.out.shape
      subst hv
      have hbw := grw_none hgr
      have er := cell_of_blk ((hbw.block _ HLW.out).trans HEW.out) 1
      simp at er
      go_wp2_with fail
      go_ret
      exact ⟨_, rfl, by rw [← HE.out]; exact HO.out.mono HBW.out.size, below_then HBW.out hbw⟩
end Go.Proofs.Ytcghgnncmnoalaa
namespace Go.Proofs.Ytcghgnncmnoalaa
open Go.RowKit Go.Maps

theorem in_any' (n t : Int) (w : World) : Calls Try.prog 87 #[.int .i64 n, .int .i64 t] w fun e w' => e = .returned (.bool (inB n t)) ∧ w = w' := (in_any n t w).mono fun _ _ h => ⟨h.1, h.2.symm⟩
theorem BsO.bsV {w : World} {B : Nat} {a : Option Addr} {n cap : Nat} {l : List UInt8} (h : BsO w B (.slice a n cap) l) : BsV w a l := fun hn => by
  obtain ⟨g, c, hv, _, hat⟩ := h.at' hn
  injection hv with h1 h2 h3
  exact ⟨g, 0, h1, hat⟩
def CommitPost (w : World) (r : Rc) (e : Ending) (w' : World) : Prop :=
  Below w.heap.size w w' ∧ ((r.wrong = true ∧ e = .returned (.tuple #[.slice none 0 0, .int .i64 2])) ∨ (r.wrong = false ∧ ∃ v, e = .returned (.tuple #[v, .int .i64 0]) ∧ BsO w' w.heap.size v (packL 1 (bodyL r.stamp r.ws))))
set_option maxRecDepth 100000 in
set_option maxHeartbeats 2000000 in
theorem commit_any (st : Nat) (a : Option Addr) (cap : Nat) (ws : List Wr) (w : World) (h : WsV w a ws) (hs : st < 18446744073709551616) (hl : ws.length ≤ 1000000) (hlen : (bodyL st ws).length ≤ 1000000) :
    Calls Try.prog 20 #[.agg #[.int .u64 st, .slice a ws.length cap]] w (CommitPost w ⟨st, ws⟩) := by
  obtain ⟨W, hW⟩ : ∃ W, W = w.alloc (.cells #[.int .u64 st, .slice a ws.length cap] 35) := ⟨_, rfl⟩
  have hBW : Below w.heap.size w W := by rw [hW]; exact below_box w _
  have eW : W.heap[w.heap.size]? = some (.cells #[.int .u64 st, .slice a ws.length cap] 35) := by rw [hW]; exact heap_new w _
  have HBW := Lib.hid hBW
  have HEW := Lib.hid eW
  have HW := Lib.hid hW
  have HWS := Lib.hid (h.below hBW)
  have hlw : w.heap.size < W.heap.size := by rw [hW]; simp
  have HLW := Lib.hid hlw
  obtain ⟨L, hL⟩ : ∃ L, bodyL st ws = L := ⟨_, rfl⟩
  have HL := Lib.hid hL
  have hlen2 := hlen
  rw [hL] at hlen2
  have HS := Lib.hid hs
  have HLN := Lib.hid hlen
  have g0 := cell_of_blk eW 0
  have g1 := cell_of_blk eW 1
  simp at g0 g1
  obtain ⟨q, hq⟩ : ∃ q, (⟨st, ws⟩ : Rc).wrong = q := ⟨_, rfl⟩
  have HQ := Lib.hid hq
  have HWF : Hid (q = false → badWs ws none = false ∧ ws.length < 65536) := Lib.hid (fun e => by
    rw [e] at hq
    unfold Rc.wrong at hq
    simp at hq
    exact ⟨hq.1, by omega⟩)
  clear hW hBW eW h hs hlen hL hq
  go_enter Try.func20, Try.ntmps20
  go_upto_region 1 with fail
  rw [← HW.out]
  go_wp2_with fail
  refine (wrong_any st a cap ws _ HWS.out HS.out hl).mono ?_
  rintro e w1 ⟨rfl, b1⟩
  rw [HQ.out]
  cases q
  · obtain ⟨hbw, hl2⟩ := HWF.out rfl
    have HBD := Lib.hid hbw
    have e1 := (b1.block _ hlw).trans HEW.out
    have HB1 := Lib.hid b1
    have HWS1 := Lib.hid (HWS.out.below b1)
    clear g0 g1
    have g0 := cell_of_blk e1 0
    have g1 := cell_of_blk e1 1
    simp at g0 g1
    clear e1 b1 hbw
    go_wp2_with fail
    refine (body_any st a cap ws _ HWS1.out HS.out hl2 HBD.out HLN.out).mono ?_
    rintro e w2 ⟨v, rfl, o2, b2⟩
    rw [HL.out] at o2
    obtain ⟨va, vc, rfl⟩ := o2.shape
    have BV := Lib.hid o2.bsV
    have HB2 := Lib.hid (below_then (below_then HBW.out HB1.out) b2)
    clear o2 g0 g1 b2
    go_wp2_with fail
    have eN := heap_new w2 (.cells #[.int .u8 1, .slice va L.length vc] 43)
    have bN := below_box w2 (.cells #[.int .u8 1, .slice va L.length vc] 43)
    refine (pack_any w2.heap.size 1 va vc L _ (cell_of_blk eN 0) (cell_of_blk eN 1) (BV.out.below bN) hlen2).mono ?_
    rintro e w3 ⟨v3, rfl, o3, b3⟩
    have HO3 : Hid (BsO w3 w.heap.size v3 (packL 1 (bodyL st ws))) := Lib.hid (by rw [HL.out]; exact o3.mono (below_then HB2.out bN).size)
    have HB3 := Lib.hid (below_then (below_then HB2.out bN) b3)
    clear eN bN b3 o3
    obtain ⟨va3, vc3, hv3⟩ := HO3.out.shape
    subst hv3
    go_wp2_with fail
    go_ret2
    exact ⟨HB3.out, .inr ⟨HQ.out, _, rfl, HO3.out⟩⟩
  · have HB1 := Lib.hid (below_then HBW.out b1)
    clear b1 g0 g1
    go_wp2_with fail
    go_ret2
    exact ⟨HB1.out, .inl ⟨HQ.out, rfl⟩⟩
/-- is a number an epoch? -/
def epB (n : Int) : Bool := inB n 2147483647
def MarkPost (w : World) (n : Int) (e : Ending) (w' : World) : Prop :=
  Below w.heap.size w w' ∧ ((epB n = false ∧ e = .returned (.tuple #[.slice none 0 0, .int .i64 2])) ∨ (epB n = true ∧ ∃ v, e = .returned (.tuple #[v, .int .i64 0]) ∧ BsO w' w.heap.size v (packL 2 (fourL n.toNat))))
theorem epB_nat {n : Int} (h : epB n = true) : ∃ k : Nat, n = k ∧ k < 2147483648 := by
  unfold epB inB at h
  simp at h
  exact ⟨n.toNat, by omega, by omega⟩
set_option maxRecDepth 100000 in
set_option maxHeartbeats 2000000 in
theorem mark_any (n : Int) (w : World) : Calls Try.prog 21 #[.int .i64 n] w (MarkPost w n) := by
  obtain ⟨q, hq⟩ : ∃ q, epB n = q := ⟨_, rfl⟩
  have HQ := Lib.hid hq
  cases q
  · clear hq
    go_enter Try.func21, Try.ntmps21
    go_wp2_with fail
    refine (in_any' _ _ _).mono ?_
    rintro e w1 ⟨rfl, rfl⟩
    rw [show inB n 2147483647 = false from HQ.out]
    go_wp2_with fail
    go_ret2
    exact ⟨Below.refl _ _, .inl ⟨HQ.out, rfl⟩⟩
  · obtain ⟨k, rfl, hk⟩ := epB_nat hq
    have hw64 : IntKind.u64.wrap (k : Int) = k := by simp [IntKind.wrap, IntKind.bits, IntKind.signed]; omega
    clear hq
    go_enter Try.func21, Try.ntmps21
    go_wp2_with fail
    refine (in_any' _ _ _).mono ?_
    rintro e w1 ⟨rfl, rfl⟩
    rw [show inB (k : Int) 2147483647 = true from HQ.out]
    go_wp2_with fail
    refine (lay_any w.heap.size (.slice none 0 0) [] k 4 _ (BsO.nil _ _) (Nat.le_refl _) (by simp) (by omega) (by omega)).mono ?_
    rintro e w2 ⟨v, rfl, o2, g2, _⟩
    have b2 : Below w.heap.size w w2 := grw_none g2
    rw [List.nil_append, beL_four] at o2
    obtain ⟨va, vc, rfl⟩ := o2.shape
    have BV := Lib.hid o2.bsV
    have HB2 := Lib.hid b2
    clear o2 g2 b2
    go_wp2_with fail
    have eN := heap_new w2 (.cells #[.int .u8 2, .slice va (fourL k).length vc] 43)
    have bN := below_box w2 (.cells #[.int .u8 2, .slice va (fourL k).length vc] 43)
    refine (pack_any w2.heap.size 2 va vc (fourL k) _ (cell_of_blk eN 0) (cell_of_blk eN 1) (BV.out.below bN) (by simp [fourL])).mono ?_
    rintro e w3 ⟨v3, rfl, o3, b3⟩
    have HO3 : Hid (BsO w3 w.heap.size v3 (packL 2 (fourL k))) := Lib.hid (o3.mono (below_then HB2.out bN).size)
    have HB3 := Lib.hid (below_then (below_then HB2.out bN) b3)
    clear eN bN b3 o3
    obtain ⟨va3, vc3, hv3⟩ := HO3.out.shape
    subst hv3
    go_wp2_with fail
    go_ret2
    exact ⟨HB3.out, .inr ⟨HQ.out, _, rfl, by rw [Int.toNat_natCast]; exact HO3.out⟩⟩
set_option maxRecDepth 100000 in
set_option maxHeartbeats 2000000 in
theorem r14mark_any (k : Nat) (w : World) (hk : k < 2147483648) : Calls Try.prog 29 #[.int .i64 k] w (OutPost w (packL 2 (fourL k))) := by
  have hw64 : IntKind.u64.wrap (k : Int) = k := by simp [IntKind.wrap, IntKind.bits, IntKind.signed]; omega
  go_enter Try.func29, Try.ntmps29
  go_wp2_with fail
  refine (r14num_any k 4 _ (by omega) (by omega)).mono ?_
  rintro e w2 ⟨v, rfl, o2, b2⟩
  rw [beL_four] at o2
  obtain ⟨va, vc, rfl⟩ := o2.shape
  have BV := Lib.hid o2.bsV
  have HB2 := Lib.hid b2
  clear o2 b2
  go_wp2_with fail
  refine (r8pack_any 2 va vc (fourL k) _ BV.out (by simp [fourL])).mono ?_
  rintro e w3 ⟨v3, rfl, o3, b3⟩
  have HO3 : Hid (BsO w3 w.heap.size v3 (packL 2 (fourL k))) := Lib.hid (o3.mono HB2.out.size)
  have HB3 := Lib.hid (below_then HB2.out b3)
  clear b3 o3
  obtain ⟨va3, vc3, hv3⟩ := HO3.out.shape
  subst hv3
  go_wp2_with fail
  go_ret
  exact ⟨_, rfl, HO3.out, HB3.out⟩
end Go.Proofs.Ytcghgnncmnoalaa
