/- cobwebref16.SameE of one edge beside itself; cobwebref03.Bytes. Conditions: each contract's own premises. -/
import Derived.Test.YtcafedfldmcbiaaWb26
namespace Go.Proofs.Ytcafedfldmcbiaa
open Go.RowKit Go.Maps Go.Lib

set_option maxRecDepth 100000 in
set_option maxHeartbeats 2000000 in
theorem sameE1 (A B : Nat) (id f t : Int) (l : ByteArray) (pa pb : Option Addr) (ca cb : Nat) (x : List Pr) (w : World)
    (hA : w.heap[A]? = some (.cells #[.int .i64 id, .string l, .int .i64 f, .int .i64 t, .slice pa x.length ca] 35 (0, 0))) (hB : w.heap[B]? = some (.cells #[.int .i64 id, .string l, .int .i64 f, .int .i64 t, .slice pb x.length cb] 35 (0, 0)))
    (ha : PsV w pa x) (hb : PsV w pb x) (hx : x.length ≤ 100000) :
    Calls Try.prog 32 #[.slice (some ⟨A, 0, none⟩) 1 1, .slice (some ⟨B, 0, none⟩) 1 1] w fun e w' => e = .returned (.bool true) ∧ ∃ n, w' = w.drewN n := by
  have lA := (Array.getElem?_eq_some_iff.1 hA).1
  have lB := (Array.getElem?_eq_some_iff.1 hB).1
  have a0 := cell_of_blk hA 0
  have a1 := cell_of_blk hA 1
  have a2 := cell_of_blk hA 2
  have a3 := cell_of_blk hA 3
  have a4 := cell_of_blk hA 4
  have b0 := cell_of_blk hB 0
  have b1 := cell_of_blk hB 1
  have b2 := cell_of_blk hB 2
  have b3 := cell_of_blk hB 3
  have b4 := cell_of_blk hB 4
  simp at a0 a1 a2 a3 a4 b0 b1 b2 b3 b4
  have HA := Lib.hid ha
  have HB := Lib.hid hb
  have HX := Lib.hid hx
  clear hA hB ha hb hx
  have q : ∀ n, Calls Try.prog 38 #[.slice pa x.length ca, .slice pb x.length cb] (w.drewN n) fun e w' => e = .returned (.bool true) ∧ ∃ m, w' = w.drewN m := fun n => by
    refine (same3_any pa pb ca cb x x (w.drewN n) (fun e => ?_) (fun e => ?_) HX.out).mono ?_
    · obtain ⟨b, o, h1, h2⟩ := HA.out e; exact ⟨b, o, h1, h2.of_block rfl⟩
    · obtain ⟨b, o, h1, h2⟩ := HB.out e; exact ⟨b, o, h1, h2.of_block rfl⟩
    · rintro e w' ⟨rfl, m, rfl⟩
      exact ⟨by rw [sameP_yes rfl], n + m, World.drewN_drewN _ _ _⟩
  have Q := Lib.hid q
  clear q
  go_enter Try.func32, Try.ntmps32
  go_wp2_with fail
  refine wp_loop_rounds 2 ?_
  rw [rounds_succ]
  go_wp2_with fail
  go_quiet ((go_at_call 38; exact Q.out _))
  go_wp2_with fail
  rw [rounds_succ]
  go_wp2_with fail
  go_ret
  exact ⟨rfl, _, rfl⟩
/-- 'append(b, s...)' of a text, b the call's own and not empty -/
theorem wpList_appS (w : World) {ops : Array Oper} {rest : List Oper} {o : Oper} {a : Act} {Q : Exit → Act → World → Prop} (hgd : o.guard = none) (s x : Operand)
    (ho : o.op = .call { callee := .builtin .append, args := #[s, x], argTypes := #[46, 9] }) (B : Nat) (v : Value) (l : List UInt8) (hs : a.eval s = v) (hown : BsO w B v l) (hne : l ≠ [])
    (t : ByteArray) (hx : a.eval x = .string t) (hlen : l.length + t.size ≤ 4000000) (hB : B ≤ w.heap.size)
    (h : ∀ v' w', BsO w' B v' (l ++ t.data.toList) → Below B w w' → w.grownBy w' v.ownBlock → (v'.ownBlock = v.ownBlock ∨ v'.ownBlock = some w.heap.size) → wpList Try.prog ops Q rest (a.put o.dst v') w') :
    wpList Try.prog ops Q (o :: rest) a w := by
  refine wpList_plain hgd fun K hK => ?_
  obtain ⟨v', w', hr, h2, h3, h4⟩ := run_appS w o.type B v l hown hne t hlen hB
  unfold Oper.wp execOp
  simp only [ho, resolve, invoke, builtin, Sem.run_bind, Sem.run_pure, Result.andThen_ok, List.map_toArray, List.map_cons, List.map_nil, hs, hx, hr]
  exact hK _ _ (h v' w' h2 (below_grown hown h3 hB) h3 h4)
set_option maxRecDepth 100000 in
set_option maxHeartbeats 2000000 in
theorem r3bytes_any (a : Option Addr) (cap : Nat) (ps : List Pr) (w : World) (h : PsV w a ps) (hr : rightPs ps = true) (hk : ∀ p ∈ ps, p.key.size ≤ 200) :
    Calls Try.prog 46 #[.slice a ps.length cap] w (RbPost w (Pr.all ps)) := by
  obtain ⟨ho, hl⟩ := rightPs_yes hr
  have HH := Lib.hid h
  have HR := Lib.hid hr
  have HK := Lib.hid hk
  have st : BsO (w.alloc (.cells #[.int .u8 (ps.length : Int)] 5)) w.heap.size (.slice (some ⟨w.heap.size, 0, none⟩) 1 1) [UInt8.ofNat ps.length] := BsO.one (Nat.le_refl _) (by unfold bv; congr 1; simp; omega)
  have ST := Lib.hid st
  clear ho hr hk h st
  go_enter Try.func46, Try.ntmps46
  go_wp2_with fail
  go_loopw [3, 4] (fun b i wr => ∃ j : Nat, j ≤ ps.length ∧ i = .int .i64 j ∧ BsO wr w.heap.size b (UInt8.ofNat ps.length :: psB (ps.take j)) ∧ Below w.heap.size w wr) (fun _ i _ => ps.length - (intOf i).toNat)
  case atStart => exact ⟨0, by omega, rfl, ST.out, below_box _ _⟩
  case round =>
    obtain ⟨j, hj, rfl, hO, hbel⟩ := hrel
    have hz := hbel.size
    by_cases hlt : j < ps.length
    · obtain ⟨p, hp⟩ : ∃ p, ps[j]? = some p := ⟨_, List.getElem?_eq_getElem hlt⟩
      obtain ⟨b, off, rfl, hat⟩ := (HH.out) (fun e => by rw [e] at hlt; simp at hlt)
      have hok := hat.ok p (List.mem_of_getElem? hp)
      have hks := HK.out p (List.mem_of_getElem? hp)
      have hlb := hat.lt
      have cs : ∀ w', Below w.heap.size w w' → _ := fun w' hb => (hat.of_block (hb.block b hlb)).cells j p hp
      have CS := Lib.hid cs
      have HTK := Lib.hid (psB_take hp)
      have HV := Lib.hid hok.v
      have RV := Lib.hid (right_mem HR.out (List.mem_of_getElem? hp)).1
      have hln : (psB (ps.take j)).length ≤ 2001 * 16 := by
        have h1 := psB_len (ps.take j) (fun q hq => ⟨by have := HK.out q (List.mem_of_mem_take hq); omega, (right_mem HR.out (List.mem_of_mem_take hq)).1⟩)
        have h2 : (ps.take j).length ≤ 16 := by rw [List.length_take]; omega
        omega
      have hbl := bytes_len RV.out
      have hlb' : b < wr.heap.size := by omega
      clear hat hok hp cs
      obtain ⟨q0, q1, q2, q3⟩ := CS.out wr hbel
      have HO := Lib.hid hO
      clear hO
      go_wp2_with (first
        | (at_builtin; refine wpList_appB _ rfl (.tmp 15) (.tmp 23) rfl w.heap.size _ _ rfl (HO.out.alloc _) ⟨wr.heap.size, 0, none⟩ 1 1 [UInt8.ofNat p.key.size] rfl rfl (new_one ?hxn) (by simp; omega) (by simp; omega) ?_; (case hxn => (unfold bv; congr 1; simp; omega)); intro v1 w1 o1 b1 g1 k1; have hB1 := (below_al hbel _).trans b1; obtain ⟨p0, p1, p2, p3⟩ := CS.out w1 hB1; have hl1 : b < w1.heap.size := (by have := hB1.size; omega); have O1 := Lib.hid o1; clear o1 b1 g1 k1)
        | (at_builtin; refine wpList_appS _ rfl (.tmp 25) (.tmp 30) rfl w.heap.size _ _ rfl O1.out (by simp) p.key rfl (by simp; omega) hB1.size ?_; intro v2 w2 o2 b2 g2 k2; have hB2 := hB1.trans b2; obtain ⟨r0, r1, r2, r3⟩ := CS.out w2 hB2; have hl2 : b < w2.heap.size := (by have := hB2.size; omega); have O2 := Lib.hid o2; clear o2 b2 g2 k2)
        | (go_at_call 15; refine (r2bytes_any p.v _ HV.out RV.out).mono ?_; rintro e w3 ⟨s3, rfl, o3, hb3⟩; obtain ⟨g3, c3, rfl, hg3, at3⟩ := o3.at' (bytes_ne p.v); have AT3 := Lib.hid at3; clear o3 at3)
        | (at_builtin; refine wpList_appB _ rfl (.tmp 32) (.tmp 38) rfl w.heap.size _ _ rfl (O2.out.below hb3) ⟨g3, 0, none⟩ _ _ p.v.bytes rfl rfl AT3.out.conv (by simp; omega) (below_then hB2 hb3).size ?_; intro v4 w4 o4 b4 g4 k4))
      refine ⟨⟨j + 1, by omega, by go_num, ?_, (below_then hB2 hb3).trans b4⟩, by simp [intOf]; omega⟩
      rw [HTK.out]
      simpa [Pr.bytes] using o4
    · obtain rfl : j = ps.length := by omega
      rw [List.take_length] at hO
      go_wp2_with fail
      go_ret
      exact ⟨_, rfl, hO, hbel⟩
end Go.Proofs.Ytcafedfldmcbiaa
