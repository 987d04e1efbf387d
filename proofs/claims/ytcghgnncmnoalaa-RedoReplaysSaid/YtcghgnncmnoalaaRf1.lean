/- cobwebref14.put. Conditions: each contract's own premises. -/
import Derived.Test.YtcghgnncmnoalaaAw
namespace Go.Proofs.Ytcghgnncmnoalaa
open Go.RowKit Go.Maps

/-- l[i:], l[:i] of records -/
def sfxR (a : Option Addr) (cap i : Nat) : Option Addr := if cap = i then a else a.map (·.add (i * 2))
theorem run_sliceR (a : Option Addr) (cap len i : Nat) (h1 : i ≤ len) (w : World) :
    (Instr.sliceAt 24 (.slice a len cap) (some (.int .i64 i)) none none).run Try.prog w = .ok (.slice (sfxR a cap i) (len - i) (cap - i)) w := by
  have hz : (i : Int) ≤ (len : Int) := by omega
  unfold sfxR
  simp [Instr.sliceAt, go_sem, Try.underlying24, hz]
theorem wpList_sliceR {ops : Array Oper} {rest : List Oper} {o : Oper} {act : Act} {w : World} {Q : Exit → Act → World → Prop} (hgd : o.guard = none) (x i : Operand) (ho : o.op = .slice 24 x (some i) none none)
    (sa : Option Addr) (len cap k : Nat) (hx : act.eval x = .slice sa len cap) (hi : act.eval i = .int .i64 (k : Int)) (h1 : k ≤ len) {a1 : Option Addr} {n1 c1 : Nat} (e1 : sfxR sa cap k = a1) (e2 : len - k = n1) (e3 : cap - k = c1)
    (hK : wpList Try.prog ops Q rest (act.put o.dst (.slice a1 n1 c1)) w) : wpList Try.prog ops Q (o :: rest) act w := by
  subst e1 e2 e3
  refine wpList_plain hgd fun K' hK' => ?_
  have hr := run_sliceR sa cap len k h1 w
  unfold Oper.wp execOp
  simp only [ho, Option.map_some, Option.map_none, hx, hi, Sem.run_bind, Sem.run_pure, hr, Result.andThen_ok]
  exact hK' _ _ hK
def pfxR (a : Option Addr) (cap : Nat) : Option Addr := if cap = 0 then a else a.map (·.add (0 * 2))
theorem run_sliceP (a : Option Addr) (cap len i : Nat) (h1 : i ≤ cap) (w : World) :
    (Instr.sliceAt 24 (.slice a len cap) none (some (.int .i64 i)) none).run Try.prog w = .ok (.slice (pfxR a cap) i cap) w := by
  have hz : (i : Int) ≤ (cap : Int) := by omega
  unfold pfxR
  simp [Instr.sliceAt, go_sem, Try.underlying24, hz]
theorem wpList_sliceP {ops : Array Oper} {rest : List Oper} {o : Oper} {act : Act} {w : World} {Q : Exit → Act → World → Prop} (hgd : o.guard = none) (x i : Operand) (ho : o.op = .slice 24 x none (some i) none)
    (sa : Option Addr) (len cap k : Nat) (hx : act.eval x = .slice sa len cap) (hi : act.eval i = .int .i64 (k : Int)) (h1 : k ≤ cap) {a1 : Option Addr} (e1 : pfxR sa cap = a1)
    (hK : wpList Try.prog ops Q rest (act.put o.dst (.slice a1 k cap)) w) : wpList Try.prog ops Q (o :: rest) act w := by
  subst e1
  refine wpList_plain hgd fun K' hK' => ?_
  have hr := run_sliceP sa cap len k h1 w
  unfold Oper.wp execOp
  simp only [ho, Option.map_some, Option.map_none, hx, hi, Sem.run_bind, Sem.run_pure, hr, Result.andThen_ok]
  exact hK' _ _ hK
theorem pfxR_V {w : World} {a : Option Addr} {l : List Rv} (h : RsV w a l) (cap : Nat) : RsV w (pfxR a cap) l := fun hn => by
  obtain ⟨b, off, e, hat⟩ := h hn
  refine ⟨b, off, ?_, hat⟩
  unfold pfxR
  rw [e]
  split <;> simp [Addr.add]
theorem pfxR_none {a : Option Addr} {cap : Nat} (h : a = none → cap = 0) (e : pfxR a cap = none) : cap = 0 := by
  unfold pfxR at e
  split at e
  · assumption
  · cases a with
    | none => exact h rfl
    | some a => cases e
theorem sfxR_none {a : Option Addr} {cap k : Nat} (h : a = none → cap = 0) (e : sfxR a cap k = none) : cap - k = 0 := by
  unfold sfxR at e
  split at e
  · omega
  · cases a with
    | none => have := h rfl; omega
    | some a => cases e
theorem RsV.row {w : World} {a : Option Addr} {l : List Rv} (h : RsV w a l) : kR.V w a l := fun hn => by
  obtain ⟨b, off, e, hat⟩ := h hn
  refine ⟨b, off, e, ⟨fun i x hx j u hu => ?_, hat.lt⟩⟩
  obtain ⟨_, h1, h2⟩ := hat.cells i x hx
  have hj : j = 0 ∨ j = 1 := by
    have := (List.getElem?_eq_some_iff.1 hu).1
    rw [kR.len] at this
    have : j < 2 := this
    omega
  rcases hj with rfl | rfl
  · have hu' : some (Value.int .u64 x.stamp) = some u := hu
    rw [← hu']; exact h1
  · have hu' : some (Value.slice x.a x.ws.length x.cap) = some u := hu
    rw [← hu']; exact h2
theorem RsV.of_own {w : World} {B : Nat} {a : Option Addr} {n cap : Nat} {l : List Rv} (h : kR.Own w B (.slice a n cap) l) (hok : ∀ x ∈ l, x.Ok w) : RsV w a l := by
  obtain ⟨a', cp, e, hv⟩ := (RsN.of_own h).shape
  injection e with e1 e2 e3
  rw [e1]; exact hv hok
theorem own_none {w : World} {B n cap : Nat} {l : List Rv} (h : kR.Own w B (.slice none n cap) l) : cap = 0 := by
  rcases h.2 with ⟨h1, _⟩ | ⟨g, cp, cur, h1, _⟩
  · injection h1
  · injection h1 with e1; cases e1
theorem own_cap {w : World} {B n cap : Nat} {a : Option Addr} {l : List Rv} (h : kR.Own w B (.slice a n cap) l) : l.length ≤ cap := by
  rcases h.2 with ⟨h1, h2⟩ | ⟨g, cp, cur, h1, _, _, h4, _⟩
  · injection h1 with e1 e2 e3; omega
  · injection h1 with e1 e2 e3; omega
theorem RsV.take {w : World} {a : Option Addr} {l : List Rv} (h : RsV w a l) (k : Nat) : RsV w a (l.take k) := fun hn => by
  obtain ⟨b, off, e, hat⟩ := h (fun e => hn (by rw [e]; simp))
  exact ⟨b, off, e, ⟨fun i x hx => hat.cells i x (by
    rw [List.getElem?_take] at hx
    split at hx
    · exact hx
    · cases hx), hat.lt⟩⟩
theorem RsV.drop {w : World} {a : Option Addr} {l : List Rv} (h : RsV w a l) {k cap : Nat} (hc : l.length ≤ cap) : RsV w (sfxR a cap k) (l.drop k) := fun hn => by
  have hlt : k < l.length := Classical.byContradiction fun hh => hn (List.drop_eq_nil_of_le (by omega))
  obtain ⟨b, off, e, hat⟩ := h (fun e => by rw [e] at hlt; simp at hlt)
  refine ⟨b, off + k * 2, ?_, ⟨fun i x hx => ?_, hat.lt⟩⟩
  · unfold sfxR
    rw [if_neg (by omega), e]
    simp [Addr.add]
  · rw [List.getElem?_drop] at hx
    have := hat.cells (k + i) x hx
    rw [show off + (k + i) * 2 = off + k * 2 + i * 2 by omega] at this
    exact this
/-- records handed back: in a row that came in, or in a new one -/
def RvPost (w : World) (a0 : Option Addr) (zs l : List Rv) (e : Ending) (w' : World) : Prop := ∃ a cap, e = .returned (.slice a l.length cap) ∧ RsV w' a l ∧ (a = none → cap = 0) ∧ l.length ≤ cap ∧ Below w.heap.size w w' ∧ ((a = a0 ∧ l = zs) ∨ ∀ b off, a = some ⟨b, off, none⟩ → w.heap.size ≤ b)
theorem below_drewN {B : Nat} {w u : World} (h : Below B w u) (n : Nat) : Below B w (u.drewN n) := ⟨h.os, h.tape, h.output, h.size, h.block⟩
theorem below_grownR {w w' : World} {B : Nat} {v : Value} {l : List Rv} (h : kR.Own w B v l) (hg : w.grownBy w' v.ownBlock) (hB : B ≤ w.heap.size) : Below B w w' :=
  ⟨hg.os, hg.tape, hg.output, hg.size, fun k hk => hg.block k (by omega) (fun e => by have := (h.lt k e.symm).1; omega)⟩
def putL (all : Bool) (l : List Rv) (x : Rv) : List Rv := if all = true then Srt.putK Rv.stamp l x else Srt.putD Rv.stamp l x
theorem while_take {l : List Rv} {n : Nat} : ∀ {k : Nat}, (∀ y ∈ l.take k, y.stamp ≤ n) → (∀ y, l[k]? = some y → ¬ y.stamp ≤ n) → l.takeWhile (fun y => decide (y.stamp ≤ n)) = l.take k ∧ l.dropWhile (fun y => decide (y.stamp ≤ n)) = l.drop k := by
  induction l with
  | nil => intro k _ _; simp
  | cons z l ih =>
    intro k h1 h2
    cases k with
    | zero =>
      have := h2 z rfl
      simp [this]
    | succ k =>
      have hz : z.stamp ≤ n := h1 z (by simp)
      obtain ⟨i1, i2⟩ := ih (k := k) (fun y hy => h1 y (by simp [hy])) (fun y hy => h2 y (by simpa using hy))
      simp [hz, i1, i2]
theorem putL_eq {l : List Rv} {x : Rv} {k : Nat} {all : Bool} (h1 : ∀ y ∈ l.take k, y.stamp ≤ x.stamp) (h2 : ∀ y, l[k]? = some y → ¬ y.stamp ≤ x.stamp) (hk : k ≤ l.length) (hd : all = true ∨ k = 0 ∨ (0 < k ∧ (l[k - 1]!.stamp == x.stamp) = false)) :
    putL all l x = l.take k ++ x :: l.drop k := by
  obtain ⟨e1, e2⟩ := while_take h1 h2
  have hK : Srt.putK Rv.stamp l x = l.take k ++ x :: l.drop k := by unfold Srt.putK; rw [e1, e2]
  unfold putL
  split
  · exact hK
  · rename_i hn
    unfold Srt.putD
    rw [e1, if_neg, hK]
    rcases hd with h | rfl | ⟨h0, h3⟩
    · exact absurd h hn
    · simp
    · have hl : (l.take k).getLast? = some l[k - 1]! := by
        rw [List.getLast?_eq_getElem?, List.length_take, show min k l.length - 1 = k - 1 by omega, List.getElem?_take, if_pos (by omega), List.getElem?_eq_getElem (by omega), getElem!_pos l (k - 1) (by omega)]
      rw [hl]
      simp only [Option.any_some, h3]
      decide
theorem putL_dup {l : List Rv} {x : Rv} {k : Nat} (h1 : ∀ y ∈ l.take k, y.stamp ≤ x.stamp) (h2 : ∀ y, l[k]? = some y → ¬ y.stamp ≤ x.stamp) (hk : k ≤ l.length) (h0 : 0 < k) (h3 : (l[k - 1]!.stamp == x.stamp) = true) : putL false l x = l := by
  obtain ⟨e1, e2⟩ := while_take h1 h2
  unfold putL
  rw [if_neg (by decide)]
  unfold Srt.putD
  rw [e1, if_pos]
  have hl : (l.take k).getLast? = some l[k - 1]! := by
    rw [List.getLast?_eq_getElem?, List.length_take, show min k l.length - 1 = k - 1 by omega, List.getElem?_take, if_pos (by omega), List.getElem?_eq_getElem (by omega), getElem!_pos l (k - 1) (by omega)]
  rw [hl]
  exact h3
set_option maxRecDepth 100000 in
set_option maxHeartbeats 4000000 in
theorem put_any (a : Option Addr) (cap : Nat) (zs : List Rv) (x : Rv) (all : Bool) (w : World) (h : RsV w a zs) (hx : x.Ok w) (hl : zs.length ≤ 1000000) (hc : zs.length ≤ cap) (hn : a = none → cap = 0) :
    Calls Try.prog 83 #[.slice a zs.length cap, .agg #[.int .u64 x.stamp, .slice x.a x.ws.length x.cap], .bool all] w (RvPost w a zs (putL all zs x)) := by
  obtain ⟨W, hW⟩ : ∃ W, W = w.alloc (.cells #[.int .u64 x.stamp, .slice x.a x.ws.length x.cap] 35) := ⟨_, rfl⟩
  have hBW : Below w.heap.size w W := by rw [hW]; exact below_box w _
  have eW : W.heap[w.heap.size]? = some (.cells #[.int .u64 x.stamp, .slice x.a x.ws.length x.cap] 35) := by rw [hW]; exact heap_new w _
  obtain ⟨bx, hbx⟩ : ∃ bx, bx = w.heap.size := ⟨_, rfl⟩
  rw [← hbx] at eW
  have HZ := Lib.hid (h.below hBW)
  have HX := Lib.hid (hx.below hBW)
  have HW := Lib.hid hW
  have HBX := Lib.hid hbx
  have HBW := Lib.hid hBW
  have HE := Lib.hid eW
  have HN := Lib.hid hn
  clear h hx hW hBW eW hbx hn
  go_enter Try.func83, Try.ntmps83
  go_upto_region 1 with fail
  rw [← HW.out, ← HBX.out]
  go_wp2_with fail
  go_loopw [7] (fun i wr => ∃ k : Nat, k ≤ zs.length ∧ i = .int .i64 k ∧ Hid (Below W.heap.size W wr ∧ ∀ y ∈ zs.take k, y.stamp ≤ x.stamp)) (fun i _ => zs.length - (intOf i).toNat)
  case atStart => exact ⟨0, by omega, rfl, Lib.hid ⟨Below.refl _ _, fun y hy => by simp at hy⟩⟩
  case round =>
    obtain ⟨k, hk, rfl, HR⟩ := hrel
    have k0 : wr.cell? ⟨bx, 0, none⟩ = some (.int .u64 x.stamp) := below_cell HR.out.1 0 (Array.getElem?_eq_some_iff.1 HE.out).1 (cell_of_blk HE.out 0)
    have k1 : wr.cell? ⟨bx, 1, none⟩ = some (.slice x.a x.ws.length x.cap) := below_cell HR.out.1 1 (Array.getElem?_eq_some_iff.1 HE.out).1 (cell_of_blk HE.out 1)
    have hkc : k ≤ cap := by omega
    obtain ⟨a1, ha1⟩ : ∃ a1, pfxR a cap = a1 := ⟨_, rfl⟩
    obtain ⟨a3, ha3⟩ : ∃ a3, sfxR a cap k = a3 := ⟨_, rfl⟩
    obtain ⟨n3, hn3⟩ : ∃ n3, zs.length - k = n3 := ⟨_, rfl⟩
    obtain ⟨c3, hc3⟩ : ∃ c3, cap - k = c3 := ⟨_, rfl⟩
    have HV1 : Hid (∀ u, Below W.heap.size W u → RsV u a1 (zs.take k)) := Lib.hid (fun u hu => by rw [← ha1]; exact pfxR_V ((HZ.out.below hu).take k) cap)
    have HV3 : Hid (∀ u, Below W.heap.size W u → RsV u a3 (zs.drop k)) := Lib.hid (fun u hu => by rw [← ha3]; exact (HZ.out.below hu).drop hc)
    have HNN1 : Hid (a1 = none → cap = 0) := Lib.hid (fun e => pfxR_none HN.out (ha1.trans e))
    have HNN3 : Hid (a3 = none → c3 = 0) := Lib.hid (fun e => by rw [← hc3]; exact sfxR_none HN.out (ha3.trans e))
    have HL1 : Hid ((zs.take k).length = k) := Lib.hid (by rw [List.length_take]; omega)
    have HL3 : Hid ((zs.drop k).length = n3) := Lib.hid (by rw [List.length_drop]; exact hn3)
    have HA1 := Lib.hid ha1
    have HA3 := Lib.hid ha3
    have HN3 := Lib.hid hn3
    have HC3 := Lib.hid hc3
    clear ha1 ha3 hn3 hc3
    by_cases hgo : k < zs.length ∧ zs[k]!.stamp ≤ x.stamp
    · obtain ⟨hlt, hle⟩ := hgo
      obtain ⟨y, hy⟩ : ∃ y, y = zs[k]! := ⟨_, rfl⟩
      have hyk : zs[k]? = some y := by rw [hy, getElem!_pos zs k hlt]; exact List.getElem?_eq_getElem hlt
      rw [← hy] at hle
      obtain ⟨b, off, rfl, hat⟩ := HZ.out (fun e => by rw [e] at hlt; simp at hlt)
      obtain ⟨_, c0, _⟩ := (hat.below HR.out.1).cells k y hyk
      have hNX : ∀ z ∈ zs.take (k + 1), z.stamp ≤ x.stamp := fun z hz => by
        rw [List.take_add_one, hyk] at hz
        rcases List.mem_append.1 hz with hz | hz
        · exact HR.out.2 z hz
        · simp at hz; subst hz; exact hle
      have HNX := Lib.hid hNX
      have t1 : decide ((y.stamp : Int) ≤ (x.stamp : Int)) = true := decide_eq_true (by omega)
      have z1 : (k : Int) < (zs.length : Int) := by omega
      clear hy hyk hat hNX
      go_wp2_with fail
      go_quiet (fail)
      go_wp2_with fail
      exact ⟨⟨k + 1, by omega, by go_num, Lib.hid ⟨below_drewN HR.out.1 _, HNX.out⟩⟩, by simp [intOf]; omega⟩
    · have HU : Hid (∀ y, zs[k]? = some y → ¬ y.stamp ≤ x.stamp) := Lib.hid (fun y hy hle => hgo (by
        obtain ⟨hlt, e⟩ := List.getElem?_eq_some_iff.1 hy
        exact ⟨hlt, by rw [getElem!_pos zs k hlt, e]; exact hle⟩))
      by_cases hlt : k < zs.length
      · obtain ⟨y, hy⟩ : ∃ y, y = zs[k]! := ⟨_, rfl⟩
        have hyk : zs[k]? = some y := by rw [hy, getElem!_pos zs k hlt]; exact List.getElem?_eq_getElem hlt
        have hle : ¬ y.stamp ≤ x.stamp := HU.out y hyk
        obtain ⟨b, off, rfl, hat⟩ := HZ.out (fun e => by rw [e] at hlt; simp at hlt)
        obtain ⟨_, c0, _⟩ := (hat.below HR.out.1).cells k y hyk
        have t1 : decide ((y.stamp : Int) ≤ (x.stamp : Int)) = false := decide_eq_false (by omega)
        have z1 : (k : Int) < (zs.length : Int) := by omega
        clear hy hyk hat hgo
        go_wp2_with fail
        go_quiet (fail)
        go_upto_region 4 with fail
        clear hle t1 c0
        have HB1 : Hid (Below W.heap.size W (wr.drewN nq)) := Lib.hid (below_drewN HR.out.1 _)
        obtain ⟨wc, hwc⟩ : ∃ wc, wc = wr.drewN nq := ⟨_, rfl⟩
        rw [← hwc] at HB1
        rw [← hwc]
        replace k0 : wc.cell? ⟨bx, 0, none⟩ = some (.int .u64 x.stamp) := by rw [hwc]; exact k0
        replace k1 : wc.cell? ⟨bx, 1, none⟩ = some (.slice x.a x.ws.length x.cap) := by rw [hwc]; exact k1
        clear hwc
        cases all
        · by_cases hk0 : 0 < k
          · obtain ⟨p, hp⟩ : ∃ p, p + 1 = k := ⟨k - 1, by omega⟩
            obtain ⟨yp, hyp⟩ : ∃ y, y = zs[p]! := ⟨_, rfl⟩
            have hpl : p < zs.length := by omega
            have hypk : zs[p]? = some yp := by rw [hyp, getElem!_pos zs p hpl]; exact List.getElem?_eq_getElem hpl
            obtain ⟨bp, offp, hap, hatp⟩ := HZ.out (fun e => by rw [e] at hpl; simp at hpl)
            obtain ⟨_, d0, _⟩ := (hatp.below HB1.out).cells p yp hypk
            first | subst hap | (injection hap with hap; injection hap with hap1 hap2; subst hap1 hap2)
            obtain ⟨q, hq⟩ : ∃ q, (yp.stamp == x.stamp) = q := ⟨_, rfl⟩
            have HQ : Hid ((zs[k - 1]!.stamp == x.stamp) = q) := Lib.hid (by rw [show k - 1 = p by omega, ← hyp]; exact hq)
            have t2 : ((yp.stamp : Int) == (x.stamp : Int)) = q := by rw [beq_cast']; exact hq
            have t3 : decide ((0 : Int) < (k : Int)) = true := decide_eq_true (by omega)
            have w1 : IntKind.i64.wrap ((k : Int) - 1) = (p : Int) := by rw [IntKind.wrap_i64]; omega
            have z2 : (p : Int) < (zs.length : Int) := by omega
            clear hp hyp hypk hatp hq
            go_wp2_with fail
            go_quiet (fail)
            cases q
            · clear t2 t3 w1 d0
              have HEQ : Hid (putL false zs x = zs.take k ++ x :: zs.drop k) := Lib.hid (putL_eq HR.out.2 HU.out hk (.inr (.inr ⟨hk0, HQ.out⟩)))
              obtain ⟨u, hu⟩ : ∃ u, u = wc.drewN nq := ⟨_, rfl⟩
              have HB2 : Hid (Below W.heap.size W u) := Lib.hid (by rw [hu]; exact below_drewN HB1.out _)
              replace k0 : u.cell? ⟨bx, 0, none⟩ = some (.int .u64 x.stamp) := by rw [hu]; exact k0
              replace k1 : u.cell? ⟨bx, 1, none⟩ = some (.slice x.a x.ws.length x.cap) := by rw [hu]; exact k1
              rw [← hu]
              clear hu
              have HF1 : Hid (∀ v1 w1, kR.App u W.heap.size (.slice none 0 0) ([] ++ zs.take k) v1 w1 → ∃ av cv, v1 = .slice av k cv ∧ kR.Own w1 W.heap.size (.slice av k cv) (zs.take k) ∧ Below u.heap.size u w1 ∧ w1.cell? ⟨bx, 0, none⟩ = some (.int .u64 x.stamp) ∧ w1.cell? ⟨bx, 1, none⟩ = some (.slice x.a x.ws.length x.cap)) := Lib.hid (fun v1 w1 h1 => by
                obtain ⟨av1, cv1, hv1⟩ := h1.1.shape
                rw [List.nil_append, HL1.out] at hv1
                subst hv1
                have hg1 : Below u.heap.size u w1 := ⟨h1.2.1.os, h1.2.1.tape, h1.2.1.output, h1.2.1.size, fun j hj => h1.2.1.block j hj (fun e => by cases e)⟩
                exact ⟨av1, cv1, rfl, h1.1, hg1, below_cell hg1 0 (World.block_lt_of_cell? u ⟨bx, 0, none⟩ k0) k0, below_cell hg1 1 (World.block_lt_of_cell? u ⟨bx, 1, none⟩ k1) k1⟩)
              go_upto_region 8 with (first | (refine wpList_sliceP (o := ⟨some 46, _, _, _, _, _⟩) rfl (.tmp 44) (.tmp 45) rfl _ zs.length cap k rfl rfl hkc HA1.out ?_) | (at_builtin; refine RowK.wpList_app (k := kR) (B := W.heap.size) (v := .slice none 0 0) (l := []) rfl (.tmp 43) (.tmp 46) rfl rfl (RowK.Own.nil kR _ _) a1 k (zs.take k) cap rfl HL1.out (HV1.out _ HB2.out).row HNN1.out (by have := HL1.out; simp; omega) HB2.out.size ?_; rintro v1 w1 h1; obtain ⟨av1, cv1, rfl, h2, h3, j0, j1⟩ := HF1.out v1 w1 h1; have HO1 := Lib.hid h2; have HG1 := Lib.hid h3; clear h1 h2 h3))
              have HB3 := Lib.hid (below_then HB2.out HG1.out)
              clear k0 k1
              obtain ⟨V2, hV2⟩ : ∃ V2, V2 = w1.alloc (.cells #[.int .u64 x.stamp, .slice x.a x.ws.length x.cap] 35) := ⟨_, rfl⟩
              have eV2 : V2.heap[w1.heap.size]? = some (.cells #[.int .u64 x.stamp, .slice x.a x.ws.length x.cap] 35) := by rw [hV2]; exact heap_new w1 _
              have HB4 : Hid (Below w1.heap.size w1 V2) := Lib.hid (by rw [hV2]; exact below_box w1 _)
              have HXV : Hid (kR.V V2 (some ⟨w1.heap.size, 0, none⟩) [x]) := Lib.hid (fun _ => ⟨_, 0, rfl, RowK.new_at (k := kR) eV2 rfl⟩)
              obtain ⟨by2, hby2⟩ : ∃ by2, by2 = w1.heap.size := ⟨_, rfl⟩
              rw [← hby2] at HXV
              have HV2 := Lib.hid hV2
              have HBY := Lib.hid hby2
              have HO2 := Lib.hid (HO1.out.below HB4.out)
              have HB5 := Lib.hid (below_then HB3.out HB4.out)
              clear hV2 eV2 hby2
              go_upto_region 9 with ((at_builtin; rw [← HV2.out, ← HBY.out]; refine RowK.wpList_app (k := kR) (B := W.heap.size) (v := .slice av1 k cv1) (l := zs.take k) rfl (.tmp 48) (.tmp 50) rfl rfl HO2.out (some ⟨by2, 0, none⟩) 1 [x] 1 rfl rfl HXV.out (fun e => by cases e) (by have := HL1.out; simp; omega) HB5.out.size ?_; rintro v2 w2 h2; have H2 := Lib.hid h2; clear h2))
              have HB6 : Hid (Below W.heap.size W w2) := Lib.hid (HB5.out.trans (below_grownR HO2.out H2.out.2.1 HB5.out.size))
              obtain ⟨av2, cv2, hv2⟩ := H2.out.1.shape
              subst hv2
              go_wp2_with (first | (refine wpList_sliceR (o := ⟨some 55, _, _, _, _, _⟩) rfl (.tmp 53) (.tmp 54) rfl _ zs.length cap k rfl rfl hk HA3.out HN3.out HC3.out ?_) | (at_builtin; refine RowK.wpList_app (k := kR) (B := W.heap.size) (v := .slice av2 (zs.take k ++ [x]).length cv2) (l := zs.take k ++ [x]) rfl (.tmp 52) (.tmp 55) rfl rfl H2.out.1 a3 n3 (zs.drop k) c3 rfl HL3.out (HV3.out _ HB6.out).row HNN3.out (by have := HL1.out; have := HL3.out; simp; omega) HB6.out.size ?_; rintro v3 w3 h3; have H3 := Lib.hid h3; clear h3))
              have HB7 : Hid (Below W.heap.size W w3) := Lib.hid (HB6.out.trans (below_grownR H2.out.1 H3.out.2.1 HB6.out.size))
              obtain ⟨av3, cv3, hv3⟩ := H3.out.1.shape
              have HLL : Hid (zs.take k ++ [x] ++ zs.drop k = zs.take k ++ x :: zs.drop k) := Lib.hid (by simp)
              have HO3 : Hid (kR.Own w3 W.heap.size (.slice av3 (zs.take k ++ x :: zs.drop k).length cv3) (zs.take k ++ x :: zs.drop k)) := Lib.hid (by rw [← HLL.out, ← hv3]; exact H3.out.1)
              rw [HLL.out] at hv3
              subst hv3
              go_wp2_with fail
              go_ret
              rw [HEQ.out]
              refine ⟨av3, cv3, rfl, RsV.of_own HO3.out (fun y hy => ?_), (fun e => by subst e; exact own_none HO3.out), own_cap HO3.out, below_then HBW.out HB7.out, .inr (fun b off e => Nat.le_trans HBW.out.size ((HO3.out.lt b (by rw [e]; rfl)).1))⟩
              rcases List.mem_append.1 hy with hy | hy
              · exact (HZ.out.ok y (List.mem_of_mem_take hy)).below HB7.out
              · rcases List.mem_cons.1 hy with rfl | hy
                · exact HX.out.below HB7.out
                · exact (HZ.out.ok y (List.mem_of_mem_drop hy)).below HB7.out
            · have HEQ : Hid (putL false zs x = zs) := Lib.hid (putL_dup HR.out.2 HU.out hk hk0 HQ.out)
              clear t2 t3 w1 d0
              go_wp2_with fail
              go_ret
              rw [HEQ.out]
              exact ⟨_, cap, rfl, HZ.out.below (below_drewN HB1.out _), (fun e => by cases e), hc, below_then HBW.out (below_drewN HB1.out _), .inl ⟨rfl, rfl⟩⟩
          · have HEQ : Hid (putL false zs x = zs.take k ++ x :: zs.drop k) := Lib.hid (putL_eq HR.out.2 HU.out hk (.inr (.inl (by omega))))
            have t3 : decide ((0 : Int) < (k : Int)) = false := decide_eq_false (by omega)
            have t4 : decide (0 < k) = false := decide_eq_false (by omega)
            go_wp2_with fail
            go_quiet (fail)
            obtain ⟨u, hu⟩ : ∃ u, u = wc.drewN nq := ⟨_, rfl⟩
            have HB2 : Hid (Below W.heap.size W u) := Lib.hid (by rw [hu]; exact below_drewN HB1.out _)
            replace k0 : u.cell? ⟨bx, 0, none⟩ = some (.int .u64 x.stamp) := by rw [hu]; exact k0
            replace k1 : u.cell? ⟨bx, 1, none⟩ = some (.slice x.a x.ws.length x.cap) := by rw [hu]; exact k1
            rw [← hu]
            clear hu
            have HF1 : Hid (∀ v1 w1, kR.App u W.heap.size (.slice none 0 0) ([] ++ zs.take k) v1 w1 → ∃ av cv, v1 = .slice av k cv ∧ kR.Own w1 W.heap.size (.slice av k cv) (zs.take k) ∧ Below u.heap.size u w1 ∧ w1.cell? ⟨bx, 0, none⟩ = some (.int .u64 x.stamp) ∧ w1.cell? ⟨bx, 1, none⟩ = some (.slice x.a x.ws.length x.cap)) := Lib.hid (fun v1 w1 h1 => by
              obtain ⟨av1, cv1, hv1⟩ := h1.1.shape
              rw [List.nil_append, HL1.out] at hv1
              subst hv1
              have hg1 : Below u.heap.size u w1 := ⟨h1.2.1.os, h1.2.1.tape, h1.2.1.output, h1.2.1.size, fun j hj => h1.2.1.block j hj (fun e => by cases e)⟩
              exact ⟨av1, cv1, rfl, h1.1, hg1, below_cell hg1 0 (World.block_lt_of_cell? u ⟨bx, 0, none⟩ k0) k0, below_cell hg1 1 (World.block_lt_of_cell? u ⟨bx, 1, none⟩ k1) k1⟩)
            go_upto_region 8 with (first | (refine wpList_sliceP (o := ⟨some 46, _, _, _, _, _⟩) rfl (.tmp 44) (.tmp 45) rfl _ zs.length cap k rfl rfl hkc HA1.out ?_) | (at_builtin; refine RowK.wpList_app (k := kR) (B := W.heap.size) (v := .slice none 0 0) (l := []) rfl (.tmp 43) (.tmp 46) rfl rfl (RowK.Own.nil kR _ _) a1 k (zs.take k) cap rfl HL1.out (HV1.out _ HB2.out).row HNN1.out (by have := HL1.out; simp; omega) HB2.out.size ?_; rintro v1 w1 h1; obtain ⟨av1, cv1, rfl, h2, h3, j0, j1⟩ := HF1.out v1 w1 h1; have HO1 := Lib.hid h2; have HG1 := Lib.hid h3; clear h1 h2 h3))
            have HB3 := Lib.hid (below_then HB2.out HG1.out)
            clear k0 k1
            obtain ⟨V2, hV2⟩ : ∃ V2, V2 = w1.alloc (.cells #[.int .u64 x.stamp, .slice x.a x.ws.length x.cap] 35) := ⟨_, rfl⟩
            have eV2 : V2.heap[w1.heap.size]? = some (.cells #[.int .u64 x.stamp, .slice x.a x.ws.length x.cap] 35) := by rw [hV2]; exact heap_new w1 _
            have HB4 : Hid (Below w1.heap.size w1 V2) := Lib.hid (by rw [hV2]; exact below_box w1 _)
            have HXV : Hid (kR.V V2 (some ⟨w1.heap.size, 0, none⟩) [x]) := Lib.hid (fun _ => ⟨_, 0, rfl, RowK.new_at (k := kR) eV2 rfl⟩)
            obtain ⟨by2, hby2⟩ : ∃ by2, by2 = w1.heap.size := ⟨_, rfl⟩
            rw [← hby2] at HXV
            have HV2 := Lib.hid hV2
            have HBY := Lib.hid hby2
            have HO2 := Lib.hid (HO1.out.below HB4.out)
            have HB5 := Lib.hid (below_then HB3.out HB4.out)
            clear hV2 eV2 hby2
            go_upto_region 9 with ((at_builtin; rw [← HV2.out, ← HBY.out]; refine RowK.wpList_app (k := kR) (B := W.heap.size) (v := .slice av1 k cv1) (l := zs.take k) rfl (.tmp 48) (.tmp 50) rfl rfl HO2.out (some ⟨by2, 0, none⟩) 1 [x] 1 rfl rfl HXV.out (fun e => by cases e) (by have := HL1.out; simp; omega) HB5.out.size ?_; rintro v2 w2 h2; have H2 := Lib.hid h2; clear h2))
            have HB6 : Hid (Below W.heap.size W w2) := Lib.hid (HB5.out.trans (below_grownR HO2.out H2.out.2.1 HB5.out.size))
            obtain ⟨av2, cv2, hv2⟩ := H2.out.1.shape
            subst hv2
            go_wp2_with (first | (refine wpList_sliceR (o := ⟨some 55, _, _, _, _, _⟩) rfl (.tmp 53) (.tmp 54) rfl _ zs.length cap k rfl rfl hk HA3.out HN3.out HC3.out ?_) | (at_builtin; refine RowK.wpList_app (k := kR) (B := W.heap.size) (v := .slice av2 (zs.take k ++ [x]).length cv2) (l := zs.take k ++ [x]) rfl (.tmp 52) (.tmp 55) rfl rfl H2.out.1 a3 n3 (zs.drop k) c3 rfl HL3.out (HV3.out _ HB6.out).row HNN3.out (by have := HL1.out; have := HL3.out; simp; omega) HB6.out.size ?_; rintro v3 w3 h3; have H3 := Lib.hid h3; clear h3))
            have HB7 : Hid (Below W.heap.size W w3) := Lib.hid (HB6.out.trans (below_grownR H2.out.1 H3.out.2.1 HB6.out.size))
            obtain ⟨av3, cv3, hv3⟩ := H3.out.1.shape
            have HLL : Hid (zs.take k ++ [x] ++ zs.drop k = zs.take k ++ x :: zs.drop k) := Lib.hid (by simp)
            have HO3 : Hid (kR.Own w3 W.heap.size (.slice av3 (zs.take k ++ x :: zs.drop k).length cv3) (zs.take k ++ x :: zs.drop k)) := Lib.hid (by rw [← HLL.out, ← hv3]; exact H3.out.1)
            rw [HLL.out] at hv3
            subst hv3
            go_wp2_with fail
            go_ret
            rw [HEQ.out]
            refine ⟨av3, cv3, rfl, RsV.of_own HO3.out (fun y hy => ?_), (fun e => by subst e; exact own_none HO3.out), own_cap HO3.out, below_then HBW.out HB7.out, .inr (fun b off e => Nat.le_trans HBW.out.size ((HO3.out.lt b (by rw [e]; rfl)).1))⟩
            rcases List.mem_append.1 hy with hy | hy
            · exact (HZ.out.ok y (List.mem_of_mem_take hy)).below HB7.out
            · rcases List.mem_cons.1 hy with rfl | hy
              · exact HX.out.below HB7.out
              · exact (HZ.out.ok y (List.mem_of_mem_drop hy)).below HB7.out
        · have HEQ : Hid (putL true zs x = zs.take k ++ x :: zs.drop k) := Lib.hid (putL_eq HR.out.2 HU.out hk (.inl rfl))
          go_wp2_with fail
          go_quiet (fail)
          obtain ⟨u, hu⟩ : ∃ u, u = wc.drewN nq := ⟨_, rfl⟩
          have HB2 : Hid (Below W.heap.size W u) := Lib.hid (by rw [hu]; exact below_drewN HB1.out _)
          replace k0 : u.cell? ⟨bx, 0, none⟩ = some (.int .u64 x.stamp) := by rw [hu]; exact k0
          replace k1 : u.cell? ⟨bx, 1, none⟩ = some (.slice x.a x.ws.length x.cap) := by rw [hu]; exact k1
          rw [← hu]
          clear hu
          have HF1 : Hid (∀ v1 w1, kR.App u W.heap.size (.slice none 0 0) ([] ++ zs.take k) v1 w1 → ∃ av cv, v1 = .slice av k cv ∧ kR.Own w1 W.heap.size (.slice av k cv) (zs.take k) ∧ Below u.heap.size u w1 ∧ w1.cell? ⟨bx, 0, none⟩ = some (.int .u64 x.stamp) ∧ w1.cell? ⟨bx, 1, none⟩ = some (.slice x.a x.ws.length x.cap)) := Lib.hid (fun v1 w1 h1 => by
            obtain ⟨av1, cv1, hv1⟩ := h1.1.shape
            rw [List.nil_append, HL1.out] at hv1
            subst hv1
            have hg1 : Below u.heap.size u w1 := ⟨h1.2.1.os, h1.2.1.tape, h1.2.1.output, h1.2.1.size, fun j hj => h1.2.1.block j hj (fun e => by cases e)⟩
            exact ⟨av1, cv1, rfl, h1.1, hg1, below_cell hg1 0 (World.block_lt_of_cell? u ⟨bx, 0, none⟩ k0) k0, below_cell hg1 1 (World.block_lt_of_cell? u ⟨bx, 1, none⟩ k1) k1⟩)
          go_upto_region 8 with (first | (refine wpList_sliceP (o := ⟨some 46, _, _, _, _, _⟩) rfl (.tmp 44) (.tmp 45) rfl _ zs.length cap k rfl rfl hkc HA1.out ?_) | (at_builtin; refine RowK.wpList_app (k := kR) (B := W.heap.size) (v := .slice none 0 0) (l := []) rfl (.tmp 43) (.tmp 46) rfl rfl (RowK.Own.nil kR _ _) a1 k (zs.take k) cap rfl HL1.out (HV1.out _ HB2.out).row HNN1.out (by have := HL1.out; simp; omega) HB2.out.size ?_; rintro v1 w1 h1; obtain ⟨av1, cv1, rfl, h2, h3, j0, j1⟩ := HF1.out v1 w1 h1; have HO1 := Lib.hid h2; have HG1 := Lib.hid h3; clear h1 h2 h3))
          have HB3 := Lib.hid (below_then HB2.out HG1.out)
          clear k0 k1
          obtain ⟨V2, hV2⟩ : ∃ V2, V2 = w1.alloc (.cells #[.int .u64 x.stamp, .slice x.a x.ws.length x.cap] 35) := ⟨_, rfl⟩
          have eV2 : V2.heap[w1.heap.size]? = some (.cells #[.int .u64 x.stamp, .slice x.a x.ws.length x.cap] 35) := by rw [hV2]; exact heap_new w1 _
          have HB4 : Hid (Below w1.heap.size w1 V2) := Lib.hid (by rw [hV2]; exact below_box w1 _)
          have HXV : Hid (kR.V V2 (some ⟨w1.heap.size, 0, none⟩) [x]) := Lib.hid (fun _ => ⟨_, 0, rfl, RowK.new_at (k := kR) eV2 rfl⟩)
          obtain ⟨by2, hby2⟩ : ∃ by2, by2 = w1.heap.size := ⟨_, rfl⟩
          rw [← hby2] at HXV
          have HV2 := Lib.hid hV2
          have HBY := Lib.hid hby2
          have HO2 := Lib.hid (HO1.out.below HB4.out)
          have HB5 := Lib.hid (below_then HB3.out HB4.out)
          clear hV2 eV2 hby2
          go_upto_region 9 with ((at_builtin; rw [← HV2.out, ← HBY.out]; refine RowK.wpList_app (k := kR) (B := W.heap.size) (v := .slice av1 k cv1) (l := zs.take k) rfl (.tmp 48) (.tmp 50) rfl rfl HO2.out (some ⟨by2, 0, none⟩) 1 [x] 1 rfl rfl HXV.out (fun e => by cases e) (by have := HL1.out; simp; omega) HB5.out.size ?_; rintro v2 w2 h2; have H2 := Lib.hid h2; clear h2))
          have HB6 : Hid (Below W.heap.size W w2) := Lib.hid (HB5.out.trans (below_grownR HO2.out H2.out.2.1 HB5.out.size))
          obtain ⟨av2, cv2, hv2⟩ := H2.out.1.shape
          subst hv2
          go_wp2_with (first | (refine wpList_sliceR (o := ⟨some 55, _, _, _, _, _⟩) rfl (.tmp 53) (.tmp 54) rfl _ zs.length cap k rfl rfl hk HA3.out HN3.out HC3.out ?_) | (at_builtin; refine RowK.wpList_app (k := kR) (B := W.heap.size) (v := .slice av2 (zs.take k ++ [x]).length cv2) (l := zs.take k ++ [x]) rfl (.tmp 52) (.tmp 55) rfl rfl H2.out.1 a3 n3 (zs.drop k) c3 rfl HL3.out (HV3.out _ HB6.out).row HNN3.out (by have := HL1.out; have := HL3.out; simp; omega) HB6.out.size ?_; rintro v3 w3 h3; have H3 := Lib.hid h3; clear h3))
          have HB7 : Hid (Below W.heap.size W w3) := Lib.hid (HB6.out.trans (below_grownR H2.out.1 H3.out.2.1 HB6.out.size))
          obtain ⟨av3, cv3, hv3⟩ := H3.out.1.shape
          have HLL : Hid (zs.take k ++ [x] ++ zs.drop k = zs.take k ++ x :: zs.drop k) := Lib.hid (by simp)
          have HO3 : Hid (kR.Own w3 W.heap.size (.slice av3 (zs.take k ++ x :: zs.drop k).length cv3) (zs.take k ++ x :: zs.drop k)) := Lib.hid (by rw [← HLL.out, ← hv3]; exact H3.out.1)
          rw [HLL.out] at hv3
          subst hv3
          go_wp2_with fail
          go_ret
          rw [HEQ.out]
          refine ⟨av3, cv3, rfl, RsV.of_own HO3.out (fun y hy => ?_), (fun e => by subst e; exact own_none HO3.out), own_cap HO3.out, below_then HBW.out HB7.out, .inr (fun b off e => Nat.le_trans HBW.out.size ((HO3.out.lt b (by rw [e]; rfl)).1))⟩
          rcases List.mem_append.1 hy with hy | hy
          · exact (HZ.out.ok y (List.mem_of_mem_take hy)).below HB7.out
          · rcases List.mem_cons.1 hy with rfl | hy
            · exact HX.out.below HB7.out
            · exact (HZ.out.ok y (List.mem_of_mem_drop hy)).below HB7.out
      · have t1 : decide ((k : Int) < (zs.length : Int)) = false := decide_eq_false (by omega)
        clear hgo
        go_wp2_with fail
        go_quiet (fail)
        go_upto_region 4 with fail
        clear t1
        have HB1 : Hid (Below W.heap.size W (wr.drewN nq)) := Lib.hid (below_drewN HR.out.1 _)
        obtain ⟨wc, hwc⟩ : ∃ wc, wc = wr.drewN nq := ⟨_, rfl⟩
        rw [← hwc] at HB1
        rw [← hwc]
        replace k0 : wc.cell? ⟨bx, 0, none⟩ = some (.int .u64 x.stamp) := by rw [hwc]; exact k0
        replace k1 : wc.cell? ⟨bx, 1, none⟩ = some (.slice x.a x.ws.length x.cap) := by rw [hwc]; exact k1
        clear hwc
        cases all
        · by_cases hk0 : 0 < k
          · obtain ⟨p, hp⟩ : ∃ p, p + 1 = k := ⟨k - 1, by omega⟩
            obtain ⟨yp, hyp⟩ : ∃ y, y = zs[p]! := ⟨_, rfl⟩
            have hpl : p < zs.length := by omega
            have hypk : zs[p]? = some yp := by rw [hyp, getElem!_pos zs p hpl]; exact List.getElem?_eq_getElem hpl
            obtain ⟨bp, offp, hap, hatp⟩ := HZ.out (fun e => by rw [e] at hpl; simp at hpl)
            obtain ⟨_, d0, _⟩ := (hatp.below HB1.out).cells p yp hypk
            first | subst hap | (injection hap with hap; injection hap with hap1 hap2; subst hap1 hap2)
            obtain ⟨q, hq⟩ : ∃ q, (yp.stamp == x.stamp) = q := ⟨_, rfl⟩
            have HQ : Hid ((zs[k - 1]!.stamp == x.stamp) = q) := Lib.hid (by rw [show k - 1 = p by omega, ← hyp]; exact hq)
            have t2 : ((yp.stamp : Int) == (x.stamp : Int)) = q := by rw [beq_cast']; exact hq
            have t3 : decide ((0 : Int) < (k : Int)) = true := decide_eq_true (by omega)
            have w1 : IntKind.i64.wrap ((k : Int) - 1) = (p : Int) := by rw [IntKind.wrap_i64]; omega
            have z2 : (p : Int) < (zs.length : Int) := by omega
            clear hp hyp hypk hatp hq
            go_wp2_with fail
            go_quiet (fail)
            cases q
            · clear t2 t3 w1 d0
              have HEQ : Hid (putL false zs x = zs.take k ++ x :: zs.drop k) := Lib.hid (putL_eq HR.out.2 HU.out hk (.inr (.inr ⟨hk0, HQ.out⟩)))
              obtain ⟨u, hu⟩ : ∃ u, u = wc.drewN nq := ⟨_, rfl⟩
              have HB2 : Hid (Below W.heap.size W u) := Lib.hid (by rw [hu]; exact below_drewN HB1.out _)
              replace k0 : u.cell? ⟨bx, 0, none⟩ = some (.int .u64 x.stamp) := by rw [hu]; exact k0
              replace k1 : u.cell? ⟨bx, 1, none⟩ = some (.slice x.a x.ws.length x.cap) := by rw [hu]; exact k1
              rw [← hu]
              clear hu
              have HF1 : Hid (∀ v1 w1, kR.App u W.heap.size (.slice none 0 0) ([] ++ zs.take k) v1 w1 → ∃ av cv, v1 = .slice av k cv ∧ kR.Own w1 W.heap.size (.slice av k cv) (zs.take k) ∧ Below u.heap.size u w1 ∧ w1.cell? ⟨bx, 0, none⟩ = some (.int .u64 x.stamp) ∧ w1.cell? ⟨bx, 1, none⟩ = some (.slice x.a x.ws.length x.cap)) := Lib.hid (fun v1 w1 h1 => by
                obtain ⟨av1, cv1, hv1⟩ := h1.1.shape
                rw [List.nil_append, HL1.out] at hv1
                subst hv1
                have hg1 : Below u.heap.size u w1 := ⟨h1.2.1.os, h1.2.1.tape, h1.2.1.output, h1.2.1.size, fun j hj => h1.2.1.block j hj (fun e => by cases e)⟩
                exact ⟨av1, cv1, rfl, h1.1, hg1, below_cell hg1 0 (World.block_lt_of_cell? u ⟨bx, 0, none⟩ k0) k0, below_cell hg1 1 (World.block_lt_of_cell? u ⟨bx, 1, none⟩ k1) k1⟩)
              go_upto_region 8 with (first | (refine wpList_sliceP (o := ⟨some 46, _, _, _, _, _⟩) rfl (.tmp 44) (.tmp 45) rfl _ zs.length cap k rfl rfl hkc HA1.out ?_) | (at_builtin; refine RowK.wpList_app (k := kR) (B := W.heap.size) (v := .slice none 0 0) (l := []) rfl (.tmp 43) (.tmp 46) rfl rfl (RowK.Own.nil kR _ _) a1 k (zs.take k) cap rfl HL1.out (HV1.out _ HB2.out).row HNN1.out (by have := HL1.out; simp; omega) HB2.out.size ?_; rintro v1 w1 h1; obtain ⟨av1, cv1, rfl, h2, h3, j0, j1⟩ := HF1.out v1 w1 h1; have HO1 := Lib.hid h2; have HG1 := Lib.hid h3; clear h1 h2 h3))
              have HB3 := Lib.hid (below_then HB2.out HG1.out)
              clear k0 k1
              obtain ⟨V2, hV2⟩ : ∃ V2, V2 = w1.alloc (.cells #[.int .u64 x.stamp, .slice x.a x.ws.length x.cap] 35) := ⟨_, rfl⟩
              have eV2 : V2.heap[w1.heap.size]? = some (.cells #[.int .u64 x.stamp, .slice x.a x.ws.length x.cap] 35) := by rw [hV2]; exact heap_new w1 _
              have HB4 : Hid (Below w1.heap.size w1 V2) := Lib.hid (by rw [hV2]; exact below_box w1 _)
              have HXV : Hid (kR.V V2 (some ⟨w1.heap.size, 0, none⟩) [x]) := Lib.hid (fun _ => ⟨_, 0, rfl, RowK.new_at (k := kR) eV2 rfl⟩)
              obtain ⟨by2, hby2⟩ : ∃ by2, by2 = w1.heap.size := ⟨_, rfl⟩
              rw [← hby2] at HXV
              have HV2 := Lib.hid hV2
              have HBY := Lib.hid hby2
              have HO2 := Lib.hid (HO1.out.below HB4.out)
              have HB5 := Lib.hid (below_then HB3.out HB4.out)
              clear hV2 eV2 hby2
              go_upto_region 9 with ((at_builtin; rw [← HV2.out, ← HBY.out]; refine RowK.wpList_app (k := kR) (B := W.heap.size) (v := .slice av1 k cv1) (l := zs.take k) rfl (.tmp 48) (.tmp 50) rfl rfl HO2.out (some ⟨by2, 0, none⟩) 1 [x] 1 rfl rfl HXV.out (fun e => by cases e) (by have := HL1.out; simp; omega) HB5.out.size ?_; rintro v2 w2 h2; have H2 := Lib.hid h2; clear h2))
              have HB6 : Hid (Below W.heap.size W w2) := Lib.hid (HB5.out.trans (below_grownR HO2.out H2.out.2.1 HB5.out.size))
              obtain ⟨av2, cv2, hv2⟩ := H2.out.1.shape
              subst hv2
              go_wp2_with (first | (refine wpList_sliceR (o := ⟨some 55, _, _, _, _, _⟩) rfl (.tmp 53) (.tmp 54) rfl _ zs.length cap k rfl rfl hk HA3.out HN3.out HC3.out ?_) | (at_builtin; refine RowK.wpList_app (k := kR) (B := W.heap.size) (v := .slice av2 (zs.take k ++ [x]).length cv2) (l := zs.take k ++ [x]) rfl (.tmp 52) (.tmp 55) rfl rfl H2.out.1 a3 n3 (zs.drop k) c3 rfl HL3.out (HV3.out _ HB6.out).row HNN3.out (by have := HL1.out; have := HL3.out; simp; omega) HB6.out.size ?_; rintro v3 w3 h3; have H3 := Lib.hid h3; clear h3))
              have HB7 : Hid (Below W.heap.size W w3) := Lib.hid (HB6.out.trans (below_grownR H2.out.1 H3.out.2.1 HB6.out.size))
              obtain ⟨av3, cv3, hv3⟩ := H3.out.1.shape
              have HLL : Hid (zs.take k ++ [x] ++ zs.drop k = zs.take k ++ x :: zs.drop k) := Lib.hid (by simp)
              have HO3 : Hid (kR.Own w3 W.heap.size (.slice av3 (zs.take k ++ x :: zs.drop k).length cv3) (zs.take k ++ x :: zs.drop k)) := Lib.hid (by rw [← HLL.out, ← hv3]; exact H3.out.1)
              rw [HLL.out] at hv3
              subst hv3
              go_wp2_with fail
              go_ret
              rw [HEQ.out]
              refine ⟨av3, cv3, rfl, RsV.of_own HO3.out (fun y hy => ?_), (fun e => by subst e; exact own_none HO3.out), own_cap HO3.out, below_then HBW.out HB7.out, .inr (fun b off e => Nat.le_trans HBW.out.size ((HO3.out.lt b (by rw [e]; rfl)).1))⟩
              rcases List.mem_append.1 hy with hy | hy
              · exact (HZ.out.ok y (List.mem_of_mem_take hy)).below HB7.out
              · rcases List.mem_cons.1 hy with rfl | hy
                · exact HX.out.below HB7.out
                · exact (HZ.out.ok y (List.mem_of_mem_drop hy)).below HB7.out
            · have HEQ : Hid (putL false zs x = zs) := Lib.hid (putL_dup HR.out.2 HU.out hk hk0 HQ.out)
              clear t2 t3 w1 d0
              go_wp2_with fail
              go_ret
              rw [HEQ.out]
              exact ⟨_, cap, rfl, HZ.out.below (below_drewN HB1.out _), (fun e => by cases e), hc, below_then HBW.out (below_drewN HB1.out _), .inl ⟨rfl, rfl⟩⟩
          · have HEQ : Hid (putL false zs x = zs.take k ++ x :: zs.drop k) := Lib.hid (putL_eq HR.out.2 HU.out hk (.inr (.inl (by omega))))
            have t3 : decide ((0 : Int) < (k : Int)) = false := decide_eq_false (by omega)
            have t4 : decide (0 < k) = false := decide_eq_false (by omega)
            go_wp2_with fail
            go_quiet (fail)
            obtain ⟨u, hu⟩ : ∃ u, u = wc.drewN nq := ⟨_, rfl⟩
            have HB2 : Hid (Below W.heap.size W u) := Lib.hid (by rw [hu]; exact below_drewN HB1.out _)
            replace k0 : u.cell? ⟨bx, 0, none⟩ = some (.int .u64 x.stamp) := by rw [hu]; exact k0
            replace k1 : u.cell? ⟨bx, 1, none⟩ = some (.slice x.a x.ws.length x.cap) := by rw [hu]; exact k1
            rw [← hu]
            clear hu
            have HF1 : Hid (∀ v1 w1, kR.App u W.heap.size (.slice none 0 0) ([] ++ zs.take k) v1 w1 → ∃ av cv, v1 = .slice av k cv ∧ kR.Own w1 W.heap.size (.slice av k cv) (zs.take k) ∧ Below u.heap.size u w1 ∧ w1.cell? ⟨bx, 0, none⟩ = some (.int .u64 x.stamp) ∧ w1.cell? ⟨bx, 1, none⟩ = some (.slice x.a x.ws.length x.cap)) := Lib.hid (fun v1 w1 h1 => by
              obtain ⟨av1, cv1, hv1⟩ := h1.1.shape
              rw [List.nil_append, HL1.out] at hv1
              subst hv1
              have hg1 : Below u.heap.size u w1 := ⟨h1.2.1.os, h1.2.1.tape, h1.2.1.output, h1.2.1.size, fun j hj => h1.2.1.block j hj (fun e => by cases e)⟩
              exact ⟨av1, cv1, rfl, h1.1, hg1, below_cell hg1 0 (World.block_lt_of_cell? u ⟨bx, 0, none⟩ k0) k0, below_cell hg1 1 (World.block_lt_of_cell? u ⟨bx, 1, none⟩ k1) k1⟩)
            go_upto_region 8 with (first | (refine wpList_sliceP (o := ⟨some 46, _, _, _, _, _⟩) rfl (.tmp 44) (.tmp 45) rfl _ zs.length cap k rfl rfl hkc HA1.out ?_) | (at_builtin; refine RowK.wpList_app (k := kR) (B := W.heap.size) (v := .slice none 0 0) (l := []) rfl (.tmp 43) (.tmp 46) rfl rfl (RowK.Own.nil kR _ _) a1 k (zs.take k) cap rfl HL1.out (HV1.out _ HB2.out).row HNN1.out (by have := HL1.out; simp; omega) HB2.out.size ?_; rintro v1 w1 h1; obtain ⟨av1, cv1, rfl, h2, h3, j0, j1⟩ := HF1.out v1 w1 h1; have HO1 := Lib.hid h2; have HG1 := Lib.hid h3; clear h1 h2 h3))
            have HB3 := Lib.hid (below_then HB2.out HG1.out)
            clear k0 k1
            obtain ⟨V2, hV2⟩ : ∃ V2, V2 = w1.alloc (.cells #[.int .u64 x.stamp, .slice x.a x.ws.length x.cap] 35) := ⟨_, rfl⟩
            have eV2 : V2.heap[w1.heap.size]? = some (.cells #[.int .u64 x.stamp, .slice x.a x.ws.length x.cap] 35) := by rw [hV2]; exact heap_new w1 _
            have HB4 : Hid (Below w1.heap.size w1 V2) := Lib.hid (by rw [hV2]; exact below_box w1 _)
            have HXV : Hid (kR.V V2 (some ⟨w1.heap.size, 0, none⟩) [x]) := Lib.hid (fun _ => ⟨_, 0, rfl, RowK.new_at (k := kR) eV2 rfl⟩)
            obtain ⟨by2, hby2⟩ : ∃ by2, by2 = w1.heap.size := ⟨_, rfl⟩
            rw [← hby2] at HXV
            have HV2 := Lib.hid hV2
            have HBY := Lib.hid hby2
            have HO2 := Lib.hid (HO1.out.below HB4.out)
            have HB5 := Lib.hid (below_then HB3.out HB4.out)
            clear hV2 eV2 hby2
            go_upto_region 9 with ((at_builtin; rw [← HV2.out, ← HBY.out]; refine RowK.wpList_app (k := kR) (B := W.heap.size) (v := .slice av1 k cv1) (l := zs.take k) rfl (.tmp 48) (.tmp 50) rfl rfl HO2.out (some ⟨by2, 0, none⟩) 1 [x] 1 rfl rfl HXV.out (fun e => by cases e) (by have := HL1.out; simp; omega) HB5.out.size ?_; rintro v2 w2 h2; have H2 := Lib.hid h2; clear h2))
            have HB6 : Hid (Below W.heap.size W w2) := Lib.hid (HB5.out.trans (below_grownR HO2.out H2.out.2.1 HB5.out.size))
            obtain ⟨av2, cv2, hv2⟩ := H2.out.1.shape
            subst hv2
            go_wp2_with (first | (refine wpList_sliceR (o := ⟨some 55, _, _, _, _, _⟩) rfl (.tmp 53) (.tmp 54) rfl _ zs.length cap k rfl rfl hk HA3.out HN3.out HC3.out ?_) | (at_builtin; refine RowK.wpList_app (k := kR) (B := W.heap.size) (v := .slice av2 (zs.take k ++ [x]).length cv2) (l := zs.take k ++ [x]) rfl (.tmp 52) (.tmp 55) rfl rfl H2.out.1 a3 n3 (zs.drop k) c3 rfl HL3.out (HV3.out _ HB6.out).row HNN3.out (by have := HL1.out; have := HL3.out; simp; omega) HB6.out.size ?_; rintro v3 w3 h3; have H3 := Lib.hid h3; clear h3))
            have HB7 : Hid (Below W.heap.size W w3) := Lib.hid (HB6.out.trans (below_grownR H2.out.1 H3.out.2.1 HB6.out.size))
            obtain ⟨av3, cv3, hv3⟩ := H3.out.1.shape
            have HLL : Hid (zs.take k ++ [x] ++ zs.drop k = zs.take k ++ x :: zs.drop k) := Lib.hid (by simp)
            have HO3 : Hid (kR.Own w3 W.heap.size (.slice av3 (zs.take k ++ x :: zs.drop k).length cv3) (zs.take k ++ x :: zs.drop k)) := Lib.hid (by rw [← HLL.out, ← hv3]; exact H3.out.1)
            rw [HLL.out] at hv3
            subst hv3
            go_wp2_with fail
            go_ret
            rw [HEQ.out]
            refine ⟨av3, cv3, rfl, RsV.of_own HO3.out (fun y hy => ?_), (fun e => by subst e; exact own_none HO3.out), own_cap HO3.out, below_then HBW.out HB7.out, .inr (fun b off e => Nat.le_trans HBW.out.size ((HO3.out.lt b (by rw [e]; rfl)).1))⟩
            rcases List.mem_append.1 hy with hy | hy
            · exact (HZ.out.ok y (List.mem_of_mem_take hy)).below HB7.out
            · rcases List.mem_cons.1 hy with rfl | hy
              · exact HX.out.below HB7.out
              · exact (HZ.out.ok y (List.mem_of_mem_drop hy)).below HB7.out
        · have HEQ : Hid (putL true zs x = zs.take k ++ x :: zs.drop k) := Lib.hid (putL_eq HR.out.2 HU.out hk (.inl rfl))
          go_wp2_with fail
          go_quiet (fail)
          obtain ⟨u, hu⟩ : ∃ u, u = wc.drewN nq := ⟨_, rfl⟩
          have HB2 : Hid (Below W.heap.size W u) := Lib.hid (by rw [hu]; exact below_drewN HB1.out _)
          replace k0 : u.cell? ⟨bx, 0, none⟩ = some (.int .u64 x.stamp) := by rw [hu]; exact k0
          replace k1 : u.cell? ⟨bx, 1, none⟩ = some (.slice x.a x.ws.length x.cap) := by rw [hu]; exact k1
          rw [← hu]
          clear hu
          have HF1 : Hid (∀ v1 w1, kR.App u W.heap.size (.slice none 0 0) ([] ++ zs.take k) v1 w1 → ∃ av cv, v1 = .slice av k cv ∧ kR.Own w1 W.heap.size (.slice av k cv) (zs.take k) ∧ Below u.heap.size u w1 ∧ w1.cell? ⟨bx, 0, none⟩ = some (.int .u64 x.stamp) ∧ w1.cell? ⟨bx, 1, none⟩ = some (.slice x.a x.ws.length x.cap)) := Lib.hid (fun v1 w1 h1 => by
            obtain ⟨av1, cv1, hv1⟩ := h1.1.shape
            rw [List.nil_append, HL1.out] at hv1
            subst hv1
            have hg1 : Below u.heap.size u w1 := ⟨h1.2.1.os, h1.2.1.tape, h1.2.1.output, h1.2.1.size, fun j hj => h1.2.1.block j hj (fun e => by cases e)⟩
            exact ⟨av1, cv1, rfl, h1.1, hg1, below_cell hg1 0 (World.block_lt_of_cell? u ⟨bx, 0, none⟩ k0) k0, below_cell hg1 1 (World.block_lt_of_cell? u ⟨bx, 1, none⟩ k1) k1⟩)
          go_upto_region 8 with (first | (refine wpList_sliceP (o := ⟨some 46, _, _, _, _, _⟩) rfl (.tmp 44) (.tmp 45) rfl _ zs.length cap k rfl rfl hkc HA1.out ?_) | (at_builtin; refine RowK.wpList_app (k := kR) (B := W.heap.size) (v := .slice none 0 0) (l := []) rfl (.tmp 43) (.tmp 46) rfl rfl (RowK.Own.nil kR _ _) a1 k (zs.take k) cap rfl HL1.out (HV1.out _ HB2.out).row HNN1.out (by have := HL1.out; simp; omega) HB2.out.size ?_; rintro v1 w1 h1; obtain ⟨av1, cv1, rfl, h2, h3, j0, j1⟩ := HF1.out v1 w1 h1; have HO1 := Lib.hid h2; have HG1 := Lib.hid h3; clear h1 h2 h3))
          have HB3 := Lib.hid (below_then HB2.out HG1.out)
          clear k0 k1
          obtain ⟨V2, hV2⟩ : ∃ V2, V2 = w1.alloc (.cells #[.int .u64 x.stamp, .slice x.a x.ws.length x.cap] 35) := ⟨_, rfl⟩
          have eV2 : V2.heap[w1.heap.size]? = some (.cells #[.int .u64 x.stamp, .slice x.a x.ws.length x.cap] 35) := by rw [hV2]; exact heap_new w1 _
          have HB4 : Hid (Below w1.heap.size w1 V2) := Lib.hid (by rw [hV2]; exact below_box w1 _)
          have HXV : Hid (kR.V V2 (some ⟨w1.heap.size, 0, none⟩) [x]) := Lib.hid (fun _ => ⟨_, 0, rfl, RowK.new_at (k := kR) eV2 rfl⟩)
          obtain ⟨by2, hby2⟩ : ∃ by2, by2 = w1.heap.size := ⟨_, rfl⟩
          rw [← hby2] at HXV
          have HV2 := Lib.hid hV2
          have HBY := Lib.hid hby2
          have HO2 := Lib.hid (HO1.out.below HB4.out)
          have HB5 := Lib.hid (below_then HB3.out HB4.out)
          clear hV2 eV2 hby2
          go_upto_region 9 with ((at_builtin; rw [← HV2.out, ← HBY.out]; refine RowK.wpList_app (k := kR) (B := W.heap.size) (v := .slice av1 k cv1) (l := zs.take k) rfl (.tmp 48) (.tmp 50) rfl rfl HO2.out (some ⟨by2, 0, none⟩) 1 [x] 1 rfl rfl HXV.out (fun e => by cases e) (by have := HL1.out; simp; omega) HB5.out.size ?_; rintro v2 w2 h2; have H2 := Lib.hid h2; clear h2))
          have HB6 : Hid (Below W.heap.size W w2) := Lib.hid (HB5.out.trans (below_grownR HO2.out H2.out.2.1 HB5.out.size))
          obtain ⟨av2, cv2, hv2⟩ := H2.out.1.shape
          subst hv2
          go_wp2_with (first | (refine wpList_sliceR (o := ⟨some 55, _, _, _, _, _⟩) rfl (.tmp 53) (.tmp 54) rfl _ zs.length cap k rfl rfl hk HA3.out HN3.out HC3.out ?_) | (at_builtin; refine RowK.wpList_app (k := kR) (B := W.heap.size) (v := .slice av2 (zs.take k ++ [x]).length cv2) (l := zs.take k ++ [x]) rfl (.tmp 52) (.tmp 55) rfl rfl H2.out.1 a3 n3 (zs.drop k) c3 rfl HL3.out (HV3.out _ HB6.out).row HNN3.out (by have := HL1.out; have := HL3.out; simp; omega) HB6.out.size ?_; rintro v3 w3 h3; have H3 := Lib.hid h3; clear h3))
          have HB7 : Hid (Below W.heap.size W w3) := Lib.hid (HB6.out.trans (below_grownR H2.out.1 H3.out.2.1 HB6.out.size))
          obtain ⟨av3, cv3, hv3⟩ := H3.out.1.shape
          have HLL : Hid (zs.take k ++ [x] ++ zs.drop k = zs.take k ++ x :: zs.drop k) := Lib.hid (by simp)
          have HO3 : Hid (kR.Own w3 W.heap.size (.slice av3 (zs.take k ++ x :: zs.drop k).length cv3) (zs.take k ++ x :: zs.drop k)) := Lib.hid (by rw [← HLL.out, ← hv3]; exact H3.out.1)
          rw [HLL.out] at hv3
          subst hv3
          go_wp2_with fail
          go_ret
          rw [HEQ.out]
          refine ⟨av3, cv3, rfl, RsV.of_own HO3.out (fun y hy => ?_), (fun e => by subst e; exact own_none HO3.out), own_cap HO3.out, below_then HBW.out HB7.out, .inr (fun b off e => Nat.le_trans HBW.out.size ((HO3.out.lt b (by rw [e]; rfl)).1))⟩
          rcases List.mem_append.1 hy with hy | hy
          · exact (HZ.out.ok y (List.mem_of_mem_take hy)).below HB7.out
          · rcases List.mem_cons.1 hy with rfl | hy
            · exact HX.out.below HB7.out
            · exact (HZ.out.ok y (List.mem_of_mem_drop hy)).below HB7.out
end Go.Proofs.Ytcghgnncmnoalaa
