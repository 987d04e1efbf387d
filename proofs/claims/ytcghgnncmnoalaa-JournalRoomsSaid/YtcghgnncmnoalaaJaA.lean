/- The reference journal: its state; Left, Sure. Conditions: each contract's own premises. The reference journal: Size, Promise. Conditions: each contract's own premises. The reference journal: Promise. Conditions: each contract's own premises. The reference journal: what a piece leaves. Conditions: each lemma's own premises. The reference journal: Mark. Conditions: each contract's own premises. The reference journal: Mark's walk. Conditions: each contract's own premises. The reference journal: Bytes. Conditions: each contract's own premises. The journal: Forget. Conditions: each contract's own premises. The reference journal: Append. Conditions: each contract's own premises. The reference journal: Append's walk. Conditions: each contract's own premises. Act.small of layer 15. Conditions: the contract's own premises. -/
import Derived.Test.YtcghgnncmnoalaaJnC
import Derived.Deep.RegionLaw
namespace Go.Proofs.Ytcghgnncmnoalaa
open Go.RowKit Go.Maps

/-- a piece: where its bytes lie, the bytes, a mark's epoch -/
structure Pc where
  a : Option Addr
  cap : Nat
  l : List UInt8
  ep : Int
theorem infoPc : (Try.prog.info? 181).map (fun i => (i.zero, i.size, i.bytes)) = some (some (.agg #[.slice none 0 0, .int .i64 0]), 2, 32) := by kernel_rfl
/-- pieces, as elements -/
def kP : RowK Try.prog Pc where
  t := 115
  e := 181
  size := 2
  bytes := 32
  z := .agg #[.slice none 0 0, .int .i64 0]
  enc := fun p => [.slice p.a p.l.length p.cap, .int .i64 p.ep]
  ht := Try.underlying115
  info := infoPc
  hz := rfl
  pos := by decide
  small := by decide
  len := fun _ => rfl
  one := fun x u hu => by
    simp at hu
    rcases hu with rfl | rfl <;> rfl
/-- how many bytes pieces hold -/
def pcN (ps : List Pc) : Nat := (ps.map (fun p => p.l.length)).sum
theorem pcN_snoc (ps : List Pc) (p : Pc) : pcN (ps ++ [p]) = pcN ps + p.l.length := by simp [pcN]
theorem pcN_take {ps : List Pc} {i : Nat} {p : Pc} (h : ps[i]? = some p) : pcN (ps.take (i + 1)) = pcN (ps.take i) + p.l.length := by
  rw [List.take_add_one, h]
  exact pcN_snoc _ _
theorem pcN_append (a b : List Pc) : pcN (a ++ b) = pcN a + pcN b := by simp [pcN]
theorem pcN_le (ps : List Pc) (i : Nat) : pcN (ps.take i) ≤ pcN ps := by
  have h := pcN_append (ps.take i) (ps.drop i)
  rw [List.take_append_drop] at h
  omega
/-- the last mark of the first pieces -/
def pcS (s0 : Int) (ps : List Pc) : Int := ps.foldl (fun s p => if 0 ≤ p.ep then p.ep else s) s0
theorem pcS_take (s0 : Int) {ps : List Pc} {i : Nat} {p : Pc} (h : ps[i]? = some p) : pcS s0 (ps.take (i + 1)) = if 0 ≤ p.ep then p.ep else pcS s0 (ps.take i) := by
  rw [List.take_add_one, h]
  simp [pcS]
/-- bytes that lie below B: an argument's -/
def OldV (w : World) (B : Nat) (a : Option Addr) (l : List UInt8) : Prop := l ≠ [] → ∃ b off, a = some ⟨b, off, none⟩ ∧ b < B ∧ BsAt w b off l
theorem OldV.v {w : World} {B : Nat} {a : Option Addr} {l : List UInt8} (h : OldV w B a l) : BsV w a l := fun hn => by
  obtain ⟨b, off, e, _, hat⟩ := h hn
  exact ⟨b, off, e, hat⟩
theorem OldV.chg {w w' : World} {B : Nat} {a : Option Addr} {l : List UInt8} {S : Nat → Prop} (h : OldV w B a l) (hc : Chg w w' S) (hS : ∀ j, S j → B ≤ j) : OldV w' B a l := fun hn => by
  obtain ⟨b, off, e, hb, hat⟩ := h hn
  exact ⟨b, off, e, hb, hat.of_block (hc.block b hat.lt (fun hs => by have := hS b hs; omega))⟩
theorem own_t {w : World} {B j : Nat} {v : Value} {ps : List Pc} (h : kP.Own w B v ps) (hj : v.ownBlock = some j) : ∃ cs, w.heap[j]? = some (.cells cs 181) := by
  rcases h.2 with ⟨e, _⟩ | ⟨g, cp, cur, e, _, q, _⟩
  · rw [e] at hj; cases hj
  · rw [e] at hj
    injection hj with hj
    change g = j at hj
    subst hj
    exact ⟨cur, q⟩
theorem bso_t {w : World} {B j : Nat} {v : Value} {l : List UInt8} (h : BsO w B v l) (hj : v.ownBlock = some j) : ∃ cs, w.heap[j]? = some (.cells cs 5) := by
  rcases h.2 with ⟨e, _⟩ | ⟨g, cp, cur, e, _, q, _⟩
  · rw [e] at hj; cases hj
  · rw [e] at hj
    injection hj with hj
    change g = j at hj
    subst hj
    exact ⟨cur, q⟩
theorem ty_ne {w : World} {i j : Nat} {c d : Array Value} {t u : TypeId} {z y : Nat × Nat} (h : w.heap[i]? = some (.cells c t z)) (k : w.heap[j]? = some (.cells d u y)) (hne : t ≠ u) : i ≠ j := fun e => by
  rw [e, k] at h
  injection h with h
  injection h with _ h
  exact hne h.symm
/-- a reference journal -/
structure RJ (w : World) (rb room : Nat) (prom last found : Int) (old : List UInt8) (ps : List Pc) (safe B : Nat) : Prop where
  ex : ∃ oa ocap pa pcap, w.heap[rb]? = some (.cells #[.int .i64 room, .int .i64 prom, .int .i64 last, .int .i64 found, .slice oa old.length ocap, .slice pa ps.length pcap, .int .i64 safe] 117) ∧ OldV w B oa old ∧ old.length ≤ ocap ∧ kP.Own w B (.slice pa ps.length pcap) ps
  bs : ∀ p ∈ ps, BsO w B (.slice p.a p.l.length p.cap) p.l
  rbB : B ≤ rb
  room : room ≤ 1000000
  old : old.length ≤ 1000000
  n : pcN ps ≤ 1000000
  len : ps.length ≤ 1000000
  safe : safe ≤ ps.length
theorem RJ.lt {w : World} {rb room safe B : Nat} {prom last found : Int} {old : List UInt8} {ps : List Pc} (h : RJ w rb room prom last found old ps safe B) : rb < w.heap.size := by
  obtain ⟨_, _, _, _, h1, _⟩ := h.ex
  exact (Array.getElem?_eq_some_iff.1 h1).1
/-- nothing of it turned -/
theorem RJ.chg {w w' : World} {rb room safe B : Nat} {prom last found : Int} {old : List UInt8} {ps : List Pc} (h : RJ w rb room prom last found old ps safe B) {S : Nat → Prop} (hc : Chg w w' S) (h0 : ∀ j, S j → B ≤ j) (h1 : ¬ S rb)
    (h2 : ∀ j cs, w.heap[j]? = some (.cells cs 5) → ¬ S j) (h3 : ∀ j cs, w.heap[j]? = some (.cells cs 181) → ¬ S j) : RJ w' rb room prom last found old ps safe B := by
  obtain ⟨oa, ocap, pa, pcap, e1, e2, e3, e4⟩ := h.ex
  exact ⟨⟨oa, ocap, pa, pcap, (hc.block _ h.lt h1).trans e1, e2.chg hc h0, e3, e4.chg hc (fun j hj => by obtain ⟨cs, q⟩ := own_t e4 hj; exact h3 j cs q)⟩,
    fun p hp => ownsRow_of_block (h.bs p hp) (fun j hj => hc.block j ((h.bs p hp).lt j hj).2 (by obtain ⟨cs, q⟩ := bso_t (h.bs p hp) hj; exact h2 j cs q)), h.rbB, h.room, h.old, h.n, h.len, h.safe⟩
theorem RJ.below {w w' : World} {rb room safe B : Nat} {prom last found : Int} {old : List UInt8} {ps : List Pc} (h : RJ w rb room prom last found old ps safe B) (hb : Below w.heap.size w w') : RJ w' rb room prom last found old ps safe B :=
  h.chg (Chg.of_below hb (fun _ => False)) (fun _ e => e.elim) (fun e => e) (fun _ _ _ e => e) (fun _ _ _ e => e)
set_option maxRecDepth 100000 in
set_option maxHeartbeats 2000000 in
theorem j15Left_any {w : World} {rb room safe B : Nat} {prom last found : Int} {old : List UInt8} {ps : List Pc} (h : RJ w rb room prom last found old ps safe B) :
    Calls Try.prog 143 #[.pointer (some ⟨rb, 0, none⟩)] w fun e w' => e = .returned (.int .i64 ((room : Int) - old.length - pcN ps)) ∧ ∃ n, w' = w.drewN n := by
  obtain ⟨oa, ocap, pa, pcap, h1, h2, _, h4⟩ := h.ex
  have c0 := cell_of_blk h1 0
  have c4 := cell_of_blk h1 4
  have c5 := cell_of_blk h1 5
  simp at c0 c4 c5
  have hr := h.room
  have ho := h.old
  obtain ⟨n, hn⟩ : ∃ n, n = ps.length := ⟨_, rfl⟩
  obtain ⟨on, hon⟩ : ∃ n, n = old.length := ⟨_, rfl⟩
  rw [← hn] at c5
  rw [← hon] at c4 ho ⊢
  have HR : Hid (ps ≠ [] → ∃ b, pa = some ⟨b, 0, none⟩ ∧ kP.At w b 0 ps) := Lib.hid (fun hne => by
    obtain ⟨b, cp, e, _, _, hat⟩ := h4.at' hne
    injection e with e1 e2 e3
    exact ⟨b, e1, hat⟩)
  have HN := Lib.hid hn
  have HM := Lib.hid h.n
  have HNL := Lib.hid h.len
  have w1 : IntKind.i64.wrap ((room : Int) - (on : Int)) = (room : Int) - (on : Int) := by rw [IntKind.wrap_i64]; omega
  clear h h1 h2 h4 hn hon
  go_enter Try.func143, Try.ntmps143
  go_wp2_with fail
  go_quiet (fail)
  obtain ⟨W, hW⟩ : ∃ W, w.drewN nq = W := ⟨_, rfl⟩
  have HB : Hid (Below w.heap.size w W) := Lib.hid (by rw [← hW]; exact below_drewN (Below.refl _ _) _)
  have c0' : W.cell? ⟨rb, 0, none⟩ = some (.int .i64 room) := by rw [← hW]; exact c0
  have c5' : W.cell? ⟨rb, 5, none⟩ = some (.slice pa n pcap) := by rw [← hW]; exact c5
  have HR' : Hid (ps ≠ [] → ∃ b, pa = some ⟨b, 0, none⟩ ∧ kP.At W b 0 ps) := Lib.hid (fun hne => by
    obtain ⟨b, e, hat⟩ := HR.out hne
    exact ⟨b, e, hat.below HB.out⟩)
  rw [hW]
  have HW := Lib.hid hW
  clear hW c0 c4 c5 HR
  go_wp2_with fail
  go_loopw [3, 4] (fun vs vi wr => ∃ i : Nat, i ≤ n ∧ vi = .int .i64 i ∧ vs = .int .i64 ((room : Int) - on - (pcN (ps.take i) : Nat)) ∧ W = wr) (fun _ vi _ => n - (intOf vi).toNat)
  case atStart => exact ⟨0, by omega, rfl, by simp [pcN], rfl⟩
  case round =>
    obtain ⟨i, hi, rfl, rfl, rfl⟩ := hrel
    by_cases hin : i < n
    · have hin' : (i : Int) < (n : Int) := by omega
      have hne : ps ≠ [] := fun e => by have := HN.out; rw [e] at this; simp at this; omega
      obtain ⟨b, rfl, hat⟩ := HR'.out hne
      obtain ⟨m, hm⟩ : ∃ m, ps[i]? = some m := ⟨_, List.getElem?_eq_getElem (by have := HN.out; omega)⟩
      have k0 := hat.cells i m hm 0 _ rfl
      simp [kP] at k0
      have HS1 := Lib.hid (pcN_take hm)
      have hm1 := pcN_le ps (i + 1)
      have hm2 := HM.out
      rw [HS1.out] at hm1
      obtain ⟨s, hs⟩ : ∃ s, s = pcN (ps.take i) := ⟨_, rfl⟩
      obtain ⟨ml, hml⟩ : ∃ s, s = m.l.length := ⟨_, rfl⟩
      rw [← hs, ← hml] at hm1
      rw [← hml] at k0
      rw [← hs]
      have w2 : IntKind.i64.wrap ((room : Int) - (on : Int) - (s : Int) - (ml : Int)) = (room : Int) - (on : Int) - (s : Int) - (ml : Int) := by rw [IntKind.wrap_i64]; omega
      have HE : Hid ((room : Int) - on - (pcN (ps.take (i + 1)) : Nat) = (room : Int) - (on : Int) - (s : Int) - (ml : Int)) := Lib.hid (by rw [HS1.out, hs, hml]; omega)
      have HX := HNL.out
      have HX2 := HN.out
      clear hm hat hne hm1 hm2 hs hml
      go_wp2_with fail
      exact ⟨⟨i + 1, by omega, by go_num, by rw [HE.out], by first | exact trivial | rfl⟩, by simp [intOf]; omega⟩
    · obtain rfl : i = n := by omega
      have ht : ps.take i = ps := by rw [HN.out]; exact List.take_length
      rw [ht]
      go_wp2_with fail
      go_ret
      exact ⟨by first | exact trivial | rfl, nq, HW.out.symm⟩
set_option maxRecDepth 100000 in
set_option maxHeartbeats 2000000 in
theorem j15Sure_any {w : World} {rb room safe B : Nat} {prom last found : Int} {old : List UInt8} {ps : List Pc} (h : RJ w rb room prom last found old ps safe B) :
    Calls Try.prog 69 #[.pointer (some ⟨rb, 0, none⟩)] w fun e w' => e = .returned (.int .i64 (pcS found (ps.take safe))) ∧ w = w' := by
  obtain ⟨oa, ocap, pa, pcap, h1, h2, _, h4⟩ := h.ex
  have c3 := cell_of_blk h1 3
  have c5 := cell_of_blk h1 5
  have c6 := cell_of_blk h1 6
  simp at c3 c5 c6
  obtain ⟨n, hn⟩ : ∃ n, n = ps.length := ⟨_, rfl⟩
  rw [← hn] at c5
  have HR : Hid (ps ≠ [] → ∃ b, pa = some ⟨b, 0, none⟩ ∧ kP.At w b 0 ps) := Lib.hid (fun hne => by
    obtain ⟨b, cp, e, _, _, hat⟩ := h4.at' hne
    injection e with e1 e2 e3
    exact ⟨b, e1, hat⟩)
  have HN := Lib.hid hn
  have hsn : safe ≤ n := by rw [hn]; exact h.safe
  have hn6 : n ≤ 1000000 := by rw [hn]; exact h.len
  clear h h1 h2 h4 hn
  go_enter Try.func69, Try.ntmps69
  go_wp2_with fail
  go_loopw [3, 4] (fun vs vi wr => ∃ i : Nat, i ≤ safe ∧ vi = .int .i64 i ∧ vs = .int .i64 (pcS found (ps.take i)) ∧ w = wr) (fun _ vi _ => safe - (intOf vi).toNat)
  case atStart => exact ⟨0, by omega, rfl, by simp [pcS], rfl⟩
  case round =>
    obtain ⟨i, hi, rfl, rfl, rfl⟩ := hrel
    by_cases hin : i < safe
    · have hin' : (i : Int) < (safe : Int) := by omega
      have hinn : (i : Int) < (n : Int) := by omega
      have hne : ps ≠ [] := fun e => by have := HN.out; rw [e] at this; simp at this; omega
      obtain ⟨b, rfl, hat⟩ := HR.out hne
      obtain ⟨m, hm⟩ : ∃ m, ps[i]? = some m := ⟨_, List.getElem?_eq_getElem (by have := HN.out; omega)⟩
      have k1 := hat.cells i m hm 1 _ rfl
      simp [kP] at k1
      have hs1 := pcS_take found hm
      clear hm hat hne
      by_cases hq : 0 ≤ m.ep
      · have t1 : decide (0 ≤ m.ep) = true := decide_eq_true hq
        rw [if_pos hq] at hs1
        have HS2 := Lib.hid hs1
        clear hs1
        go_wp2_with fail
        exact ⟨⟨i + 1, by omega, by go_num, by rw [HS2.out], by first | exact trivial | rfl⟩, by simp [intOf]; omega⟩
      · have t1 : decide (0 ≤ m.ep) = false := decide_eq_false hq
        rw [if_neg hq] at hs1
        have HS2 := Lib.hid hs1
        clear hs1
        go_wp2_with fail
        exact ⟨⟨i + 1, by omega, by go_num, by rw [HS2.out], by first | exact trivial | rfl⟩, by simp [intOf]; omega⟩
    · obtain rfl : i = safe := by omega
      go_wp2_with fail
      go_ret
      exact ⟨by first | exact trivial | rfl, by first | exact trivial | rfl⟩
end Go.Proofs.Ytcghgnncmnoalaa
namespace Go.Proofs.Ytcghgnncmnoalaa
open Go.RowKit Go.Maps

/-- a record's block: how many bytes; 0 where it is wrong -/
def sizeR (r : Rc) : Nat := if r.wrong = true then 0 else (bodyL r.stamp r.ws).length + 10
theorem wrong_few {r : Rc} (h : r.wrong = false) : r.ws.length < 65536 := by
  unfold Rc.wrong at h
  simp only [Bool.or_eq_false_iff, decide_eq_false_iff_not] at h
  omega
set_option maxRecDepth 100000 in
set_option maxHeartbeats 2000000 in
theorem size15_end (m : Nat) (a : Option Addr) (cap n : Nat) (ws : List Wr) (w : World) (hn : n = ws.length) (h : WsV w a ws) (hs : m < 18446744073709551616) (hl : ws.length ≤ 1000000) (hlen : (bodyL m ws).length ≤ 1000000) :
    Calls Try.prog 25 #[.agg #[.int .u64 m, .slice a n cap]] w (BoolPost w (!(Rc.wrong ⟨m, ws⟩))) ∧ (Rc.wrong ⟨m, ws⟩ = false → Calls Try.prog 28 #[.agg #[.int .u64 m, .slice a n cap]] w (OutPost w (bodyL m ws))) := by
  subst hn
  refine ⟨?_, fun hw => r14body_any m a cap ws w h hs (wrong_few hw) (wrong_bad' hw) hlen⟩
  have := r14right_any m a cap ws w h hs hl
  rw [show Rc.right ⟨m, ws⟩ = !(Rc.wrong ⟨m, ws⟩) from right_eq _] at this
  exact this
/-- Right and Body at every later world -/
structure SzC (w : World) (M : Int) (a : Option Addr) (n cap m : Nat) (ws : List Wr) (q : Bool) : Prop where
  h : ∀ w', Below w.heap.size w w' → q = false → Calls Try.prog 28 #[.agg #[.int .u64 M, .slice a n cap]] w' (OutPost w' (bodyL m ws))
theorem SzC.below {w w' : World} {M : Int} {a : Option Addr} {n cap m : Nat} {ws : List Wr} {q : Bool} (h : SzC w M a n cap m ws q) (hb : Below w.heap.size w w') : q = false → Calls Try.prog 28 #[.agg #[.int .u64 M, .slice a n cap]] w' (OutPost w' (bodyL m ws)) := h.h w' hb
set_option maxRecDepth 100000 in
set_option maxHeartbeats 2000000 in
theorem j15Size_any (st : Nat) (a : Option Addr) (cap n : Nat) (ws : List Wr) (w : World) (hn : n = ws.length) (h : WsV w a ws) (hs : st < 18446744073709551616) (hl : ws.length ≤ 1000000) (hlen : (bodyL (max st 1) ws).length ≤ 1000000) :
    Calls Try.prog 142 #[.agg #[.int .u64 st, .slice a n cap]] w (IntPost w (sizeR ⟨max st 1, ws⟩)) := by
  obtain ⟨m, hm⟩ : ∃ m, max st 1 = m := ⟨_, rfl⟩
  obtain ⟨M, hM⟩ : ∃ M : Int, M = m := ⟨_, rfl⟩
  rw [hm] at hlen ⊢
  obtain ⟨W, hW⟩ : ∃ W, (w.alloc (.cells #[.int .u64 M, .slice a n cap] 35)) = W := ⟨_, rfl⟩
  have bW : Below w.heap.size w W := by rw [← hW]; exact below_box w _
  have eW : W.heap[w.heap.size]? = some (.cells #[.int .u64 M, .slice a n cap] 35) := by rw [← hW]; exact heap_new w _
  have v0 := cell_of_blk eW 0
  have v1 := cell_of_blk eW 1
  simp at v0 v1
  have HLW := Lib.hid (Array.getElem?_eq_some_iff.1 eW).1
  have HC : Hid (Calls Try.prog 25 #[.agg #[.int .u64 M, .slice a n cap]] W (BoolPost W (!(Rc.wrong ⟨m, ws⟩))) ∧ SzC W M a n cap m ws (Rc.wrong ⟨m, ws⟩)) := Lib.hid (by
    rw [hM]
    exact ⟨(size15_end m a cap n ws W hn (h.below bW) (by omega) hl hlen).1, ⟨fun w' hb hq => (size15_end m a cap n ws w' hn ((h.below bW).below hb) (by omega) hl hlen).2 hq⟩⟩)
  have HSZ : Hid (sizeR ⟨m, ws⟩ = if Rc.wrong ⟨m, ws⟩ = true then 0 else (bodyL m ws).length + 10) := Lib.hid rfl
  have HB := Lib.hid bW
  have HLEN := Lib.hid hlen
  clear bW h hl hlen hn eW
  by_cases h0 : st = 0
  · obtain rfl : M = 1 := by omega
    subst h0
    have HW := Lib.hid hW
    clear hm hM hW hs
    go_enter Try.func142, Try.ntmps142
    obtain ⟨q, hq⟩ : ∃ q, Rc.wrong ⟨m, ws⟩ = q := ⟨_, rfl⟩
    rw [hq] at HC HSZ
    have HCW := Lib.hid HC.out.2
    clear hq
    cases q with
    | true =>
      go_wp2_with fail
      rw [HW.out]
      refine HC.out.1.mono ?_
      rintro e w1 ⟨rfl, b1⟩
      have HB1 := Lib.hid (below_then HB.out b1)
      clear b1
      go_wp2_with fail
      go_ret
      exact ⟨by rw [HSZ.out]; rfl, HB1.out⟩
    | false =>
      go_wp2_with fail
      rw [HW.out]
      refine HC.out.1.mono ?_
      rintro e w1 ⟨rfl, b1⟩
      have HB1 := Lib.hid (below_then HB.out b1)
      have k0 := (b1.cell (p := ⟨w.heap.size, 0, none⟩) HLW.out).trans v0
      have k1 := (b1.cell (p := ⟨w.heap.size, 1, none⟩) HLW.out).trans v1
      have HC2 := Lib.hid ((HCW.out.below b1) rfl)
      clear b1
      go_wp2_with fail
      refine HC2.out.mono ?_
      rintro e w2 ⟨v2, rfl, o2, b2⟩
      obtain ⟨a2, c2, rfl⟩ := o2.shape
      have HB2 := Lib.hid (below_then HB1.out b2)
      obtain ⟨bl, hbl⟩ : ∃ bl, bl = (bodyL m ws).length := ⟨_, rfl⟩
      rw [← hbl]
      have hb6 : bl ≤ 1000000 := by rw [hbl]; exact HLEN.out
      have HBL := Lib.hid hbl
      have w4 : IntKind.i64.wrap ((bl : Int) + 10) = (bl : Int) + 10 := by rw [IntKind.wrap_i64]; omega
      have t1 : decide ((1048576 : Int) < (bl : Int)) = false := decide_eq_false (by omega)
      clear o2 b2 hbl
      go_wp2_with fail
      go_ret
      exact ⟨by rw [HSZ.out, ← HBL.out]; simp, HB2.out⟩
  · obtain rfl : M = st := by omega
    have HW := Lib.hid hW
    have t0 : ((st : Int) == 0) = false := by simp; omega
    clear hm hM hW hs h0
    go_enter Try.func142, Try.ntmps142
    obtain ⟨q, hq⟩ : ∃ q, Rc.wrong ⟨m, ws⟩ = q := ⟨_, rfl⟩
    rw [hq] at HC HSZ
    have HCW := Lib.hid HC.out.2
    clear hq
    cases q with
    | true =>
      go_wp2_with fail
      rw [HW.out]
      refine HC.out.1.mono ?_
      rintro e w1 ⟨rfl, b1⟩
      have HB1 := Lib.hid (below_then HB.out b1)
      clear b1
      go_wp2_with fail
      go_ret
      exact ⟨by rw [HSZ.out]; rfl, HB1.out⟩
    | false =>
      go_wp2_with fail
      rw [HW.out]
      refine HC.out.1.mono ?_
      rintro e w1 ⟨rfl, b1⟩
      have HB1 := Lib.hid (below_then HB.out b1)
      have k0 := (b1.cell (p := ⟨w.heap.size, 0, none⟩) HLW.out).trans v0
      have k1 := (b1.cell (p := ⟨w.heap.size, 1, none⟩) HLW.out).trans v1
      have HC2 := Lib.hid ((HCW.out.below b1) rfl)
      clear b1
      go_wp2_with fail
      refine HC2.out.mono ?_
      rintro e w2 ⟨v2, rfl, o2, b2⟩
      obtain ⟨a2, c2, rfl⟩ := o2.shape
      have HB2 := Lib.hid (below_then HB1.out b2)
      obtain ⟨bl, hbl⟩ : ∃ bl, bl = (bodyL m ws).length := ⟨_, rfl⟩
      rw [← hbl]
      have hb6 : bl ≤ 1000000 := by rw [hbl]; exact HLEN.out
      have HBL := Lib.hid hbl
      have w4 : IntKind.i64.wrap ((bl : Int) + 10) = (bl : Int) + 10 := by rw [IntKind.wrap_i64]; omega
      have t1 : decide ((1048576 : Int) < (bl : Int)) = false := decide_eq_false (by omega)
      clear o2 b2 hbl
      go_wp2_with fail
      go_ret
      exact ⟨by rw [HSZ.out, ← HBL.out]; simp, HB2.out⟩
end Go.Proofs.Ytcghgnncmnoalaa
namespace Go.Proofs.Ytcghgnncmnoalaa
open Go.RowKit Go.Maps

theorem promR_size (room len : Nat) (prom : Int) (r : Rc) : promR room len prom r = if sizeR r = 0 then ((0 : Int), (2 : Int), prom) else if (room : Int) - len - prom - 14 < (sizeR r : Int) then (0, 50, prom) else ((sizeR r : Int), 0, prom + (sizeR r : Int)) := by
  unfold promR sizeR
  cases r.wrong with
  | true => simp
  | false => simp [pack_len]
theorem RJ.prom {w : World} {rb room safe B : Nat} {prom last found : Int} {old : List UInt8} {ps : List Pc} (h : RJ w rb room prom last found old ps safe B) (p : Int) : RJ (w.setCell ⟨rb, 1, none⟩ (.int .i64 p)) rb room p last found old ps safe B := by
  have hc : Chg w (w.setCell ⟨rb, 1, none⟩ (.int .i64 p)) (fun j => j = rb) := (Chg.refl w (fun j => j = rb)).setCell (p := ⟨rb, 1, none⟩) (fun _ => rfl) _
  obtain ⟨oa, ocap, pa, pcap, h1, h2, h3, h4⟩ := h.ex
  exact ⟨⟨oa, ocap, pa, pcap, by rw [blk_setCell h1]; rfl, h2.chg hc (fun j e => by rw [e]; exact h.rbB), h3, h4.chg hc (fun j hj => by obtain ⟨cs, q⟩ := own_t h4 hj; exact ty_ne q h1 (by decide))⟩,
    fun q hq => ownsRow_of_block (h.bs q hq) (fun j hj => hc.block j ((h.bs q hq).lt j hj).2 (by obtain ⟨cs, r⟩ := bso_t (h.bs q hq) hj; exact ty_ne r h1 (by decide))), h.rbB, h.room, h.old, h.n, h.len, h.safe⟩
def RPromPost (w : World) (rb room : Nat) (prom last found : Int) (old : List UInt8) (ps : List Pc) (safe B : Nat) (r : Rc) (e : Ending) (w' : World) : Prop :=
  e = .returned (.tuple #[.int .i64 (promR room (old.length + pcN ps) prom r).1, .int .i64 (promR room (old.length + pcN ps) prom r).2.1]) ∧ RJ w' rb room (promR room (old.length + pcN ps) prom r).2.2 last found old ps safe B ∧ Chg w w' (fun j => j = rb)
set_option maxRecDepth 100000 in
set_option maxHeartbeats 2000000 in
theorem j15Promise_any {w : World} {rb room safe B : Nat} {prom last found : Int} {old : List UInt8} {ps : List Pc} (h : RJ w rb room prom last found old ps safe B) (hp0 : 0 ≤ prom) (hp1 : prom ≤ 2147483648)
    (st : Nat) (a : Option Addr) (cap n : Nat) (ws : List Wr) (hn : n = ws.length) (hw : WsV w a ws) (hs : st < 18446744073709551616) (hl : ws.length ≤ 1000000) (hlen : (bodyL (max st 1) ws).length ≤ 1000000) :
    Calls Try.prog 112 #[.pointer (some ⟨rb, 0, none⟩), .agg #[.int .u64 st, .slice a n cap]] w (RPromPost w rb room prom last found old ps safe B ⟨max st 1, ws⟩) := by
  obtain ⟨r, hr⟩ : ∃ r : Rc, r = ⟨max st 1, ws⟩ := ⟨_, rfl⟩
  rw [← hr]
  obtain ⟨W, hW⟩ : ∃ W, (w.alloc (.cells #[.int .u64 st, .slice a n cap] 35)) = W := ⟨_, rfl⟩
  have bW : Below w.heap.size w W := by rw [← hW]; exact below_box w _
  have eW : W.heap[w.heap.size]? = some (.cells #[.int .u64 st, .slice a n cap] 35) := by rw [← hW]; exact heap_new _ _
  have v0 := cell_of_blk eW 0
  have v1 := cell_of_blk eW 1
  simp at v0 v1
  have HC : Hid (Calls Try.prog 142 #[.agg #[.int .u64 st, .slice a n cap]] W (IntPost W (sizeR r))) := Lib.hid (by rw [hr]; exact j15Size_any st a cap n ws W hn (hw.below bW) hs hl hlen)
  have HS := Lib.hid (h.below bW)
  have HB := Lib.hid bW
  have HW := Lib.hid hW
  obtain ⟨sz, hsz⟩ : ∃ s, s = sizeR r := ⟨_, rfl⟩
  have hsz6 : sz ≤ 1000010 := by
    rw [hsz]
    unfold sizeR
    rw [hr]
    split
    · omega
    · show (bodyL (max st 1) ws).length + 10 ≤ _; omega
  rw [← hsz] at HC
  obtain ⟨ln, hln⟩ : ∃ ln, ln = old.length + pcN ps := ⟨_, rfl⟩
  have HLN : Hid ((room : Int) - old.length - pcN ps = (room : Int) - ln) := Lib.hid (by rw [hln]; omega)
  have HPR : Hid (promR room (old.length + pcN ps) prom r = if sz = 0 then ((0 : Int), (2 : Int), prom) else if (room : Int) - ln - prom - 14 < (sz : Int) then (0, 50, prom) else ((sz : Int), 0, prom + (sz : Int))) := Lib.hid (by rw [promR_size, hsz, hln])
  have hl6 : ln ≤ 2000000 := by have := h.old; have := h.n; omega
  have hr6 := h.room
  clear hW bW eW h hw hs hl hlen hn hr hln hsz
  go_enter Try.func112, Try.ntmps112
  go_upto_region 1 with fail
  rw [HW.out]
  go_wp2_with fail
  refine HC.out.mono ?_
  rintro e w1 ⟨rfl, b1⟩
  have HB1 := Lib.hid (below_then HB.out b1)
  have HS1 := Lib.hid (HS.out.below b1)
  clear b1
  by_cases hz : sz = 0
  · have HR : Hid (promR room (old.length + pcN ps) prom r = (0, 2, prom)) := Lib.hid (by rw [HPR.out, if_pos hz])
    subst hz
    go_wp2_with fail
    go_ret2
    exact ⟨by rw [HR.out]; rfl, by rw [HR.out]; exact HS1.out, Chg.of_below HB1.out _⟩
  · have t0 : ((sz : Int) == 0) = false := by simp; omega
    obtain ⟨_, _, _, _, e1, _⟩ := HS1.out.ex
    have k1 := cell_of_blk e1 1
    have f1 := frozen_of_blk e1 1
    simp at k1
    have HQ : Hid (∀ n : Nat, Quiet Try.prog 143 #[.pointer (some ⟨rb, 0, none⟩)] (w1.drewN n) (.int .i64 ((room : Int) - ln))) := Lib.hid (fun n => by rw [← HLN.out]; exact j15Left_any (HS1.out.below (below_drewN (Below.refl _ _) n)))
    have w2 : IntKind.i64.wrap ((room : Int) - (ln : Int) - prom) = (room : Int) - (ln : Int) - prom := by rw [IntKind.wrap_i64]; omega
    have w3 : IntKind.i64.wrap ((room : Int) - (ln : Int) - prom - 14) = (room : Int) - (ln : Int) - prom - 14 := by rw [IntKind.wrap_i64]; omega
    have w4 : IntKind.i64.wrap (prom + (sz : Int)) = prom + (sz : Int) := by rw [IntKind.wrap_i64]; omega
    by_cases hf : (room : Int) - ln - prom - 14 < (sz : Int)
    · have t1 : decide ((room : Int) - (ln : Int) - prom - 14 < (sz : Int)) = true := decide_eq_true hf
      have HR : Hid (promR room (old.length + pcN ps) prom r = (0, 50, prom)) := Lib.hid (by rw [HPR.out, if_neg hz, if_pos hf])
      clear e1 hf hz
      go_wp2_with fail
      go_quiet ((go_at_call 143; first | exact quiet_at (HQ.out _) | exact quiet_at2 (HQ.out _)))
      go_wp2_with fail
      go_ret2
      exact ⟨by rw [HR.out]; rfl, by rw [HR.out]; exact HS1.out.below (below_drewN (Below.refl _ _) _), Chg.of_below (below_drewN HB1.out _) _⟩
    · have t1 : decide ((room : Int) - (ln : Int) - prom - 14 < (sz : Int)) = false := decide_eq_false hf
      have HR : Hid (promR room (old.length + pcN ps) prom r = ((sz : Int), (0 : Int), prom + (sz : Int))) := Lib.hid (by rw [HPR.out, if_neg hz, if_neg hf])
      clear e1 hf hz
      go_wp2_with fail
      go_quiet ((go_at_call 143; first | exact quiet_at (HQ.out _) | exact quiet_at2 (HQ.out _)))
      go_wp2_with fail
      go_ret2
      exact ⟨by rw [HR.out]; rfl, by rw [HR.out]; exact (HS1.out.below (below_drewN (Below.refl _ _) _)).prom _, (Chg.of_below (below_drewN HB1.out _) (fun j => j = rb)).setCell (p := ⟨rb, 1, none⟩) (fun _ => rfl) _⟩
end Go.Proofs.Ytcghgnncmnoalaa
namespace Go.Proofs.Ytcghgnncmnoalaa
open Go.RowKit Go.Maps

/-- the block of a reference journal's pieces -/
def rob (w : World) (rb : Nat) : Option Nat := match w.heap[rb]? with | some (.cells cs _ _) => (match cs[5]? with | some v => v.ownBlock | none => none) | _ => none
theorem rob_eq {w : World} {rb : Nat} {a b c d e v g : Value} {t : TypeId} {z : Nat × Nat} (h : w.heap[rb]? = some (.cells #[a, b, c, d, e, v, g] t z)) : rob w rb = v.ownBlock := by unfold rob; rw [h]; rfl
/-- a piece is laid -/
theorem RJ.piece {w w1 w2 : World} {rb room safe B : Nat} {prom last found : Int} {old : List UInt8} {ps : List Pc} (h : RJ w rb room prom last found old ps safe B) {oa pa : Option Addr} {ocap pcap : Nat} {v' : Value} {p : Pc}
    (e : w.heap[rb]? = some (.cells #[.int .i64 room, .int .i64 prom, .int .i64 last, .int .i64 found, .slice oa old.length ocap, .slice pa ps.length pcap, .int .i64 safe] 117)) (he : OldV w B oa old) (hoc : old.length ≤ ocap) (hw : kP.Own w B (.slice pa ps.length pcap) ps)
    (hb : Below w.heap.size w w1) (hp : BsO w1 B (.slice p.a p.l.length p.cap) p.l) (hA : kP.App w1 B (.slice pa ps.length pcap) (ps ++ [p]) v' w2) (hn : pcN ps + p.l.length ≤ 1000000) (hl : ps.length + 1 ≤ 1000000) :
    RJ (w2.setCell ⟨rb, 5, none⟩ v') rb room prom last found old (ps ++ [p]) safe B ∧ w2.cell? ⟨rb, 5, none⟩ = some (.slice pa ps.length pcap) ∧ w2.frozen? ⟨rb, 5, none⟩ = false ∧ Chg w (w2.setCell ⟨rb, 5, none⟩ v') (fun j => j = rb ∨ rob w rb = some j) ∧ ∃ a2 c2, v' = .slice a2 (ps ++ [p]).length c2 := by
  obtain ⟨o2, g2, l2⟩ := hA
  obtain ⟨a2, c2, hv⟩ := o2.shape
  have hro : rob w rb = (Value.slice pa ps.length pcap).ownBlock := rob_eq e
  have hw1 := hw.below hb
  have e1 := (hb.block _ h.lt).trans e
  have hrn : ∀ j, (Value.slice pa ps.length pcap).ownBlock = some j → j ≠ rb := fun j hj => by obtain ⟨cs, q⟩ := own_t hw1 hj; exact ty_ne q e1 (by decide)
  have e2 := (g2.block rb (Nat.lt_of_lt_of_le h.lt hb.size) (fun hh => hrn rb hh.symm rfl)).trans e1
  have c1 : Chg w w2 (fun j => j = rb ∨ rob w rb = some j) := (Chg.of_below hb _).grown g2 (fun m hm _ => .inr (by rw [hro]; exact hm))
  have c2' : Chg w (w2.setCell ⟨rb, 5, none⟩ v') (fun j => j = rb ∨ rob w rb = some j) := c1.setCell (p := ⟨rb, 5, none⟩) (fun _ => .inl rfl) _
  have c3 : Chg w2 (w2.setCell ⟨rb, 5, none⟩ v') (fun j => j = rb) := (Chg.refl w2 (fun j => j = rb)).setCell (p := ⟨rb, 5, none⟩) (fun _ => rfl) _
  have hge : ∀ j, (j = rb ∨ rob w rb = some j) → B ≤ j := fun j hj => hj.elim (fun q => by rw [q]; exact h.rbB) (fun q => by rw [hro] at q; exact (hw.lt j q).1)
  refine ⟨⟨⟨oa, ocap, a2, c2, by rw [blk_setCell e2, ← hv]; rfl, he.chg c2' hge, hoc, ?_⟩, fun q hq => ?_, h.rbB, h.room, h.old, by rw [pcN_snoc]; exact hn, by rw [List.length_append]; exact hl, by rw [List.length_append]; exact Nat.le_trans h.safe (Nat.le_add_right _ _)⟩, ?_, frozen_of_blk e2 5, c2', a2, c2, hv⟩
  · rw [← hv]
    exact o2.chg c3 (fun j hj => by obtain ⟨cs, q⟩ := own_t o2 hj; exact ty_ne q e2 (by decide))
  · rcases List.mem_append.1 hq with hq | hq
    · have hb0 := h.bs q hq
      exact ownsRow_of_block hb0 (fun j hj => c2'.block j (hb0.lt j hj).2 (fun hs => by
        obtain ⟨cs, r⟩ := bso_t hb0 hj
        rcases hs with hs | hs
        · exact ty_ne r e (by decide) hs
        · rw [hro] at hs
          obtain ⟨cs2, r2⟩ := own_t hw hs
          exact ty_ne r r2 (by decide) rfl))
    · obtain rfl : q = p := by simpa using hq
      have hb2 : BsO w2 B (.slice q.a q.l.length q.cap) q.l := ownsRow_of_block hp (fun j hj => g2.block j (hp.lt j hj).2 (fun hs => by
        obtain ⟨cs, r⟩ := bso_t hp hj
        obtain ⟨cs2, r2⟩ := own_t hw1 hs.symm
        exact ty_ne r r2 (by decide) rfl))
      exact ownsRow_of_block hb2 (fun j hj => c3.block j (hb2.lt j hj).2 (by obtain ⟨cs, r⟩ := bso_t hb2 hj; exact ty_ne r e2 (by decide)))
  · have := cell_of_blk e2 5
    simpa using this
end Go.Proofs.Ytcghgnncmnoalaa
namespace Go.Proofs.Ytcghgnncmnoalaa
open Go.RowKit Go.Maps

theorem RJ.last {w : World} {rb room safe B : Nat} {prom last found : Int} {old : List UInt8} {ps : List Pc} (h : RJ w rb room prom last found old ps safe B) (p : Int) : RJ (w.setCell ⟨rb, 2, none⟩ (.int .i64 p)) rb room prom p found old ps safe B := by
  have hc : Chg w (w.setCell ⟨rb, 2, none⟩ (.int .i64 p)) (fun j => j = rb) := (Chg.refl w (fun j => j = rb)).setCell (p := ⟨rb, 2, none⟩) (fun _ => rfl) _
  obtain ⟨oa, ocap, pa, pcap, h1, h2, h3, h4⟩ := h.ex
  exact ⟨⟨oa, ocap, pa, pcap, by rw [blk_setCell h1]; rfl, h2.chg hc (fun j e => by rw [e]; exact h.rbB), h3, h4.chg hc (fun j hj => by obtain ⟨cs, q⟩ := own_t h4 hj; exact ty_ne q h1 (by decide))⟩,
    fun q hq => ownsRow_of_block (h.bs q hq) (fun j hj => hc.block j ((h.bs q hq).lt j hj).2 (by obtain ⟨cs, r⟩ := bso_t (h.bs q hq) hj; exact ty_ne r h1 (by decide))), h.rbB, h.room, h.old, h.n, h.len, h.safe⟩
/-- all that the last region of a laying function asks, at the world behind the call that makes the bytes -/
structure PcF (W w3 : World) (rb room : Nat) (prom last found : Int) (old : List UInt8) (ps : List Pc) (safe B : Nat) (p : Pc) (pa : Option Addr) (pcap : Nat) : Prop where
  k : w3.cell? ⟨rb, 5, none⟩ = some (.slice pa ps.length pcap)
  ka : (w3.alloc (.cells #[.slice p.a p.l.length p.cap, .int .i64 p.ep] 181)).cell? ⟨rb, 5, none⟩ = some (.slice pa ps.length pcap)
  own : kP.Own (w3.alloc (.cells #[.slice p.a p.l.length p.cap, .int .i64 p.ep] 181)) B (.slice pa ps.length pcap) ps
  v : kP.V (w3.alloc (.cells #[.slice p.a p.l.length p.cap, .int .i64 p.ep] 181)) (some ⟨w3.heap.size, 0, none⟩) [p]
  size : B ≤ (w3.alloc (.cells #[.slice p.a p.l.length p.cap, .int .i64 p.ep] 181)).heap.size
  m : ∀ v' w7, kP.App (w3.alloc (.cells #[.slice p.a p.l.length p.cap, .int .i64 p.ep] 181)) B (.slice pa ps.length pcap) (ps ++ [p]) v' w7 →
    RJ (w7.setCell ⟨rb, 5, none⟩ v') rb room prom last found old (ps ++ [p]) safe B ∧ w7.cell? ⟨rb, 5, none⟩ = some (.slice pa ps.length pcap) ∧ w7.frozen? ⟨rb, 5, none⟩ = false ∧ Chg W (w7.setCell ⟨rb, 5, none⟩ v') (fun j => j = rb ∨ rob W rb = some j) ∧ ∃ a2 c2, v' = .slice a2 (ps ++ [p]).length c2
theorem RJ.pcF {w w3 : World} {rb room safe B : Nat} {prom last found : Int} {old : List UInt8} {ps : List Pc} (h : RJ w rb room prom last found old ps safe B) {oa pa : Option Addr} {ocap pcap : Nat} {p : Pc}
    (e : w.heap[rb]? = some (.cells #[.int .i64 room, .int .i64 prom, .int .i64 last, .int .i64 found, .slice oa old.length ocap, .slice pa ps.length pcap, .int .i64 safe] 117)) (he : OldV w B oa old) (hoc : old.length ≤ ocap) (hw : kP.Own w B (.slice pa ps.length pcap) ps)
    (hb : Below w.heap.size w w3) (hp : BsO w3 B (.slice p.a p.l.length p.cap) p.l) (hn : pcN ps + p.l.length ≤ 1000000) (hl : ps.length + 1 ≤ 1000000) : PcF w w3 rb room prom last found old ps safe B p pa pcap := by
  have hba : Below w.heap.size w (w3.alloc (.cells #[.slice p.a p.l.length p.cap, .int .i64 p.ep] 181)) := below_then hb (below_box w3 _)
  have c5 := cell_of_blk e 5
  simp at c5
  exact ⟨(hb.cell (p := ⟨rb, 5, none⟩) h.lt).trans c5, (hba.cell (p := ⟨rb, 5, none⟩) h.lt).trans c5, hw.below hba, fun _ => ⟨_, 0, rfl, RowK.new_at (k := kP) (l := [p]) (heap_new w3 _) rfl⟩, Nat.le_trans h.rbB (Nat.le_trans (Nat.le_of_lt h.lt) hba.size),
    fun v' w7 hA => h.piece e he hoc hw hba (hp.below (below_box w3 _)) hA hn hl⟩
end Go.Proofs.Ytcghgnncmnoalaa
namespace Go.Proofs.Ytcghgnncmnoalaa
open Go.RowKit Go.Maps

/-- new bytes -/
def PFr (w : World) (a : Option Addr) : Prop := ∀ x, a = some x → w.heap.size ≤ x.block
def RMarkPost (w : World) (rb room : Nat) (prom last found : Int) (old : List UInt8) (ps : List Pc) (safe B : Nat) (n : Int) (e : Ending) (w' : World) : Prop :=
  e = .returned (.int .i64 (mkE room (old.length + pcN ps) prom last n)) ∧ (mkE room (old.length + pcN ps) prom last n ≠ 0 → RJ w' rb room prom last found old ps safe B) ∧
  (mkE room (old.length + pcN ps) prom last n = 0 → ∃ a c, RJ w' rb room prom n found old (ps ++ [⟨a, c, packL 2 (fourL n.toNat), n⟩]) safe B ∧ PFr w a) ∧ Chg w w' (fun j => j = rb ∨ rob w rb = some j)
theorem PFr.of {w w' : World} {B n c : Nat} {a : Option Addr} {l : List UInt8} (h : BsO w' B (.slice a n c) l) (hB : w.heap.size ≤ B := by exact Nat.le_refl _) : PFr w a := fun x hx => by
  obtain ⟨g, hg, h1, _⟩ := (bs_cap h).2.2.2 x hx
  rw [hg]
  exact Nat.le_trans hB h1
theorem RMarkPost.kept {w w1 : World} {rb room safe B : Nat} {prom last found n : Int} {old : List UInt8} {ps : List Pc} (hs : RJ w1 rb room prom last found old ps safe B) (hc : Below w.heap.size w w1) {x : Int} (hx : x ≠ 0) (hm : mkE room (old.length + pcN ps) prom last n = x) : RMarkPost w rb room prom last found old ps safe B n (.returned (.int .i64 x)) w1 :=
  ⟨by rw [hm], fun _ => hs, fun h => absurd (hm.symm.trans h) hx, Chg.of_below hc _⟩
set_option maxRecDepth 100000 in
set_option maxHeartbeats 4000000 in
theorem j15Mark_any {w : World} {rb room safe B : Nat} {prom last found : Int} {old : List UInt8} {ps : List Pc} (h : RJ w rb room prom last found old ps safe B) (hp0 : 0 ≤ prom) (hp1 : prom ≤ 2147483648) (hn6 : pcN ps + 14 ≤ 1000000) (hl6 : ps.length + 1 ≤ 1000000) (n : Int) :
    Calls Try.prog 115 #[.pointer (some ⟨rb, 0, none⟩), .int .i64 n] w (RMarkPost w rb room prom last found old ps safe B n) := by
  obtain ⟨oa, ocap, pa, pcap, e1, he, hoc, hw⟩ := h.ex
  have k1 := cell_of_blk e1 1
  have k2 := cell_of_blk e1 2
  have k5 := cell_of_blk e1 5
  simp at k1 k2 k5
  have HS := Lib.hid h
  obtain ⟨ln, hln⟩ : ∃ ln, ln = old.length + pcN ps := ⟨_, rfl⟩
  have HLN : Hid ((room : Int) - old.length - pcN ps = (room : Int) - ln) := Lib.hid (by rw [hln]; omega)
  have HQ : Hid (∀ n : Nat, Quiet Try.prog 143 #[.pointer (some ⟨rb, 0, none⟩)] (w.drewN n) (.int .i64 ((room : Int) - ln))) := Lib.hid (fun n => by rw [← HLN.out]; exact j15Left_any (HS.out.below (below_drewN (Below.refl _ _) n)))
  have hln6 : ln ≤ 2000000 := by have := h.old; omega
  have hr6 := h.room
  have hnn : ps.length ≤ 1000000 := h.len
  have w2 : IntKind.i64.wrap ((room : Int) - (ln : Int) - prom) = (room : Int) - (ln : Int) - prom := by rw [IntKind.wrap_i64]; omega
  have HPC : Hid (∀ (nq : Nat) (w3 : World) (a3 : Option Addr) (c3 k : Nat), Below w.heap.size w w3 → BsO w3 B (.slice a3 (packL 2 (fourL k)).length c3) (packL 2 (fourL k)) → PcF (w.drewN nq) w3 rb room prom last found old ps safe B ⟨a3, c3, packL 2 (fourL k), k⟩ pa pcap) := Lib.hid (fun nq w3 a3 c3 k hb ho =>
    (HS.out.below (below_drewN (Below.refl _ _) nq)).pcF e1 (he.chg (Chg.of_below (below_drewN (Below.refl w.heap.size w) nq) (fun _ => False)) (fun _ e => e.elim)) hoc (hw.below (below_drewN (Below.refl _ _) nq)) ⟨hb.os, hb.tape, hb.output, hb.size, hb.block⟩ ho (by rw [pack_len]; simp [fourL]; omega) hl6)
  rw [← HLN.out] at HQ
  clear h e1 he hoc hw
  by_cases h0 : n < 0
  · have t1 : decide (n < 0) = true := decide_eq_true h0
    have HR : Hid (mkE room (old.length + pcN ps) prom last n = 2) := Lib.hid (by unfold mkE; rw [if_pos (by unfold epB inB; simp; omega)])
    go_enter Try.func115, Try.ntmps115
    go_wp2_with fail
    go_ret
    exact RMarkPost.kept HS.out (Below.refl _ _) (by decide) HR.out
  have t1 : decide (n < 0) = false := decide_eq_false h0
  by_cases h9 : 2147483647 < n
  · have t2 : decide (2147483647 < n) = true := decide_eq_true h9
    have HR : Hid (mkE room (old.length + pcN ps) prom last n = 2) := Lib.hid (by unfold mkE; rw [if_pos (by unfold epB inB; simp; omega)])
    go_enter Try.func115, Try.ntmps115
    go_wp2_with fail
    go_ret
    exact RMarkPost.kept HS.out (Below.refl _ _) (by decide) HR.out
  have t2 : decide (2147483647 < n) = false := decide_eq_false h9
  have hep : ¬ (epB n = false) := by unfold epB inB; simp; omega
  by_cases hst : n ≤ last
  · have t3 : decide (n ≤ last) = true := decide_eq_true hst
    have HR : Hid (mkE room (old.length + pcN ps) prom last n = 51) := Lib.hid (by unfold mkE; rw [if_neg hep, if_pos hst])
    clear hep
    go_enter Try.func115, Try.ntmps115
    go_wp2_with fail
    go_ret
    exact RMarkPost.kept HS.out (Below.refl _ _) (by decide) HR.out
  have t3 : decide (n ≤ last) = false := decide_eq_false hst
  rw [HLN.out] at HQ
  by_cases hf : (room : Int) - ln - prom < 28
  · have t4 : decide ((room : Int) - (ln : Int) - prom < 28) = true := decide_eq_true hf
    have HR : Hid (mkE room (old.length + pcN ps) prom last n = 50) := Lib.hid (by unfold mkE; rw [if_neg hep, if_neg hst, ← hln, if_pos hf])
    clear hep hf hst h0 h9 hln
    go_enter Try.func115, Try.ntmps115
    go_wp2_with fail
    go_quiet ((go_at_call 143; first | exact quiet_at (HQ.out _) | exact quiet_at2 (HQ.out _)))
    go_wp2_with fail
    go_ret
    exact RMarkPost.kept (HS.out.below (below_drewN (Below.refl _ _) _)) (below_drewN (Below.refl _ _) _) (by decide) HR.out
  · have t4 : decide ((room : Int) - (ln : Int) - prom < 28) = false := decide_eq_false hf
    have HR : Hid (mkE room (old.length + pcN ps) prom last n = 0) := Lib.hid (by unfold mkE; rw [if_neg hep, if_neg hst, ← hln, if_neg hf])
    clear hep hf hst hln
    go_enter Try.func115, Try.ntmps115
    go_wp2_with fail
    go_quiet ((go_at_call 143; first | exact quiet_at (HQ.out _) | exact quiet_at2 (HQ.out _)))
    obtain ⟨k, rfl⟩ : ∃ k : Nat, n = k := ⟨n.toNat, by omega⟩
    obtain ⟨P, hP⟩ : ∃ P, P = packL 2 (fourL k) := ⟨_, rfl⟩
    have HMC : Hid (∀ u : World, Calls Try.prog 29 #[.int .i64 (k : Int)] u (OutPost u P)) := Lib.hid (fun u => by rw [hP]; exact r14mark_any k u (by omega))
    have HP2 : Hid (∀ (w3 : World) (a3 : Option Addr) (c3 : Nat), Below w.heap.size w w3 → BsO w3 B (.slice a3 P.length c3) P → PcF (w.drewN nq) w3 rb room prom last found old ps safe B ⟨a3, c3, P, (k : Int)⟩ pa pcap) := Lib.hid (fun w3 a3 c3 hb ho => by rw [hP] at ho ⊢; exact HPC.out nq w3 a3 c3 k hb ho)
    have HPE := Lib.hid hP
    have HBW : Hid (B ≤ w.heap.size) := Lib.hid (Nat.le_trans HS.out.rbB (Nat.le_of_lt HS.out.lt))
    have HL6 := Lib.hid hl6
    clear hP h0 h9
    go_upto_region 7 with fail
    go_region_law (first
      | (refine RowK.step_app (k := kP) (B := B) (v := .slice pa ps.length pcap) (l := ps) rfl (.tmp 29) (.tmp 34) rfl rfl HF.out.own (some ⟨w3.heap.size, 0, none⟩) 1 [⟨a3, c3, P, (k : Int)⟩] 1 rfl rfl HF.out.v (by simp) ?hlx HF.out.size ?_
         case hlx => (have := HL6.out; simp; omega)
         intro v' w7 hA
         obtain ⟨q4, q5, q6, q7, a7, c7, rfl⟩ := HF.out.m _ _ hA
         have HQ4 := Lib.hid (And.intro q4 q7)
         clear hA q4 q7)
      | (go_simp
         refine (HMC.out _).mono ?_
         rintro e w3 ⟨v3, rfl, o3, b3⟩
         obtain ⟨a3, c3, rfl⟩ := o3.shape
         have HFR : Hid (PFr w a3) := Lib.hid (PFr.of o3)
         have HF := Lib.hid (HP2.out w3 a3 c3 ⟨b3.os, b3.tape, b3.output, b3.size, b3.block⟩ (BsO.mono o3 HBW.out))
         have kx := HF.out.k
         have ky := HF.out.ka
         dsimp only at kx ky
         clear o3 b3
         dsimp only))
    all_goals (
      obtain ⟨h4, h7⟩ := HQ4.out
      rw [show (ps ++ [(⟨a3, c3, P, (k : Int)⟩ : Pc)]).length = ps.length + 1 by simp] at h4 h7
      obtain ⟨W8, hW8⟩ : ∃ W8, w7.setCell ⟨rb, 5, none⟩ (.slice a7 (ps.length + 1) c7) = W8 := ⟨_, rfl⟩
      rw [hW8] at h4 h7 ⊢
      have H4 := Lib.hid h4
      have H7 : Hid (Chg w W8 (fun j => j = rb ∨ rob w rb = some j)) := Lib.hid ((Chg.of_below (below_drewN (Below.refl _ _) nq) _).trans h7 (fun _ _ h => h))
      obtain ⟨_, _, _, _, e8, _⟩ := h4.ex
      have m2 := cell_of_blk e8 2
      have f2 := frozen_of_blk e8 2
      simp at m2
      clear e8 h4 h7 hW8 q5 q6
      go_wp2_with fail
      go_ret
      refine ⟨by rw [HR.out]; rfl, fun h => absurd HR.out h, fun _ => ⟨a3, c3, ?_⟩, H7.out.setCell (p := ⟨rb, 2, none⟩) (fun _ => .inl rfl) _⟩
      have h9 := H4.out.last (k : Int)
      rw [HPE.out] at h9
      exact ⟨h9, HFR.out⟩)
end Go.Proofs.Ytcghgnncmnoalaa
namespace Go.Proofs.Ytcghgnncmnoalaa
open Go.RowKit Go.Maps

/-- pieces' bytes -/
def pcB (ps : List Pc) : List UInt8 := ps.flatMap Pc.l
theorem pcB_len (ps : List Pc) : (pcB ps).length = pcN ps := by simp [pcB, pcN, List.length_flatMap]
theorem pcB_snoc (ps : List Pc) (p : Pc) : pcB (ps ++ [p]) = pcB ps ++ p.l := by simp [pcB]
theorem pcB_take {ps : List Pc} {i : Nat} {p : Pc} (h : ps[i]? = some p) : pcB (ps.take (i + 1)) = pcB (ps.take i) ++ p.l := by
  rw [List.take_add_one, h]
  exact pcB_snoc _ _
set_option maxRecDepth 100000 in
set_option maxHeartbeats 4000000 in
theorem j15Bytes_any {w : World} {rb room safe B : Nat} {prom last found : Int} {old : List UInt8} {ps : List Pc} (h : RJ w rb room prom last found old ps safe B) :
    Calls Try.prog 70 #[.pointer (some ⟨rb, 0, none⟩)] w (OutPost w (old ++ pcB ps)) := by
  obtain ⟨oa, ocap, pa, pcap, e1, he, hoc, hw⟩ := h.ex
  have c4 := cell_of_blk e1 4
  have c5 := cell_of_blk e1 5
  simp at c4 c5
  have HRB := Lib.hid h.lt
  have HR : Hid (ps ≠ [] → ∃ b, pa = some ⟨b, 0, none⟩ ∧ kP.At w b 0 ps) := Lib.hid (fun hne => by
    obtain ⟨b, cp, e, _, _, hat⟩ := hw.at' hne
    injection e with e1 e2 e3
    exact ⟨b, e1, hat⟩)
  have HSR : Hid (Src Try.prog 1 22 (.slice oa old.length ocap) old.length (old.map bv) w) := Lib.hid (BsV.src he.v ocap)
  obtain ⟨on, hon⟩ : ∃ n, n = old.length := ⟨_, rfl⟩
  obtain ⟨n, hn⟩ : ∃ n, n = ps.length := ⟨_, rfl⟩
  rw [← hon] at c4 HSR
  rw [← hn] at c5
  have HON := Lib.hid hon
  have HN := Lib.hid hn
  have HO6 := Lib.hid h.old
  have HN6 := Lib.hid h.n
  have hnl : n ≤ 1000000 := by rw [hn]; exact h.len
  have HC5 := Lib.hid c5
  have HPB := Lib.hid h.bs
  clear h e1 he hoc hw hon hn
  go_enter Try.func70, Try.ntmps70
  go_wp2_with ((at_builtin; refine wpList_appX _ rfl (.tmp 5) (.tmp 9) 22 rfl w.heap.size _ [] rfl (BsO.nil _ _) (.slice oa on ocap) on old rfl HON.out.symm HSR.out (by have := HO6.out; simp; omega) (Nat.le_refl _) ?_; rintro v5 w5 ⟨o5, b5, _, _⟩; have H5 := Lib.hid (And.intro o5 b5); clear o5 b5))
  go_loopw [3, 4] (fun vs vi wr => ∃ i : Nat, i ≤ n ∧ vi = .int .i64 i ∧ Hid (BsO wr w.heap.size vs (old ++ pcB (ps.take i)) ∧ Below w.heap.size w wr)) (fun _ vi _ => n - (intOf vi).toNat)
  case atStart => exact ⟨0, by omega, rfl, Lib.hid ⟨by simpa [pcB] using H5.out.1, H5.out.2⟩⟩
  case round =>
    obtain ⟨i, hi, rfl, HI⟩ := hrel
    have k5 := (HI.out.2.cell (p := ⟨rb, 5, none⟩) HRB.out).trans HC5.out
    by_cases hin : i < n
    · have hin' : (i : Int) < (n : Int) := by omega
      have hne : ps ≠ [] := fun e => by have := HN.out; rw [e] at this; simp at this; omega
      obtain ⟨b, rfl, hat⟩ := HR.out hne
      obtain ⟨m, hm⟩ : ∃ m, ps[i]? = some m := ⟨_, List.getElem?_eq_getElem (by have := HN.out; omega)⟩
      have k0 := (hat.below HI.out.2).cells i m hm 0 _ rfl
      simp [kP] at k0
      have HS1 := Lib.hid (pcB_take hm)
      have hm1 := pcN_le ps i
      have hm2 := pcN_le ps (i + 1)
      rw [pcN_take hm] at hm2
      have HSM : Hid (Src Try.prog 1 22 (.slice m.a m.l.length m.cap) m.l.length (m.l.map bv) wr) := Lib.hid (BsV.src (BsO.bsV ((HPB.out m (List.mem_of_getElem? hm)).below HI.out.2)) m.cap)
      have HLEN : Hid ((old ++ pcB (ps.take i)).length + m.l.length ≤ 2000000) := Lib.hid (by rw [List.length_append, pcB_len]; have := HO6.out; have := HN6.out; omega)
      obtain ⟨ml, hml⟩ : ∃ s, s = m.l.length := ⟨_, rfl⟩
      rw [← hml] at k0 HSM
      have HML := Lib.hid hml
      obtain ⟨L, hL⟩ : ∃ L, L = old ++ pcB (ps.take i) := ⟨_, rfl⟩
      rw [← hL] at HI HLEN
      have HL := Lib.hid hL
      clear hm hat hne hm1 hm2 hml hL c4 c5
      go_wp2_with ((at_builtin; refine wpList_appX _ rfl (.tmp 20) (.tmp 28) 22 rfl w.heap.size _ L rfl HI.out.1 (.slice m.a ml m.cap) ml m.l rfl HML.out.symm HSM.out (by have := HLEN.out; omega) HI.out.2.size ?_; rintro v6 w6 ⟨o6, b6, _, _⟩; have H6 := Lib.hid (And.intro o6 (HI.out.2.trans b6)); clear o6 b6))
      exact ⟨⟨i + 1, by omega, by go_num, Lib.hid ⟨by rw [HS1.out, ← List.append_assoc, ← HL.out]; exact H6.out.1, H6.out.2⟩⟩, by simp [intOf]; omega⟩
    · obtain rfl : i = n := by omega
      have ht : ps.take i = ps := by rw [HN.out]; exact List.take_length
      rw [ht] at HI
      clear c4 c5
      go_wp2_with fail
      go_ret
      exact ⟨_, rfl, HI.out.1, HI.out.2⟩
end Go.Proofs.Ytcghgnncmnoalaa
namespace Go.Proofs.Ytcghgnncmnoalaa
open Go.RowKit Go.Maps

def ForgetPost (w : World) (jb db room safe : Nat) (prom last : Int) (B : Nat) (l : List UInt8) (ms : List (Int × Int)) (n : Int) (e : Ending) (w' : World) : Prop :=
  ((n < 0 ∨ prom < n) → e = .returned (.int .i64 2) ∧ w = w') ∧ (0 ≤ n → n ≤ prom → e = .returned (.int .i64 0) ∧ JS w' jb db room safe (prom - n) last B l ms ∧ Chg w w' (fun j => j = jb))
theorem jForget_any {w : World} {jb db room safe B : Nat} {prom last : Int} {l : List UInt8} {ms : List (Int × Int)} (h : JS w jb db room safe prom last B l ms) (hp1 : prom ≤ 2147483648) (n : Int) :
    Calls Try.prog 114 #[.pointer (some ⟨jb, 0, none⟩), .int .i64 n] w (ForgetPost w jb db room safe prom last B l ms n) := by
  obtain ⟨aj, cj, e1, _⟩ := h.j
  have k1 := cell_of_blk e1 1
  have f1 := frozen_of_blk e1 1
  simp at k1
  have HS := Lib.hid h
  clear h e1
  by_cases h0 : n < 0
  · have t1 : decide (n < 0) = true := decide_eq_true h0
    have HN := Lib.hid h0
    clear h0
    go_enter Try.func114, Try.ntmps114
    go_wp2_with fail
    go_ret
    exact ⟨fun _ => ⟨by first | exact trivial | rfl, by first | exact trivial | rfl⟩, fun h => absurd HN.out (by omega)⟩
  have t1 : decide (n < 0) = false := decide_eq_false h0
  by_cases h2 : prom < n
  · have t2 : decide (prom < n) = true := decide_eq_true h2
    have HN := Lib.hid h2
    clear h0 h2
    go_enter Try.func114, Try.ntmps114
    go_wp2_with fail
    go_ret
    exact ⟨fun _ => ⟨by first | exact trivial | rfl, by first | exact trivial | rfl⟩, fun _ h => absurd HN.out (by omega)⟩
  · have t2 : decide (prom < n) = false := decide_eq_false h2
    have w4 : IntKind.i64.wrap (prom - n) = prom - n := by rw [IntKind.wrap_i64]; omega
    have HN := Lib.hid (And.intro h0 h2)
    clear h0 h2
    go_enter Try.func114, Try.ntmps114
    go_wp2_with fail
    go_ret
    exact ⟨fun h => absurd h (by have := HN.out; omega), fun _ _ => ⟨by first | exact trivial | rfl, HS.out.prom _, (Chg.refl w (fun j => j = jb)).setCell (p := ⟨jb, 1, none⟩) (fun _ => rfl) _⟩⟩
end Go.Proofs.Ytcghgnncmnoalaa
namespace Go.Proofs.Ytcghgnncmnoalaa
open Go.RowKit Go.Maps

def rappE (prom : Int) (st : Nat) (ws : List Wr) : Int := if sizeR ⟨max st 1, ws⟩ = 0 ∨ st = 0 then 2 else if prom < (sizeR ⟨max st 1, ws⟩ : Int) then 50 else 0
def RAppPost (w : World) (rb room : Nat) (prom last found : Int) (old : List UInt8) (ps : List Pc) (safe B : Nat) (st : Nat) (ws : List Wr) (e : Ending) (w' : World) : Prop :=
  e = .returned (.int .i64 (rappE prom st ws)) ∧ (rappE prom st ws ≠ 0 → RJ w' rb room prom last found old ps safe B) ∧
  (rappE prom st ws = 0 → ∃ a c, RJ w' rb room (prom - (sizeR ⟨max st 1, ws⟩ : Int)) last found old (ps ++ [⟨a, c, packL 1 (bodyL st ws), -1⟩]) safe B ∧ PFr w a) ∧ Chg w w' (fun j => j = rb ∨ rob w rb = some j)
theorem RAppPost.kept {w w1 : World} {rb room safe B st : Nat} {prom last found : Int} {old : List UInt8} {ps : List Pc} {ws : List Wr} (hs : RJ w1 rb room prom last found old ps safe B) (hc : Below w.heap.size w w1) {x : Int} (hx : x ≠ 0) (hm : rappE prom st ws = x) : RAppPost w rb room prom last found old ps safe B st ws (.returned (.int .i64 x)) w1 :=
  ⟨by rw [hm], fun _ => hs, fun h => absurd (hm.symm.trans h) hx, Chg.of_below hc _⟩
/-- writes are no reference journal's cells -/
theorem WsV.rj {w w' : World} {rb room safe B : Nat} {prom last found : Int} {old : List UInt8} {ps : List Pc} {x : Option Addr} {ws : List Wr} (h : WsV w x ws) (hr : RJ w rb room prom last found old ps safe B) (hc : Chg w w' (fun j => j = rb)) : WsV w' x ws := fun hn => by
  obtain ⟨b, off, e1, hat⟩ := h hn
  refine ⟨b, off, e1, hat.of_block (hc.block b hat.lt (fun hb => ?_))⟩
  subst hb
  obtain ⟨y, t', rfl⟩ := List.exists_cons_of_ne_nil hn
  obtain ⟨_, _, _, h0, _⟩ := hat.six (i := 0) (x := y) rfl
  obtain ⟨oa, ocap, pa, pcap, e, _⟩ := hr.ex
  rw [cell_of_blk e] at h0
  obtain ⟨k, hk⟩ : ∃ k, off + 0 * 6 + 3 = k := ⟨_, rfl⟩
  rw [hk] at h0
  match k, h0 with
  | 0, h0 => simp at h0
  | 1, h0 => simp at h0
  | 2, h0 => simp at h0
  | 3, h0 => simp at h0
  | 4, h0 => simp at h0
  | 5, h0 => simp at h0
  | 6, h0 => simp at h0
  | k + 7, h0 => simp at h0
end Go.Proofs.Ytcghgnncmnoalaa
namespace Go.Proofs.Ytcghgnncmnoalaa
open Go.RowKit Go.Maps

set_option maxRecDepth 100000 in
set_option maxHeartbeats 4000000 in
theorem j15Append_any {w : World} {rb room safe B : Nat} {prom last found : Int} {old : List UInt8} {ps : List Pc} (h : RJ w rb room prom last found old ps safe B) (hp0 : 0 ≤ prom) (hp1 : prom ≤ 2147483648) (hl6 : ps.length + 1 ≤ 1000000)
    (st : Nat) (a : Option Addr) (cap n : Nat) (ws : List Wr) (hn : n = ws.length) (hw : WsV w a ws) (hs : st < 18446744073709551616) (hl : ws.length ≤ 1000000) (hlen : (bodyL (max st 1) ws).length ≤ 1000000) (hn6 : pcN ps + (packL 1 (bodyL st ws)).length ≤ 1000000) :
    Calls Try.prog 113 #[.pointer (some ⟨rb, 0, none⟩), .agg #[.int .u64 st, .slice a n cap]] w (RAppPost w rb room prom last found old ps safe B st ws) := by
  obtain ⟨W, hW⟩ : ∃ W, (w.alloc (.cells #[.int .u64 st, .slice a n cap] 35)) = W := ⟨_, rfl⟩
  have bW : Below w.heap.size w W := by rw [← hW]; exact below_box w _
  have eW : W.heap[w.heap.size]? = some (.cells #[.int .u64 st, .slice a n cap] 35) := by rw [← hW]; exact heap_new _ _
  have v0 := cell_of_blk eW 0
  have v1 := cell_of_blk eW 1
  simp at v0 v1
  have HLW := Lib.hid (Array.getElem?_eq_some_iff.1 eW).1
  have HC : Hid (Calls Try.prog 142 #[.agg #[.int .u64 st, .slice a n cap]] W (IntPost W (sizeR ⟨max st 1, ws⟩))) := Lib.hid (j15Size_any st a cap n ws W hn (hw.below bW) hs hl hlen)
  have HS := Lib.hid (h.below bW)
  have HRB := Lib.hid h.lt
  have HB := Lib.hid bW
  have HW := Lib.hid hW
  obtain ⟨sz, hsz⟩ : ∃ s, s = sizeR ⟨max st 1, ws⟩ := ⟨_, rfl⟩
  have hsz6 : sz ≤ 1000010 := by
    rw [hsz]
    unfold sizeR
    split
    · omega
    · show (bodyL (max st 1) ws).length + 10 ≤ _; omega
  have HE : Hid (rappE prom st ws = if sz = 0 ∨ st = 0 then 2 else if prom < (sz : Int) then 50 else 0) := Lib.hid (by rw [hsz]; rfl)
  have HSZ := Lib.hid hsz
  rw [← hsz] at HC
  have HWV := Lib.hid (hw.below bW)
  have HX := Lib.hid (And.intro hn (And.intro hs (And.intro hl (And.intro hlen hn6))))
  have HEW := Lib.hid eW
  have HRO : Hid (rob W rb = rob w rb) := Lib.hid (by unfold rob; rw [bW.block rb h.lt])
  clear hW bW eW h hw hs hl hlen hn hsz hn6
  go_enter Try.func113, Try.ntmps113
  go_upto_region 1 with fail
  rw [HW.out]
  go_wp2_with fail
  refine HC.out.mono ?_
  rintro e w1 ⟨rfl, b1⟩
  have HB1 := Lib.hid (below_then HB.out b1)
  have HS1 := Lib.hid (HS.out.below b1)
  have HWV1 := Lib.hid (HWV.out.below b1)
  have x0 := (b1.cell (p := ⟨w.heap.size, 0, none⟩) HLW.out).trans v0
  have x1 := (b1.cell (p := ⟨w.heap.size, 1, none⟩) HLW.out).trans v1
  have HEW1 := Lib.hid ((b1.block _ HLW.out).trans HEW.out)
  have HRO1 : Hid (rob w1 rb = rob w rb) := Lib.hid (by rw [← HRO.out]; unfold rob; rw [b1.block rb HS.out.lt])
  clear b1 v0 v1
  by_cases hz : sz = 0
  · have HR : Hid (rappE prom st ws = 2) := Lib.hid (by rw [HE.out, if_pos (.inl hz)])
    subst hz
    go_wp2_with fail
    go_ret
    exact RAppPost.kept HS1.out HB1.out (by decide) HR.out
  have t0 : ((sz : Int) == 0) = false := by simp; omega
  by_cases hs0 : st = 0
  · have HR : Hid (rappE prom st ws = 2) := Lib.hid (by rw [HE.out, if_pos (.inr hs0)])
    subst hs0
    go_wp2_with fail
    go_ret
    exact RAppPost.kept HS1.out HB1.out (by decide) HR.out
  have t1 : ((st : Int) == 0) = false := by simp; omega
  obtain ⟨oa, ocap, pa, pcap, e1, _⟩ := HS1.out.ex
  have k1 := cell_of_blk e1 1
  have f1 := frozen_of_blk e1 1
  simp at k1
  have w4 : IntKind.i64.wrap (prom - (sz : Int)) = prom - (sz : Int) := by rw [IntKind.wrap_i64]; omega
  by_cases hf : prom < (sz : Int)
  · have t2 : decide (prom < (sz : Int)) = true := decide_eq_true hf
    have HR : Hid (rappE prom st ws = 50) := Lib.hid (by rw [HE.out, if_neg (by omega), if_pos hf])
    clear e1 hf hz hs0
    go_wp2_with fail
    go_ret
    exact RAppPost.kept HS1.out HB1.out (by decide) HR.out
  · have t2 : decide (prom < (sz : Int)) = false := decide_eq_false hf
    have HR : Hid (rappE prom st ws = 0) := Lib.hid (by rw [HE.out, if_neg (by omega), if_neg hf])
    have HMX : Hid (max st 1 = st) := Lib.hid (by omega)
    obtain ⟨W2, hW2⟩ : ∃ W2, w1.setCell ⟨rb, 1, none⟩ (.int .i64 (prom - (sz : Int))) = W2 := ⟨_, rfl⟩
    have g2 : Chg w1 W2 (fun j => j = rb) := by rw [← hW2]; exact (Chg.refl w1 (fun j => j = rb)).setCell (p := ⟨rb, 1, none⟩) (fun _ => rfl) _
    have s2 : RJ W2 rb room (prom - (sz : Int)) last found old ps safe B := by rw [← hW2]; exact HS1.out.prom _
    have hwv2 : WsV W2 a ws := HWV1.out.rj HS1.out g2
    have hlw : w.heap.size ≠ rb := fun e => by have := HRB.out; omega
    have e9 := (g2.block _ (Array.getElem?_eq_some_iff.1 HEW1.out).1 hlw).trans HEW1.out
    have y0 := cell_of_blk e9 0
    have y1 := cell_of_blk e9 1
    simp at y0 y1
    obtain ⟨oa2, ocap2, pa2, pcap2, e2, he2, hoc2, hw2⟩ := s2.ex
    have q5 := cell_of_blk e2 5
    simp at q5
    obtain ⟨BL, hBL⟩ : ∃ BL, BL = bodyL st ws := ⟨_, rfl⟩
    obtain ⟨P, hP⟩ : ∃ P, P = packL 1 BL := ⟨_, rfl⟩
    obtain ⟨hn, hs, hl, hlen, hn6⟩ := HX.out
    rw [HMX.out, ← hBL] at hlen
    rw [← hBL, ← hP] at hn6
    have hwr : Rc.wrong ⟨st, ws⟩ = false := by
      have h1 := HSZ.out
      rw [HMX.out] at h1
      unfold sizeR at h1
      cases hq : Rc.wrong ⟨st, ws⟩ with
      | false => rfl
      | true => rw [hq] at h1; simp at h1; omega
    have HBD : Hid (Calls Try.prog 28 #[.agg #[.int .u64 st, .slice a n cap]] W2.drew (OutPost W2.drew BL)) := Lib.hid (by
      rw [hBL] at hlen ⊢
      exact (size15_end st a cap n ws W2.drew hn (hwv2.below (below_drewN (Below.refl _ _) 1)) hs hl hlen).2 hwr)
    have HPK : Hid (∀ (u : World) (a3 : Option Addr) (c3 : Nat), BsV u a3 BL → Calls Try.prog 27 #[.agg #[.int .u8 1, .slice a3 BL.length c3]] u (OutPost u P)) := Lib.hid (fun u a3 c3 hv => by rw [hP]; exact pack_one a3 c3 BL u hv hlen)
    have HP2 : Hid (∀ (w5 : World) (a5 : Option Addr) (c5 : Nat), Below W2.heap.size W2 w5 → BsO w5 B (.slice a5 P.length c5) P → PcF W2 w5 rb room (prom - (sz : Int)) last found old ps safe B ⟨a5, c5, P, -1⟩ pa2 pcap2) := Lib.hid (fun w5 a5 c5 hb ho => s2.pcF e2 he2 hoc2 hw2 hb ho hn6 hl6)
    have HK5 : Hid (∀ u : World, Below W2.heap.size W2 u → u.cell? ⟨rb, 5, none⟩ = some (.slice pa2 ps.length pcap2)) := Lib.hid (fun u hb => (hb.cell (p := ⟨rb, 5, none⟩) s2.lt).trans q5)
    have HBW : Hid (B ≤ W2.heap.size) := Lib.hid (Nat.le_trans s2.rbB (Nat.le_of_lt s2.lt))
    have HG2 : Hid (Chg w W2 (fun j => j = rb)) := Lib.hid ((Chg.of_below HB1.out _).trans g2 (fun _ _ h => h))
    have HRO2 : Hid (rob W2 rb = rob w rb) := Lib.hid (by
      rw [← HRO1.out, ← hW2, rob_eq e1, rob_eq (show (w1.setCell ⟨rb, 1, none⟩ (.int .i64 (prom - (sz : Int)))).heap[rb]? = _ by rw [blk_setCell e1]; rfl)])
    have HPE : Hid (P = packL 1 (bodyL st ws)) := Lib.hid (by rw [hP, hBL])
    have HW2 := Lib.hid hW2
    have HL6 := Lib.hid hl6
    clear hP hBL hwr hn hs hl hlen hn6 e1 e2 e9 he2 hoc2 hw2 g2 s2 hwv2 hlw hW2 hf hz hs0
    go_upto_region 7 with fail
    rw [HW2.out]
    clear k1 f1 x0 x1
    go_region_law (first
      | (refine RowK.step_app (k := kP) (B := B) (v := .slice pa2 ps.length pcap2) (l := ps) rfl (.tmp 34) (.tmp 40) rfl rfl HF.out.own (some ⟨w5.heap.size, 0, none⟩) 1 [⟨a5, c5, P, -1⟩] 1 rfl rfl HF.out.v (by simp) ?hlx HF.out.size ?_
         case hlx => (have := HL6.out; simp; omega)
         intro v' w7 hA
         obtain ⟨q4, q5, q6, q7, a7, c7, rfl⟩ := HF.out.m _ _ hA
         have HQ4 := Lib.hid (And.intro q4 q7)
         clear hA q4 q7)
      | (go_simp
         refine HBD.out.mono ?_
         rintro e w3 ⟨v3, rfl, o3, b3⟩
         obtain ⟨a3, c3, rfl⟩ := o3.shape
         have HO3 := Lib.hid (And.intro (BsO.bsV o3) (show Below W2.heap.size W2 w3 from ⟨b3.os, b3.tape, b3.output, b3.size, b3.block⟩))
         have kw := HK5.out w3 HO3.out.2
         clear o3 b3
         dsimp only)
      | (go_simp
         refine (HPK.out _ _ _ HO3.out.1).mono ?_
         rintro e w5 ⟨v5, rfl, o5, b5⟩
         obtain ⟨a5, c5, rfl⟩ := o5.shape
         have HFR : Hid (PFr w a5) := Lib.hid (PFr.of o5 (Nat.le_trans HG2.out.size HO3.out.2.size))
         have HF := Lib.hid (HP2.out w5 a5 c5 (below_then HO3.out.2 b5) (BsO.mono o5 (Nat.le_trans HBW.out HO3.out.2.size)))
         have kx := HF.out.k
         have ky := HF.out.ka
         dsimp only at kx ky
         clear o5 b5
         dsimp only))
    all_goals (
      obtain ⟨h4, h7⟩ := HQ4.out
      rw [show (ps ++ [(⟨a5, c5, P, -1⟩ : Pc)]).length = ps.length + 1 by simp] at h4 h7
      have H4 := Lib.hid h4
      have H7 : Hid (Chg w (w7.setCell ⟨rb, 5, none⟩ (.slice a7 (ps.length + 1) c7)) (fun j => j = rb ∨ rob w rb = some j)) := Lib.hid ((HG2.out.mono (fun _ _ h => .inl h)).trans h7 (fun j _ h => by rw [HRO2.out] at h; exact h))
      clear h4 h7 q5 q6
      go_wp2_with fail
      go_ret
      refine ⟨by rw [HR.out]; rfl, fun h => absurd HR.out h, fun _ => ⟨a5, c5, ?_⟩, H7.out⟩
      have h9 := H4.out
      rw [HPE.out] at h9
      rw [← HSZ.out]
      exact ⟨h9, HFR.out⟩)
end Go.Proofs.Ytcghgnncmnoalaa
namespace Go.Proofs.Ytcghgnncmnoalaa
open Go.RowKit Go.Maps

set_option maxRecDepth 100000 in
set_option maxHeartbeats 1000000 in
theorem jsmall_any (kd0 n0 : Int) (st : Nat) (a : Option Addr) (cap : Nat) (ws : List Wr) (w : World) (h : WsV w a ws) (hl : ws.length ≤ maxLen) :
    Calls Try.prog 54 #[.agg #[.int .i64 kd0, .int .i64 n0, .int .u64 st, .slice a ws.length cap]] w (BoolPost w (smallW 10 200 ws)) := by
  unfold maxLen at hl
  obtain ⟨W, hW⟩ : ∃ W, W = w.alloc (.cells #[.int .i64 kd0, .int .i64 n0, .int .u64 st, .slice a ws.length cap] 99) := ⟨_, rfl⟩
  have hBW : Below w.heap.size w W := by rw [hW]; exact below_box w _
  have eW : W.heap[w.heap.size]? = some (.cells #[.int .i64 kd0, .int .i64 n0, .int .u64 st, .slice a ws.length cap] 99) := by rw [hW]; exact heap_new w _
  have HBW := Lib.hid hBW
  have HW := Lib.hid hW
  have HWS := Lib.hid (h.below hBW)
  have g0 := cell_of_blk eW 2
  have g1 := cell_of_blk eW 3
  simp at g0 g1
  obtain ⟨R, hR⟩ : ∃ r, smallW 10 200 ws = r := ⟨_, rfl⟩
  rw [hR]
  unfold smallW at hR
  have HR := Lib.hid hR
  clear hW hBW eW h hR
  by_cases h10 : 10 < ws.length
  · have hr : R = false := by rw [← HR.out, decide_eq_false (by omega)]; rfl
    subst hr
    go_enter Try.func54, Try.ntmps54
    go_upto_region 1 with fail
    rw [← HW.out]
    go_wp2_with fail
    go_ret
    exact ⟨rfl, HBW.out⟩
  · have HR2 : Hid (ws.all (fun x => decide (x.k.s.size ≤ 200) && decide (x.val.size ≤ 200)) = R) := Lib.hid (by rw [← HR.out, decide_eq_true (show ws.length ≤ 10 by omega)]; simp)
    go_enter Try.func54, Try.ntmps54
    go_upto_region 1 with fail
    rw [← HW.out]
    go_wp2_with fail
    go_loopw [3] (fun i wr => ∃ k : Nat, k ≤ ws.length ∧ i = .int .i64 k ∧ Hid ((ws.drop k).all (fun x => decide (x.k.s.size ≤ 200) && decide (x.val.size ≤ 200)) = R) ∧ W = wr) (fun i _ => ws.length - (intOf i).toNat)
    case atStart => exact ⟨0, by omega, rfl, HR2, rfl⟩
    case round =>
      obtain ⟨k, hk, rfl, HI, rfl⟩ := hrel
      by_cases hlt : k < ws.length
      · obtain ⟨x, hx⟩ : ∃ x, ws[k]? = some x := ⟨_, List.getElem?_eq_getElem hlt⟩
        obtain ⟨b, off, rfl, hat⟩ := HWS.out (fun e => by rw [e] at hlt; simp at hlt)
        obtain ⟨c0, c1, c2, c3, c4, c5⟩ := hat.six hx
        have hI := HI.out
        obtain ⟨hk2, hxe⟩ := List.getElem?_eq_some_iff.1 hx
        rw [List.drop_eq_getElem_cons hk2, hxe, List.all_cons] at hI
        obtain ⟨⟨⟨kd, ka, kb, ks⟩, val, has⟩, hxx⟩ : ∃ y, y = x := ⟨_, rfl⟩
        subst hxx
        simp only [] at c0 c1 c2 c3 c4 c5 hI
        have hlt2 : (k : Int) < (ws.length : Int) := by omega
        by_cases h1 : 200 < ks.size
        · have hr : R = false := by rw [← hI, decide_eq_false (show ¬ ks.size ≤ 200 by omega)]; rfl
          have t1 : decide ((200 : Int) < (ks.size : Int)) = true := decide_eq_true (by omega)
          subst hr
          clear hI HI HR HR2 hx hxe hat c0 c1 c2 c5
          go_wp2_with fail
          go_ret
          exact ⟨rfl, HBW.out⟩
        · have t1 : decide ((200 : Int) < (ks.size : Int)) = false := decide_eq_false (by omega)
          by_cases h2 : 200 < val.size
          · have hr : R = false := by rw [← hI, decide_eq_false (show ¬ val.size ≤ 200 by omega)]; simp
            have t2 : decide ((200 : Int) < (val.size : Int)) = true := decide_eq_true (by omega)
            subst hr
            clear hI HI HR HR2 hx hxe hat c0 c1 c2 c5
            go_wp2_with fail
            go_ret
            exact ⟨rfl, HBW.out⟩
          · have t2 : decide ((200 : Int) < (val.size : Int)) = false := decide_eq_false (by omega)
            have HN : Hid ((ws.drop (k + 1)).all (fun x => decide (x.k.s.size ≤ 200) && decide (x.val.size ≤ 200)) = R) := Lib.hid (by rw [← hI, decide_eq_true (show ks.size ≤ 200 by omega), decide_eq_true (show val.size ≤ 200 by omega)]; rfl)
            clear hI HI HR HR2 hx hxe hat c0 c1 c2 c5
            go_wp2_with fail
            exact ⟨⟨k + 1, by omega, by go_num, HN, trivial⟩, by simp [intOf]; omega⟩
      · obtain rfl : k = ws.length := by omega
        have hr : R = true := by rw [← HI.out, List.drop_length]; rfl
        subst hr
        clear HI HR HR2
        go_wp2_with fail
        go_ret
        exact ⟨rfl, HBW.out⟩
end Go.Proofs.Ytcghgnncmnoalaa
