/- cobwebref13.Same of like writes. Conditions: each contract's own premises. Reference 13: rows; Find. Conditions: each contract's own premises. Reference 13: Get. Conditions: each contract's own premises. Layer 13: the plain law. No program here beyond plain keys and rows. Sets: unseen of keys, Drop. Conditions: each contract's own premises. Sets: Writes. Conditions: each contract's own premises. Keys of a plain function of one key; what Writes gives of it. Conditions: each lemma's own premises. -/
import Derived.Test.YtkhkdedjffkhdaaGreatRdB
import Derived.Deep.QuietTactic
import Derived.BigQuiet
import Derived.Test.YtkhkdedjffkhdaaGreatSxA
import Derived.Test.YtkhkdedjffkhdaaGreatRwX
import Derived.Test.YtkhkdedjffkhdaaGreatRdX
namespace Go.Proofs.YtkhkdedjffkhdaaGreat
open Go.RowKit Go.Maps

set_option maxRecDepth 100000 in
set_option maxHeartbeats 2000000 in
theorem same13_eq (a1 a2 : Option Addr) (p1 p2 : Nat) (ws : List Wr) (w : World) (h1 : WsV w a1 ws) (h2 : WsV w a2 ws) (hl : ws.length ≤ 1000000) :
    Calls Tryz.prog 17 #[.slice a1 ws.length p1, .slice a2 ws.length p2] w (BoolPost w true) := by
  have H1 := Lib.hid h1
  have H2 := Lib.hid h2
  clear h1 h2
  go_enter Tryz.func17, Tryz.ntmps17
  obtain ⟨W, hW⟩ : ∃ W, W = w := ⟨_, rfl⟩
  have HWW := Lib.hid hW
  clear hW
  rw [← HWW.out] at H1 H2
  rw [← HWW.out]
  clear HWW
  go_wp2_with fail
  go_loopw [5] (fun i wr => ∃ k : Nat, k ≤ ws.length ∧ i = .int .i64 k ∧ Hid (Below W.heap.size W wr)) (fun i _ => ws.length - (intOf i).toNat)
  case atStart => exact ⟨0, by omega, rfl, Lib.hid (Below.refl _ _)⟩
  case round =>
    obtain ⟨k, hk, rfl, HB⟩ := hrel
    by_cases hlt : k < ws.length
    · obtain ⟨x, hx⟩ : ∃ x, ws[k]? = some x := ⟨_, List.getElem?_eq_getElem hlt⟩
      obtain ⟨ba, oa, rfl, ata⟩ := H1.out (fun e => by rw [e] at hlt; simp at hlt)
      obtain ⟨bb, ob, rfl, atb⟩ := H2.out (fun e => by rw [e] at hlt; simp at hlt)
      obtain ⟨x0, x1, x2, x3, x4, x5⟩ := (ata.below HB.out).six hx
      obtain ⟨y0, y1, y2, y3, y4, y5⟩ := (atb.below HB.out).six hx
      have la := (ata.below HB.out).lt
      have lb := (atb.below HB.out).lt
      clear hx ata atb
      go_wp2_with fail
      go_quiet (fail)
      go_wp2_with fail
      exact ⟨⟨k + 1, by omega, by go_num, Lib.hid (below_drewN' HB.out _)⟩, by simp [intOf]; omega⟩
    · obtain rfl : k = ws.length := by omega
      go_wp2_with fail
      go_ret
      exact ⟨rfl, HB.out⟩
end Go.Proofs.YtkhkdedjffkhdaaGreat
namespace Go.Proofs.YtkhkdedjffkhdaaGreat
open Go.RowKit Go.Maps

/-- a row of the reference -/
structure Rx where
  k : Ky
  s : Sn
  wrote : Bool
  marked : Bool
  w : Wr
  m : Wr
def Rx.cells (x : Rx) : List Value := [.int .i64 x.k.kind, .int .i64 x.k.a, .int .i64 x.k.b, .string x.k.s, .int .u64 x.s.word, .string x.s.val, .bool x.s.has, .bool x.wrote, .bool x.marked,
  .int .i64 x.w.k.kind, .int .i64 x.w.k.a, .int .i64 x.w.k.b, .string x.w.k.s, .string x.w.val, .bool x.w.has, .int .i64 x.m.k.kind, .int .i64 x.m.k.a, .int .i64 x.m.k.b, .string x.m.k.s, .string x.m.val, .bool x.m.has]
theorem infoRx : (Tryz.prog.info? 133).map (fun i => (i.zero, i.size, i.bytes)) = some (some (.agg #[.int .i64 0, .int .i64 0, .int .i64 0, .string ByteArray.empty, .int .u64 0, .string ByteArray.empty, .bool false, .bool false, .bool false, .int .i64 0, .int .i64 0, .int .i64 0, .string ByteArray.empty, .string ByteArray.empty, .bool false, .int .i64 0, .int .i64 0, .int .i64 0, .string ByteArray.empty, .string ByteArray.empty, .bool false]), 21, 208) := by kernel_rfl
/-- rows, as elements -/
def kX : RowK Tryz.prog Rx where
  t := 39
  e := 133
  size := 21
  bytes := 208
  z := .agg #[.int .i64 0, .int .i64 0, .int .i64 0, .string ByteArray.empty, .int .u64 0, .string ByteArray.empty, .bool false, .bool false, .bool false, .int .i64 0, .int .i64 0, .int .i64 0, .string ByteArray.empty, .string ByteArray.empty, .bool false, .int .i64 0, .int .i64 0, .int .i64 0, .string ByteArray.empty, .string ByteArray.empty, .bool false]
  enc := Rx.cells
  ht := Tryz.underlying39
  info := infoRx
  hz := rfl
  pos := by decide
  small := by decide
  len := fun _ => rfl
  one := fun x u hu => by
    simp [Rx.cells] at hu
    rcases hu with rfl | rfl | rfl | rfl | rfl | rfl | rfl | rfl | rfl | rfl | rfl | rfl | rfl | rfl | rfl | rfl | rfl | rfl | rfl | rfl | rfl <;> rfl
/-- the reference in memory -/
structure SrX (w : World) (rb B : Nat) (L : List Rx) : Prop where
  ex : ∃ a cap, w.heap[rb]? = some (.cells #[.slice a L.length cap] 41) ∧ kX.Own w B (.slice a L.length cap) L ∧ (Value.slice a L.length cap).ownBlock ≠ some rb
  n : L.length ≤ 1000000
def keyB (a b : Ky) : Bool := a.kind == b.kind && (a.a == b.a && (a.b == b.b && a.s.toList == b.s.toList))
theorem keyB_iff (a b : Ky) : keyB a b = true ↔ a = b := by
  unfold keyB
  cases a; cases b
  simp [ByteArray.toList_eq]
  intro _ _ _
  rw [ByteArray.ext_iff]
theorem keyEq (a b : Ky) (w : World) : (binOp .eql 47 (.agg #[.int .i64 a.kind, .int .i64 a.a, .int .i64 a.b, .string a.s]) (.agg #[.int .i64 b.kind, .int .i64 b.a, .int .i64 b.b, .string b.s])).run Tryz.prog w = .ok (.bool (keyB a b)) w := by
  unfold keyB
  cases h1 : (a.kind == b.kind) <;> cases h2 : (a.a == b.a) <;> cases h3 : (a.b == b.b) <;> cases h4 : (a.s.toList == b.s.toList) <;> go_simp
/-- a row's place: the first of the key; -1: none -/
def FindPost (L : List Rx) (k : Ky) (w : World) (e : Ending) (w' : World) : Prop := ∃ v : Int, e = .returned (.int .i64 v) ∧ ((v = -1 ∧ ∀ x ∈ L, x.k ≠ k) ∨ ∃ j x, v = (j : Nat) ∧ L[j]? = some x ∧ x.k = k) ∧ Below w.heap.size w w'
set_option maxRecDepth 100000 in
set_option maxHeartbeats 2000000 in
theorem r13Find_any {w : World} {rb B : Nat} {L : List Rx} (h : SrX w rb B L) (k : Ky) :
    Calls Tryz.prog 54 #[.pointer (some ⟨rb, 0, none⟩), .agg #[.int .i64 k.kind, .int .i64 k.a, .int .i64 k.b, .string k.s]] w (FindPost L k w) := by
  obtain ⟨a, cap, h1, h2, _⟩ := h.ex
  have HNL := Lib.hid h.n
  obtain ⟨n, hn⟩ : ∃ n, n = L.length := ⟨_, rfl⟩
  rw [← hn] at h1 HNL
  obtain ⟨W, hW⟩ : ∃ W, w.alloc (.cells #[.int .i64 k.kind, .int .i64 k.a, .int .i64 k.b, .string k.s] 47) = W := ⟨_, rfl⟩
  obtain ⟨kb, hkb⟩ : ∃ x, x = w.heap.size := ⟨_, rfl⟩
  have bW : Below w.heap.size w W := by rw [← hW]; exact below_box _ _
  have eW : W.heap[kb]? = some (.cells #[.int .i64 k.kind, .int .i64 k.a, .int .i64 k.b, .string k.s] 47) := by rw [← hW, hkb]; exact heap_new _ _
  have e1 := (bW.block _ (Array.getElem?_eq_some_iff.1 h1).1).trans h1
  have HR : Hid (L ≠ [] → ∃ b, a = some ⟨b, 0, none⟩ ∧ kX.At W b 0 L) := Lib.hid (fun hne => by
    obtain ⟨b, cp, e, _, _, hat⟩ := h2.at' hne
    injection e with e1 e2 e3
    exact ⟨b, e1, hat.below bW⟩)
  have HN := Lib.hid hn
  have HE := Lib.hid eW
  have HE1 := Lib.hid e1
  have HB := Lib.hid bW
  have HW := Lib.hid hW
  have HKB := Lib.hid hkb
  clear h h1 h2 hn bW eW e1 hW hkb
  go_enter Tryz.func54, Tryz.ntmps54
  go_upto_region 1 with fail
  rw [HW.out, ← HKB.out]
  go_wp2_with fail
  go_loopw [5] (fun i wr => ∃ j : Nat, j ≤ n ∧ i = .int .i64 j ∧ (∀ j' : Nat, j' < j → ∀ x, L[j']? = some x → x.k ≠ k) ∧ Hid (Below W.heap.size W wr)) (fun i _ => n - (intOf i).toNat)
  case atStart => exact ⟨0, Nat.zero_le _, rfl, fun _ h => absurd h (Nat.not_lt_zero _), Lib.hid (Below.refl _ _)⟩
  case round =>
    obtain ⟨j, hj, rfl, hno, HBR⟩ := hrel
    have HNO := Lib.hid hno
    have HX := HNL.out
    have q1 := cell_of_blk ((HBR.out.block _ (Array.getElem?_eq_some_iff.1 HE1.out).1).trans HE1.out) 0
    have e2 := (HBR.out.block _ (Array.getElem?_eq_some_iff.1 HE.out).1).trans HE.out
    have v0 := cell_of_blk e2 0
    have v1 := cell_of_blk e2 1
    have v2 := cell_of_blk e2 2
    have v3 := cell_of_blk e2 3
    simp at q1 v0 v1 v2 v3
    clear hno e2
    by_cases hlt : j < n
    · have hin' : (j : Int) < (n : Int) := by omega
      have hne : L ≠ [] := fun e => by have := HN.out; rw [e] at this; simp at this; omega
      obtain ⟨b, rfl, hat⟩ := HR.out hne
      obtain ⟨x, hx⟩ : ∃ m, L[j]? = some m := ⟨_, List.getElem?_eq_getElem (by have := HN.out; omega)⟩
      have hat2 := hat.below HBR.out
      have k0 := hat2.cells j x hx 0 _ rfl
      have k1 := hat2.cells j x hx 1 _ rfl
      have k2 := hat2.cells j x hx 2 _ rfl
      have k3 := hat2.cells j x hx 3 _ rfl
      simp [kX] at k0 k1 k2 k3
      have HXX := Lib.hid hx
      have hE := keyEq x.k k
      obtain ⟨q, hq⟩ : ∃ q, keyB x.k k = q := ⟨_, rfl⟩
      rw [hq] at hE
      have HQ := Lib.hid hq
      clear hx hat hat2 hne hq
      go_wp2_with fail
      go_quiet (fail)
      cases q
      · go_wp2_with fail
        refine ⟨⟨j + 1, by omega, by go_num, fun j' hj' y hy => ?_, Lib.hid (below_drewN HBR.out _)⟩, by simp [intOf]; omega⟩
        rcases Nat.lt_succ_iff_lt_or_eq.1 hj' with h | rfl
        · exact HNO.out j' h y hy
        · rw [HXX.out] at hy
          injection hy with hy
          subst hy
          intro e
          rw [(keyB_iff _ _).2 e] at HQ
          exact absurd HQ.out (by decide)
      · go_wp2_with fail
        go_ret
        exact ⟨_, rfl, .inr ⟨j, x, rfl, HXX.out, (keyB_iff _ _).1 HQ.out⟩, HB.out.trans ((below_drewN HBR.out _).mono HB.out.size)⟩
    · obtain rfl : j = n := by omega
      go_wp2_with fail
      go_ret
      refine ⟨_, rfl, .inl ⟨rfl, fun y hy => ?_⟩, HB.out.trans (HBR.out.mono HB.out.size)⟩
      obtain ⟨i, hi⟩ := List.mem_iff_getElem?.1 hy
      obtain ⟨hl, _⟩ := List.getElem?_eq_some_iff.1 hi
      exact HNO.out i (by have := HN.out; omega) y hi
end Go.Proofs.YtkhkdedjffkhdaaGreat
namespace Go.Proofs.YtkhkdedjffkhdaaGreat
open Go.RowKit Go.Maps

theorem sizeRx {x : Rx} : (Tryz.prog.info? 133).map (·.size) = some x.cells.length := by kernel_rfl
theorem sizeRx2 {x : Rx} : (Tryz.prog.info? 133).map (·.size) = some x.cells.toArray.size := by kernel_rfl
theorem oneRx (x : Rx) : x.cells.toArray.all (·.oneCell') = true := all_oneCell_toArray (kX.one x)
/-- what a row answers -/
def Rx.tx (x : Rx) : Tx := if x.wrote = true then ⟨x.w.val, x.w.has⟩ else ⟨x.s.val, x.s.has⟩
def Get13 (L : List Rx) (k : Ky) (w : World) (e : Ending) (w' : World) : Prop := ((∀ x ∈ L, x.k ≠ k) ∧ e = .returned (.tuple #[.string ByteArray.empty, .bool false, .bool false]) ∨ ∃ (j : Nat) (x : Rx), L[j]? = some x ∧ x.k = k ∧ e = .returned (.tuple #[.string x.tx.val, .bool x.tx.has, .bool true])) ∧ Below w.heap.size w w'
set_option maxRecDepth 100000 in
set_option maxHeartbeats 2000000 in
theorem r13Get_any {w : World} {rb B : Nat} {L : List Rx} (h : SrX w rb B L) (k : Ky) :
    Calls Tryz.prog 64 #[.pointer (some ⟨rb, 0, none⟩), .agg #[.int .i64 k.kind, .int .i64 k.a, .int .i64 k.b, .string k.s]] w (Get13 L k w) := by
  obtain ⟨a, cap, h1, h2, h3⟩ := h.ex
  obtain ⟨W, hW⟩ : ∃ W, w.alloc (.cells #[.int .i64 k.kind, .int .i64 k.a, .int .i64 k.b, .string k.s] 47) = W := ⟨_, rfl⟩
  obtain ⟨kb, hkb⟩ : ∃ x, x = w.heap.size := ⟨_, rfl⟩
  have bW : Below w.heap.size w W := by rw [← hW]; exact below_box _ _
  have eW : W.heap[kb]? = some (.cells #[.int .i64 k.kind, .int .i64 k.a, .int .i64 k.b, .string k.s] 47) := by rw [← hW, hkb]; exact heap_new _ _
  have e1 := (bW.block _ (Array.getElem?_eq_some_iff.1 h1).1).trans h1
  have HS : Hid (SrX W rb B L) := Lib.hid ⟨⟨a, cap, e1, h2.below bW, h3⟩, h.n⟩
  have HNL := Lib.hid h.n
  obtain ⟨n, hn⟩ : ∃ n, n = L.length := ⟨_, rfl⟩
  rw [← hn] at e1 HNL
  have HR : Hid (L ≠ [] → ∃ b, a = some ⟨b, 0, none⟩ ∧ kX.At W b 0 L) := Lib.hid (fun hne => by
    obtain ⟨b, cp, e, _, _, hat⟩ := h2.at' hne
    injection e with e1 e2 e3
    exact ⟨b, e1, hat.below bW⟩)
  have v0 := cell_of_blk eW 0
  have v1 := cell_of_blk eW 1
  have v2 := cell_of_blk eW 2
  have v3 := cell_of_blk eW 3
  simp at v0 v1 v2 v3
  have HN := Lib.hid hn
  have HE1 := Lib.hid e1
  have HB := Lib.hid bW
  have HW := Lib.hid hW
  have HKB := Lib.hid hkb
  clear h h1 h2 h3 hn bW eW e1 hW hkb
  go_enter Tryz.func64, Tryz.ntmps64
  go_upto_region 1 with fail
  rw [HW.out, ← HKB.out]
  go_wp2_with fail
  refine (r13Find_any HS.out k).mono ?_
  rintro e w1 ⟨v, rfl, hv, b1⟩
  have HB1 := Lib.hid b1
  clear b1 v0 v1 v2 v3
  rcases hv with ⟨rfl, hno⟩ | ⟨j, x, rfl, hx, hxk⟩
  · have HNO := Lib.hid hno
    clear hno
    go_wp2_with fail
    go_ret3
    exact ⟨.inl ⟨HNO.out, rfl⟩, HB.out.trans (HB1.out.mono HB.out.size)⟩
  · have HX := Lib.hid hx
    have HXK := Lib.hid hxk
    have hjn : j < n := by rw [HN.out]; exact (List.getElem?_eq_some_iff.1 hx).1
    have hin' : (j : Int) < (n : Int) := by omega
    have hn0 : decide ((j : Int) < 0) = false := decide_eq_false (by omega)
    have hne : L ≠ [] := fun e => by rw [e] at hx; simp at hx
    obtain ⟨b, rfl, hat⟩ := HR.out hne
    have hat2 := hat.below HB1.out
    have q1 := cell_of_blk ((HB1.out.block _ (Array.getElem?_eq_some_iff.1 HE1.out).1).trans HE1.out) 0
    simp at q1
    have HLT := Lib.hid (Nat.lt_of_lt_of_le hat.lt HB1.out.size)
    have HRG : Hid (w1.rangeAt b (j * 21) x.cells) := Lib.hid (by have := hat2.range hx; rw [Nat.zero_add] at this; exact this)
    obtain ⟨xb, hxb⟩ : ∃ y, y = w1.heap.size := ⟨_, rfl⟩
    have HXB := Lib.hid hxb
    clear hat hat2 hne hx hxk hxb
    go_upto_region 5 with (first | (refine wpList_load_mid (op := ⟨some 20, _, _, _, _, _⟩) rfl 133 (.tmp 19) rfl b (j * 21) rfl x.cells _ HRG.out Tryz.underlying133 rfl sizeRx ?_) | (rw [← HXB.out]; refine wpList_store_new (op := ⟨none, _, _, _, _, _⟩) rfl 133 (.tmp 8) (.tmp 20) rfl _ x.cells.toArray xb HXB.out rfl rfl sizeRx2 rfl (oneRx x) ?_))
    clear q1
    obtain ⟨V, hV⟩ : ∃ V, w1.alloc (.cells x.cells.toArray 133) = V := ⟨_, rfl⟩
    have bV : Below w1.heap.size w1 V := by rw [← hV]; exact below_box _ _
    have eV : V.heap[xb]? = some (.cells x.cells.toArray 133) := by rw [← hV, HXB.out]; exact heap_new _ _
    have HFIN := Lib.hid (HB.out.trans ((HB1.out.trans (bV.mono HB1.out.size)).mono HB.out.size))
    have c1 := cell_of_blk eV 7
    have c2 := cell_of_blk eV 13
    have c3 := cell_of_blk eV 14
    have c4 := cell_of_blk eV 5
    have c5 := cell_of_blk eV 6
    simp [Rx.cells] at c1 c2 c3 c4 c5
    rw [hV]
    clear hV bV eV
    have HT : Hid (∀ q, x.wrote = q → x.tx = if q = true then ⟨x.w.val, x.w.has⟩ else ⟨x.s.val, x.s.has⟩) := Lib.hid (fun q hq => by unfold Rx.tx; rw [hq])
    obtain ⟨q, hq⟩ : ∃ q, x.wrote = q := ⟨_, rfl⟩
    have hT := HT.out q hq
    rw [hq] at c1
    clear hq HT
    cases q
    · have HT2 := Lib.hid hT
      clear hT
      go_wp2_with fail
      go_quiet (fail)
      go_wp2_with fail
      go_ret3
      exact ⟨.inr ⟨j, x, HX.out, HXK.out, by rw [HT2.out]; rfl⟩, below_drewN HFIN.out _⟩
    · have HT2 := Lib.hid hT
      clear hT
      go_wp2_with fail
      go_quiet (fail)
      go_wp2_with fail
      go_ret3
      exact ⟨.inr ⟨j, x, HX.out, HXK.out, by rw [HT2.out]; rfl⟩, below_drewN HFIN.out _⟩
end Go.Proofs.YtkhkdedjffkhdaaGreat
namespace Go.Proofs.YtkhkdedjffkhdaaGreat
open Go.RowKit Go.Maps

def Wr.tx (w : Wr) : Tx := ⟨w.val, w.has⟩
/-- the rows of the reference say what the program's maps say -/
structure PX (L : List Rx) (gs : Ky → Option Sn) (gw gm : Ky → Option Tx) : Prop where
  sorted : KySorted (L.map Rx.k)
  ok : ∀ x ∈ L, x.k.Ok
  s : ∀ x ∈ L, gs x.k = some x.s
  w : ∀ x ∈ L, gw x.k = if x.wrote = true then some x.w.tx else none
  m : ∀ x ∈ L, gm x.k = if x.marked = true then some x.m.tx else none
  wk : ∀ x ∈ L, x.wrote = true → x.w.k = x.k
  mkk : ∀ x ∈ L, x.marked = true → x.m.k = x.k
  no : ∀ k : Ky, (∀ x ∈ L, x.k ≠ k) → gs k = none ∧ gw k = none ∧ gm k = none
theorem PX.start : PX [] (fun _ => none) (fun _ => none) (fun _ => none) where
  sorted := List.Pairwise.nil
  ok := fun _ h => by simp at h
  s := fun _ h => by simp at h
  w := fun _ h => by simp at h
  m := fun _ h => by simp at h
  wk := fun _ h => by simp at h
  mkk := fun _ h => by simp at h
  no := fun _ _ => ⟨rfl, rfl, rfl⟩
theorem PX.isSome {L : List Rx} {gs : Ky → Option Sn} {gw gm : Ky → Option Tx} (h : PX L gs gw gm) (k : Ky) : (gs k).isSome = true ↔ ∃ x ∈ L, x.k = k := by
  constructor
  · intro hs
    refine Classical.byContradiction fun hn => ?_
    have := (h.no k (fun x hx e => hn ⟨x, hx, e⟩)).1
    rw [this] at hs
    exact absurd hs (by decide)
  · rintro ⟨x, hx, rfl⟩
    rw [h.s x hx]; rfl
theorem sorted_unique : ∀ (a b : List Ky), KySorted a → KySorted b → (∀ k, k ∈ a ↔ k ∈ b) → a = b
  | [], [], _, _, _ => rfl
  | [], y :: b, _, _, h => by have := (h y).2 (by simp); simp at this
  | x :: a, [], _, _, h => by have := (h x).1 (by simp); simp at this
  | x :: a, y :: b, ha, hb, h => by
    have ha' := List.pairwise_cons.1 ha
    have hb' := List.pairwise_cons.1 hb
    have e : x = y := by
      refine Classical.byContradiction fun hn => ?_
      have h1 : x ∈ b := by
        rcases List.mem_cons.1 ((h x).1 (by simp)) with e | e
        · exact absurd e hn
        · exact e
      have h2 : y ∈ a := by
        rcases List.mem_cons.1 ((h y).2 (by simp)) with e | e
        · exact absurd e.symm hn
        · exact e
      have h3 := ha'.1 y h2
      have h4 := hb'.1 x h1
      have := Ky.cmp_neg x y
      omega
    subst e
    have hx : x.cmp x = 0 := (Ky.cmp_zero x x).2 rfl
    rw [sorted_unique a b ha'.2 hb'.2 (fun k => by
      constructor
      · intro hk
        rcases List.mem_cons.1 ((h k).1 (by simp [hk])) with e | e
        · subst e; have := ha'.1 k hk; omega
        · exact e
      · intro hk
        rcases List.mem_cons.1 ((h k).2 (by simp [hk])) with e | e
        · subst e; have := hb'.1 k hk; omega
        · exact e)]
theorem Ky.lt_trans {a b c : Ky} (h : a.cmp b < 0) (k : b.cmp c < 0) : a.cmp c < 0 := by
  have h3 := Ky.cmp_trans a b c (by omega) (by omega)
  have h4 : a.cmp c ≠ 0 := fun e => by
    have e := (Ky.cmp_zero a c).1 e
    subst e
    have := Ky.cmp_neg a b
    omega
  omega
/-- a row as it is laid -/
def Rx.of (k : Ky) (v : Sn) : Rx := ⟨k, v, false, false, ⟨⟨0, 0, 0, ByteArray.empty⟩, ByteArray.empty, false⟩, ⟨⟨0, 0, 0, ByteArray.empty⟩, ByteArray.empty, false⟩⟩
def AtX (L : List Rx) (k : Ky) (n : Nat) : Prop := n ≤ L.length ∧ (∀ j x, j < n → L[j]? = some x → x.k.cmp k < 0) ∧ ∀ x, L[n]? = some x → 0 ≤ x.k.cmp k
def insX (L : List Rx) (n : Nat) (r : Rx) : List Rx := L.take n ++ [r] ++ L.drop n
theorem insX_mem {L : List Rx} {n : Nat} {r x : Rx} : x ∈ insX L n r ↔ x = r ∨ x ∈ L := by
  have : x ∈ L ↔ x ∈ L.take n ∨ x ∈ L.drop n := by rw [← List.mem_append, List.take_append_drop]
  rw [this]
  unfold insX
  simp only [List.mem_append, List.mem_singleton]
  constructor
  · rintro ((h | h) | h)
    · exact .inr (.inl h)
    · exact .inl h
    · exact .inr (.inr h)
  · rintro (h | h | h)
    · exact .inl (.inr h)
    · exact .inl (.inl h)
    · exact .inr h
theorem PX.see {L : List Rx} {gs : Ky → Option Sn} {gw gm : Ky → Option Tx} (h : PX L gs gw gm) {k : Ky} (hk : k.Ok) (hno : ∀ x ∈ L, x.k ≠ k) {n : Nat} (ha : AtX L k n) (v : Sn) : PX (insX L n (Rx.of k v)) (updK gs k (some v)) gw gm := by
  obtain ⟨hn, hlt, hge⟩ := ha
  have hgt : ∀ x ∈ L.drop n, k.cmp x.k < 0 := by
    intro x hx
    obtain ⟨i, hi⟩ := List.mem_iff_getElem?.1 hx
    rw [List.getElem?_drop] at hi
    have hl : n < L.length := by
      have := (List.getElem?_eq_some_iff.1 hi).1
      omega
    have h0 := hge L[n] (List.getElem?_eq_getElem hl)
    have hne : L[n].k.cmp k ≠ 0 := fun e => hno L[n] (List.getElem_mem hl) ((Ky.cmp_zero _ _).1 e)
    have hneg := Ky.cmp_neg L[n].k k
    have h1 : k.cmp L[n].k < 0 := by omega
    by_cases h2 : i = 0
    · subst h2
      rw [Nat.add_zero, List.getElem?_eq_getElem hl] at hi
      injection hi with hi
      rw [← hi]; exact h1
    · obtain ⟨hil, hie⟩ := List.getElem?_eq_some_iff.1 hi
      have h3 : (L.map Rx.k).Pairwise (fun a b => a.cmp b < 0) := h.sorted
      rw [List.pairwise_map] at h3
      have := List.pairwise_iff_getElem.1 h3 n (n + i) hl hil (by omega)
      rw [hie] at this
      exact Ky.lt_trans h1 this
  have hlt2 : ∀ x ∈ L.take n, x.k.cmp k < 0 := by
    intro x hx
    obtain ⟨i, hi⟩ := List.mem_iff_getElem?.1 hx
    rw [List.getElem?_take] at hi
    split at hi
    · rename_i hin
      exact hlt i x hin hi
    · cases hi
  have hs : L.Pairwise (fun a b => a.k.cmp b.k < 0) := by
    have h3 : (L.map Rx.k).Pairwise (fun a b => a.cmp b < 0) := h.sorted
    rwa [List.pairwise_map] at h3
  refine ⟨?_, ?_, ?_, ?_, ?_, ?_, ?_, ?_⟩
  · show (List.map Rx.k _).Pairwise _
    rw [List.pairwise_map]
    unfold insX
    rw [List.append_assoc, List.pairwise_append]
    refine ⟨hs.sublist (List.take_sublist _ _), List.pairwise_cons.2 ⟨fun x hx => hgt x hx, hs.sublist (List.drop_sublist _ _)⟩, fun a ha b hb => ?_⟩
    rcases List.mem_cons.1 hb with rfl | hb
    · exact hlt2 a ha
    · exact Ky.lt_trans (hlt2 a ha) (hgt b hb)
  · intro x hx
    rcases insX_mem.1 hx with rfl | hx
    · exact hk
    · exact h.ok x hx
  · intro x hx
    unfold updK
    rcases insX_mem.1 hx with rfl | hx
    · exact if_pos rfl
    · rw [if_neg (hno x hx)]; exact h.s x hx
  · intro x hx
    rcases insX_mem.1 hx with rfl | hx
    · exact (h.no k hno).2.1
    · exact h.w x hx
  · intro x hx
    rcases insX_mem.1 hx with rfl | hx
    · exact (h.no k hno).2.2
    · exact h.m x hx
  · intro x hx hq
    rcases insX_mem.1 hx with rfl | hx
    · exact absurd (show false = true from hq) (by decide)
    · exact h.wk x hx hq
  · intro x hx hq
    rcases insX_mem.1 hx with rfl | hx
    · exact absurd (show false = true from hq) (by decide)
    · exact h.mkk x hx hq
  · intro j hj
    have h1 := h.no j (fun x hx => hj x (insX_mem.2 (.inr hx)))
    have h2 : j ≠ k := fun e => hj (Rx.of k v) (insX_mem.2 (.inl rfl)) e.symm
    unfold updK
    rw [if_neg h2]
    exact h1
open Classical in
noncomputable def setX (k : Ky) (t : Tx) (x : Rx) : Rx := if x.k = k then { x with wrote := true, w := ⟨k, t.val, t.has⟩ } else x
theorem setX_k (k : Ky) (t : Tx) (x : Rx) : (setX k t x).k = x.k := by unfold setX; split <;> rfl
theorem PX.set {L : List Rx} {gs : Ky → Option Sn} {gw gm : Ky → Option Tx} (h : PX L gs gw gm) {k : Ky} (hin : ∃ x ∈ L, x.k = k) (t : Tx) : PX (L.map (setX k t)) gs (updK gw k (some t)) gm := by
  have hmap : (L.map (setX k t)).map Rx.k = L.map Rx.k := by rw [List.map_map]; exact List.map_congr_left (fun x _ => setX_k k t x)
  refine ⟨by rw [hmap]; exact h.sorted, ?_, ?_, ?_, ?_, ?_, ?_, ?_⟩
  · intro y hy
    obtain ⟨x, hx, rfl⟩ := List.mem_map.1 hy
    rw [setX_k]; exact h.ok x hx
  · intro y hy
    obtain ⟨x, hx, rfl⟩ := List.mem_map.1 hy
    rw [setX_k, h.s x hx]
    unfold setX; split <;> rfl
  · intro y hy
    obtain ⟨x, hx, rfl⟩ := List.mem_map.1 hy
    rw [setX_k]
    unfold updK setX
    by_cases e : x.k = k
    · rw [if_pos e, if_pos e]; rfl
    · rw [if_neg e, if_neg e]; exact h.w x hx
  · intro y hy
    obtain ⟨x, hx, rfl⟩ := List.mem_map.1 hy
    rw [setX_k, h.m x hx]
    unfold setX
    by_cases e : x.k = k
    · rw [if_pos e]
    · rw [if_neg e]
  · intro y hy
    obtain ⟨x, hx, rfl⟩ := List.mem_map.1 hy
    rw [setX_k]
    unfold setX
    by_cases e : x.k = k
    · rw [if_pos e]; intro _; exact e.symm
    · rw [if_neg e]; exact h.wk x hx
  · intro y hy
    obtain ⟨x, hx, rfl⟩ := List.mem_map.1 hy
    rw [setX_k]
    unfold setX
    by_cases e : x.k = k
    · rw [if_pos e]; exact h.mkk x hx
    · rw [if_neg e]; exact h.mkk x hx
  · intro j hj
    have h1 := h.no j (fun x hx => by have := hj _ (List.mem_map_of_mem hx); rwa [setX_k] at this)
    obtain ⟨x, hx, hxk⟩ := hin
    have h2 : j ≠ k := fun e => hj _ (List.mem_map_of_mem hx) (by rw [setX_k, hxk, e])
    unfold updK
    rw [if_neg h2]
    exact h1
noncomputable def setXs (t : Tx) : List Ky → List Rx → List Rx
  | [], L => L
  | k :: ks, L => setXs t ks (L.map (setX k t))
noncomputable def updKs (t : Tx) : List Ky → (Ky → Option Tx) → (Ky → Option Tx)
  | [], g => g
  | k :: ks, g => updKs t ks (updK g k (some t))
theorem PX.sets {gs : Ky → Option Sn} {gm : Ky → Option Tx} (t : Tx) : ∀ (ks : List Ky) (L : List Rx) (gw : Ky → Option Tx), PX L gs gw gm → (∀ k ∈ ks, ∃ x ∈ L, x.k = k) → PX (setXs t ks L) gs (updKs t ks gw) gm
  | [], _, _, h, _ => h
  | k :: ks, L, gw, h, hk => by
    refine PX.sets t ks _ _ (h.set (hk k (by simp)) t) (fun j hj => ?_)
    obtain ⟨x, hx, e⟩ := hk j (by simp [hj])
    exact ⟨_, List.mem_map_of_mem hx, by rw [setX_k]; exact e⟩
def markX (x : Rx) : Rx := { x with marked := x.wrote, m := x.w }
def backX (x : Rx) : Rx := { x with wrote := x.marked, w := x.m }
theorem PX.mark {L : List Rx} {gs : Ky → Option Sn} {gw gm : Ky → Option Tx} (h : PX L gs gw gm) : PX (L.map markX) gs gw gw := by
  have hmap : (L.map markX).map Rx.k = L.map Rx.k := by rw [List.map_map]; rfl
  refine ⟨by rw [hmap]; exact h.sorted, ?_, ?_, ?_, ?_, ?_, ?_, ?_⟩
  · intro y hy; obtain ⟨x, hx, rfl⟩ := List.mem_map.1 hy; exact h.ok x hx
  · intro y hy; obtain ⟨x, hx, rfl⟩ := List.mem_map.1 hy; exact h.s x hx
  · intro y hy; obtain ⟨x, hx, rfl⟩ := List.mem_map.1 hy; exact h.w x hx
  · intro y hy; obtain ⟨x, hx, rfl⟩ := List.mem_map.1 hy; exact h.w x hx
  · intro y hy; obtain ⟨x, hx, rfl⟩ := List.mem_map.1 hy; exact h.wk x hx
  · intro y hy; obtain ⟨x, hx, rfl⟩ := List.mem_map.1 hy; exact h.wk x hx
  · intro j hj
    have h1 := h.no j (fun x hx => hj (markX x) (List.mem_map_of_mem (f := markX) hx))
    exact ⟨h1.1, h1.2.1, h1.2.1⟩
theorem PX.back {L : List Rx} {gs : Ky → Option Sn} {gw gm : Ky → Option Tx} (h : PX L gs gw gm) : PX (L.map backX) gs gm gm := by
  have hmap : (L.map backX).map Rx.k = L.map Rx.k := by rw [List.map_map]; rfl
  refine ⟨by rw [hmap]; exact h.sorted, ?_, ?_, ?_, ?_, ?_, ?_, ?_⟩
  · intro y hy; obtain ⟨x, hx, rfl⟩ := List.mem_map.1 hy; exact h.ok x hx
  · intro y hy; obtain ⟨x, hx, rfl⟩ := List.mem_map.1 hy; exact h.s x hx
  · intro y hy; obtain ⟨x, hx, rfl⟩ := List.mem_map.1 hy; exact h.m x hx
  · intro y hy; obtain ⟨x, hx, rfl⟩ := List.mem_map.1 hy; exact h.m x hx
  · intro y hy; obtain ⟨x, hx, rfl⟩ := List.mem_map.1 hy; exact h.mkk x hx
  · intro y hy; obtain ⟨x, hx, rfl⟩ := List.mem_map.1 hy; exact h.mkk x hx
  · intro j hj
    have h1 := h.no j (fun x hx => hj (backX x) (List.mem_map_of_mem (f := backX) hx))
    exact ⟨h1.1, h1.2.2, h1.2.2⟩
/-- what was seen, as a text -/
def snTx (o : Option Sn) : Tx := match o with | none => ⟨⟨#[]⟩, false⟩ | some s => ⟨s.val, s.has⟩
def txD (o : Option Tx) : Tx := match o with | none => ⟨⟨#[]⟩, false⟩ | some t => t
def txB (a b : Tx) : Bool := a.val.toList == b.val.toList && a.has == b.has
theorem txB_iff (a b : Tx) : txB a b = true ↔ a = b := by
  unfold txB
  cases a; cases b
  simp [ByteArray.toList_eq]
  intro _
  rw [ByteArray.ext_iff]
def wrAt (gs : Ky → Option Sn) (gw : Ky → Option Tx) (k : Ky) : List Wr := if txB (snTx (gs k)) (txD (gw k)) = true then [] else [⟨k, (txD (gw k)).val, (txD (gw k)).has⟩]
/-- what Writes gives of keys -/
def wrOut (gs : Ky → Option Sn) (gw : Ky → Option Tx) (ks : List Ky) : List Wr := ks.flatMap (wrAt gs gw)
def outB (x : Rx) : Bool := x.wrote && !txB ⟨x.s.val, x.s.has⟩ x.w.tx
def outAt (x : Rx) : List Wr := if outB x = true then [x.w] else []
def outX (L : List Rx) : List Wr := L.flatMap outAt
theorem KsG.reads {L : List Rx} {gs : Ky → Option Sn} {gw gm : Ky → Option Tx} (h : PX L gs gw gm) {n : Nat} {ks : List Ky} (hk : KsG gs n ks) : ks = L.map Rx.k := by
  obtain ⟨h1, h2, _, h4⟩ := hk
  refine sorted_unique _ _ h1 h.sorted (fun k => ?_)
  constructor
  · intro hm
    obtain ⟨x, hx, e⟩ := (h.isSome k).1 ((h4 k (h2 k hm)).1 hm)
    exact List.mem_map.2 ⟨x, hx, e⟩
  · intro hm
    obtain ⟨x, hx, rfl⟩ := List.mem_map.1 hm
    exact (h4 _ (h.ok x hx)).2 ((h.isSome _).2 ⟨x, hx, rfl⟩)
theorem KsG.wrote {L : List Rx} {gs : Ky → Option Sn} {gw gm : Ky → Option Tx} (h : PX L gs gw gm) {n : Nat} {ks : List Ky} (hk : KsG gw n ks) : ks = (L.filter Rx.wrote).map Rx.k := by
  obtain ⟨h1, h2, _, h4⟩ := hk
  have hs : KySorted ((L.filter Rx.wrote).map Rx.k) := by
    have h3 : (L.map Rx.k).Pairwise (fun a b => a.cmp b < 0) := h.sorted
    exact h3.sublist (List.Sublist.map _ List.filter_sublist)
  refine sorted_unique _ _ h1 hs (fun k => ?_)
  constructor
  · intro hm
    have hw := (h4 k (h2 k hm)).1 hm
    refine Classical.byContradiction fun hn => ?_
    by_cases hx : ∃ x ∈ L, x.k = k
    · obtain ⟨x, hx, rfl⟩ := hx
      rw [h.w x hx] at hw
      by_cases hq : x.wrote = true
      · exact hn (List.mem_map.2 ⟨x, List.mem_filter.2 ⟨hx, hq⟩, rfl⟩)
      · rw [if_neg hq] at hw; exact absurd hw (by decide)
    · rw [(h.no k (fun x hx' e => hx ⟨x, hx', e⟩)).2.1] at hw; exact absurd hw (by decide)
  · intro hm
    obtain ⟨x, hx, rfl⟩ := List.mem_map.1 hm
    obtain ⟨hx, hq⟩ := List.mem_filter.1 hx
    refine (h4 _ (h.ok x hx)).2 ?_
    rw [h.w x hx, if_pos hq]; rfl
theorem wrOut_eq {L : List Rx} {gs : Ky → Option Sn} {gw gm : Ky → Option Tx} (h : PX L gs gw gm) : ∀ M : List Rx, (∀ x ∈ M, x ∈ L) → wrOut gs gw ((M.filter Rx.wrote).map Rx.k) = outX M
  | [], _ => rfl
  | x :: M, hM => by
    have ih := wrOut_eq h M (fun y hy => hM y (by simp [hy]))
    have hx := hM x (by simp)
    have e2 : outX (x :: M) = outAt x ++ outX M := rfl
    rw [e2, ← ih]
    by_cases hq : x.wrote = true
    · rw [List.filter_cons_of_pos hq]
      show wrAt gs gw x.k ++ _ = _
      congr 1
      unfold wrAt outAt outB
      rw [h.s x hx, h.w x hx, if_pos hq, hq, Bool.true_and]
      show (if txB ⟨x.s.val, x.s.has⟩ x.w.tx = true then _ else _) = _
      cases txB ⟨x.s.val, x.s.has⟩ x.w.tx
      · have := h.wk x hx hq
        show [(⟨x.k, x.w.val, x.w.has⟩ : Wr)] = [x.w]
        rw [← this]
      · rfl
    · rw [List.filter_cons_of_neg hq]
      have : outAt x = [] := by unfold outAt outB; simp at hq; rw [hq]; rfl
      rw [this]; rfl
/-- what both write -/
theorem PX.writes {L : List Rx} {gs : Ky → Option Sn} {gw gm : Ky → Option Tx} (h : PX L gs gw gm) {n : Nat} {ks : List Ky} (hk : KsG gw n ks) : wrOut gs gw ks = outX L := by
  rw [KsG.wrote h hk]
  exact wrOut_eq h L (fun _ h => h)
/-- what both have -/
theorem PX.get {L : List Rx} {gs : Ky → Option Sn} {gw gm : Ky → Option Tx} (h : PX L gs gw gm) {x : Rx} (hx : x ∈ L) : (match gw x.k with | some t => t | none => snTx (gs x.k)) = x.tx := by
  unfold Rx.tx
  rw [h.w x hx, h.s x hx]
  by_cases hq : x.wrote = true
  · rw [if_pos hq, if_pos hq]; rfl
  · rw [if_neg hq, if_neg hq]; rfl
end Go.Proofs.YtkhkdedjffkhdaaGreat
namespace Go.Proofs.YtkhkdedjffkhdaaGreat
open Go.RowKit Go.Maps

/-- the first unseen one's place -/
def idxU (gs : Ky → Option Sn) : List Ky → Int → Int
  | [], _ => -1
  | k :: l, i => if (gs k).isSome = false then i else idxU gs l (i + 1)
theorem idxU_drop {gs : Ky → Option Sn} {l : List Ky} {k : Nat} {x : Ky} (hx : l[k]? = some x) : idxU gs (l.drop k) k = if (gs x).isSome = false then (k : Int) else idxU gs (l.drop (k + 1)) (k + 1) := by
  obtain ⟨hk, rfl⟩ := List.getElem?_eq_some_iff.1 hx
  rw [List.drop_eq_getElem_cons hk]
  rfl
theorem idxU_any {gs : Ky → Option Sn} : ∀ (l : List Ky) (i : Int), 0 ≤ i → decide (0 ≤ idxU gs l i) = l.any (fun k => !(gs k).isSome)
  | [], _, _ => rfl
  | r :: l, i, hi => by
    unfold idxU
    cases h : (gs r).isSome
    · rw [if_pos rfl, List.any_cons, h]; simp [hi]
    · rw [if_neg (by decide), idxU_any l (i + 1) (by omega), List.any_cons, h]; rfl
set_option maxRecDepth 100000 in
set_option maxHeartbeats 2000000 in
theorem idxK_any {w : World} {sb bs bw bm ns nw nm : Nat} {gs : Ky → Option Sn} {gw gm : Ky → Option Tx} (hS : StX w sb bs bw bm ns nw nm gs gw gm) (a : Option Addr) (cap : Nat) (l : List Ky) (h : kK.V w a l) (hok : ∀ k ∈ l, k.Ok) (hl : l.length ≤ 1000000) :
    Calls Tryz.prog 111 #[.slice a l.length cap, .func (.func 40) #[.pointer (some ⟨sb, 0, none⟩)] #[]] w (IntPost w (idxU gs l 0)) := by
  have HR := Lib.hid h
  have HS := Lib.hid hS
  have HO := Lib.hid hok
  clear h hS hok
  go_enter Tryz.func111, Tryz.ntmps111
  go_wp2_with fail
  go_loopw [8] (fun i wr => ∃ k : Nat, k ≤ l.length ∧ i = .int .i64 k ∧ Hid (idxU gs l 0 = idxU gs (l.drop k) k) ∧ Hid (Below w.heap.size w wr)) (fun i _ => l.length - (intOf i).toNat)
  case atStart => exact ⟨0, by omega, rfl, Lib.hid rfl, Lib.hid (Below.refl _ _)⟩
  case round =>
    obtain ⟨k, hk, rfl, HI, HBR⟩ := hrel
    by_cases hlt : k < l.length
    · obtain ⟨x, hx⟩ : ∃ x, l[k]? = some x := ⟨_, List.getElem?_eq_getElem hlt⟩
      obtain ⟨b, off, rfl, hat⟩ := HR.out (fun e => by rw [e] at hlt; simp at hlt)
      have hat2 := hat.below HBR.out
      have c0 := hat2.cells k x hx 0 _ rfl
      have c1 := hat2.cells k x hx 1 _ rfl
      have c2 := hat2.cells k x hx 2 _ rfl
      have c3 := hat2.cells k x hx 3 _ rfl
      simp [kK] at c0 c1 c2 c3
      have HXO := Lib.hid (HO.out x (List.mem_of_getElem? hx))
      have hD := Lib.hid (idxU_drop (gs := gs) hx)
      have HS2 := Lib.hid (HS.out.below HBR.out)
      obtain ⟨q, hq⟩ : ∃ q, (gs x).isSome = q := ⟨_, rfl⟩
      have HQ := Lib.hid hq
      clear hx hat hat2 hq
      go_wp2_with fail
      refine (unseen_any HS2.out HXO.out).mono ?_
      rintro e w1 ⟨rfl, b1⟩
      rw [HQ.out]
      have HB1 := Lib.hid (below_then HBR.out b1)
      clear b1 c0 c1 c2 c3
      cases q
      · have HN : Hid (idxU gs l 0 = k) := Lib.hid (by rw [HI.out, hD.out, HQ.out, if_pos rfl])
        go_wp2_with fail
        go_ret
        exact ⟨by rw [HN.out]; rfl, HB1.out⟩
      · have HN : Hid (idxU gs l 0 = idxU gs (l.drop (k + 1)) ((k + 1 : Nat) : Int)) := Lib.hid (by rw [HI.out, hD.out, HQ.out, if_neg (by decide)]; rfl)
        go_wp2_with fail
        exact ⟨⟨k + 1, by omega, by go_num, HN, HB1⟩, by simp [intOf]; omega⟩
    · obtain rfl : k = l.length := by omega
      have HN : Hid (idxU gs l 0 = -1) := Lib.hid (by rw [HI.out, List.drop_length]; rfl)
      go_wp2_with fail
      go_ret
      exact ⟨by rw [HN.out]; rfl, HBR.out⟩
set_option maxRecDepth 100000 in
theorem conK_any {w : World} {sb bs bw bm ns nw nm : Nat} {gs : Ky → Option Sn} {gw gm : Ky → Option Tx} (hS : StX w sb bs bw bm ns nw nm gs gw gm) (a : Option Addr) (cap : Nat) (l : List Ky) (h : kK.V w a l) (hok : ∀ k ∈ l, k.Ok) (hl : l.length ≤ 1000000) :
    Calls Tryz.prog 92 #[.slice a l.length cap, .func (.func 40) #[.pointer (some ⟨sb, 0, none⟩)] #[]] w (BoolPost w (l.any (fun k => !(gs k).isSome))) := by
  have hi := Lib.hid (idxU_any (gs := gs) l 0 (by omega))
  have HC := Lib.hid (idxK_any hS a cap l h hok hl)
  clear hS h hok
  go_enter Tryz.func92, Tryz.ntmps92
  go_wp2_with fail
  refine HC.out.mono ?_
  rintro e w1 ⟨rfl, b1⟩
  go_wp2_with fail
  go_ret
  exact ⟨by rw [← hi.out]; rfl, b1⟩
theorem updKs_append (t : Tx) : ∀ (a b : List Ky) (g : Ky → Option Tx), updKs t (a ++ b) g = updKs t b (updKs t a g)
  | [], _, _ => rfl
  | k :: a, b, g => updKs_append t a b (updK g k (some t))
def SxDropPost (w : World) (sb bs bw bm ns nw nm : Nat) (gs : Ky → Option Sn) (gw gm : Ky → Option Tx) (l : List Ky) (e : Ending) (w' : World) : Prop :=
  if l.any (fun k => !(gs k).isSome) = true then e = .returned (.int .i64 101) ∧ Below w.heap.size w w'
  else e = .returned (.int .i64 0) ∧ ∃ nw', nw' ≤ nw + l.length ∧ StX w' sb bs bw bm ns nw' nm gs (updKs ⟨⟨#[]⟩, false⟩ l gw) gm ∧ Chg w w' (fun j => j = bw)
/-- the maps in a round -/
structure DrI (w wr : World) (sb bs bw bm ns nw nm : Nat) (gs : Ky → Option Sn) (gw gm : Ky → Option Tx) (l : List Ky) (k : Nat) : Prop where
  ex : ∃ nw', nw' ≤ nw + k ∧ StX wr sb bs bw bm ns nw' nm gs (updKs ⟨⟨#[]⟩, false⟩ (l.take k) gw) gm
  chg : Chg w wr (fun j => j = bw)
set_option maxRecDepth 100000 in
set_option maxHeartbeats 2000000 in
theorem sxDrop_any {w : World} {sb bs bw bm ns nw nm : Nat} {gs : Ky → Option Sn} {gw gm : Ky → Option Tx} (hS : StX w sb bs bw bm ns nw nm gs gw gm) (hnw : nw ≤ 1000000) (a : Option Addr) (cap : Nat) (l : List Ky) (h : kK.V w a l) (hok : ∀ k ∈ l, k.Ok) (hl : l.length ≤ 1000000) :
    Calls Tryz.prog 59 #[.pointer (some ⟨sb, 0, none⟩), .slice a l.length cap] w (SxDropPost w sb bs bw bm ns nw nm gs gw gm l) := by
  have HC := Lib.hid (conK_any hS a cap l h hok hl)
  have HR := Lib.hid h
  have HS := Lib.hid hS
  have HO := Lib.hid hok
  have HNW := Lib.hid hnw
  obtain ⟨q, hq⟩ : ∃ q, l.any (fun k => !(gs k).isSome) = q := ⟨_, rfl⟩
  rw [hq] at HC
  have HQ := Lib.hid hq
  clear h hS hok hq hnw
  go_enter Tryz.func59, Tryz.ntmps59
  go_wp2_with fail
  refine HC.out.mono ?_
  rintro e w1 ⟨rfl, b1⟩
  have HB1 := Lib.hid b1
  clear b1 HC
  cases q
  case true =>
    go_wp2_with fail
    go_ret
    unfold SxDropPost
    rw [if_pos HQ.out]
    exact ⟨rfl, HB1.out⟩
  case false =>
    go_wp2_with fail
    have HI1 : Hid (DrI w w1 sb bs bw bm ns nw nm gs gw gm l 0) := Lib.hid ⟨⟨nw, by omega, HS.out.below HB1.out⟩, Chg.of_below HB1.out _⟩
    go_loopw [13] (fun i wr => ∃ k : Nat, k ≤ l.length ∧ i = .int .i64 k ∧ Hid (DrI w wr sb bs bw bm ns nw nm gs gw gm l k)) (fun i _ => l.length - (intOf i).toNat)
    case atStart => exact ⟨0, by omega, rfl, HI1⟩
    case round =>
      obtain ⟨k, hk, rfl, HI⟩ := hrel
      by_cases hlt : k < l.length
      · obtain ⟨x, hx⟩ : ∃ x, l[k]? = some x := ⟨_, List.getElem?_eq_getElem hlt⟩
        obtain ⟨b, off, rfl, hat⟩ := HR.out (fun e => by rw [e] at hlt; simp at hlt)
        obtain ⟨nw', hn', hs'⟩ := HI.out.ex
        have HBB : Hid (wr.heap[b]? = w.heap[b]?) := Lib.hid (by
          refine HI.out.chg.block b hat.lt (fun e => ?_)
          subst e
          obtain ⟨es, ck, hmap⟩ := HS.out.wm.map
          have := hat.cells k x hx 0 _ rfl
          simp [World.cell?, hmap] at this)
        have hat2 := hat.of_block HBB.out
        have c0 := hat2.cells k x hx 0 _ rfl
        have c1 := hat2.cells k x hx 1 _ rfl
        have c2 := hat2.cells k x hx 2 _ rfl
        have c3 := hat2.cells k x hx 3 _ rfl
        simp [kK] at c0 c1 c2 c3
        have HXO := Lib.hid (HO.out x (List.mem_of_getElem? hx))
        have HTK : Hid (l.take (k + 1) = l.take k ++ [x]) := Lib.hid (by
          obtain ⟨hk', e⟩ := List.getElem?_eq_some_iff.1 hx
          rw [List.take_succ_eq_append_getElem hk', e])
        have HS2 := Lib.hid hs'
        have HN2 := Lib.hid hn'
        clear hx hat hat2 hs' hn'
        obtain ⟨W, hW⟩ : ∃ W, wr.alloc (.cells #[.int .i64 x.kind, .int .i64 x.a, .int .i64 x.b, .string x.s] 47) = W := ⟨_, rfl⟩
        obtain ⟨kb, hkb⟩ : ∃ x, x = wr.heap.size := ⟨_, rfl⟩
        have bW : Below wr.heap.size wr W := by rw [← hW]; exact below_box _ _
        have eW : W.heap[kb]? = some (.cells #[.int .i64 x.kind, .int .i64 x.a, .int .i64 x.b, .string x.s] 47) := by rw [← hW, hkb]; exact heap_new _ _
        have HE := Lib.hid eW
        have HBW := Lib.hid bW
        have HHU := Lib.hid (HS2.out.below bW)
        have HW := Lib.hid hW
        have HKB := Lib.hid hkb
        clear bW eW hW hkb
        go_upto_region 6 with fail
        rw [HW.out, ← HKB.out]
        clear c0 c1 c2 c3
        have v0 := cell_of_blk HE.out 0
        have v1 := cell_of_blk HE.out 1
        have v2 := cell_of_blk HE.out 2
        have v3 := cell_of_blk HE.out 3
        have d1 := cell_of_blk HHU.out.blk 1
        simp at v0 v1 v2 v3 d1
        obtain ⟨F, hm, hF⟩ := HHU.out.wm
        have HF := Lib.hid hF
        have hm2 : mapR W.drew Tryz.prog 47 bw nw' F := hm.of_block rfl
        have hnl : nw' < maxLen := by have := HNW.out; have := HN2.out; unfold maxLen; omega
        clear hm hF
        refine wp_region_still_tail 6 (by kernel_rfl) (by kernel_rfl) ?_
        change wpStill _ _ (World.drew _) (fun a' => wpList _ _ _ _ a' (World.drew _)) _ _
        simp only [List.take_succ_cons, List.take_zero, List.drop_succ_cons, List.drop_zero]
        repeat still_step
        refine wpStill_nil ?_
        go_wp2_with (at_mapUpdate; refine wpList_store _ rfl _ _ _ 107 rfl 47 105 lawKey Tryz.underlying107 bw nw' F rfl hm2 hnl _ (.agg #[.string ⟨#[]⟩, .bool false]) _ rfl rfl (keyK HXO.out) ?_; intro w3 m3 t3 c3 f3 z3)
        have M3 := Lib.hid m3
        have T3 := Lib.hid t3
        clear m3 t3 c3 f3 z3 hm2
        go_wp2_with fail
        have hx3 : MpX w3 bw (if (F x.lit).isSome = true then nw' else nw' + 1) Tx.v (updK (updKs ⟨⟨#[]⟩, false⟩ (l.take k) gw) x (some ⟨⟨#[]⟩, false⟩)) := MpX.stored (enc := Tx.v) HF.out HXO.out M3.out
        refine ⟨⟨k + 1, by omega, by go_num, Lib.hid ⟨⟨(if (F x.lit).isSome = true then nw' else nw' + 1), by have := len_if nw' (F x.lit).isSome; have := HN2.out; omega, ?_⟩, ?_⟩⟩, by simp [intOf]; omega⟩
        · rw [HTK.out, updKs_append]
          exact (HHU.out.below (below_drewN (Below.refl _ _) 1)).wturn T3.out hx3
        · have h1 : Chg w W (fun j => j = bw) := HI.out.chg.trans (Chg.of_below HBW.out _) (fun _ _ h => h)
          exact h1.drew.turned T3.out (fun _ => rfl)
      · obtain rfl : k = l.length := by omega
        go_wp2_with fail
        go_ret
        unfold SxDropPost
        rw [if_neg (by rw [HQ.out]; decide)]
        obtain ⟨nw', h1, h2⟩ := HI.out.ex
        rw [List.take_length] at h2
        exact ⟨rfl, nw', h1, h2, HI.out.chg⟩
end Go.Proofs.YtkhkdedjffkhdaaGreat
namespace Go.Proofs.YtkhkdedjffkhdaaGreat
open Go.RowKit Go.Maps

theorem neTx (a b : Tx) (w : World) : (binOp .neq 105 (.agg #[.string a.val, .bool a.has]) (.agg #[.string b.val, .bool b.has])).run Tryz.prog w = .ok (.bool (!txB a b)) w := by
  unfold txB
  cases h1 : (a.val.toList == b.val.toList) <;> cases h2 : (a.has == b.has) <;> go_simp
theorem tx_tx (o : Option Tx) : ∃ t : Tx, ((o.map Tx.v).getD Tx.zero = .agg #[.string t.val, .bool t.has]) ∧ txD o = t := by
  cases o with
  | none => exact ⟨⟨⟨#[]⟩, false⟩, rfl, rfl⟩
  | some t => exact ⟨t, rfl, rfl⟩
theorem sn_tx (o : Option Sn) : ∃ x : Sn, ((o.map Sn.v).getD Sn.zero = .agg #[.int .u64 x.word, .string x.val, .bool x.has]) ∧ snTx o = ⟨x.val, x.has⟩ := by
  cases o with
  | none => exact ⟨⟨0, ⟨#[]⟩, false⟩, rfl, rfl⟩
  | some x => exact ⟨x, rfl, rfl⟩
/-- in a round of Writes -/
structure WrI (w2 wr : World) (gs : Ky → Option Sn) (gw : Ky → Option Tx) (ks : List Ky) (k : Nat) (v : Value) : Prop where
  b : Below w2.heap.size w2 wr
  o : kW.Own wr w2.heap.size v (wrOut gs gw (ks.take k))
theorem wrAt_len (gs : Ky → Option Sn) (gw : Ky → Option Tx) (k : Ky) : (wrAt gs gw k).length ≤ 1 := by unfold wrAt; split <;> simp
theorem wrOut_len (gs : Ky → Option Sn) (gw : Ky → Option Tx) : ∀ ks : List Ky, (wrOut gs gw ks).length ≤ ks.length
  | [] => Nat.le_refl _
  | k :: ks => by
    show (wrAt gs gw k ++ wrOut gs gw ks).length ≤ _
    have := wrAt_len gs gw k
    have := wrOut_len gs gw ks
    simp only [List.length_append, List.length_cons]
    omega
theorem wrOut_snoc (gs : Ky → Option Sn) (gw : Ky → Option Tx) (ks : List Ky) (x : Ky) : wrOut gs gw (ks ++ [x]) = wrOut gs gw ks ++ wrAt gs gw x := by simp [wrOut]
theorem below_grownW {w w' : World} {B : Nat} {v : Value} {l : List Wr} (h : kW.Own w B v l) (hg : w.grownBy w' v.ownBlock) (hB : B ≤ w.heap.size) : Below B w w' :=
  ⟨hg.os, hg.tape, hg.output, hg.size, fun k hk => hg.block k (by omega) (fun e => by have := (h.lt k e.symm).1; omega)⟩
def WritesPost (w : World) (nw : Nat) (gs : Ky → Option Sn) (gw : Ky → Option Tx) (e : Ending) (w' : World) : Prop :=
  ∃ v ks, e = .returned v ∧ KsG gw nw ks ∧ kW.Own w' w.heap.size v (wrOut gs gw ks) ∧ Below w.heap.size w w'
set_option maxRecDepth 100000 in
set_option maxHeartbeats 4000000 in
theorem sxWrites_any {w : World} {sb bs bw bm ns nw nm : Nat} {gs : Ky → Option Sn} {gw gm : Ky → Option Tx} (h : StX w sb bs bw bm ns nw nm gs gw gm) (hnw : nw ≤ 1000000) :
    Calls Tryz.prog 41 #[.pointer (some ⟨sb, 0, none⟩)] w (WritesPost w nw gs gw) := by
  have c1 := cell_of_blk h.blk 1
  simp at c1
  obtain ⟨F, hm, hF⟩ := h.wm
  have HH := Lib.hid h
  have HM := Lib.hid hm
  have HF := Lib.hid hF
  have HNW := Lib.hid hnw
  clear h hm hF hnw
  go_enter Tryz.func41, Tryz.ntmps41
  go_wp2_with fail
  refine (keysT_any (some bw) w).mono ?_
  rintro e w1 ⟨rfl, hw1⟩
  have b1 : Below w.heap.size w w1 := by rw [hw1]; exact below_box _ _
  have HB1 := Lib.hid b1
  have HS : Hid (Calls Tryz.prog 81 #[.func (.func 107) #[] #[.pointer (some ⟨w.heap.size, 0, none⟩)], .func (.func 75) #[] #[]] w1 (SortedPost F nw w1)) := Lib.hid (sortedT_any w.heap.size bw nw F HNW.out w1 (by rw [hw1, size_alloc]; omega) (by rw [hw1]; exact cell_of_blk (heap_new w _) 0) (HM.out.of_block (b1.block _ HM.out.lt)))
  clear hw1 b1 c1
  go_wp2_with fail
  refine HS.out.mono ?_
  rintro e w2 ⟨v2, ks, rfl, s1, s2, o2, b2⟩
  have HG : Hid (KsG gw nw ks) := Lib.hid ⟨s1, s2.2.1, s2.2.2.1, fun k hk => by
    rw [s2.2.2.2 k hk, HF.out k hk]
    cases gw k <;> simp⟩
  have HB2 := Lib.hid (below_then HB1.out b2)
  have HH2 := Lib.hid (HH.out.below HB2.out)
  have HKO := Lib.hid o2
  obtain ⟨ka, kcap, hv2⟩ := o2.shape
  subst hv2
  have HKL : Hid (ks.length ≤ 1000000) := Lib.hid (Nat.le_trans HG.out.2.2.1 HNW.out)
  obtain ⟨n, hn⟩ : ∃ n, n = ks.length := ⟨_, rfl⟩
  rw [← hn]
  have hn6 : n ≤ 1000000 := by rw [hn]; exact HKL.out
  have HN := Lib.hid hn
  clear s1 s2 o2 b2 hn HS
  have HI0 : Hid (WrI w2 w2 gs gw ks 0 (.slice none 0 0)) := Lib.hid ⟨Below.refl _ _, RowK.Own.nil kW _ _⟩
  go_wp2_with fail
  go_loopw [3, 15] (fun s3 i wr => ∃ k : Nat, k ≤ n ∧ i = .int .i64 k ∧ Hid (WrI w2 wr gs gw ks k s3)) (fun _ i _ => n - (intOf i).toNat)
  case atStart => exact ⟨0, Nat.zero_le _, rfl, HI0⟩
  case round =>
    obtain ⟨k, hk, rfl, HI⟩ := hrel
    by_cases hlt : k < n
    · have hltz : (k : Int) < (n : Int) := by omega
      obtain ⟨x, hx⟩ : ∃ x, ks[k]? = some x := ⟨_, List.getElem?_eq_getElem (by have := HN.out; omega)⟩
      obtain ⟨b, cp, hbe, _, _, hat⟩ := HKO.out.at' (fun e => by rw [e] at hx; simp at hx)
      injection hbe with e1 e2 e3
      subst e1
      have hat2 := hat.below HI.out.b
      have c0 := hat2.cells k x hx 0 _ rfl
      have c1 := hat2.cells k x hx 1 _ rfl
      have c2 := hat2.cells k x hx 2 _ rfl
      have c3 := hat2.cells k x hx 3 _ rfl
      simp [kK] at c0 c1 c2 c3
      have HXO : Hid x.Ok := Lib.hid (HG.out.2.1 x (List.mem_of_getElem? hx))
      have HTK : Hid (ks.take (k + 1) = ks.take k ++ [x]) := Lib.hid (by
        obtain ⟨hk', e⟩ := List.getElem?_eq_some_iff.1 hx
        rw [List.take_succ_eq_append_getElem hk', e])
      obtain ⟨W, hW⟩ : ∃ W, wr.alloc (.cells #[.int .i64 x.kind, .int .i64 x.a, .int .i64 x.b, .string x.s] 47) = W := ⟨_, rfl⟩
      obtain ⟨kb, hkb⟩ : ∃ x, x = wr.heap.size := ⟨_, rfl⟩
      have bW : Below wr.heap.size wr W := by rw [← hW]; exact below_box _ _
      have eW : W.heap[kb]? = some (.cells #[.int .i64 x.kind, .int .i64 x.a, .int .i64 x.b, .string x.s] 47) := by rw [← hW, hkb]; exact heap_new _ _
      have HBW := Lib.hid (below_then HI.out.b bW)
      have HOW := Lib.hid (HI.out.o.below bW)
      have HHW := Lib.hid (HH2.out.below HBW.out)
      obtain ⟨t, hv, ht⟩ := tx_tx (gw x)
      obtain ⟨y, hy, hyt⟩ := sn_tx (gs x)
      have HS : Hid (∀ u : World, Below W.heap.size W u → u.cell? ⟨sb, 0, none⟩ = some (.map (some bs)) ∧ u.cell? ⟨sb, 1, none⟩ = some (.map (some bw)) ∧ u.cell? ⟨kb, 0, none⟩ = some (.int .i64 x.kind) ∧ u.cell? ⟨kb, 1, none⟩ = some (.int .i64 x.a) ∧ u.cell? ⟨kb, 2, none⟩ = some (.int .i64 x.b) ∧ u.cell? ⟨kb, 3, none⟩ = some (.string x.s) ∧
          (Instr.lookup 107 (.map (some bw)) (.agg #[.int .i64 x.kind, .int .i64 x.a, .int .i64 x.b, .string x.s]) false).run Tryz.prog u = .ok (.agg #[.string t.val, .bool t.has]) u ∧
          (Instr.lookup 106 (.map (some bs)) (.agg #[.int .i64 x.kind, .int .i64 x.a, .int .i64 x.b, .string x.s]) false).run Tryz.prog u = .ok (.agg #[.int .u64 y.word, .string y.val, .bool y.has]) u) := Lib.hid (fun u hu => by
        have h2 := HHW.out.below hu
        have e2 := (hu.block _ (Array.getElem?_eq_some_iff.1 eW).1).trans eW
        have hl := h2.wm.look1 Tryz.underlying107 (zeroTx u) HXO.out
        rw [hv] at hl
        have hl2 := h2.sm.look1 Tryz.underlying106 (zeroSn u) HXO.out
        rw [hy] at hl2
        exact ⟨by simpa using cell_of_blk h2.blk 0, by simpa using cell_of_blk h2.blk 1, by simpa using cell_of_blk e2 0, by simpa using cell_of_blk e2 1, by simpa using cell_of_blk e2 2, by simpa using cell_of_blk e2 3, hl, hl2⟩)
      obtain ⟨q, hq⟩ : ∃ q, txB ⟨y.val, y.has⟩ t = q := ⟨_, rfl⟩
      have HWA : Hid (wrAt gs gw x = if q = true then [] else [⟨x, t.val, t.has⟩]) := Lib.hid (by unfold wrAt; rw [ht, hyt, hq])
      have HE : Hid (∀ u, (binOp .neq 105 (.agg #[.string y.val, .bool y.has]) (.agg #[.string t.val, .bool t.has])).run Tryz.prog u = .ok (.bool (!q)) u) := Lib.hid (fun u => by rw [← hq]; exact neTx ⟨y.val, y.has⟩ t u)
      have HOL : Hid ((wrOut gs gw (ks.take k)).length ≤ 1000000) := Lib.hid (by
        have := wrOut_len gs gw (ks.take k)
        have := HKL.out
        rw [List.length_take] at *
        omega)
      obtain ⟨oa, oc, hos⟩ := HI.out.o.shape
      subst hos
      obtain ⟨on, hon⟩ : ∃ on, on = (wrOut gs gw (ks.take k)).length := ⟨_, rfl⟩
      rw [← hon]
      have HON := Lib.hid hon
      have HW := Lib.hid hW
      have HKB := Lib.hid hkb
      clear hx hat hat2 bW eW hW hkb hv ht hy hyt hq hon e2 e3
      go_upto_region 5 with fail
      rw [HW.out, ← HKB.out]
      clear c0 c1 c2 c3
      refine wp_region_held_drew (S := (fun w' : World => w'.cell? ⟨sb, 0, none⟩ = some (.map (some bs)) ∧ w'.cell? ⟨sb, 1, none⟩ = some (.map (some bw)) ∧ w'.cell? ⟨kb, 0, none⟩ = some (.int .i64 x.kind) ∧ w'.cell? ⟨kb, 1, none⟩ = some (.int .i64 x.a) ∧ w'.cell? ⟨kb, 2, none⟩ = some (.int .i64 x.b) ∧ w'.cell? ⟨kb, 3, none⟩ = some (.string x.s) ∧ (Instr.lookup 107 (.map (some bw)) (.agg #[.int .i64 x.kind, .int .i64 x.a, .int .i64 x.b, .string x.s]) false).run Tryz.prog w' = .ok (.agg #[.string t.val, .bool t.has]) w' ∧ (Instr.lookup 106 (.map (some bs)) (.agg #[.int .i64 x.kind, .int .i64 x.a, .int .i64 x.b, .string x.s]) false).run Tryz.prog w' = .ok (.agg #[.int .u64 y.word, .string y.val, .bool y.has]) w')) (by kernel_rfl) (HS.out _ (below_drewN (Below.refl _ _) 1)) (fun hHeld => ?_)
      obtain ⟨X, hGen⟩ : ∃ u, u = World.drew W := ⟨_, rfl⟩
      rw [← hGen] at hHeld ⊢
      have HBX : Hid (Below W.heap.size W X) := Lib.hid (by rw [hGen]; exact below_drewN (Below.refl _ _) 1)
      clear hGen
      refine wpAnyH_take (i := 0) (oi := ⟨some 19, _, _, _, _, _⟩) (v := ?vvpg1) rfl (by kernel_rfl) (by kernel_rfl) (by kernel_rfl) (fun _ _ _ h => h) (Or.inl ⟨by rfl, ?yypg1⟩) hHeld ?rrpg1
      case yypg1 => (intro wq hSw; (try dsimp only at hSw); go_simp; first | done | with_reducible rfl)
      simp only [Act.put, List.setIfInBounds_toArray, List.set_cons_zero, List.set_cons_succ]
      refine wpAnyH_take (i := 1) (oi := ⟨some 20, _, _, _, _, _⟩) (v := ?vvpg2) rfl (by kernel_rfl) (by kernel_rfl) (by kernel_rfl) (fun _ _ _ h => h) (Or.inl ⟨by rfl, ?yypg2⟩) hHeld ?rrpg2
      case yypg2 => (intro wq hSw; (try dsimp only at hSw); go_simp; first | done | with_reducible rfl)
      simp only [Act.put, List.setIfInBounds_toArray, List.set_cons_zero, List.set_cons_succ]
      refine wpAnyH_take (i := 2) (oi := ⟨some 21, _, _, _, _, _⟩) (v := ?vvpg3) rfl (by kernel_rfl) (by kernel_rfl) (by kernel_rfl) (fun _ _ _ h => h) (Or.inl ⟨by rfl, ?yypg3⟩) hHeld ?rrpg3
      case yypg3 => (intro wq hSw; (try dsimp only at hSw); go_simp; first | done | with_reducible rfl)
      simp only [Act.put, List.setIfInBounds_toArray, List.set_cons_zero, List.set_cons_succ]
      refine wpAnyH_take (i := 3) (oi := ⟨some 22, _, _, _, _, _⟩) (v := ?vvpg4) rfl (by kernel_rfl) (by kernel_rfl) (by kernel_rfl) (fun _ _ _ h => h) (Or.inl ⟨by rfl, ?yypg4⟩) hHeld ?rrpg4
      case yypg4 => (intro wq hSw; (try dsimp only at hSw); go_simp; first | done | with_reducible rfl)
      simp only [Act.put, List.setIfInBounds_toArray, List.set_cons_zero, List.set_cons_succ]
      refine wpAnyH_take (i := 4) (oi := ⟨some 23, _, _, _, _, _⟩) (v := ?vvpg5) rfl (by kernel_rfl) (by kernel_rfl) (by kernel_rfl) (fun _ _ _ h => h) (Or.inl ⟨by rfl, ?yypg5⟩) hHeld ?rrpg5
      case yypg5 => (intro wq hSw; (try dsimp only at hSw); go_simp; first | done | with_reducible rfl)
      simp only [Act.put, List.setIfInBounds_toArray, List.set_cons_zero, List.set_cons_succ]
      refine wpAnyH_take (i := 5) (oi := ⟨some 24, _, _, _, _, _⟩) (v := ?vvpg6) rfl (by kernel_rfl) (by kernel_rfl) (by kernel_rfl) (fun _ _ _ h => h) (Or.inl ⟨by rfl, ?yypg6⟩) hHeld ?rrpg6
      case yypg6 => (intro wq hSw; (try dsimp only at hSw); go_simp; first | done | with_reducible rfl)
      simp only [Act.put, List.setIfInBounds_toArray, List.set_cons_zero, List.set_cons_succ]
      refine wpAnyH_take (i := 6) (oi := ⟨some 25, _, _, _, _, _⟩) (v := ?vvpg7) rfl (by kernel_rfl) (by kernel_rfl) (by kernel_rfl) (fun _ _ _ h => h) (Or.inl ⟨by rfl, ?yypg7⟩) hHeld ?rrpg7
      case yypg7 => (intro wq hSw; (try dsimp only at hSw); go_simp; first | done | with_reducible rfl)
      simp only [Act.put, List.setIfInBounds_toArray, List.set_cons_zero, List.set_cons_succ]
      refine wpAnyH_take (i := 7) (oi := ⟨some 26, _, _, _, _, _⟩) (v := ?vvpg8) rfl (by kernel_rfl) (by kernel_rfl) (by kernel_rfl) (fun _ _ _ h => h) (Or.inl ⟨by rfl, ?yypg8⟩) hHeld ?rrpg8
      case yypg8 => (intro wq hSw; (try dsimp only at hSw); go_simp; first | done | with_reducible rfl)
      simp only [Act.put, List.setIfInBounds_toArray, List.set_cons_zero, List.set_cons_succ]
      refine wpAnyH_take (i := 8) (oi := ⟨some 27, _, _, _, _, _⟩) (v := ?vvpg9) rfl (by kernel_rfl) (by kernel_rfl) (by kernel_rfl) (fun _ _ _ h => h) (Or.inl ⟨by rfl, ?yypg9⟩) hHeld ?rrpg9
      case yypg9 => (intro wq hSw; (try dsimp only at hSw); go_simp; first | done | with_reducible rfl)
      simp only [Act.put, List.setIfInBounds_toArray, List.set_cons_zero, List.set_cons_succ]
      refine wpAnyH_take (i := 9) (oi := ⟨some 28, _, _, _, _, _⟩) (v := ?vvpg10) rfl (by kernel_rfl) (by kernel_rfl) (by kernel_rfl) (fun _ _ _ h => h) (Or.inl ⟨by rfl, ?yypg10⟩) hHeld ?rrpg10
      case yypg10 => (intro wq hSw; (try dsimp only at hSw); go_simp; first | done | with_reducible rfl)
      simp only [Act.put, List.setIfInBounds_toArray, List.set_cons_zero, List.set_cons_succ]
      refine wpAnyH_take (i := 10) (oi := ⟨some 29, _, _, _, _, _⟩) (v := ?vvpg11) rfl (by kernel_rfl) (by kernel_rfl) (by kernel_rfl) (fun _ _ _ h => h) (Or.inl ⟨by rfl, ?yypg11⟩) hHeld ?rrpg11
      case yypg11 => (intro wq hSw; (try dsimp only at hSw); go_simp; first | done | with_reducible rfl)
      simp only [Act.put, List.setIfInBounds_toArray, List.set_cons_zero, List.set_cons_succ]
      refine wpAnyH_take (i := 11) (oi := ⟨some 30, _, _, _, _, _⟩) (v := ?vvpg12) rfl (by kernel_rfl) (by kernel_rfl) (by kernel_rfl) (fun _ _ _ h => h) (Or.inl ⟨by rfl, ?yypg12⟩) hHeld ?rrpg12
      case yypg12 => (intro wq hSw; (try dsimp only at hSw); go_simp; first | done | with_reducible rfl)
      simp only [Act.put, List.setIfInBounds_toArray, List.set_cons_zero, List.set_cons_succ]
      refine wpAnyH_ready (rs := [12, 13]) (by kernel_rfl) (by simp) ?_
      refine AllReadyH.cons (o := ⟨some 6, _, _, _, _, _⟩) rfl (fun K hK => ?_) (AllReadyH.cons (o := ⟨some 7, _, _, _, _, _⟩) rfl (fun K hK => ?_) AllReadyH.nil)
      · go_simp
        obtain ⟨n6, hn⟩ : ∃ u, u = X.alloc (.cells #[.string ⟨#[]⟩, .bool false] 105) := ⟨_, rfl⟩
        obtain ⟨g6, hg⟩ : ∃ g, g = X.heap.size := ⟨_, rfl⟩
        rw [← hn, ← hg]
        have bn : Below X.heap.size X n6 := by rw [hn]; exact below_box _ _
        have HB6 : Hid (Below W.heap.size W n6) := Lib.hid (below_then HBX.out bn)
        have E6 : Hid (n6.heap[g6]? = some (.cells #[.string ⟨#[]⟩, .bool false] 105)) := Lib.hid (by rw [hn, hg]; exact heap_new _ _)
        have L6 : Hid (W.heap.size ≤ g6) := Lib.hid (by rw [hg]; exact HBX.out.size)
        have LT6 : Hid (g6 + 1 = n6.heap.size) := Lib.hid (by rw [hn, size_alloc, hg])
        clear hn hg bn
        refine hK.out _ _ ?sspg13 (fun hHeld => ?_)
        case sspg13 => (exact HS.out _ HB6.out)
        clear hK K
        try simp only [Act.put, List.setIfInBounds_toArray, List.set_cons_zero, List.set_cons_succ]
        refine wpAnyH_ready (rs := [13]) (by kernel_rfl) (by simp) ?_
        refine AllReadyH.cons (o := ⟨some 7, _, _, _, _, _⟩) rfl (fun K hK => ?_) AllReadyH.nil
        go_simp
        obtain ⟨n7, hn⟩ : ∃ u, u = n6.alloc (.cells #[.int .u64 0, .string ⟨#[]⟩, .bool false] 96) := ⟨_, rfl⟩
        obtain ⟨g7, hg⟩ : ∃ g, g = n6.heap.size := ⟨_, rfl⟩
        rw [← hn, ← hg]
        have bn : Below n6.heap.size n6 n7 := by rw [hn]; exact below_box _ _
        have HB7 : Hid (Below W.heap.size W n7) := Lib.hid (below_then HB6.out bn)
        have E7 : Hid (n7.heap[g7]? = some (.cells #[.int .u64 0, .string ⟨#[]⟩, .bool false] 96)) := Lib.hid (by rw [hn, hg]; exact heap_new _ _)
        have L7 : Hid (W.heap.size ≤ g7) := Lib.hid (by rw [hg]; exact HB6.out.size)
        replace E6 : Hid (n7.heap[g6]? = some (.cells #[.string ⟨#[]⟩, .bool false] 105)) := Lib.hid ((bn.block _ (Array.getElem?_eq_some_iff.1 E6.out).1).trans E6.out)
        have NE : Hid (g6 ≠ g7) := Lib.hid (by have := (Array.getElem?_eq_some_iff.1 E6.out).1; have h9 := hg; intro e; rw [hn, size_alloc] at this; have q := (LT6).out; omega)
        have LT7 : Hid (g7 + 1 = n7.heap.size) := Lib.hid (by rw [hn, size_alloc, hg])
        clear hn hg bn
        refine hK.out _ _ ?sspg14 (fun hHeld => ?_)
        case sspg14 => (exact HS.out _ HB7.out)
        clear hK K
        try simp only [Act.put, List.setIfInBounds_toArray, List.set_cons_zero, List.set_cons_succ]
        refine wpAnyH_ready (rs := [14]) (by kernel_rfl) (by simp) ?_
        refine AllReadyH.cons (o := ⟨none, _, _, _, _, _⟩) rfl (fun K hK => ?_) AllReadyH.nil
        have z0 := cell_of_blk E6.out 0
        have z1 := cell_of_blk E6.out 1
        have y0 := frozen_of_blk E6.out 0
        have y1 := frozen_of_blk E6.out 1
        simp at z0 z1
        go_simp
        obtain ⟨u6, hU⟩ : ∃ u, u = ((n7.setCell ⟨g6, 0, none⟩ (.string t.val)).setCell ⟨g6, 1, none⟩ (.bool t.has)) := ⟨_, rfl⟩
        rw [← hU]
        have HC6 : Hid (Below W.heap.size W u6) := Lib.hid (by rw [hU]; exact ((HB7.out.setCell (p := ⟨g6, 0, none⟩) L6.out _).setCell (p := ⟨g6, 1, none⟩) L6.out _))
        replace E6 : Hid (u6.heap[g6]? = some (.cells #[.string t.val, .bool t.has] 105)) := Lib.hid (by rw [hU, blk_setCell (blk_setCell E6.out _) _]; rfl)
        replace E7 : Hid (u6.heap[g7]? = some (.cells #[.int .u64 0, .string ⟨#[]⟩, .bool false] 96)) := Lib.hid (by rw [hU, Below.heap_setCell _ _ _ _ (NE.out.symm), Below.heap_setCell _ _ _ _ (NE.out.symm)]; exact E7.out)
        clear hU z0 y0 z1 y1
        refine hK.out _ _ ?sspg15 (fun hHeld => ?_)
        case sspg15 => (exact HS.out _ HC6.out)
        clear hK K
        try simp only [Act.put, List.setIfInBounds_toArray, List.set_cons_zero, List.set_cons_succ]
        refine wpAnyH_ready (rs := [15]) (by kernel_rfl) (by simp) ?_
        refine AllReadyH.cons (o := ⟨none, _, _, _, _, _⟩) rfl (fun K hK => ?_) AllReadyH.nil
        have z0 := cell_of_blk E7.out 0
        have z1 := cell_of_blk E7.out 1
        have z2 := cell_of_blk E7.out 2
        have y0 := frozen_of_blk E7.out 0
        have y1 := frozen_of_blk E7.out 1
        have y2 := frozen_of_blk E7.out 2
        simp at z0 z1 z2
        go_simp
        obtain ⟨u7, hU⟩ : ∃ u, u = (((u6.setCell ⟨g7, 0, none⟩ (.int .u64 y.word)).setCell ⟨g7, 1, none⟩ (.string y.val)).setCell ⟨g7, 2, none⟩ (.bool y.has)) := ⟨_, rfl⟩
        rw [← hU]
        have HC7 : Hid (Below W.heap.size W u7) := Lib.hid (by rw [hU]; exact (((HC6.out.setCell (p := ⟨g7, 0, none⟩) L7.out _).setCell (p := ⟨g7, 1, none⟩) L7.out _).setCell (p := ⟨g7, 2, none⟩) L7.out _))
        replace E7 : Hid (u7.heap[g7]? = some (.cells #[.int .u64 y.word, .string y.val, .bool y.has] 96)) := Lib.hid (by rw [hU, blk_setCell (blk_setCell (blk_setCell E7.out _) _) _]; rfl)
        replace E6 : Hid (u7.heap[g6]? = some (.cells #[.string t.val, .bool t.has] 105)) := Lib.hid (by rw [hU, Below.heap_setCell _ _ _ _ (NE.out), Below.heap_setCell _ _ _ _ (NE.out), Below.heap_setCell _ _ _ _ (NE.out)]; exact E6.out)
        clear hU z0 y0 z1 y1 z2 y2
        refine hK.out _ _ ?sspg16 (fun hHeld => ?_)
        case sspg16 => (exact HS.out _ HC7.out)
        clear hK K
        try simp only [Act.put, List.setIfInBounds_toArray, List.set_cons_zero, List.set_cons_succ]
        refine wpAnyH_done (by kernel_rfl) ?_ _
        clear hHeld
        have x0 := cell_of_blk E6.out 0
        have x1 := cell_of_blk E6.out 1
        have y1 := cell_of_blk E7.out 1
        have y2 := cell_of_blk E7.out 2
        obtain ⟨_, _, k0, k1, k2, k3, _, _⟩ := HS.out _ HC7.out
        simp at x0 x1 y1 y2
        cases q
        · go_upto_region 7 with (refine wpList_agg_run (o := ⟨some 37, _, _, _, _, _⟩) rfl .neq 105 105 (.tmp 35) (.tmp 36) rfl _ _ rfl rfl (by kernel_rfl) (.bool true) (HE.out _) ?_)
          obtain ⟨Z, hZ⟩ : ∃ Z, u7.alloc (.cells #[.int .i64 x.kind, .int .i64 x.a, .int .i64 x.b, .string x.s, .string t.val, .bool t.has] 94) = Z := ⟨_, rfl⟩
          obtain ⟨zb, hzb⟩ : ∃ z, z = u7.heap.size := ⟨_, rfl⟩
          have bZ : Below u7.heap.size u7 Z := by rw [← hZ]; exact below_box _ _
          have eZ : Z.heap[zb]? = some (.cells #[.int .i64 x.kind, .int .i64 x.a, .int .i64 x.b, .string x.s, .string t.val, .bool t.has] 94) := by rw [← hZ, hzb]; exact heap_new _ _
          have HOZ := Lib.hid ((HOW.out.below HC7.out).below bZ)
          have HBZ := Lib.hid (HBW.out.trans ((below_then HC7.out bZ).mono HBW.out.size))
          have HVZ : Hid (kW.V Z (some ⟨zb, 0, none⟩) [⟨x, t.val, t.has⟩]) := Lib.hid (fun _ => ⟨_, 0, rfl, RowK.new_at (k := kW) eZ rfl⟩)
          have HZ := Lib.hid hZ
          have HZB := Lib.hid hzb
          clear bZ eZ hZ hzb
          go_wp2_with (at_builtin; rw [HZ.out, ← HZB.out]; refine RowK.wpList_app (k := kW) (B := w2.heap.size) (v := .slice oa on oc) (l := wrOut gs gw (ks.take k)) rfl (.tmp 38) (.tmp 45) rfl rfl (by rw [HON.out]; exact HOZ.out) (some ⟨zb, 0, none⟩) 1 [⟨x, t.val, t.has⟩] 1 rfl rfl HVZ.out (fun e => by cases e) (by have := HOL.out; simp; omega) HBZ.out.size ?_; rintro v9 w9 h9; have H9 := Lib.hid h9; clear h9)
          refine ⟨⟨k + 1, by omega, by go_num, Lib.hid ⟨HBZ.out.trans (below_grownW HOZ.out (by have := H9.out.2.1; rw [HON.out] at this; exact this) HBZ.out.size), ?_⟩⟩, by simp [intOf]; omega⟩
          rw [HTK.out, wrOut_snoc, HWA.out, if_neg (by decide)]
          exact H9.out.1
        · go_wp2_with (refine wpList_agg_run (o := ⟨some 37, _, _, _, _, _⟩) rfl .neq 105 105 (.tmp 35) (.tmp 36) rfl _ _ rfl rfl (by kernel_rfl) (.bool false) (HE.out _) ?_)
          refine ⟨⟨k + 1, by omega, by go_num, Lib.hid ⟨HBW.out.trans (HC7.out.mono HBW.out.size), ?_⟩⟩, by simp [intOf]; omega⟩
          rw [HTK.out, wrOut_snoc, HWA.out, if_pos rfl, List.append_nil, HON.out]
          exact HOW.out.below HC7.out
      · go_simp
        obtain ⟨n7, hn⟩ : ∃ u, u = X.alloc (.cells #[.int .u64 0, .string ⟨#[]⟩, .bool false] 96) := ⟨_, rfl⟩
        obtain ⟨g7, hg⟩ : ∃ g, g = X.heap.size := ⟨_, rfl⟩
        rw [← hn, ← hg]
        have bn : Below X.heap.size X n7 := by rw [hn]; exact below_box _ _
        have HB7 : Hid (Below W.heap.size W n7) := Lib.hid (below_then HBX.out bn)
        have E7 : Hid (n7.heap[g7]? = some (.cells #[.int .u64 0, .string ⟨#[]⟩, .bool false] 96)) := Lib.hid (by rw [hn, hg]; exact heap_new _ _)
        have L7 : Hid (W.heap.size ≤ g7) := Lib.hid (by rw [hg]; exact HBX.out.size)
        have LT7 : Hid (g7 + 1 = n7.heap.size) := Lib.hid (by rw [hn, size_alloc, hg])
        clear hn hg bn
        refine hK.out _ _ ?sspg17 (fun hHeld => ?_)
        case sspg17 => (exact HS.out _ HB7.out)
        clear hK K
        try simp only [Act.put, List.setIfInBounds_toArray, List.set_cons_zero, List.set_cons_succ]
        refine wpAnyH_ready (rs := [12]) (by kernel_rfl) (by simp) ?_
        refine AllReadyH.cons (o := ⟨some 6, _, _, _, _, _⟩) rfl (fun K hK => ?_) AllReadyH.nil
        go_simp
        obtain ⟨n6, hn⟩ : ∃ u, u = n7.alloc (.cells #[.string ⟨#[]⟩, .bool false] 105) := ⟨_, rfl⟩
        obtain ⟨g6, hg⟩ : ∃ g, g = n7.heap.size := ⟨_, rfl⟩
        rw [← hn, ← hg]
        have bn : Below n7.heap.size n7 n6 := by rw [hn]; exact below_box _ _
        have HB6 : Hid (Below W.heap.size W n6) := Lib.hid (below_then HB7.out bn)
        have E6 : Hid (n6.heap[g6]? = some (.cells #[.string ⟨#[]⟩, .bool false] 105)) := Lib.hid (by rw [hn, hg]; exact heap_new _ _)
        have L6 : Hid (W.heap.size ≤ g6) := Lib.hid (by rw [hg]; exact HB7.out.size)
        replace E7 : Hid (n6.heap[g7]? = some (.cells #[.int .u64 0, .string ⟨#[]⟩, .bool false] 96)) := Lib.hid ((bn.block _ (Array.getElem?_eq_some_iff.1 E7.out).1).trans E7.out)
        have NE : Hid (g6 ≠ g7) := Lib.hid (by have := (Array.getElem?_eq_some_iff.1 E7.out).1; have h9 := hg; intro e; rw [hn, size_alloc] at this; have q := (LT7).out; omega)
        have LT6 : Hid (g6 + 1 = n6.heap.size) := Lib.hid (by rw [hn, size_alloc, hg])
        clear hn hg bn
        refine hK.out _ _ ?sspg18 (fun hHeld => ?_)
        case sspg18 => (exact HS.out _ HB6.out)
        clear hK K
        try simp only [Act.put, List.setIfInBounds_toArray, List.set_cons_zero, List.set_cons_succ]
        refine wpAnyH_ready (rs := [14]) (by kernel_rfl) (by simp) ?_
        refine AllReadyH.cons (o := ⟨none, _, _, _, _, _⟩) rfl (fun K hK => ?_) AllReadyH.nil
        have z0 := cell_of_blk E6.out 0
        have z1 := cell_of_blk E6.out 1
        have y0 := frozen_of_blk E6.out 0
        have y1 := frozen_of_blk E6.out 1
        simp at z0 z1
        go_simp
        obtain ⟨u6, hU⟩ : ∃ u, u = ((n6.setCell ⟨g6, 0, none⟩ (.string t.val)).setCell ⟨g6, 1, none⟩ (.bool t.has)) := ⟨_, rfl⟩
        rw [← hU]
        have HC6 : Hid (Below W.heap.size W u6) := Lib.hid (by rw [hU]; exact ((HB6.out.setCell (p := ⟨g6, 0, none⟩) L6.out _).setCell (p := ⟨g6, 1, none⟩) L6.out _))
        replace E6 : Hid (u6.heap[g6]? = some (.cells #[.string t.val, .bool t.has] 105)) := Lib.hid (by rw [hU, blk_setCell (blk_setCell E6.out _) _]; rfl)
        replace E7 : Hid (u6.heap[g7]? = some (.cells #[.int .u64 0, .string ⟨#[]⟩, .bool false] 96)) := Lib.hid (by rw [hU, Below.heap_setCell _ _ _ _ (NE.out.symm), Below.heap_setCell _ _ _ _ (NE.out.symm)]; exact E7.out)
        clear hU z0 y0 z1 y1
        refine hK.out _ _ ?sspg19 (fun hHeld => ?_)
        case sspg19 => (exact HS.out _ HC6.out)
        clear hK K
        try simp only [Act.put, List.setIfInBounds_toArray, List.set_cons_zero, List.set_cons_succ]
        refine wpAnyH_ready (rs := [15]) (by kernel_rfl) (by simp) ?_
        refine AllReadyH.cons (o := ⟨none, _, _, _, _, _⟩) rfl (fun K hK => ?_) AllReadyH.nil
        have z0 := cell_of_blk E7.out 0
        have z1 := cell_of_blk E7.out 1
        have z2 := cell_of_blk E7.out 2
        have y0 := frozen_of_blk E7.out 0
        have y1 := frozen_of_blk E7.out 1
        have y2 := frozen_of_blk E7.out 2
        simp at z0 z1 z2
        go_simp
        obtain ⟨u7, hU⟩ : ∃ u, u = (((u6.setCell ⟨g7, 0, none⟩ (.int .u64 y.word)).setCell ⟨g7, 1, none⟩ (.string y.val)).setCell ⟨g7, 2, none⟩ (.bool y.has)) := ⟨_, rfl⟩
        rw [← hU]
        have HC7 : Hid (Below W.heap.size W u7) := Lib.hid (by rw [hU]; exact (((HC6.out.setCell (p := ⟨g7, 0, none⟩) L7.out _).setCell (p := ⟨g7, 1, none⟩) L7.out _).setCell (p := ⟨g7, 2, none⟩) L7.out _))
        replace E7 : Hid (u7.heap[g7]? = some (.cells #[.int .u64 y.word, .string y.val, .bool y.has] 96)) := Lib.hid (by rw [hU, blk_setCell (blk_setCell (blk_setCell E7.out _) _) _]; rfl)
        replace E6 : Hid (u7.heap[g6]? = some (.cells #[.string t.val, .bool t.has] 105)) := Lib.hid (by rw [hU, Below.heap_setCell _ _ _ _ (NE.out), Below.heap_setCell _ _ _ _ (NE.out), Below.heap_setCell _ _ _ _ (NE.out)]; exact E6.out)
        clear hU z0 y0 z1 y1 z2 y2
        refine hK.out _ _ ?sspg20 (fun hHeld => ?_)
        case sspg20 => (exact HS.out _ HC7.out)
        clear hK K
        try simp only [Act.put, List.setIfInBounds_toArray, List.set_cons_zero, List.set_cons_succ]
        refine wpAnyH_done (by kernel_rfl) ?_ _
        clear hHeld
        have x0 := cell_of_blk E6.out 0
        have x1 := cell_of_blk E6.out 1
        have y1 := cell_of_blk E7.out 1
        have y2 := cell_of_blk E7.out 2
        obtain ⟨_, _, k0, k1, k2, k3, _, _⟩ := HS.out _ HC7.out
        simp at x0 x1 y1 y2
        cases q
        · go_upto_region 7 with (refine wpList_agg_run (o := ⟨some 37, _, _, _, _, _⟩) rfl .neq 105 105 (.tmp 35) (.tmp 36) rfl _ _ rfl rfl (by kernel_rfl) (.bool true) (HE.out _) ?_)
          obtain ⟨Z, hZ⟩ : ∃ Z, u7.alloc (.cells #[.int .i64 x.kind, .int .i64 x.a, .int .i64 x.b, .string x.s, .string t.val, .bool t.has] 94) = Z := ⟨_, rfl⟩
          obtain ⟨zb, hzb⟩ : ∃ z, z = u7.heap.size := ⟨_, rfl⟩
          have bZ : Below u7.heap.size u7 Z := by rw [← hZ]; exact below_box _ _
          have eZ : Z.heap[zb]? = some (.cells #[.int .i64 x.kind, .int .i64 x.a, .int .i64 x.b, .string x.s, .string t.val, .bool t.has] 94) := by rw [← hZ, hzb]; exact heap_new _ _
          have HOZ := Lib.hid ((HOW.out.below HC7.out).below bZ)
          have HBZ := Lib.hid (HBW.out.trans ((below_then HC7.out bZ).mono HBW.out.size))
          have HVZ : Hid (kW.V Z (some ⟨zb, 0, none⟩) [⟨x, t.val, t.has⟩]) := Lib.hid (fun _ => ⟨_, 0, rfl, RowK.new_at (k := kW) eZ rfl⟩)
          have HZ := Lib.hid hZ
          have HZB := Lib.hid hzb
          clear bZ eZ hZ hzb
          go_wp2_with (at_builtin; rw [HZ.out, ← HZB.out]; refine RowK.wpList_app (k := kW) (B := w2.heap.size) (v := .slice oa on oc) (l := wrOut gs gw (ks.take k)) rfl (.tmp 38) (.tmp 45) rfl rfl (by rw [HON.out]; exact HOZ.out) (some ⟨zb, 0, none⟩) 1 [⟨x, t.val, t.has⟩] 1 rfl rfl HVZ.out (fun e => by cases e) (by have := HOL.out; simp; omega) HBZ.out.size ?_; rintro v9 w9 h9; have H9 := Lib.hid h9; clear h9)
          refine ⟨⟨k + 1, by omega, by go_num, Lib.hid ⟨HBZ.out.trans (below_grownW HOZ.out (by have := H9.out.2.1; rw [HON.out] at this; exact this) HBZ.out.size), ?_⟩⟩, by simp [intOf]; omega⟩
          rw [HTK.out, wrOut_snoc, HWA.out, if_neg (by decide)]
          exact H9.out.1
        · go_wp2_with (refine wpList_agg_run (o := ⟨some 37, _, _, _, _, _⟩) rfl .neq 105 105 (.tmp 35) (.tmp 36) rfl _ _ rfl rfl (by kernel_rfl) (.bool false) (HE.out _) ?_)
          refine ⟨⟨k + 1, by omega, by go_num, Lib.hid ⟨HBW.out.trans (HC7.out.mono HBW.out.size), ?_⟩⟩, by simp [intOf]; omega⟩
          rw [HTK.out, wrOut_snoc, HWA.out, if_pos rfl, List.append_nil, HON.out]
          exact HOW.out.below HC7.out
    · obtain rfl : k = n := by omega
      go_wp2_with fail
      go_ret
      refine ⟨_, ks, rfl, HG.out, ?_, HB2.out.trans (HI.out.b.mono HB2.out.size)⟩
      have := HI.out.o
      rw [HN.out, List.take_length] at this
      exact this.mono HB2.out.size
end Go.Proofs.YtkhkdedjffkhdaaGreat
namespace Go.Proofs.YtkhkdedjffkhdaaGreat
open Go.RowKit Go.Maps

theorem ks_one {β : Type} {g : Ky → Option β} {n : Nat} {ks : List Ky} {k : Ky} (hk : k.Ok) (hg : ∀ j, (g j).isSome = true ↔ j = k) (h : KsG g n ks) : ks = [k] :=
  sorted_unique _ _ h.1 (List.pairwise_singleton _ _) (fun j => by
    rw [List.mem_singleton]
    constructor
    · intro hj
      exact (hg j).1 ((h.2.2.2 j (h.2.1 j hj)).1 hj)
    · rintro rfl
      exact (h.2.2.2 _ hk).2 ((hg _).2 rfl))
theorem updK_one {β : Type} {g : Ky → Option β} {k : Ky} {x : β} (hg : ∀ j, (g j).isSome = true → j = k) (j : Ky) : (updK g k (some x) j).isSome = true ↔ j = k := by
  unfold updK
  by_cases e : j = k
  · rw [if_pos e]; exact ⟨fun _ => e, fun _ => rfl⟩
  · rw [if_neg e]; exact ⟨hg j, fun h => absurd h e⟩
theorem updK_at {β : Type} {g : Ky → Option β} {k : Ky} {x : Option β} : updK g k x k = x := by unfold updK; rw [if_pos rfl]
theorem wrOut_one (gs : Ky → Option Sn) (gw : Ky → Option Tx) (k : Ky) (s : Sn) (t : Tx) (hs : gs k = some s) (ht : gw k = some t) : wrOut gs gw [k] = if txB ⟨s.val, s.has⟩ t = true then [] else [⟨k, t.val, t.has⟩] := by
  show wrAt gs gw k ++ [] = _
  rw [List.append_nil]
  unfold wrAt
  rw [hs, ht]
  rfl
end Go.Proofs.YtkhkdedjffkhdaaGreat
