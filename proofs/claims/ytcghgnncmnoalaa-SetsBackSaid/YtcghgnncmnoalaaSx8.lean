/- Reference 13: rows; Find. Conditions: each contract's own premises. -/
import Derived.Test.YtcghgnncmnoalaaSx6
import Derived.Test.YtcghgnncmnoalaaSx7
import Derived.Deep.QuietTactic
import Derived.BigQuiet
namespace Go.Proofs.Ytcghgnncmnoalaa
open Go.RowKit Go.Maps

/-- a row of the reference -/
structure Rx where
  k : Ky
  s : Sn
  wrote : Bool
  marked : Bool
  w : Wr
  m : Wr
def Rx.cells (x : Rx) : List Value := [.int .i64 x.k.kind, .int .i64 x.k.a, .int .i64 x.k.b, .string x.k.s, .int .u64 x.s.word, .string x.s.val, .bool x.s.has, .bool x.wrote, .bool x.marked,
  .int .i64 x.w.k.kind, .int .i64 x.w.k.a, .int .i64 x.w.k.b, .string x.w.k.s, .string x.w.val, .bool x.w.has, .int .i64 x.m.k.kind, .int .i64 x.m.k.a, .int .i64 x.m.k.b, .string x.m.k.s, .string x.m.val, .bool x.m.has]
theorem infoRx : (Try.prog.info? 82).map (fun i => (i.zero, i.size, i.bytes)) = some (some (.agg #[.int .i64 0, .int .i64 0, .int .i64 0, .string ByteArray.empty, .int .u64 0, .string ByteArray.empty, .bool false, .bool false, .bool false, .int .i64 0, .int .i64 0, .int .i64 0, .string ByteArray.empty, .string ByteArray.empty, .bool false, .int .i64 0, .int .i64 0, .int .i64 0, .string ByteArray.empty, .string ByteArray.empty, .bool false]), 21, 208) := by kernel_rfl
/-- rows, as elements -/
def kX : RowK Try.prog Rx where
  t := 58
  e := 82
  size := 21
  bytes := 208
  z := .agg #[.int .i64 0, .int .i64 0, .int .i64 0, .string ByteArray.empty, .int .u64 0, .string ByteArray.empty, .bool false, .bool false, .bool false, .int .i64 0, .int .i64 0, .int .i64 0, .string ByteArray.empty, .string ByteArray.empty, .bool false, .int .i64 0, .int .i64 0, .int .i64 0, .string ByteArray.empty, .string ByteArray.empty, .bool false]
  enc := Rx.cells
  ht := Try.underlying58
  info := infoRx
  hz := rfl
  pos := by decide
  small := by decide
  len := fun _ => rfl
  one := fun x u hu => by
    simp [Rx.cells] at hu
    rcases hu with rfl | rfl | rfl | rfl | rfl | rfl | rfl | rfl | rfl | rfl | rfl | rfl | rfl | rfl | rfl | rfl | rfl | rfl | rfl | rfl | rfl <;> rfl
/-- the reference in memory -/
structure SrX (w : World) (rb B : Nat) (L : List Rx) : Prop where
  ex : ∃ a cap, w.heap[rb]? = some (.cells #[.slice a L.length cap] 60) ∧ kX.Own w B (.slice a L.length cap) L ∧ (Value.slice a L.length cap).ownBlock ≠ some rb
  n : L.length ≤ 1000000
def keyB (a b : Ky) : Bool := a.kind == b.kind && (a.a == b.a && (a.b == b.b && a.s.toList == b.s.toList))
theorem keyB_iff (a b : Ky) : keyB a b = true ↔ a = b := by
  unfold keyB
  cases a; cases b
  simp [ByteArray.toList_eq]
  intro _ _ _
  rw [ByteArray.ext_iff]
theorem keyEq (a b : Ky) (w : World) : (binOp .eql 62 (.agg #[.int .i64 a.kind, .int .i64 a.a, .int .i64 a.b, .string a.s]) (.agg #[.int .i64 b.kind, .int .i64 b.a, .int .i64 b.b, .string b.s])).run Try.prog w = .ok (.bool (keyB a b)) w := by
  unfold keyB
  cases h1 : (a.kind == b.kind) <;> cases h2 : (a.a == b.a) <;> cases h3 : (a.b == b.b) <;> cases h4 : (a.s.toList == b.s.toList) <;> go_simp
/-- a row's place: the first of the key; -1: none -/
def FindPost (L : List Rx) (k : Ky) (w : World) (e : Ending) (w' : World) : Prop := ∃ v : Int, e = .returned (.int .i64 v) ∧ ((v = -1 ∧ ∀ x ∈ L, x.k ≠ k) ∨ ∃ j x, v = (j : Nat) ∧ L[j]? = some x ∧ x.k = k) ∧ Below w.heap.size w w'
set_option maxRecDepth 100000 in
set_option maxHeartbeats 2000000 in
theorem r13Find_any {w : World} {rb B : Nat} {L : List Rx} (h : SrX w rb B L) (k : Ky) :
    Calls Try.prog 44 #[.pointer (some ⟨rb, 0, none⟩), .agg #[.int .i64 k.kind, .int .i64 k.a, .int .i64 k.b, .string k.s]] w (FindPost L k w) := by
  obtain ⟨a, cap, h1, h2, _⟩ := h.ex
  have HNL := Lib.hid h.n
  obtain ⟨n, hn⟩ : ∃ n, n = L.length := ⟨_, rfl⟩
  rw [← hn] at h1 HNL
  obtain ⟨W, hW⟩ : ∃ W, w.alloc (.cells #[.int .i64 k.kind, .int .i64 k.a, .int .i64 k.b, .string k.s] 62) = W := ⟨_, rfl⟩
  obtain ⟨kb, hkb⟩ : ∃ x, x = w.heap.size := ⟨_, rfl⟩
  have bW : Below w.heap.size w W := by rw [← hW]; exact below_box _ _
  have eW : W.heap[kb]? = some (.cells #[.int .i64 k.kind, .int .i64 k.a, .int .i64 k.b, .string k.s] 62) := by rw [← hW, hkb]; exact heap_new _ _
  have e1 := (bW.block _ (Array.getElem?_eq_some_iff.1 h1).1).trans h1
  have HR : Hid (L ≠ [] → ∃ b, a = some ⟨b, 0, none⟩ ∧ kX.At W b 0 L) := Lib.hid (fun hne => by
    obtain ⟨b, cp, e, _, _, hat⟩ := h2.at' hne
    injection e with e1 e2 e3
    exact ⟨b, e1, hat.below bW⟩)
  have HN := Lib.hid hn
  have HE := Lib.hid eW
  have HE1 := Lib.hid e1
  have HB := Lib.hid bW
  have HW := Lib.hid hW
  have HKB := Lib.hid hkb
  clear h h1 h2 hn bW eW e1 hW hkb
  go_enter Try.func44, Try.ntmps44
  go_upto_region 1 with fail
  rw [HW.out, ← HKB.out]
  go_wp2_with fail
  go_loopw [5] (fun i wr => ∃ j : Nat, j ≤ n ∧ i = .int .i64 j ∧ (∀ j' : Nat, j' < j → ∀ x, L[j']? = some x → x.k ≠ k) ∧ Hid (Below W.heap.size W wr)) (fun i _ => n - (intOf i).toNat)
  case atStart => exact ⟨0, Nat.zero_le _, rfl, fun _ h => absurd h (Nat.not_lt_zero _), Lib.hid (Below.refl _ _)⟩
  case round =>
    obtain ⟨j, hj, rfl, hno, HBR⟩ := hrel
    have HNO := Lib.hid hno
    have HX := HNL.out
    have q1 := cell_of_blk ((HBR.out.block _ (Array.getElem?_eq_some_iff.1 HE1.out).1).trans HE1.out) 0
    have e2 := (HBR.out.block _ (Array.getElem?_eq_some_iff.1 HE.out).1).trans HE.out
    have v0 := cell_of_blk e2 0
    have v1 := cell_of_blk e2 1
    have v2 := cell_of_blk e2 2
    have v3 := cell_of_blk e2 3
    simp at q1 v0 v1 v2 v3
    clear hno e2
    by_cases hlt : j < n
    · have hin' : (j : Int) < (n : Int) := by omega
      have hne : L ≠ [] := fun e => by have := HN.out; rw [e] at this; simp at this; omega
      obtain ⟨b, rfl, hat⟩ := HR.out hne
      obtain ⟨x, hx⟩ : ∃ m, L[j]? = some m := ⟨_, List.getElem?_eq_getElem (by have := HN.out; omega)⟩
      have hat2 := hat.below HBR.out
      have k0 := hat2.cells j x hx 0 _ rfl
      have k1 := hat2.cells j x hx 1 _ rfl
      have k2 := hat2.cells j x hx 2 _ rfl
      have k3 := hat2.cells j x hx 3 _ rfl
      simp [kX] at k0 k1 k2 k3
      have HXX := Lib.hid hx
      have hE := keyEq x.k k
      obtain ⟨q, hq⟩ : ∃ q, keyB x.k k = q := ⟨_, rfl⟩
      rw [hq] at hE
      have HQ := Lib.hid hq
      clear hx hat hat2 hne hq
      go_wp2_with fail
      go_quiet (fail)
      cases q
      · go_wp2_with fail
        refine ⟨⟨j + 1, by omega, by go_num, fun j' hj' y hy => ?_, Lib.hid (below_drewN HBR.out _)⟩, by simp [intOf]; omega⟩
        rcases Nat.lt_succ_iff_lt_or_eq.1 hj' with h | rfl
        · exact HNO.out j' h y hy
        · rw [HXX.out] at hy
          injection hy with hy
          subst hy
          intro e
          rw [(keyB_iff _ _).2 e] at HQ
          exact absurd HQ.out (by decide)
      · go_wp2_with fail
        go_ret
        exact ⟨_, rfl, .inr ⟨j, x, rfl, HXX.out, (keyB_iff _ _).1 HQ.out⟩, HB.out.trans ((below_drewN HBR.out _).mono HB.out.size)⟩
    · obtain rfl : j = n := by omega
      go_wp2_with fail
      go_ret
      refine ⟨_, rfl, .inl ⟨rfl, fun y hy => ?_⟩, HB.out.trans (HBR.out.mono HB.out.size)⟩
      obtain ⟨i, hi⟩ := List.mem_iff_getElem?.1 hy
      obtain ⟨hl, _⟩ := List.getElem?_eq_some_iff.1 hi
      exact HNO.out i (by have := HN.out; omega) y hi
end Go.Proofs.Ytcghgnncmnoalaa
