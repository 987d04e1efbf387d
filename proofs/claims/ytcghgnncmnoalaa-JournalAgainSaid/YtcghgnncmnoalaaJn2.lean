/- The journal: what it tells; Sure, Flush. Conditions: each contract's own premises. -/
import Derived.Test.YtcghgnncmnoalaaJn1
import Derived.BigQuiet
namespace Go.Proofs.Ytcghgnncmnoalaa
open Go.RowKit Go.Maps

theorem dkLeft_q {w : World} {db room safe B : Nat} {l : List UInt8} (h : DkS w db room safe B l) : Quiet Try.prog 59 #[.pointer (some ⟨db, 0, none⟩)] w (.int .i64 ((room : Int) - l.length)) := by
  obtain ⟨a, cap, h1, _⟩ := h.ex
  have c0 := cell_of_blk h1 0
  have c2 := cell_of_blk h1 2
  simp at c0 c2
  have hr := h.hr
  have hl := h.hl
  obtain ⟨n, hn⟩ : ∃ n, n = l.length := ⟨_, rfl⟩
  rw [← hn] at c2 hl ⊢
  have w1 : IntKind.i64.wrap ((room : Int) - (n : Int)) = (room : Int) - (n : Int) := by rw [IntKind.wrap_i64]; omega
  clear h h1 hn
  go_enter Try.func59, Try.ntmps59
  go_wp2_with fail
  go_quiet (fail)
  go_wp2_with fail
  go_ret
  exact ⟨rfl, _, rfl⟩
theorem jLast_any {w : World} {jb db B : Nat} {prom last : Int} {ms : List (Int × Int)} (h : JnS w jb db prom last B ms) : Calls Try.prog 65 #[.pointer (some ⟨jb, 0, none⟩)] w fun e w' => e = .returned (.int .i64 last) ∧ w = w' := by
  obtain ⟨a, cap, h1, _⟩ := h
  have c2 := cell_of_blk h1 2
  simp at c2
  clear h1
  go_enter Try.func65, Try.ntmps65
  go_wp2_with fail
  go_ret
  exact ⟨rfl, rfl⟩
theorem jPromised_any {w : World} {jb db B : Nat} {prom last : Int} {ms : List (Int × Int)} (h : JnS w jb db prom last B ms) : Calls Try.prog 60 #[.pointer (some ⟨jb, 0, none⟩)] w fun e w' => e = .returned (.int .i64 prom) ∧ w = w' := by
  obtain ⟨a, cap, h1, _⟩ := h
  have c2 := cell_of_blk h1 1
  simp at c2
  clear h1
  go_enter Try.func60, Try.ntmps60
  go_wp2_with fail
  go_ret
  exact ⟨rfl, rfl⟩
/-- the last mark that is safe -/
def sureOf (safe : Int) (s0 : Int) (ms : List (Int × Int)) : Int := ms.foldl (fun s m => if m.2 ≤ safe then m.1 else s) s0
theorem sureOf_snoc (safe s0 : Int) (ms : List (Int × Int)) (m : Int × Int) : sureOf safe s0 (ms ++ [m]) = if m.2 ≤ safe then m.1 else sureOf safe s0 ms := by simp [sureOf]
theorem sureOf_take (safe s0 : Int) {ms : List (Int × Int)} {i : Nat} {m : Int × Int} (h : ms[i]? = some m) : sureOf safe s0 (ms.take (i + 1)) = if m.2 ≤ safe then m.1 else sureOf safe s0 (ms.take i) := by
  rw [List.take_add_one, h]
  exact sureOf_snoc _ _ _ _
set_option maxRecDepth 100000 in
set_option maxHeartbeats 2000000 in
theorem jSure_any {w : World} {jb db room safe B B' : Nat} {prom last : Int} {ms : List (Int × Int)} {l : List UInt8} (h : JnS w jb db prom last B ms) (hd : DkS w db room safe B' l) (hms : ms.length ≤ 1000000) : Calls Try.prog 64 #[.pointer (some ⟨jb, 0, none⟩)] w (IntPost w (sureOf safe (-1) ms)) := by
  have HJ := Lib.hid h
  have HD := Lib.hid hd
  obtain ⟨a, cap, h1, h2, _⟩ := h
  have c0 := cell_of_blk h1 0
  have c3 := cell_of_blk h1 3
  simp at c0 c3
  obtain ⟨n, hn⟩ : ∃ n, n = ms.length := ⟨_, rfl⟩
  rw [← hn] at c3 hms
  have HJL := Lib.hid (Array.getElem?_eq_some_iff.1 h1).1
  have HC0 := Lib.hid c0
  have HR : Hid (ms ≠ [] → ∃ b, a = some ⟨b, 0, none⟩ ∧ kS.At w b 0 ms) := Lib.hid (fun hne => by
    obtain ⟨b, cp, e, _, _, hat⟩ := h2.at' hne
    injection e with e1 e2 e3
    exact ⟨b, e1, hat⟩)
  have HN := Lib.hid hn
  clear hd h1 h2 hn
  go_enter Try.func64, Try.ntmps64
  go_wp2_with fail
  go_loopw [3, 5, 11] (fun vs _ vi wr => ∃ i : Nat, i ≤ n ∧ vi = .int .i64 i ∧ vs = .int .i64 (sureOf safe (-1) (ms.take i)) ∧ Hid (Below w.heap.size w wr)) (fun _ _ vi _ => n - (intOf vi).toNat)
  case atStart => exact ⟨0, by omega, rfl, rfl, Lib.hid (Below.refl _ _)⟩
  case round =>
    obtain ⟨i, hi, rfl, rfl, HB⟩ := hrel
    by_cases hin : i < n
    · have hin' : (i : Int) < (n : Int) := by omega
      have hne : ms ≠ [] := fun e => by have := HN.out; rw [e] at this; simp at this; omega
      obtain ⟨b, rfl, hat⟩ := HR.out hne
      obtain ⟨m, hm⟩ : ∃ m, ms[i]? = some m := ⟨_, List.getElem?_eq_getElem (by have := HN.out; omega)⟩
      have hat' := hat.below HB.out
      have k0 := hat'.cells i m hm 0 _ rfl
      have k1 := hat'.cells i m hm 1 _ rfl
      simp [kS] at k0 k1
      have HS1 := Lib.hid (sureOf_take safe (-1) hm)
      have c0r := HB.out.cell HJL.out |>.trans HC0.out
      obtain ⟨V, hV⟩ : ∃ V, wr.alloc (.cells #[.int .i64 m.1, .int .i64 m.2] 171) = V := ⟨_, rfl⟩
      have bV : Below w.heap.size w V := by rw [← hV]; exact HB.out.alloc HB.out.size _
      have HDW : Hid (∀ n : Nat, DkS (V.drewN n) db room safe B' l) := Lib.hid (fun n => HD.out.below (below_drewN bV n))
      have HB2 : Hid (∀ n : Nat, Below w.heap.size w (V.drewN n)) := Lib.hid (fun n => below_drewN bV n)
      have eV : V.heap[wr.heap.size]? = some (.cells #[.int .i64 m.1, .int .i64 m.2] 171) := by rw [← hV]; exact heap_new _ _
      have v0 := cell_of_blk eV 0
      have v1 := cell_of_blk eV 1
      simp at v0 v1
      have v2 : V.cell? ⟨jb, 0, none⟩ = some (.pointer (some ⟨db, 0, none⟩)) := (bV.cell (p := ⟨jb, 0, none⟩) HJL.out).trans HC0.out
      have HV := Lib.hid hV
      clear hV bV eV c0r
      clear hm hat hat' hne
      by_cases hq : m.2 ≤ (safe : Int)
      · have t1 : decide (m.2 ≤ (safe : Int)) = true := decide_eq_true hq
        have hs1 := HS1.out
        rw [if_pos hq] at hs1
        have HS2 := Lib.hid hs1
        clear hs1
        go_wp2_with fail
        rw [HV.out]
        go_quiet ((go_at_call 110; first | exact quiet_at (quiet_same (dkSafe_any (HDW.out _))) | exact quiet_at2 (quiet_same (dkSafe_any (HDW.out _)))))
        go_wp2_with fail
        exact ⟨⟨i + 1, by omega, by go_num, by rw [HS2.out], Lib.hid (HB2.out _)⟩, by simp [intOf]; omega⟩
      · have t1 : decide (m.2 ≤ (safe : Int)) = false := decide_eq_false hq
        have hs1 := HS1.out
        rw [if_neg hq] at hs1
        have HS2 := Lib.hid hs1
        clear hs1
        go_wp2_with fail
        rw [HV.out]
        go_quiet ((go_at_call 110; first | exact quiet_at (quiet_same (dkSafe_any (HDW.out _))) | exact quiet_at2 (quiet_same (dkSafe_any (HDW.out _)))))
        go_wp2_with fail
        exact ⟨⟨i + 1, by omega, by go_num, by rw [HS2.out], Lib.hid (HB2.out _)⟩, by simp [intOf]; omega⟩
    · obtain rfl : i = n := by omega
      have ht : ms.take i = ms := by rw [HN.out]; exact List.take_length
      rw [ht]
      go_wp2_with fail
      go_ret
      exact ⟨rfl, HB.out⟩
end Go.Proofs.Ytcghgnncmnoalaa
