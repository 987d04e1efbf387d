/- Layer 13's statements: keys, small ones, like keys. Conditions: each contract's own premises. -/
import Derived.Test.YtcghgnncmnoalaaSx16
namespace Go.Proofs.Ytcghgnncmnoalaa
open Go.RowKit Go.Maps

def key13 (n : Int) : Ky := ⟨1, n, 0, ⟨#[]⟩⟩
theorem key13_any (n : Int) (w : World) : Calls Try.prog 50 #[.int .i64 n] w fun e w' => e = .returned (.agg #[.int .i64 1, .int .i64 n, .int .i64 0, .string ⟨#[]⟩]) ∧ Below w.heap.size w w' := by
  go_enter Try.func50, Try.ntmps50
  go_wp2_with fail
  exact bodyPost_ret (v := .agg #[.int .i64 1, .int .i64 n, .int .i64 0, .string ⟨#[]⟩]) (by simp [results, Try.results50, go_sem]) rfl ⟨rfl, below_box _ _⟩
/-- an act -/
structure Ac13 where
  kd : Int
  k : Ky
  v : Sn
  ka : Option Addr
  kcap : Nat
  ks : List Ky
def Ac13.cells (a : Ac13) : List Value := [.int .i64 a.kd, .int .i64 a.k.kind, .int .i64 a.k.a, .int .i64 a.k.b, .string a.k.s, .int .u64 a.v.word, .string a.v.val, .bool a.v.has, .slice a.ka a.ks.length a.kcap]
def Ac13.small (a : Ac13) : Bool := decide (a.ks.length ≤ 10) && (decide (a.v.val.size ≤ 200) && decide (a.k.s.size ≤ 100))
set_option maxRecDepth 100000 in
theorem small13_any (a : Ac13) (w : World) : Calls Try.prog 32 #[.agg a.cells.toArray] w (BoolPost w a.small) := by
  obtain ⟨kd, ⟨kk, k1, k2, kt⟩, ⟨vw, vv, vh⟩, ka, kcap, ks⟩ := a
  unfold Ac13.cells Ac13.small
  simp only []
  obtain ⟨n, hn⟩ : ∃ n, n = ks.length := ⟨_, rfl⟩
  rw [← hn]
  clear hn
  by_cases h1 : n ≤ 10
  · have t1 : decide ((n : Int) ≤ 10) = true := decide_eq_true (by omega)
    have s1 : decide (n ≤ 10) = true := decide_eq_true h1
    by_cases h2 : vv.size ≤ 200
    · have t2 : decide ((vv.size : Int) ≤ 200) = true := decide_eq_true (by omega)
      have s2 : decide (vv.size ≤ 200) = true := decide_eq_true h2
      by_cases h3 : kt.size ≤ 100
      · have t3 : decide ((kt.size : Int) ≤ 100) = true := decide_eq_true (by omega)
        have s3 : decide (kt.size ≤ 100) = true := decide_eq_true h3
        rw [s1, s2, s3]
        clear h1 h2 h3 s1 s2 s3
        go_enter Try.func32, Try.ntmps32
        go_wp2_with fail
        go_ret
        exact ⟨rfl, below_box _ _⟩
      · have t3 : decide ((kt.size : Int) ≤ 100) = false := decide_eq_false (by omega)
        have s3 : decide (kt.size ≤ 100) = false := decide_eq_false h3
        rw [s1, s2, s3]
        clear h1 h2 h3 s1 s2 s3
        go_enter Try.func32, Try.ntmps32
        go_wp2_with fail
        go_ret
        exact ⟨rfl, below_box _ _⟩
    · have t2 : decide ((vv.size : Int) ≤ 200) = false := decide_eq_false (by omega)
      have s2 : decide (vv.size ≤ 200) = false := decide_eq_false h2
      rw [s1, s2]
      clear h1 h2 s1 s2
      go_enter Try.func32, Try.ntmps32
      go_wp2_with fail
      go_ret
      exact ⟨rfl, below_box _ _⟩
  · have t1 : decide ((n : Int) ≤ 10) = false := decide_eq_false (by omega)
    have s1 : decide (n ≤ 10) = false := decide_eq_false h1
    rw [s1]
    clear h1 s1
    go_enter Try.func32, Try.ntmps32
    go_wp2_with fail
    go_ret
    exact ⟨rfl, below_box _ _⟩
theorem neKy (a : Ky) (w : World) : (binOp .neq 62 (.agg #[.int .i64 a.kind, .int .i64 a.a, .int .i64 a.b, .string a.s]) (.agg #[.int .i64 a.kind, .int .i64 a.a, .int .i64 a.b, .string a.s])).run Try.prog w = .ok (.bool false) w := by
  go_simp
theorem neSn (a : Sn) (w : World) : (binOp .neq 64 (.agg #[.int .u64 a.word, .string a.val, .bool a.has]) (.agg #[.int .u64 a.word, .string a.val, .bool a.has])).run Try.prog w = .ok (.bool false) w := by
  go_simp
set_option maxRecDepth 100000 in
set_option maxHeartbeats 2000000 in
theorem same9_eq (a1 a2 : Option Addr) (p1 p2 : Nat) (ks : List Ky) (w : World) (h1 : kK.V w a1 ks) (h2 : kK.V w a2 ks) (hl : ks.length ≤ 1000000) :
    Calls Try.prog 45 #[.slice a1 ks.length p1, .slice a2 ks.length p2] w (BoolPost w true) := by
  have H1 := Lib.hid h1
  have H2 := Lib.hid h2
  clear h1 h2
  go_enter Try.func45, Try.ntmps45
  obtain ⟨W, hW⟩ : ∃ W, W = w := ⟨_, rfl⟩
  have HWW := Lib.hid hW
  clear hW
  rw [← HWW.out] at H1 H2
  rw [← HWW.out]
  clear HWW
  go_wp2_with fail
  go_loopw [5] (fun i wr => ∃ k : Nat, k ≤ ks.length ∧ i = .int .i64 k ∧ Hid (Below W.heap.size W wr)) (fun i _ => ks.length - (intOf i).toNat)
  case atStart => exact ⟨0, by omega, rfl, Lib.hid (Below.refl _ _)⟩
  case round =>
    obtain ⟨k, hk, rfl, HB⟩ := hrel
    by_cases hlt : k < ks.length
    · obtain ⟨x, hx⟩ : ∃ x, ks[k]? = some x := ⟨_, List.getElem?_eq_getElem hlt⟩
      obtain ⟨ba, oa, rfl, ata⟩ := H1.out (fun e => by rw [e] at hlt; simp at hlt)
      obtain ⟨bb, ob, rfl, atb⟩ := H2.out (fun e => by rw [e] at hlt; simp at hlt)
      have ata2 := ata.below HB.out
      have atb2 := atb.below HB.out
      have x0 := ata2.cells k x hx 0 _ rfl
      have x1 := ata2.cells k x hx 1 _ rfl
      have x2 := ata2.cells k x hx 2 _ rfl
      have x3 := ata2.cells k x hx 3 _ rfl
      have y0 := atb2.cells k x hx 0 _ rfl
      have y1 := atb2.cells k x hx 1 _ rfl
      have y2 := atb2.cells k x hx 2 _ rfl
      have y3 := atb2.cells k x hx 3 _ rfl
      simp [kK] at x0 x1 x2 x3 y0 y1 y2 y3
      clear hx ata atb ata2 atb2
      go_wp2_with fail
      go_quiet (fail)
      go_wp2_with fail
      exact ⟨⟨k + 1, by omega, by go_num, Lib.hid (below_drewN' HB.out _)⟩, by simp [intOf]; omega⟩
    · obtain rfl : k = ks.length := by omega
      go_wp2_with fail
      go_ret
      exact ⟨rfl, HB.out⟩
end Go.Proofs.Ytcghgnncmnoalaa
