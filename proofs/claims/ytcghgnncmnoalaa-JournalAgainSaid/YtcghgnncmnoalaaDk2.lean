/- The disk: what is left, Bytes, Append, Crash. Conditions: each contract's own premises. -/
import Derived.Test.YtcghgnncmnoalaaDk1
namespace Go.Proofs.Ytcghgnncmnoalaa
open Go.RowKit Go.Maps

/-- the block of a disk's bytes -/
def dob (w : World) (db : Nat) : Option Nat := match w.heap[db]? with | some (.cells cs _ _) => (match cs[2]? with | some v => v.ownBlock | none => none) | _ => none
theorem dob_eq {w : World} {db : Nat} {a b v : Value} {t : TypeId} {z : Nat × Nat} (h : w.heap[db]? = some (.cells #[a, b, v] t z)) : dob w db = v.ownBlock := by unfold dob; rw [h]; rfl
theorem dob_below {w w' : World} {db room safe B : Nat} {l : List UInt8} (h : DkS w db room safe B l) (hb : Below w.heap.size w w') : dob w' db = dob w db := by unfold dob; rw [hb.block _ h.lt]
theorem dkLeft_any {w : World} {db room safe B : Nat} {l : List UInt8} (h : DkS w db room safe B l) : Calls Try.prog 59 #[.pointer (some ⟨db, 0, none⟩)] w fun e w' => e = .returned (.int .i64 ((room : Int) - l.length)) ∧ Below w.heap.size w w' := by
  obtain ⟨a, cap, h1, _⟩ := h.ex
  have c0 := cell_of_blk h1 0
  have c2 := cell_of_blk h1 2
  simp at c0 c2
  have hr := h.hr
  have hl := h.hl
  obtain ⟨n, hn⟩ : ∃ n, n = l.length := ⟨_, rfl⟩
  rw [← hn] at c2 hl ⊢
  have w1 : IntKind.i64.wrap ((room : Int) - (n : Int)) = (room : Int) - (n : Int) := by rw [IntKind.wrap_i64]; omega
  clear h h1 hn
  go_enter Try.func59, Try.ntmps59
  go_wp2_with fail
  first
    | (go_ret; exact ⟨rfl, Below.refl _ _⟩)
    | (go_quiet (fail); go_wp2_with fail; go_ret; exact ⟨rfl, below_drewN (Below.refl _ _) _⟩)
def DkBytesPost (w : World) (l : List UInt8) (e : Ending) (w' : World) : Prop := ∃ v, e = .returned v ∧ BsO w' w.heap.size v l ∧ Below w.heap.size w w'
theorem dkBytes_any {w : World} {db room safe B : Nat} {l : List UInt8} (h : DkS w db room safe B l) : Calls Try.prog 67 #[.pointer (some ⟨db, 0, none⟩)] w (DkBytesPost w l) := by
  obtain ⟨a, cap, h1, h2, _⟩ := h.ex
  have c2 := cell_of_blk h1 2
  simp at c2
  have hl := h.hl
  obtain ⟨_, g2, g3, g4⟩ := bs_cap h2
  cases a with
  | none =>
    obtain ⟨rfl, rfl⟩ := g3 rfl
    clear h h1 h2 g2 g3 g4
    go_enter Try.func67, Try.ntmps67
    go_wp2_with fail
    refine (clone_nil _).mono ?_
    rintro e w1 ⟨rfl, rfl⟩
    go_wp2_with fail
    go_ret
    exact ⟨_, rfl, BsO.nil _ _, Below.refl _ _⟩
  | some x =>
    obtain ⟨g, rfl, _⟩ := g4 x rfl
    have HV := Lib.hid (BsO.bsV h2)
    obtain ⟨n, hn⟩ : ∃ n, l.length = n := ⟨_, rfl⟩
    rw [hn] at c2
    have HN := Lib.hid hn
    clear h h1 h2 g2 g3 g4 hn
    go_enter Try.func67, Try.ntmps67
    go_wp2_with fail
    refine (clone_any g 0 n cap l _ HV.out HN.out (by omega)).mono ?_
    rintro e w1 ⟨v, rfl, q1, q2⟩
    have HQ := Lib.hid (And.intro q1 q2)
    clear q1 q2
    go_wp2_with fail
    go_ret
    exact ⟨_, rfl, HQ.out⟩
/-- what laying bytes leaves -/
def DkAppPost (w : World) (db room safe B : Nat) (l xl : List UInt8) (e : Ending) (w' : World) : Prop :=
  (l.length + xl.length ≤ room → e = .returned (.int .i64 0) ∧ DkS w' db room safe B (l ++ xl) ∧ Chg w w' (fun j => j = db ∨ dob w db = some j) ∧ (dob w' db = dob w db ∨ ∃ j, w.heap.size ≤ j ∧ dob w' db = some j)) ∧
  (room < l.length + xl.length → e = .returned (.int .i64 50) ∧ Below w.heap.size w w')
/-- the room that is left, through the loop over the slices -/
def DkLf (i : Nat) (lf r x : Int) : Prop := (i = 0 → lf = r) ∧ (i = 1 → x ≤ r)
theorem DkLf.zero (r x : Int) : DkLf 0 r r x := ⟨fun _ => rfl, fun e => absurd e (by decide)⟩
theorem DkLf.one {lf r x : Int} (h : x ≤ r) : DkLf 1 lf r x := ⟨fun e => absurd e (by decide), fun _ => h⟩
/-- the bytes are laid -/
def DkLaid (w wr : World) (db room safe B : Nat) (l : List UInt8) : Prop := DkS wr db room safe B l ∧ Chg w wr (fun j => j = db ∨ dob w db = some j) ∧ (dob wr db = dob w db ∨ ∃ j, w.heap.size ≤ j ∧ dob wr db = some j)
def DkAt (i : Nat) (w w1 wr : World) (db room safe B : Nat) (l : List UInt8) : Prop := (i = 0 → w1 = wr) ∧ (i = 1 → DkLaid w wr db room safe B l)
theorem DkAt.zero (w w1 : World) (db room safe B : Nat) (l : List UInt8) : DkAt 0 w w1 w1 db room safe B l := ⟨fun _ => rfl, fun e => absurd e (by decide)⟩
theorem DkAt.one {w w1 wr : World} {db room safe B : Nat} {l : List UInt8} (h : DkLaid w wr db room safe B l) : DkAt 1 w w1 wr db room safe B l := ⟨fun e => absurd e (by decide), fun _ => h⟩
set_option maxRecDepth 100000 in
set_option maxHeartbeats 4000000 in
theorem dkAppend_any {w : World} {db room safe B : Nat} {l : List UInt8} (h : DkS w db room safe B l) (hB : B ≤ w.heap.size) (sb : Nat) (xa : Option Addr) (xn xc : Nat) (xl : List UInt8) (hs : w.heap[sb]? = some (.cells #[.slice xa xn xc] 22)) (hso : dob w db ≠ some sb)
    (hxn : xn = xl.length) (hx : BsV w xa xl) (hxl : l.length + xl.length ≤ 1000000) :
    Calls Try.prog 66 #[.pointer (some ⟨db, 0, none⟩), .slice (some ⟨sb, 0, none⟩) 1 1] w (DkAppPost w db room safe B l xl) := by
  have HS := Lib.hid h
  have HSB := Lib.hid hs
  have HX := Lib.hid hx
  have HXN := Lib.hid hxn
  have HSO := Lib.hid hso
  obtain ⟨n, hn⟩ : ∃ n, l.length = n := ⟨_, rfl⟩
  have HN := Lib.hid hn
  have hr := h.hr
  have hxn6 : n + xn ≤ 1000000 := by omega
  clear h hs hx hxn hso hn
  go_enter Try.func66, Try.ntmps66
  go_wp2_with fail
  refine (dkLeft_any HS.out).mono ?_
  rintro e w1 ⟨rfl, b1⟩
  rw [HN.out]
  have HS1 := Lib.hid (HS.out.below b1)
  have hs1 := (b1.block _ (Array.getElem?_eq_some_iff.1 HSB.out).1).trans HSB.out
  have HSB1 := Lib.hid hs1
  have HB1 := Lib.hid b1
  have HD1 : Hid (dob w1 db = dob w db) := Lib.hid (dob_below HS.out b1)
  have k0 := cell_of_blk hs1 0
  simp at k0
  clear b1 hs1
  go_wp2_with fail
  go_loopw [5, 7, 14] (fun vl _ vi wr => ∃ (i : Nat) (lf : Int), i ≤ 1 ∧ vi = .int .i64 i ∧ vl = .int .i64 lf ∧ -1000000 ≤ lf ∧ lf ≤ 1073741824 ∧ w1 = wr ∧ Hid (DkLf i lf ((room : Int) - n) (xn : Int))) (fun _ _ vi _ => 1 - (intOf vi).toNat)
  case atStart => exact ⟨0, (room : Int) - n, by omega, rfl, rfl, by omega, by omega, rfl, Lib.hid (DkLf.zero _ _)⟩
  case round =>
    obtain ⟨i, lf, hi, rfl, rfl, hlf1, hlf2, rfl, HI⟩ := hrel
    by_cases hi0 : i = 0
    · subst hi0
      have hlf := HI.out.1 rfl
      by_cases hbig : lf < (xn : Int)
      · have t1 : decide (lf < (xn : Int)) = true := decide_eq_true hbig
        clear hlf
        go_wp2_with fail
        go_ret
        refine ⟨fun hh => ?_, fun _ => ⟨by first | exact trivial | rfl, HB1.out⟩⟩
        have := HI.out.1 rfl
        have := HXN.out
        have := HN.out
        omega
      · have t1 : decide (lf < (xn : Int)) = false := decide_eq_false hbig
        have hfit : (xn : Int) ≤ (room : Int) - n := by omega
        clear hlf
        go_wp2_with fail
        exact ⟨⟨1, lf - xn, by omega, rfl, rfl, by omega, by omega, by first | exact trivial | rfl, Lib.hid (DkLf.one hfit)⟩, by simp [intOf]⟩
    · have hi1 : i = 1 := by omega
      have hfit := HI.out.2 hi1
      have hi2 : (i : Int) = 1 := by omega
      rw [hi2]
      clear HI
      go_wp2_with fail
      go_loopw [9, 29] (fun _ vi wr => ∃ i : Nat, i ≤ 1 ∧ vi = .int .i64 i ∧ Hid (DkAt i w w1 wr db room safe B (l ++ xl))) (fun _ vi _ => 1 - (intOf vi).toNat)
      case atStart => exact ⟨0, by omega, rfl, Lib.hid (DkAt.zero _ _ _ _ _ _ _)⟩
      case round =>
        obtain ⟨i, hi, rfl, HJ⟩ := hrel
        by_cases hi0 : i = 0
        · subst hi0
          obtain rfl := HJ.out.1 rfl
          obtain ⟨a, cap, h1, h2, h3⟩ := HS1.out.ex
          have c2 := cell_of_blk h1 2
          simp at c2
          rw [HN.out] at c2
          have f2 := frozen_of_blk h1 2
          have HO : Hid (BsO w1 B (.slice a n cap) l) := Lib.hid (by rw [← HN.out]; exact h2)
          have HE := Lib.hid h1
          have hob : (Value.slice a l.length cap).ownBlock = (Value.slice a n cap).ownBlock := by cases a <;> rfl
          have HNE : Hid ((Value.slice a n cap).ownBlock ≠ some db) := Lib.hid (by rw [← hob]; exact h3)
          have HDO : Hid (dob w db = (Value.slice a n cap).ownBlock) := Lib.hid (by rw [← HD1.out, dob_eq h1, hob])
          have HSRC : Hid (Src Try.prog 1 22 (.slice xa xn xc) xn (xl.map bv) w1) := Lib.hid (by rw [HXN.out]; exact BsV.src (HX.out.below HB1.out) xc)
          have HF : Hid (∀ v5 w5, AppPost w1 B (.slice a n cap) (l ++ xl) v5 w5 → ∃ a5 c5, v5 = .slice a5 (l ++ xl).length c5 ∧ w5.cell? ⟨db, 2, none⟩ = some (.slice a n cap) ∧ w5.frozen? ⟨db, 2, none⟩ = false ∧ DkLaid w (w5.setCell ⟨db, 2, none⟩ v5) db room safe B (l ++ xl)) := Lib.hid (fun v5 w5 h5 => by
            obtain ⟨o5, b5, g5, r5⟩ := h5
            obtain ⟨a5, c5, hv5⟩ := o5.shape
            have hlt := (Array.getElem?_eq_some_iff.1 HE.out).1
            have e5 : w5.heap[db]? = some (.cells #[.int .i64 room, .int .i64 safe, .slice a n cap] 169) := by
              rw [g5.block db hlt (fun e => HNE.out e.symm), HE.out, HN.out]
            have hne5 : v5.ownBlock ≠ some db := by
              rcases r5 with r | r
              · rw [r]; exact HNE.out
              · rw [r]; intro e; injection e with e; omega
            have e6 : (w5.setCell ⟨db, 2, none⟩ v5).heap[db]? = some (.cells #[.int .i64 room, .int .i64 safe, v5] 169) := by rw [blk_setCell e5]; rfl
            refine ⟨a5, c5, hv5, ?_, frozen_of_blk e5 2, ⟨⟨a5, c5, by rw [e6, hv5], ?_, by rw [← hv5]; exact hne5⟩, hr, by have := HS.out.hs; rw [List.length_append]; omega, by rw [List.length_append]; omega⟩, ?_, ?_⟩
            · have := cell_of_blk e5 2
              simpa using this
            · rw [← hv5]
              exact ownsRow_of_block o5 (fun j hj => Below.heap_setCell _ _ _ _ (fun e => hne5 (by rw [hj]; exact congrArg some (by simpa using e))))
            · have hc1 : Chg w w5 (fun j => j = db ∨ dob w db = some j) := (Chg.of_below HB1.out _).grown g5 (fun m hm _ => .inr (by rw [HDO.out]; exact hm))
              exact hc1.setCell (p := ⟨db, 2, none⟩) (fun _ => .inl rfl) _
            · rw [dob_eq e6, HDO.out]
              rcases r5 with r | r
              · exact .inl r
              · exact .inr ⟨_, HB1.out.size, r⟩)
          clear h1 h2 h3 hob
          go_wp2_with ((at_builtin; refine wpList_appX _ rfl (.tmp 37) (.tmp 38) 22 rfl B _ _ rfl HO.out (.slice xa xn xc) xn xl rfl HXN.out.symm HSRC.out (by omega) (Nat.le_trans hB HB1.out.size) ?_; rintro v5 w5 h5; obtain ⟨a5, c5, rfl, q1, q2, q3⟩ := HF.out v5 w5 h5; have HQ := Lib.hid q3; clear h5 q3))
          exact ⟨⟨1, by omega, rfl, Lib.hid (DkAt.one (by have hq := HQ.out; rw [List.length_append] at hq; exact hq))⟩, by simp [intOf]⟩
        · obtain rfl : i = 1 := by omega
          have hQ := HJ.out.2 rfl
          have HQ := Lib.hid hQ
          clear hQ HJ
          go_wp2_with fail
          go_ret
          refine ⟨fun _ => ⟨by first | rfl | trivial, HQ.out⟩, fun hh => ?_⟩
          have := HXN.out
          have := HN.out
          omega
end Go.Proofs.Ytcghgnncmnoalaa
