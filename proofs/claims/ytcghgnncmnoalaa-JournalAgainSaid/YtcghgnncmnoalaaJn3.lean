/- The journal: Flush, bytes, Promise. Conditions: each contract's own premises. -/
import Derived.Test.YtcghgnncmnoalaaJn2
namespace Go.Proofs.Ytcghgnncmnoalaa
open Go.RowKit Go.Maps

theorem DkS.obt {w : World} {db room safe B j : Nat} {l : List UInt8} (h : DkS w db room safe B l) (hj : dob w db = some j) : ∃ cs, w.heap[j]? = some (.cells cs 5) := by
  obtain ⟨a, cap, h1, h2, h3⟩ := h.ex
  rw [dob_eq h1] at hj
  rcases h2.2 with ⟨e, _⟩ | ⟨g, cp, cur, e, _, q, _⟩
  · rw [e] at hj; cases hj
  · rw [e] at hj; injection hj with hj; subst hj; exact ⟨cur, q⟩
theorem JnS.obt {w : World} {jb db B j : Nat} {prom last : Int} {ms : List (Int × Int)} (h : JnS w jb db prom last B ms) (hj : job w jb = some j) : ∃ cs, w.heap[j]? = some (.cells cs 171) := by
  obtain ⟨a, cap, h1, h2, h3⟩ := h
  rw [job_eq h1] at hj
  rcases h2.2 with ⟨e, _⟩ | ⟨g, cp, cur, e, _, q, _⟩
  · rw [e] at hj; cases hj
  · rw [e] at hj; injection hj with hj; subst hj; exact ⟨cur, q⟩
theorem JS.mk' {w : World} {jb db room safe B : Nat} {prom last : Int} {l : List UInt8} {ms : List (Int × Int)} (hd : DkS w db room safe B l) (hj : JnS w jb db prom last B ms) : JS w jb db room safe prom last B l ms := by
  refine ⟨hd, hj, fun e => ?_, fun i hi e => ?_⟩
  · obtain ⟨cs, hc⟩ := hd.obt e
    obtain ⟨a, cap, h1, _⟩ := hj
    rw [h1] at hc
    injection hc with hc
    injection hc with _ hc
    exact absurd hc (by decide)
  · obtain ⟨cs, hc⟩ := hd.obt e
    obtain ⟨c2, h1⟩ := hj.obt hi
    rw [h1] at hc
    injection hc with hc
    injection hc with _ hc
    exact absurd hc (by decide)
/-- the disk's own block alone turned -/
theorem JS.disk1 {w w' : World} {jb db room safe safe' B : Nat} {prom last : Int} {l l' : List UInt8} {ms : List (Int × Int)} (h : JS w jb db room safe prom last B l ms) (hd : DkS w' db room safe' B l') (hc : Chg w w' (fun j => j = db)) : JS w' jb db room safe' prom last B l' ms :=
  JS.mk' hd (h.j.chg hc (h.j.ne h.d) (fun _ hj => (h.j.ob hj).2.2.2))
/-- the disk and its bytes' block turned -/
theorem JS.disk2 {w w' : World} {jb db room safe safe' B : Nat} {prom last : Int} {l l' : List UInt8} {ms : List (Int × Int)} (h : JS w jb db room safe prom last B l ms) (hd : DkS w' db room safe' B l') (hc : Chg w w' (fun j => j = db ∨ dob w db = some j)) : JS w' jb db room safe' prom last B l' ms :=
  JS.mk' hd (h.j.chg hc (fun e => e.elim (h.j.ne h.d) h.n1) (fun j hj e => e.elim (h.j.ob hj).2.2.2 (h.n2 j hj)))
/-- a cell of the journal turned -/
theorem JS.prom {w : World} {jb db room safe B : Nat} {prom last : Int} {l : List UInt8} {ms : List (Int × Int)} (h : JS w jb db room safe prom last B l ms) (p : Int) : JS (w.setCell ⟨jb, 1, none⟩ (.int .i64 p)) jb db room safe p last B l ms := by
  have hc : Chg w (w.setCell ⟨jb, 1, none⟩ (.int .i64 p)) (fun j => j = jb) := (Chg.refl w (fun j => j = jb)).setCell (p := ⟨jb, 1, none⟩) (fun _ => rfl) _
  obtain ⟨a, cap, h1, h2, h3, h4⟩ := h.j
  refine JS.mk' (h.d.chg hc (fun e => (h.j.ne h.d) e.symm) (fun j hj e => h.n1 (by rw [hj, e]))) ⟨a, cap, by rw [blk_setCell h1]; rfl, h2.chg hc (fun j hj e => h3 (by rw [hj, e])), h3, h4⟩
theorem JS.last {w : World} {jb db room safe B : Nat} {prom last : Int} {l : List UInt8} {ms : List (Int × Int)} (h : JS w jb db room safe prom last B l ms) (p : Int) : JS (w.setCell ⟨jb, 2, none⟩ (.int .i64 p)) jb db room safe prom p B l ms := by
  have hc : Chg w (w.setCell ⟨jb, 2, none⟩ (.int .i64 p)) (fun j => j = jb) := (Chg.refl w (fun j => j = jb)).setCell (p := ⟨jb, 2, none⟩) (fun _ => rfl) _
  obtain ⟨a, cap, h1, h2, h3, h4⟩ := h.j
  refine JS.mk' (h.d.chg hc (fun e => (h.j.ne h.d) e.symm) (fun j hj e => h.n1 (by rw [hj, e]))) ⟨a, cap, by rw [blk_setCell h1]; rfl, h2.chg hc (fun j hj e => h3 (by rw [hj, e])), h3, h4⟩
/-- what a journal may turn -/
def JChg (w w' : World) (jb db : Nat) : Prop := Chg w w' (fun j => j = jb ∨ j = db ∨ dob w db = some j ∨ job w jb = some j)
def JFlushPost (w : World) (jb db room : Nat) (prom last : Int) (B : Nat) (l : List UInt8) (ms : List (Int × Int)) (e : Ending) (w' : World) : Prop :=
  e = .returned (.int .i64 (sureOf l.length (-1) ms)) ∧ JS w' jb db room l.length prom last B l ms ∧ Chg w w' (fun j => j = db)
theorem jFlush_any {w : World} {jb db room safe B : Nat} {prom last : Int} {l : List UInt8} {ms : List (Int × Int)} (h : JS w jb db room safe prom last B l ms) (hms : ms.length ≤ 1000000) : Calls Try.prog 62 #[.pointer (some ⟨jb, 0, none⟩)] w (JFlushPost w jb db room prom last B l ms) := by
  obtain ⟨a, cap, h1, _⟩ := h.j
  have c0 := cell_of_blk h1 0
  simp at c0
  have HS := Lib.hid h
  clear h h1
  go_enter Try.func62, Try.ntmps62
  go_wp2_with fail
  refine (dkFlush_any HS.out.d).mono ?_
  rintro e w1 ⟨rfl, d1, g1⟩
  have HJ := Lib.hid (HS.out.disk1 d1 g1)
  have HG := Lib.hid g1
  clear d1 g1
  go_wp2_with fail
  refine (jSure_any HJ.out.j HJ.out.d hms).mono ?_
  rintro e w2 ⟨rfl, b2⟩
  have HB2 := Lib.hid b2
  clear b2
  go_wp2_with fail
  go_ret
  exact ⟨rfl, HJ.out.below HB2.out, HG.out.trans (Chg.of_below HB2.out _) (fun _ _ h => h)⟩
theorem jbytes_end {w W w' : World} {r : Rc} {e : Ending} (hb : Below w.heap.size w W) (h : CommitPost W r e w') : CommitPost w r e w' := by
  obtain ⟨b, h⟩ := h
  refine ⟨below_then hb b, ?_⟩
  rcases h with h | ⟨h1, v, h2, h3⟩
  · exact .inl h
  · exact .inr ⟨h1, v, h2, BsO.mono h3 hb.size⟩
set_option maxRecDepth 100000 in
set_option maxHeartbeats 1000000 in
theorem jbytes_any (st : Nat) (a : Option Addr) (cap n : Nat) (ws : List Wr) (w : World) (hn : n = ws.length) (h : WsV w a ws) (hs : st < 18446744073709551616) (hl : ws.length ≤ 1000000) (hlen : (bodyL (max st 1) ws).length ≤ 1000000) :
    Calls Try.prog 108 #[.agg #[.int .u64 st, .slice a n cap]] w (CommitPost w ⟨max st 1, ws⟩) := by
  obtain ⟨m, hm⟩ : ∃ m, max st 1 = m := ⟨_, rfl⟩
  obtain ⟨M, hM⟩ : ∃ M : Int, M = m := ⟨_, rfl⟩
  rw [hm] at hlen ⊢
  obtain ⟨W, hW⟩ : ∃ W, (w.alloc (.cells #[.int .u64 M, .slice a n cap] 35)) = W := ⟨_, rfl⟩
  have bW : Below w.heap.size w W := by rw [← hW]; exact below_box w _
  have HC : Hid (Calls Try.prog 20 #[.agg #[.int .u64 M, .slice a n cap]] W (CommitPost W ⟨m, ws⟩)) := Lib.hid (by rw [hn, hM]; exact commit_any m a cap ws W (h.below bW) (by omega) hl hlen)
  have HB := Lib.hid bW
  clear bW h hl hlen hn
  by_cases h0 : st = 0
  · obtain rfl : M = 1 := by omega
    subst h0
    have HW := Lib.hid hW
    clear hm hM hW hs
    go_enter Try.func108, Try.ntmps108
    go_wp2_with fail
    rw [HW.out]
    refine HC.out.mono ?_
    rintro e w1 h1
    have h2 := jbytes_end HB.out h1
    clear h1
    rcases h2.2 with ⟨_, rfl⟩ | ⟨_, v, rfl, _⟩
    · have H2 := Lib.hid h2
      clear h2
      go_wp2_with fail
      go_ret2
      exact H2.out
    · have H2 := Lib.hid h2
      clear h2
      go_wp2_with fail
      go_ret2
      exact H2.out
  · obtain rfl : M = st := by omega
    have HW := Lib.hid hW
    have h1 : ¬ ((st : Int) < 1) := by omega
    clear hm hM hW hs h0
    go_enter Try.func108, Try.ntmps108
    go_wp2_with fail
    rw [HW.out]
    refine HC.out.mono ?_
    rintro e w1 h1
    have h2 := jbytes_end HB.out h1
    clear h1
    rcases h2.2 with ⟨_, rfl⟩ | ⟨_, v, rfl, _⟩
    · have H2 := Lib.hid h2
      clear h2
      go_wp2_with fail
      go_ret2
      exact H2.out
    · have H2 := Lib.hid h2
      clear h2
      go_wp2_with fail
      go_ret2
      exact H2.out
end Go.Proofs.Ytcghgnncmnoalaa
