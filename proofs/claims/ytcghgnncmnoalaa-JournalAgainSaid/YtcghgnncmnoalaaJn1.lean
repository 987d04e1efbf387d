/- The journal: its state; Open. Conditions: each contract's own premises. -/
import Derived.Test.YtcghgnncmnoalaaDk3
import Derived.Test.YtcghgnncmnoalaaCutPlain
namespace Go.Proofs.Ytcghgnncmnoalaa
open Go.RowKit Go.Maps

theorem infoSpot : (Try.prog.info? 171).map (fun i => (i.zero, i.size, i.bytes)) = some (some (.agg #[.int .i64 0, .int .i64 0]), 2, 16) := by kernel_rfl
/-- marks, as elements -/
def kS : RowK Try.prog (Int × Int) where
  t := 172
  e := 171
  size := 2
  bytes := 16
  z := .agg #[.int .i64 0, .int .i64 0]
  enc := fun p => [.int .i64 p.1, .int .i64 p.2]
  ht := Try.underlying172
  info := infoSpot
  hz := rfl
  pos := by decide
  small := by decide
  len := fun _ => rfl
  one := fun x u hu => by
    simp at hu
    rcases hu with rfl | rfl <;> rfl
/-- a journal: its block, its disk's, what is promised, the last mark, the marks -/
def JnS (w : World) (jb db : Nat) (prom last : Int) (B : Nat) (ms : List (Int × Int)) : Prop :=
  ∃ a cap, w.heap[jb]? = some (.cells #[.pointer (some ⟨db, 0, none⟩), .int .i64 prom, .int .i64 last, .slice a ms.length cap] 174) ∧ kS.Own w B (.slice a ms.length cap) ms ∧ (Value.slice a ms.length cap).ownBlock ≠ some jb ∧ ∀ j, (Value.slice a ms.length cap).ownBlock = some j → j ≠ db
/-- the block of a journal's marks -/
def job (w : World) (jb : Nat) : Option Nat := match w.heap[jb]? with | some (.cells cs _ _) => (match cs[3]? with | some v => v.ownBlock | none => none) | _ => none
theorem job_eq {w : World} {jb : Nat} {a b c v : Value} {t : TypeId} {z : Nat × Nat} (h : w.heap[jb]? = some (.cells #[a, b, c, v] t z)) : job w jb = v.ownBlock := by unfold job; rw [h]; rfl
theorem JnS.lt {w : World} {jb db B : Nat} {prom last : Int} {ms : List (Int × Int)} (h : JnS w jb db prom last B ms) : jb < w.heap.size := by
  obtain ⟨a, cap, h1, _⟩ := h
  exact (Array.getElem?_eq_some_iff.1 h1).1
theorem JnS.chg {w w' : World} {jb db B : Nat} {prom last : Int} {ms : List (Int × Int)} (h : JnS w jb db prom last B ms) {S : Nat → Prop} (hc : Chg w w' S) (h1 : ¬ S jb) (h2 : ∀ j, job w jb = some j → ¬ S j) : JnS w' jb db prom last B ms := by
  obtain ⟨a, cap, e, o, n, d⟩ := h
  refine ⟨a, cap, (hc.block _ (Array.getElem?_eq_some_iff.1 e).1 h1).trans e, o.chg hc (fun j hj => h2 j ((job_eq e).trans hj)), n, d⟩
theorem JnS.below {w w' : World} {jb db B : Nat} {prom last : Int} {ms : List (Int × Int)} (h : JnS w jb db prom last B ms) (hb : Below w.heap.size w w') : JnS w' jb db prom last B ms :=
  h.chg (Chg.of_below hb (fun _ => False)) (fun e => e) (fun _ _ e => e)
/-- what is read of records hangs on no disk's own cells -/
theorem cell_disk {w : World} {db room safe B : Nat} {l : List UInt8} (h : DkS w db room safe B l) {i : Nat} {v : Value} (hc : w.cell? ⟨db, i, none⟩ = some v) : (∃ n, v = .int .i64 n) ∨ (∃ a n c, v = .slice a n c ∧ i = 2) := by
  obtain ⟨a, cap, h1, _⟩ := h.ex
  rw [cell_of_blk h1] at hc
  match i, hc with
  | 0, hc => injection hc with hc; exact .inl ⟨_, hc.symm⟩
  | 1, hc => injection hc with hc; exact .inl ⟨_, hc.symm⟩
  | 2, hc => injection hc with hc; exact .inr ⟨_, _, _, hc.symm, rfl⟩
  | i + 3, hc => exact absurd hc (by simp)
theorem WsV.off {w w' : World} {db room safe B : Nat} {l : List UInt8} {a : Option Addr} {ws : List Wr} (h : WsV w a ws) (hd : DkS w db room safe B l) (hc : Chg w w' (fun j => j = db)) : WsV w' a ws := fun hn => by
  obtain ⟨b, off, e, hat⟩ := h hn
  refine ⟨b, off, e, hat.of_block (hc.block b hat.lt (fun hb => ?_))⟩
  subst hb
  obtain ⟨x, t, rfl⟩ := List.exists_cons_of_ne_nil hn
  obtain ⟨_, _, _, h4, _⟩ := hat.six (i := 0) (x := x) rfl
  rcases cell_disk hd h4 with ⟨n, e⟩ | ⟨a, n, c, e, _⟩ <;> cases e
theorem Rv.Ok.off {w w' : World} {db room safe B : Nat} {l : List UInt8} {r : Rv} (h : r.Ok w) (hd : DkS w db room safe B l) (hc : Chg w w' (fun j => j = db)) : r.Ok w' := ⟨h.stamp, h.ws.off hd hc, h.len⟩
theorem RsV.off {w w' : World} {db room safe B : Nat} {l : List UInt8} {a : Option Addr} {rs : List Rv} (h : RsV w a rs) (hd : DkS w db room safe B l) (hc : Chg w w' (fun j => j = db)) : RsV w' a rs := fun hn => by
  obtain ⟨b, off, e, hat⟩ := h hn
  have hb : b ≠ db := fun hb => by
    subst hb
    obtain ⟨x, t, rfl⟩ := List.exists_cons_of_ne_nil hn
    obtain ⟨_, h4, _⟩ := hat.cells 0 x rfl
    rcases cell_disk hd h4 with ⟨n, e⟩ | ⟨a, n, c, e, _⟩ <;> cases e
  have hbl := hc.block b hat.lt hb
  exact ⟨b, off, e, ⟨fun i x hx => by
    obtain ⟨h1, h2, h3⟩ := hat.cells i x hx
    exact ⟨h1.off hd hc, (World.cell?_of_block (a := ⟨b, off + i * 2, none⟩) hbl).trans h2, (World.cell?_of_block (a := ⟨b, off + i * 2 + 1, none⟩) hbl).trans h3⟩, Nat.lt_of_lt_of_le hat.lt hc.size⟩⟩
theorem DkS.ob {w : World} {db room safe B j : Nat} {l : List UInt8} (h : DkS w db room safe B l) (hj : dob w db = some j) : B ≤ j ∧ j < w.heap.size ∧ j ≠ db := by
  obtain ⟨a, cap, h1, h2, h3⟩ := h.ex
  rw [dob_eq h1] at hj
  exact ⟨(h2.lt j hj).1, (h2.lt j hj).2, fun e => h3 (by rw [hj, e])⟩
theorem JnS.ob {w : World} {jb db B j : Nat} {prom last : Int} {ms : List (Int × Int)} (h : JnS w jb db prom last B ms) (hj : job w jb = some j) : B ≤ j ∧ j < w.heap.size ∧ j ≠ jb ∧ j ≠ db := by
  obtain ⟨a, cap, h1, h2, h3, h4⟩ := h
  rw [job_eq h1] at hj
  exact ⟨(h2.lt j hj).1, (h2.lt j hj).2, fun e => h3 (by rw [hj, e]), h4 j hj⟩
theorem JnS.ne {w : World} {jb db room safe B B' : Nat} {prom last : Int} {ms : List (Int × Int)} {l : List UInt8} (h : JnS w jb db prom last B ms) (hd : DkS w db room safe B' l) : jb ≠ db := fun e => by
  obtain ⟨a, cap, h1, _⟩ := h
  obtain ⟨a2, cap2, d1, _⟩ := hd.ex
  rw [e, d1] at h1
  simp at h1
theorem DkS.chg {w w' : World} {db room safe B : Nat} {l : List UInt8} (h : DkS w db room safe B l) {S : Nat → Prop} (hc : Chg w w' S) (h1 : ¬ S db) (h2 : ∀ j, dob w db = some j → ¬ S j) : DkS w' db room safe B l := by
  obtain ⟨a, cap, e, o, n⟩ := h.ex
  exact ⟨⟨a, cap, (hc.block _ h.lt h1).trans e, ownsRow_of_block o (fun j hj => hc.block j (o.lt j hj).2 (h2 j ((dob_eq e).trans hj))), n⟩, h.hr, h.hs, h.hl⟩
theorem dob_chg {w w' : World} {db room safe B : Nat} {l : List UInt8} (h : DkS w db room safe B l) {S : Nat → Prop} (hc : Chg w w' S) (h1 : ¬ S db) : dob w' db = dob w db := by unfold dob; rw [hc.block _ h.lt h1]
theorem job_chg {w w' : World} {jb db B : Nat} {prom last : Int} {ms : List (Int × Int)} (h : JnS w jb db prom last B ms) {S : Nat → Prop} (hc : Chg w w' S) (h1 : ¬ S jb) : job w' jb = job w jb := by unfold job; rw [hc.block _ h.lt h1]
/-- a journal and its disk, apart from each other -/
structure JS (w : World) (jb db room safe : Nat) (prom last : Int) (B : Nat) (l : List UInt8) (ms : List (Int × Int)) : Prop where
  d : DkS w db room safe B l
  j : JnS w jb db prom last B ms
  n1 : dob w db ≠ some jb
  n2 : ∀ i, job w jb = some i → dob w db ≠ some i
theorem JS.chg {w w' : World} {jb db room safe B : Nat} {prom last : Int} {l : List UInt8} {ms : List (Int × Int)} (h : JS w jb db room safe prom last B l ms) {S : Nat → Prop} (hc : Chg w w' S) (h1 : ¬ S db) (h2 : ¬ S jb) (h3 : ∀ j, dob w db = some j → ¬ S j) (h4 : ∀ j, job w jb = some j → ¬ S j) : JS w' jb db room safe prom last B l ms :=
  ⟨h.d.chg hc h1 h3, h.j.chg hc h2 h4, by rw [dob_chg h.d hc h1]; exact h.n1, fun i hi => by rw [job_chg h.j hc h2] at hi; rw [dob_chg h.d hc h1]; exact h.n2 i hi⟩
theorem JS.below {w w' : World} {jb db room safe B : Nat} {prom last : Int} {l : List UInt8} {ms : List (Int × Int)} (h : JS w jb db room safe prom last B l ms) (hb : Below w.heap.size w w') : JS w' jb db room safe prom last B l ms :=
  h.chg (Chg.of_below hb (fun _ => False)) (fun e => e) (fun e => e) (fun _ _ e => e) (fun _ _ e => e)
/-- the disk alone turned -/
theorem JS.disk {w w' : World} {jb db room safe safe' B : Nat} {prom last : Int} {l l' : List UInt8} {ms : List (Int × Int)} (h : JS w jb db room safe prom last B l ms) (hd : DkS w' db room safe' B l') (hc : Chg w w' (fun j => j = db ∨ dob w db = some j)) (ho : dob w' db = dob w db ∨ ∃ j, w.heap.size ≤ j ∧ dob w' db = some j) : JS w' jb db room safe' prom last B l' ms := by
  have hj1 : ¬ (jb = db ∨ dob w db = some jb) := fun e => e.elim (h.j.ne h.d) h.n1
  refine ⟨hd, h.j.chg hc hj1 (fun j hj e => e.elim (h.j.ob hj).2.2.2 (h.n2 j hj)), fun e => ?_, fun i hi e => ?_⟩
  · rcases ho with ho | ⟨j, hj, ho⟩
    · exact h.n1 (ho.symm.trans e)
    · have := h.j.lt
      rw [ho] at e
      injection e with e
      omega
  · rw [job_chg h.j hc hj1] at hi
    have h2 := h.j.ob hi
    rcases ho with ho | ⟨j, hj, ho⟩
    · exact h.n2 i hi (ho.symm.trans e)
    · rw [ho] at e
      injection e with e
      omega
theorem jOpen_nil (w : World) : Calls Try.prog 53 #[.pointer none] w (fun e w' => e = .returned (.tuple #[.pointer none, .slice none 0 0, .int .i64 1]) ∧ w = w') := by
  go_enter Try.func53, Try.ntmps53
  go_wp2_with fail
  go_ret3
  exact ⟨rfl, rfl⟩
/-- what opening a disk leaves -/
def OpenPost (w : World) (db room B : Nat) (l : List UInt8) (e : Ending) (w' : World) : Prop :=
  ∃ jb a c rs, e = .returned (.tuple #[.pointer (some ⟨jb, 0, none⟩), .slice a rs.length c, .int .i64 0]) ∧ RsV w' a rs ∧ (∀ x ∈ rs, x.Ok w') ∧ rs.map Rv.rc = lgOut (lgN l) ∧ rs.length ≤ 1000000 ∧
    w.heap.size ≤ jb ∧ JS w' jb db room (lgN l).cut 0 (lgN l).last B (l.take (lgN l).cut) [((lgN l).last, ((lgN l).cut : Nat))] ∧ Chg w w' (fun j => j = db)
set_option maxRecDepth 100000 in
set_option maxHeartbeats 2000000 in
theorem jOpen_any {w : World} {db room safe B : Nat} {l : List UInt8} (h : DkS w db room safe B l) (hB : B ≤ w.heap.size) : Calls Try.prog 53 #[.pointer (some ⟨db, 0, none⟩)] w (OpenPost w db room B l) := by
  have HS := Lib.hid h
  clear h
  go_enter Try.func53, Try.ntmps53
  go_wp2_with fail
  refine (dkBytes_any HS.out).mono ?_
  rintro e w1 ⟨v1, rfl, o1, b1⟩
  obtain ⟨a1, c1, rfl⟩ := o1.shape
  obtain ⟨n, hn⟩ : ∃ n, n = l.length := ⟨_, rfl⟩
  rw [← hn] at o1 ⊢
  have HN := Lib.hid hn
  have H1 := Lib.hid (And.intro (show BsV w1 a1 l from BsO.bsV o1) b1)
  have HCP : Hid (n ≤ c1) := Lib.hid (by have := (bs_cap o1).2.1; omega)
  have HDS1 := Lib.hid (HS.out.below b1)
  clear o1 b1 hn
  go_wp2_with fail
  refine (recover_at a1 c1 n l _ HN.out H1.out.1 HCP.out HS.out.hl).mono ?_
  rintro e w2 ⟨v2, rs, rfl, o2, k2, m2, b2⟩
  obtain ⟨a2, c2, hv2, hz2⟩ := o2.shape
  subst hv2
  have HZ2 := Lib.hid (hz2 k2)
  have HM2 := Lib.hid m2
  have HB2 := Lib.hid b2
  have HDS2 := Lib.hid (HDS1.out.below b2)
  have HSL : Hid (rs.length ≤ 1000000) := Lib.hid (by
    have h1 := congrArg List.length m2
    rw [List.length_map] at h1
    have h2 := out_len (lgN l)
    have h3 := sure_len l
    have := HS.out.hl
    omega)
  have HCL := Lib.hid (cut_le l)
  obtain ⟨la, hla⟩ : ∃ x, (lgN l).last = x := ⟨_, rfl⟩
  obtain ⟨cu, hcu⟩ : ∃ x, (lgN l).cut = x := ⟨_, rfl⟩
  rw [hla, hcu]
  have HLA := Lib.hid hla
  have HCU := Lib.hid hcu
  have HCK : Hid (cu ≤ l.length) := Lib.hid (by rw [← hcu]; exact HCL.out)
  obtain ⟨rn, hrn⟩ : ∃ rn, rs.length = rn := ⟨_, rfl⟩
  rw [hrn]
  have HRN := Lib.hid hrn
  clear o2 k2 m2 b2 hz2 hla hcu hrn
  go_wp2_with fail
  refine (dkCut_any HDS2.out cu HCK.out).mono ?_
  rintro e w3 ⟨rfl, d3, g3⟩
  have HD3 := Lib.hid d3
  have HG3 := Lib.hid g3
  clear d3 g3
  go_wp2_with fail
  go_ret3
  rw [← HRN.out]
  have W1 := Below.heap_alloc (w3.alloc (.cells #[.int .i64 la, .int .i64 cu] 171)) (.cells #[.pointer (some ⟨db, 0, none⟩), .int .i64 0, .int .i64 la, .slice (some ⟨w3.heap.size, 0, none⟩) 1 1] 174) w3.heap.size (by simp)
  have e1 := W1.trans (heap_new w3 (.cells #[.int .i64 la, .int .i64 cu] 171))
  have e2 := heap_new (w3.alloc (.cells #[.int .i64 la, .int .i64 cu] 171)) (.cells #[.pointer (some ⟨db, 0, none⟩), .int .i64 0, .int .i64 la, .slice (some ⟨w3.heap.size, 0, none⟩) 1 1] 174)
  rw [size_alloc] at e2
  have hb : Below w3.heap.size w3 ((w3.alloc (.cells #[.int .i64 la, .int .i64 cu] 171)).alloc (.cells #[.pointer (some ⟨db, 0, none⟩), .int .i64 0, .int .i64 la, .slice (some ⟨w3.heap.size, 0, none⟩) 1 1] 174)) := (below_box w3 _).alloc (by rw [size_alloc]; omega) _
  have hg : Chg w w3 (fun j => j = db) := ((Chg.of_below H1.out.2 _).trans (Chg.of_below HB2.out _) (fun _ _ h => h)).trans HG3.out (fun _ _ h => h)
  have hok : ∀ x ∈ rs, x.Ok w2 := HZ2.out.ok
  refine ⟨w3.heap.size + 1, a2, c2, rs, rfl, (HZ2.out.off HDS2.out HG3.out).below hb, fun x hx => ((hok x hx).off HDS2.out HG3.out).below hb, HM2.out, HSL.out, by have := hg.size; omega, ?_, hg.trans (Chg.of_below hb _) (fun _ _ h => h)⟩
  rw [HLA.out, HCU.out]
  have hlt3 : ∀ j, dob w3 db = some j → j < w3.heap.size := fun j hj => (HD3.out.ob hj).2.1
  refine ⟨HD3.out.below hb, ⟨some ⟨w3.heap.size, 0, none⟩, 1, e2, ?_, fun e => ?_, fun j hj => ?_⟩, fun e => ?_, fun i hi e => ?_⟩
  · exact RowK.Own.new (k := kS) (l := [(la, (cu : Int))]) e1 (Nat.le_trans hB hg.size) rfl (by simp; decide)
  · simp [Value.ownBlock] at e
  · have : w3.heap.size = j := by simpa [Value.ownBlock] using hj
    have := HD3.out.lt
    omega
  · rw [dob_below HD3.out hb] at e
    have := hlt3 _ e
    omega
  · rw [dob_below HD3.out hb] at e
    rw [job_eq e2] at hi
    have : w3.heap.size = i := by simpa [Value.ownBlock] using hi
    have := hlt3 _ e
    omega
end Go.Proofs.Ytcghgnncmnoalaa
