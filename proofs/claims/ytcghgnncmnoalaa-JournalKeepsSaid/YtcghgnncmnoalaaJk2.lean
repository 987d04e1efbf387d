/- JournalKeeps: what is kept in memory. Conditions: each lemma's own premises. -/
import Derived.Test.YtcghgnncmnoalaaJk1
import Derived.Test.YtcghgnncmnoalaaJnC
import Derived.Test.YtcghgnncmnoalaaBackRow
namespace Go.Proofs.Ytcghgnncmnoalaa
open Go.RowKit Go.Maps

/-- the write of a record, with a text of one byte -/
def exV (s : Nat) (u : UInt8) : Wr := ⟨⟨0, s, 0, ⟨#[]⟩⟩, ⟨#[u]⟩, true⟩
def wrCells (s : Nat) (u : UInt8) : Array Value := #[.int .i64 0, .int .i64 s, .int .i64 0, .string ⟨#[]⟩, .string ⟨#[u]⟩, .bool true]
def R15Post (w : World) (st s : Nat) (e : Ending) (w' : World) : Prop :=
  ∃ b, w.heap.size ≤ b ∧ e = .returned (.agg #[.int .u64 st, .slice (some ⟨b, 0, none⟩) 1 1]) ∧ w'.heap[b]? = some (.cells (wrCells s 120) 80) ∧ Below w.heap.size w w'
set_option maxRecDepth 100000 in
theorem rec15_any (e s st : Nat) (he : e < 100) (hs : s < 100) (hst : e * 2147483648 + s = st) (w : World) : Calls Try.prog 61 #[.int .i64 e, .int .i64 s] w (R15Post w st s) := by
  obtain ⟨b, hb⟩ : ∃ b, w.heap.size + 1 = b := ⟨_, rfl⟩
  obtain ⟨W, hW⟩ : ∃ W, ((w.alloc (.cells #[.int .u64 ((e : Int) * 2147483648 + s), .slice (some ⟨b, 0, none⟩) 1 1] 35)).alloc (.cells #[.int .i64 0, .int .i64 s, .int .i64 0, .string ⟨#[]⟩, .string ⟨#[120]⟩, .bool true] 80)) = W := ⟨_, rfl⟩
  have hB : Below w.heap.size w W := by rw [← hW]; exact (below_box w _).alloc (by (try simp only [size_alloc]); omega) _
  have e1 : W.heap[w.heap.size]? = some (.cells #[.int .u64 ((e : Int) * 2147483648 + s), .slice (some ⟨b, 0, none⟩) 1 1] 35) := by rw [← hW, Below.heap_alloc _ _ _ (by (try simp only [size_alloc]); omega)]; exact heap_new w _
  have e2 : W.heap[b]? = some (.cells #[.int .i64 0, .int .i64 s, .int .i64 0, .string ⟨#[]⟩, .string ⟨#[120]⟩, .bool true] 80) := by
    have := heap_new (w.alloc (.cells #[.int .u64 ((e : Int) * 2147483648 + s), .slice (some ⟨b, 0, none⟩) 1 1] 35)) (.cells #[.int .i64 0, .int .i64 s, .int .i64 0, .string ⟨#[]⟩, .string ⟨#[120]⟩, .bool true] 80)
    rw [size_alloc, hb, hW] at this; exact this
  have c0 : W.cell? ⟨w.heap.size, 0, none⟩ = some (.int .u64 ((e : Int) * 2147483648 + s)) := cell_of_blk e1 0
  have c1 : W.cell? ⟨w.heap.size, 1, none⟩ = some (.slice (some ⟨b, 0, none⟩) 1 1) := cell_of_blk e1 1
  have hbz : w.heap.size ≤ b := by omega
  have HE := Lib.hid e2
  have HBW := Lib.hid hB
  have HW := Lib.hid hW
  have HB := Lib.hid hb
  have HST := Lib.hid hst
  clear hW hB hb e1 e2 hst
  go_enter Try.func61, Try.ntmps61
  go_upto_region 1 with fail
  go_wp2_with fail
  rw [HB.out, HW.out]
  refine bodyPost_ret (v := .agg #[.int .u64 ((e : Int) * 2147483648 + s), .slice (some ⟨b, 0, none⟩) 1 1]) ?_ rfl ⟨b, hbz, ?_, HE.out, HBW.out⟩
  · simp [results, Try.results61, go_sem, c0, c1]
  · rw [← HST.out]; simp
theorem exV_ok (s : Nat) (hs : s < 100) (u : UInt8) : (exV s u).Ok := by
  constructor
  · constructor <;> simp [exV, I64, maxLen, ByteArray.size] <;> omega
  · show 1 ≤ maxLen
    unfold maxLen; omega
theorem exV_ws {w : World} {b s : Nat} {u : UInt8} (h : w.heap[b]? = some (.cells (wrCells s u) 80)) (hs : s < 100) : WsV w (some ⟨b, 0, none⟩) [exV s u] := fun _ => ⟨b, 0, rfl, ⟨fun i x hi => by
  obtain ⟨hi2, rfl⟩ := List.getElem?_eq_some_iff.1 hi
  have hi0 : i = 0 := by simpa using hi2
  subst hi0
  refine ⟨exV_ok s hs u, fun j v hv => ?_⟩
  rw [cell_of_blk h, ← hv]
  simp [exV, Wr.cells, wrCells], (Array.getElem?_eq_some_iff.1 h).1⟩⟩
theorem exV_size (s : Nat) (u : UInt8) : (exV s u).k.s.size = 0 ∧ (exV s u).val.size = 1 := ⟨rfl, rfl⟩
theorem exV_wrong {st s : Nat} {u : UInt8} (h1 : st ≠ 0) (h2 : st < 4611686018427387904) (hs : s < 100) : Rc.wrong ⟨st, [exV s u]⟩ = false := by
  obtain ⟨z1, z2⟩ := exV_size s u
  have k1 : (exV s u).k.kind = 0 := rfl
  have k2 : (exV s u).k.a = s := rfl
  have k3 : (exV s u).k.b = 0 := rfl
  have k4 : (exV s u).has = true := rfl
  have ho : (exV s u).odd = false := by
    unfold Wr.odd Wr.big Wr.mute inB
    rw [z1, z2, k1, k2, k3, k4]
    simp
    omega
  unfold Rc.wrong badWs
  rw [ho]
  simp [badWs, lateW]
  omega
theorem exV_len (st s : Nat) (u : UInt8) : (bodyL st [exV s u]).length = 27 := by
  obtain ⟨z1, z2⟩ := exV_size s u
  unfold bodyL
  rw [List.length_append, headB_len, List.flatMap_cons, List.flatMap_nil, List.append_nil, wrB_len, z1, z2]
theorem ty_ne' {w : World} {i j : Nat} {c d : Array Value} {t u : TypeId} {z y : Nat × Nat} (h : w.heap[i]? = some (.cells c t z)) (k : w.heap[j]? = some (.cells d u y)) (hne : t ≠ u) : i ≠ j := fun e => by
  rw [e, k] at h
  injection h with h
  injection h with _ h
  exact hne h.symm
theorem own_tR {w : World} {B j : Nat} {v : Value} {zs : List Rv} (h : kR.Own w B v zs) (hj : v.ownBlock = some j) : ∃ cs, w.heap[j]? = some (.cells cs 35) := by
  rcases h.2 with ⟨e, _⟩ | ⟨g, cp, cur, e, _, q, _⟩
  · rw [e] at hj; cases hj
  · rw [e] at hj
    injection hj with hj
    change g = j at hj
    subst hj
    exact ⟨cur, q⟩
/-- a record of the call's own -/
structure KpW (B : Nat) (w : World) (x : Rv) : Prop where
  ex : ∃ b s u, x.a = some ⟨b, 0, none⟩ ∧ x.cap = 1 ∧ x.ws = [exV s u] ∧ s < 100 ∧ B ≤ b ∧ w.heap[b]? = some (.cells (wrCells s u) 80)
  st : x.stamp < 18446744073709551616
theorem KpW.chg {B : Nat} {w w' : World} {x : Rv} (h : KpW B w x) {S : Nat → Prop} (hc : Chg w w' S) (hS : ∀ j cs, w.heap[j]? = some (.cells cs 80) → ¬ S j) : KpW B w' x := by
  obtain ⟨⟨b, s, u, h1, h2, h3, h4, h5, h6⟩, h7⟩ := h
  exact ⟨⟨b, s, u, h1, h2, h3, h4, h5, (hc.block b (Array.getElem?_eq_some_iff.1 h6).1 (hS b _ h6)).trans h6⟩, h7⟩
theorem KpW.ok {B : Nat} {w : World} {x : Rv} (h : KpW B w x) : x.Ok w := by
  obtain ⟨⟨b, s, u, h1, h2, h3, h4, h5, h6⟩, h7⟩ := h
  refine ⟨h7, ?_, by rw [h3]; show 1 ≤ 1000000; omega⟩
  rw [h1, h3]
  exact exV_ws h6 h4
theorem JS.noTy {w : World} {jb db n safe B j : Nat} {prom last : Int} {l : List UInt8} {ms : List (Int × Int)} {cs : Array Value} {t : TypeId} (h : JS w jb db n safe prom last B l ms) (hc : w.heap[j]? = some (.cells cs t)) (h1 : t ≠ 174) (h2 : t ≠ 169) (h3 : t ≠ 5) (h4 : t ≠ 171) (hj : j = jb ∨ j = db ∨ dob w db = some j ∨ job w jb = some j) : False := by
  obtain ⟨_, _, ej, _⟩ := h.j
  obtain ⟨_, _, ed, _⟩ := h.d.ex
  rcases hj with hj | hj | hj | hj
  · exact ty_ne' hc ej h1 hj
  · exact ty_ne' hc ed h2 hj
  · obtain ⟨c2, q⟩ := h.d.obt hj
    exact ty_ne' hc q h3 rfl
  · obtain ⟨c2, q⟩ := h.j.obt hj
    exact ty_ne' hc q h4 rfl
/-- the log, and the records that were laid -/
structure KpJ (w wr : World) (jb db safe : Nat) (last : Int) (l : List UInt8) (ms : List (Int × Int)) (v : Value) (zs : List Rv) (rcs : List Rc) (items : List It) (E top sn : Nat) : Prop where
  s : JS wr jb db 1048576 safe 0 last w.heap.size l ms
  b : Below w.heap.size w wr
  o : kR.Own wr w.heap.size v zs
  k : ∀ x ∈ zs, KpW w.heap.size wr x
  p : KpI rcs items E top l
  f : ∃ j0, j0 ≤ items.length ∧ ((items.take j0).foldl itS lg0).pos ≤ safe ∧ ((items.take j0).foldl itS lg0).sure = rcs.take sn
  sn : sn ≤ rcs.length
  la : last = if E = 0 then (-1 : Int) else (E : Int)
  ml : ms.length ≤ E + 1
  ll : l.length ≤ 37 * rcs.length + 14 * E
  jB : w.heap.size ≤ jb
  dB : w.heap.size ≤ db
namespace KpJ
variable {w wr : World} {jb db safe E top sn : Nat} {last : Int} {l : List UInt8} {ms : List (Int × Int)} {v : Value} {zs : List Rv} {rcs : List Rc} {items : List It}
theorem below {w' : World} (h : KpJ w wr jb db safe last l ms v zs rcs items E top sn) (hb : Below wr.heap.size wr w') : KpJ w w' jb db safe last l ms v zs rcs items E top sn :=
  ⟨h.s.below hb, below_then h.b hb, h.o.below hb, fun x hx => (h.k x hx).chg (Chg.of_below hb (fun _ => False)) (fun _ _ _ e => e), h.p, h.f, h.sn, h.la, h.ml, h.ll, h.jB, h.dB⟩
/-- the journal turned -/
theorem turn {w' : World} (h : KpJ w wr jb db safe last l ms v zs rcs items E top sn) {safe' E' top' sn' : Nat} {last' : Int} {l' : List UInt8} {ms' : List (Int × Int)} {rcs' : List Rc} {items' : List It} (hs : JS w' jb db 1048576 safe' 0 last' w.heap.size l' ms')
    (hc : Chg wr w' (fun j => j = jb ∨ j = db ∨ dob wr db = some j ∨ job wr jb = some j)) (hp : KpI rcs' items' E' top' l') (hf : ∃ j0, j0 ≤ items'.length ∧ ((items'.take j0).foldl itS lg0).pos ≤ safe' ∧ ((items'.take j0).foldl itS lg0).sure = rcs'.take sn') (hsn : sn' ≤ rcs'.length)
    (hla : last' = if E' = 0 then (-1 : Int) else (E' : Int)) (hml : ms'.length ≤ E' + 1) (hll : l'.length ≤ 37 * rcs'.length + 14 * E') : KpJ w w' jb db safe' last' l' ms' v zs rcs' items' E' top' sn' :=
  ⟨hs, h.b.trans (hc.below h.b.size (fun _ hi => h.s.ge h.jB h.dB hi)), h.o.chg hc (fun j hj hS => by
    obtain ⟨cs, q⟩ := own_tR h.o hj
    exact h.s.noTy q (by decide) (by decide) (by decide) (by decide) hS), fun x hx => (h.k x hx).chg hc (fun j cs q hS => h.s.noTy q (by decide) (by decide) (by decide) (by decide) hS), hp, hf, hsn, hla, hml, hll, h.jB, h.dB⟩
/-- the records' slice turned -/
theorem app {w' : World} {v' : Value} {x : Rv} (h : KpJ w wr jb db safe last l ms v zs rcs items E top sn) (hx : KpW w.heap.size wr x) (hA : kR.App wr w.heap.size v (zs ++ [x]) v' w') : KpJ w w' jb db safe last l ms v' (zs ++ [x]) rcs items E top sn := by
  obtain ⟨o2, g2, _⟩ := hA
  have hc : Chg wr w' (fun j => v.ownBlock = some j) := (Chg.refl wr _).grown g2 (fun m hm _ => hm)
  have hR : ∀ j, v.ownBlock = some j → ∃ cs, wr.heap[j]? = some (.cells cs 35) := fun j hj => own_tR h.o hj
  refine ⟨h.s.chg hc (fun e => ?_) (fun e => ?_) (fun j hj e => ?_) (fun j hj e => ?_), h.b.trans (hc.below h.b.size (fun i hi => (h.o.lt i hi).1)), o2, fun y hy => ?_, h.p, h.f, h.sn, h.la, h.ml, h.ll, h.jB, h.dB⟩
  · obtain ⟨cs, q⟩ := hR _ e
    exact h.s.noTy q (by decide) (by decide) (by decide) (by decide) (.inr (.inl rfl))
  · obtain ⟨cs, q⟩ := hR _ e
    exact h.s.noTy q (by decide) (by decide) (by decide) (by decide) (.inl rfl)
  · obtain ⟨cs, q⟩ := hR _ e
    exact h.s.noTy q (by decide) (by decide) (by decide) (by decide) (.inr (.inr (.inl hj)))
  · obtain ⟨cs, q⟩ := hR _ e
    exact h.s.noTy q (by decide) (by decide) (by decide) (by decide) (.inr (.inr (.inr hj)))
  · have hy2 : KpW w.heap.size wr y := by
      rcases List.mem_append.1 hy with hy | hy
      · exact h.k y hy
      · obtain rfl : y = x := by simpa using hy
        exact hx
    exact hy2.chg hc (fun j cs q hS => by
      obtain ⟨cs2, q2⟩ := hR _ hS
      exact ty_ne' q q2 (by decide) rfl)
theorem rsv {a : Option Addr} {n cap : Nat} (h : KpJ w wr jb db safe last l ms (.slice a n cap) zs rcs items E top sn) : RsV wr a zs := fun hn => by
  obtain ⟨b, off, e, hat⟩ := h.o.toV hn
  refine ⟨b, off, e, ⟨fun i x hx => ⟨(h.k x (List.mem_of_getElem? hx)).ok, ?_, ?_⟩, hat.lt⟩⟩
  · have := hat.cells i x hx 0 _ rfl
    simpa [kR] using this
  · exact hat.cells i x hx 1 _ rfl
end KpJ
end Go.Proofs.Ytcghgnncmnoalaa
