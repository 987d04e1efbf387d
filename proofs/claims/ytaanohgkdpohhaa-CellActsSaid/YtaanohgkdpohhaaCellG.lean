/- The store of package cell as a plain function from keys to cells: what each function answers and leaves. Conditions: each contract's own premises. -/
import Derived.Test.YtaanohgkdpohhaaCell5
namespace Go.Proofs.Ytaanohgkdpohhaa
open Go.RowKit Go.Maps

/-- a cell: its stamp, is it locked, is it absent, its text, who held it last -/
structure Cl where
  st : Nat
  lk : Bool
  ab : Bool
  text : ByteArray
  who : Int
def Sl.cl (x : Sl) : Cl := ⟨x.st, x.lk, x.ab, x.text, x.who⟩
def Sto.g (s : Sto) (k : Ky) : Option Cl := (s.f k).map Sl.cl
/-- how many cells there are -/
def Sto.cnt (s : Sto) : Nat := s.ar.fresh - s.ar.free.length
open Classical in
noncomputable def setG (f : Ky → Option Cl) (k : Ky) (o : Option Cl) : Ky → Option Cl := fun x => if x = k then o else f x
theorem setG_same (f : Ky → Option Cl) (k : Ky) (o : Option Cl) : setG f k o k = o := by simp [setG]
theorem setG_other (f : Ky → Option Cl) {k k' : Ky} (o : Option Cl) (h : k' ≠ k) : setG f k o k' = f k' := by simp [setG, h]
theorem setF_g (s : Sto) (k : Ky) (o : Option Sl) (s' : Sto) (h : s'.f = setF s.f k o) : s'.g = setG s.g k (o.map Sl.cl) := by
  funext y
  unfold Sto.g
  rw [h]
  by_cases e : y = k
  · subst e; rw [setF_same, setG_same]
  · rw [setF_other _ _ e, setG_other _ _ e]
theorem Sto.g_none {s : Sto} {k : Ky} (h : s.g k = none) : s.f k = none := by simpa [Sto.g] using h
theorem Sto.g_some {s : Sto} {k : Ky} {x : Cl} (h : s.g k = some x) : ∃ y, s.f k = some y ∧ y.cl = x := by simpa [Sto.g] using h
theorem StC.cnt_le {w : World} {s : Sto} (h : StC w s) : s.cnt ≤ s.ar.room ∧ s.cnt + s.ar.free.length = s.ar.fresh := by
  obtain ⟨n, g, _, hn, _⟩ := h.map
  have := h.ar.ok.fresh
  unfold Sto.cnt
  omega

/-- a block outside a store -/
structure Bx (w : World) (s : Sto) (b : Nat) (X : Obj) : Prop where
  at' : w.heap[b]? = some X
  out : ¬ s.fp b
section
variable {w w' : World} {s s' : Sto} {b : Nat} {X : Obj}
theorem Bx.lt (h : Bx w s b X) : b < w.heap.size := (Array.getElem?_eq_some_iff.1 h.at').1
theorem Bx.new (h : StC w s) (X : Obj) : Bx (w.alloc X) s w.heap.size X := ⟨heap_new _ _, fun hk => by have := h.lt hk; omega⟩
theorem Bx.alloc (h : Bx w s b X) (Y : Obj) : Bx (w.alloc Y) s b X := ⟨(Below.heap_alloc _ _ _ h.lt).trans h.at', h.out⟩
theorem Bx.below (h : Bx w s b X) (hb : Below w.heap.size w w') : Bx w' s b X := ⟨(hb.block _ h.lt).trans h.at', h.out⟩
theorem Bx.drewN (h : Bx w s b X) (n : Nat) : Bx (w.drewN n) s b X := ⟨h.at', h.out⟩
theorem Bx.drew (h : Bx w s b X) : Bx w.drew s b X := ⟨h.at', h.out⟩
theorem Bx.step (h : Bx w s b X) (hc : Chg w w' s.fp) (ho : ∀ i, s'.fp i → s.fp i ∨ w.heap.size ≤ i) : Bx w' s' b X :=
  ⟨(hc.block _ h.lt h.out).trans h.at', fun hk => by
    rcases ho b hk with e | e
    · exact h.out e
    · have := h.lt; omega⟩
theorem Bx.cell {cs : Array Value} {t : TypeId} {z : Nat × Nat} (h : Bx w s b (.cells cs t z)) (i : Nat) : w.cell? ⟨b, i, none⟩ = cs[i]? := cell_of_blk h.at' i
end

/-- what a call that writes leaves: its answer, a new state of the store, its cells and how many there are -/
structure GPost (w : World) (s s' : Sto) (g : Ky → Option Cl) (cnt c : Nat) (w' : World) : Prop where
  st : StC w' s'
  chg : Chg w w' s.fp
  fp : ∀ i, s'.fp i → s.fp i ∨ w.heap.size ≤ i
  sb : s'.sb = s.sb
  room : s'.ar.room = s.ar.room
  g : s'.g = g
  cnt : s'.cnt = cnt
  c : s'.c = c
theorem StS.gpost {w W W' : World} {s s' : Sto} {g : Ky → Option Cl} {cnt c : Nat} (h : StS w W s) (p : GPost W s s' g cnt c W') : StS w W' s' := h.step p.st p.chg p.fp
theorem Bx.gpost {w w' : World} {s s' : Sto} {b : Nat} {X : Obj} {g : Ky → Option Cl} {cnt c : Nat} (h : Bx w s b X) (p : GPost w s s' g cnt c w') : Bx w' s' b X := h.step p.chg p.fp

def NewG (w : World) (rm : Nat) (e : Ending) (w' : World) : Prop := ∃ s : Sto, e = .returned (.tuple #[.pointer (some ⟨s.sb, 0, none⟩), .int .i64 0]) ∧ StS w w' s ∧ s.g = (fun _ => none) ∧ s.cnt = 0 ∧ s.c = 0 ∧ s.ar.room = rm
theorem new_g (rm : Nat) (w : World) (h1 : rm ≤ 1048576) : Calls Try.prog 16 #[.int .i64 rm] w (NewG w rm) := by
  refine (new_store rm w h1).mono ?_
  rintro e w' ⟨w1, rfl, hS⟩
  exact ⟨_, rfl, hS, rfl, rfl, rfl, rfl⟩

/-- what Read answers of a cell -/
def readV : Option Cl → Value
  | none => .tuple #[.agg #[.int .u64 0, .string ⟨#[]⟩, .bool false], .int .i64 0]
  | some x => if x.lk then .tuple #[.agg #[.int .u64 0, .string ⟨#[]⟩, .bool false], .int .i64 60] else .tuple #[.agg #[.int .u64 x.st, .string x.text, .bool (!x.ab)], .int .i64 0]
def stillV (o : Option Cl) (who vw : Int) (vh : Bool) : Bool := match o with
  | none => !vh
  | some x => if x.lk = true ∧ x.who ≠ who then false else (x.ab == !vh) && ((x.st : Int) == vw || (!vh && ((x.st : Int) == 0)))
def holdsV (o : Option Cl) (who : Int) : Bool := match o with | none => false | some x => x.lk && (x.who == who)
theorem Sto.holds_g (s : Sto) (k : Ky) (who : Int) : s.holds k who = holdsV (s.g k) who := by
  unfold Sto.holds Sto.g holdsV
  cases s.f k <;> rfl

theorem read_g (s : Sto) (b : Nat) (k : Ky) (w : World) (h : StC w s) (hb : s.sb = b) (hk : k.Ok) :
    Calls Try.prog 23 #[.pointer (some ⟨b, 0, none⟩), .agg #[.int .i64 k.kind, .int .i64 k.a, .int .i64 k.b, .string k.s]] w fun e w' => e = .returned (readV (s.g k)) ∧ Below w.heap.size w w' := by
  subst hb
  have := read_any s k w h hk
  have e : s.read k = readV (s.g k) := by unfold Sto.read Sto.g readV; cases s.f k <;> rfl
  rw [e] at this
  exact this
theorem still_g (s : Sto) (b : Nat) (k : Ky) (who vw : Int) (vs : ByteArray) (vh : Bool) (w : World) (h : StC w s) (hb : s.sb = b) (hk : k.Ok) :
    Calls Try.prog 75 #[.pointer (some ⟨b, 0, none⟩), .agg #[.int .i64 k.kind, .int .i64 k.a, .int .i64 k.b, .string k.s], .int .i64 who, .agg #[.int .u64 vw, .string vs, .bool vh]] w fun e w' => e = .returned (.bool (stillV (s.g k) who vw vh)) ∧ Below w.heap.size w w' := by
  subst hb
  have := still_any s k who vw vs vh w h hk
  have e : s.still k who vw vh = stillV (s.g k) who vw vh := by unfold Sto.still Sto.g stillV; cases s.f k <;> rfl
  rw [e] at this
  exact this
theorem lock_busy_g (s : Sto) (b : Nat) (k : Ky) (x : Cl) (who : Int) (w : World) (h : StC w s) (hb : s.sb = b) (hk : k.Ok) (hg : s.g k = some x) (hl : x.lk = true) :
    Calls Try.prog 17 #[.pointer (some ⟨b, 0, none⟩), .agg #[.int .i64 k.kind, .int .i64 k.a, .int .i64 k.b, .string k.s], .int .i64 who] w fun e w' => e = .returned (.tuple #[.int .u64 0, .int .i64 60]) ∧ Below w.heap.size w w' := by
  subst hb
  obtain ⟨y, hy, rfl⟩ := Sto.g_some hg
  exact lock_busy s k y who w h hk hy hl
theorem lock_full_g (s : Sto) (b : Nat) (k : Ky) (who : Int) (w : World) (h : StC w s) (hb : s.sb = b) (hk : k.Ok) (hg : s.g k = none) (hc : s.cnt = s.ar.room) :
    Calls Try.prog 17 #[.pointer (some ⟨b, 0, none⟩), .agg #[.int .i64 k.kind, .int .i64 k.a, .int .i64 k.b, .string k.s], .int .i64 who] w fun e w' => e = .returned (.tuple #[.int .u64 0, .int .i64 50]) ∧ Below w.heap.size w w' := by
  subst hb
  have h1 := h.cnt_le
  have h2 := h.ar.ok.fresh
  exact lock_full s k who w h hk (Sto.g_none hg) (List.eq_nil_of_length_eq_zero (by omega)) (by omega)

def PostG (w : World) (s : Sto) (g : Ky → Option Cl) (cnt c : Nat) (r : Value) (e : Ending) (w' : World) : Prop := e = .returned r ∧ ∃ s', GPost w s s' g cnt c w'

theorem put_g {w w' : World} {s : Sto} {k : Ky} {y y' : Sl} {r : Value} {e : Ending} (h : StPost w s (s.put k y') r e w') (hy : y'.cl = y.cl) : PostG w s (setG s.g k (some y.cl)) s.cnt s.c r e w' :=
  ⟨h.1, _, ⟨h.2.1, h.2.2.1, h.2.2.2, rfl, rfl, by rw [setF_g s k (some y') _ rfl, Option.map_some, hy], rfl, rfl⟩⟩

theorem lock_free_g (s : Sto) (b : Nat) (k : Ky) (x : Cl) (who : Int) (w : World) (h : StC w s) (hb : s.sb = b) (hk : k.Ok) (hw : I64 who) (hg : s.g k = some x) (hl : x.lk = false) :
    Calls Try.prog 17 #[.pointer (some ⟨b, 0, none⟩), .agg #[.int .i64 k.kind, .int .i64 k.a, .int .i64 k.b, .string k.s], .int .i64 who] w (PostG w s (setG s.g k (some { x with lk := true, who := who })) s.cnt s.c (.tuple #[.int .u64 x.st, .int .i64 0])) := by
  subst hb
  obtain ⟨y, hy, rfl⟩ := Sto.g_some hg
  refine (lock_free s k y who w h hk hw hy hl).mono ?_
  intro e w' hp
  exact put_g (y := { y with lk := true, who := who }) hp rfl
theorem lock_new_g (s : Sto) (b : Nat) (k : Ky) (who : Int) (w : World) (h : StC w s) (hb : s.sb = b) (hk : k.Ok) (hw : I64 who) (hg : s.g k = none) (hc : s.cnt < s.ar.room) :
    Calls Try.prog 17 #[.pointer (some ⟨b, 0, none⟩), .agg #[.int .i64 k.kind, .int .i64 k.a, .int .i64 k.b, .string k.s], .int .i64 who] w (PostG w s (setG s.g k (some ⟨0, true, true, ⟨#[]⟩, who⟩)) (s.cnt + 1) s.c (.tuple #[.int .u64 0, .int .i64 0])) := by
  subst hb
  have h1 := h.cnt_le
  rcases Ar.take_cases h.ar.ok with ⟨e1, e2, _, _⟩ | ⟨x, e, _, _, _, _, _, hr, hl, _, _⟩
  · rw [e1] at h1; simp at h1; omega
  refine (lock_new s k who w h hk hw (Sto.g_none hg) x _ e).mono ?_
  rintro e w' ⟨ad, v', hp⟩
  have := hp.2.1.cnt_le
  refine ⟨hp.1, _, ⟨hp.2.1, hp.2.2.1, hp.2.2.2, rfl, hr, by rw [setF_g s k _ _ rfl]; rfl, ?_, rfl⟩⟩
  unfold Sto.cnt at *
  dsimp only at *
  omega
theorem install_g (s : Sto) (b : Nat) (k : Ky) (x : Cl) (who : Int) (t : Nat) (vw : Int) (vs : ByteArray) (vh : Bool) (w : World) (h : StC w s) (hb : s.sb = b) (hk : k.Ok) (hg : s.g k = some x) (hlk : x.lk = true) (hwho : x.who = who) (ht : Sm t) (hst : x.st < t) (hv : vh = true ∨ (vh = false ∧ vs = ⟨#[]⟩)) (hvs : vs.size ≤ maxLen) :
    Calls Try.prog 19 #[.pointer (some ⟨b, 0, none⟩), .agg #[.int .i64 k.kind, .int .i64 k.a, .int .i64 k.b, .string k.s], .int .i64 who, .int .u64 t, .agg #[.int .u64 vw, .string vs, .bool vh]] w (PostG w s (setG s.g k (some { x with st := t, lk := false, ab := !vh, text := vs })) s.cnt s.c (.int .i64 0)) := by
  subst hb
  obtain ⟨y, hy, rfl⟩ := Sto.g_some hg
  refine (install_ok s k y who t vw vs vh w h hk hy hlk hwho ht hst hv hvs).mono ?_
  intro e w' hp
  exact put_g (y := { y with st := t, lk := false, ab := !vh, text := vs }) hp rfl
theorem install_stale_g (s : Sto) (b : Nat) (k : Ky) (who t : Int) (vw : Int) (vs : ByteArray) (vh : Bool) (w : World) (h : StC w s) (hb : s.sb = b) (hk : k.Ok) (hh : holdsV (s.g k) who = false) :
    Calls Try.prog 19 #[.pointer (some ⟨b, 0, none⟩), .agg #[.int .i64 k.kind, .int .i64 k.a, .int .i64 k.b, .string k.s], .int .i64 who, .int .u64 t, .agg #[.int .u64 vw, .string vs, .bool vh]] w fun e w' => e = .returned (.int .i64 51) ∧ Below w.heap.size w w' := by
  subst hb
  exact install_stale s k who t vw vs vh w h hk (by rw [Sto.holds_g]; exact hh)
end Go.Proofs.Ytaanohgkdpohhaa
