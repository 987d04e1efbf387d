/- Keys as keys of a map; the store of package cell: a plain form of its state and what it is in memory. Conditions: each lemma's own premises. -/
import Derived.Test.YtaanohgkdpohhaaKyA
import Derived.Test.YtaanohgkdpohhaaCell
namespace Go.Proofs.Ytaanohgkdpohhaa
open Go.RowKit Go.Maps Go.WideMaps

/-- a slot -/
structure Sl where
  ad : Nat
  hs : Int
  hg : Int
  st : Nat
  lk : Bool
  ab : Bool
  text : ByteArray
  who : Int
def Sl.blk (x : Sl) : Obj := .cells #[.int .i64 x.hs, .int .i64 x.hg, .int .u64 (wd x.st x.lk x.ab), .string x.text, .int .i64 x.who] 148 (0, 0)
structure Sl.Ok (x : Sl) : Prop where
  st : Sm x.st
  text : x.text.size ≤ maxLen
  who : I64 x.who
def Sl.ptr (x : Sl) : Value := .pointer (some ⟨x.ad, 0, none⟩)

/-- a store: its blocks, its arena, its cells -/
structure Sto where
  sb : Nat
  ab : Nat
  bg : Nat
  bt : Nat
  mb : Nat
  v : Value
  ar : Ar
  c : Nat
  f : Ky → Option Sl

def ptrOf (o : Option Sl) : Value := (o.map Sl.ptr).getD (.pointer none)

structure StC (w : World) (s : Sto) : Prop where
  blk : w.heap[s.sb]? = some (.cells #[.pointer (some ⟨s.ab, 0, none⟩), .map (some s.mb)] 42 (0, 0))
  ar : ArC w s.ab s.bg s.bt s.v s.ar s.c
  map : ∃ n g, mapR w Try.prog 32 s.mb n g ∧ n + s.ar.free.length = s.ar.fresh ∧ ∀ k, k.Ok → g k.lit = (s.f k).map Sl.ptr
  slot : ∀ k x, s.f k = some x → k.Ok ∧ x.Ok ∧ w.heap[x.ad]? = some x.blk ∧ s.ar.live x.hs x.hg = true
  apart : ∀ k k' x x', s.f k = some x → s.f k' = some x' → k ≠ k' → x.ad ≠ x'.ad ∧ x.hs ≠ x'.hs
  ne : s.mb ≠ s.bg ∧ s.mb ≠ s.bt

/-- the blocks that a store lies in -/
def Sto.fp (s : Sto) (i : Nat) : Prop := i = s.sb ∨ i = s.mb ∨ arFp s.ab s.bg s.bt s.v i ∨ ∃ k x, s.f k = some x ∧ x.ad = i

section
variable {w w' : World} {s : Sto}
theorem StC.ltS (h : StC w s) : s.sb < w.heap.size := (Array.getElem?_eq_some_iff.1 h.blk).1
theorem StC.ltM (h : StC w s) : s.mb < w.heap.size := by obtain ⟨_, _, m, _⟩ := h.map; exact m.lt
theorem StC.ltX (h : StC w s) {k : Ky} {x : Sl} (hx : s.f k = some x) : x.ad < w.heap.size := (Array.getElem?_eq_some_iff.1 (h.slot k x hx).2.2.1).1
theorem StC.lt (h : StC w s) {i : Nat} (hi : s.fp i) : i < w.heap.size := by
  rcases hi with rfl | rfl | hi | ⟨k, x, hx, rfl⟩
  · exact h.ltS
  · exact h.ltM
  · exact h.ar.lt hi
  · exact h.ltX hx
theorem StC.keep (h : StC w s) (hb : ∀ i, s.fp i → w'.heap[i]? = w.heap[i]?) : StC w' s := by
  obtain ⟨n, g, m, h1⟩ := h.map
  exact ⟨(hb _ (.inl rfl)).trans h.blk, h.ar.keep (fun i hi => hb i (.inr (.inr (.inl hi)))), ⟨n, g, m.of_block (hb _ (.inr (.inl rfl))), h1⟩,
    fun k x hx => ⟨(h.slot k x hx).1, (h.slot k x hx).2.1, (hb _ (.inr (.inr (.inr ⟨k, x, hx, rfl⟩)))).trans (h.slot k x hx).2.2.1, (h.slot k x hx).2.2.2⟩, h.apart, h.ne⟩
theorem StC.alloc (h : StC w s) (X : Obj) : StC (w.alloc X) s := h.keep (fun _ hk => Below.heap_alloc _ _ _ (h.lt hk))
theorem StC.stay (h : StC w s) (hb : Below w.heap.size w w') : StC w' s := h.keep (fun _ hk => hb.block _ (h.lt hk))
theorem StC.drewN (h : StC w s) (n : Nat) : StC (w.drewN n) s := h.keep (fun _ _ => rfl)
theorem StC.drew (h : StC w s) : StC w.drew s := h.keep (fun _ _ => rfl)

theorem zeroSlot (w : World) : (zeroValue 143).run Try.prog w = .ok (.pointer none) w := by kernel_rfl
theorem StC.look (h : StC w s) {k : Ky} (hk : k.Ok) {W : World} (hW : W.heap[s.mb]? = w.heap[s.mb]?) :
    (Instr.lookup 40 (.map (some s.mb)) (.agg #[.int .i64 k.kind, .int .i64 k.a, .int .i64 k.b, .string k.s]) false).run Try.prog W = .ok (ptrOf (s.f k)) W := by
  obtain ⟨n, g, m, _, hg⟩ := h.map
  have e := (m.of_block (w' := W) hW).look lawKey Try.underlying40 (zeroSlot _) (key := k.val) (keyK hk)
  rw [hg k hk] at e
  exact e

/-- a store that was made since the world w -/
structure StS (w W : World) (s : Sto) : Prop where
  st : StC W s
  bel : Below w.heap.size w W
  own : ∀ i, s.fp i → w.heap.size ≤ i
end
/-- what a call leaves: its answer, the store's new state, and that nothing else has changed -/
def StPost (w : World) (s s' : Sto) (r : Value) (e : Ending) (w' : World) : Prop :=
  e = .returned r ∧ StC w' s' ∧ Chg w w' s.fp ∧ ∀ i, s'.fp i → s.fp i ∨ w.heap.size ≤ i
section
variable {w W W' : World} {s s' : Sto}
theorem StS.alloc (h : StS w W s) (X : Obj) : StS w (W.alloc X) s := ⟨h.st.alloc X, h.bel.alloc h.bel.size X, h.own⟩
theorem StS.drew (h : StS w W s) : StS w W.drew s := ⟨h.st.drew, h.bel.drew, h.own⟩
theorem StS.drewN (h : StS w W s) (n : Nat) : StS w (W.drewN n) s := ⟨h.st.drewN n, below_drewN h.bel n, h.own⟩
theorem StS.below (h : StS w W s) (hb : Below W.heap.size W W') : StS w W' s := ⟨h.st.stay hb, h.bel.trans (hb.mono h.bel.size), h.own⟩
theorem StS.step (h : StS w W s) (hA : StC W' s') (hc : Chg W W' s.fp) (ho : ∀ i, s'.fp i → s.fp i ∨ W.heap.size ≤ i) : StS w W' s' := by
  refine ⟨hA, h.bel.trans (hc.below h.bel.size h.own), fun i hi => ?_⟩
  rcases ho i hi with e | e
  · exact h.own i e
  · have := h.bel.size; omega
theorem StS.from {w0 : World} (h : StS w0 W s) (hb : Below w.heap.size w w0) : StS w W s := ⟨h.st, hb.trans (h.bel.mono hb.size), fun k hk => Nat.le_trans hb.size (h.own k hk)⟩
end
end Go.Proofs.Ytaanohgkdpohhaa
