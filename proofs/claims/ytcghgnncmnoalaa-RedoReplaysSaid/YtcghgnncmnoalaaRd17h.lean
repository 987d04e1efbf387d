/- For the law RedoParses: what Parse says, as numbers; small records; conversions. Conditions: the premises. -/
import Derived.Test.YtcghgnncmnoalaaRd16
import Derived.Test.YtcghgnncmnoalaaRd15e
import Derived.Test.YtcghgnncmnoalaaRdB
namespace Go.Proofs.Ytcghgnncmnoalaa
open Go.RowKit Go.Maps

/-- what Parse says, as numbers -/
def psN (p : Psd) : Nat × List Wr × Int × Int := match p with | .err c => (0, [], 0, c) | .rc r => (r.stamp, r.ws, -1, 0) | .mark n => (0, [], n, 0)
theorem psd_num {w w' : World} {p : Psd} {e : Ending} {s : Nat} {ws : List Wr} {n c : Int} (hq : psN p = (s, ws, n, c)) (h : ParPost w p e w') : Below w.heap.size w w' ∧ ∃ (a : Option Addr) (q : Nat), e = .returned (.tuple #[.agg #[.int .u64 (s : Nat), .slice a ws.length q], .int .i64 n, .int .i64 c]) ∧ kW.Own w' w.heap.size (.slice a ws.length q) ws ∧ (∀ x ∈ ws, x.Ok) ∧ ws.length ≤ 1000000 := by
  refine ⟨h.1, ?_⟩
  have e1 : s = (psN p).1 := by rw [hq]
  have e2 : ws = (psN p).2.1 := by rw [hq]
  have e3 : n = (psN p).2.2.1 := by rw [hq]
  have e4 : c = (psN p).2.2.2 := by rw [hq]
  subst e1 e2 e3 e4
  cases p with
  | err c => exact ⟨none, 0, h.2, RowK.Own.nil kW _ _, fun x hx => (by cases hx), Nat.zero_le _⟩
  | rc r =>
    obtain ⟨v, he, ho, hk, _, hl⟩ := h.2
    obtain ⟨a, q, rfl⟩ := ho.shape
    exact ⟨a, q, he, ho, hk, by show r.ws.length ≤ _; omega⟩
  | mark n => exact ⟨none, 0, h.2, RowK.Own.nil kW _ _, fun x hx => (by cases hx), Nat.zero_le _⟩
def NumPost (w : World) (s : Nat) (ws : List Wr) (n c : Int) (e : Ending) (w' : World) : Prop := Below w.heap.size w w' ∧ ∃ (a : Option Addr) (q : Nat), e = .returned (.tuple #[.agg #[.int .u64 (s : Nat), .slice a ws.length q], .int .i64 n, .int .i64 c]) ∧ kW.Own w' w.heap.size (.slice a ws.length q) ws ∧ (∀ x ∈ ws, x.Ok) ∧ ws.length ≤ 1000000
theorem parse_num (k : UInt8) (kn : Nat) (a : Option Addr) (cap : Nat) (l : List UInt8) (s : Nat) (ws : List Wr) (n c : Int) (w : World) (hk : bv k = .int .u8 (kn : Int)) (hq : psN (psB k l) = (s, ws, n, c)) (h : BsV w a l) (hcap : l.length ≤ cap) (ha : (a = none ∧ cap = 0) ∨ ∃ b off, a = some ⟨b, off, none⟩ ∧ b < w.heap.size) (hl : l.length ≤ 3000000) :
    Calls Try.prog 22 #[.agg #[.int .u8 (kn : Int), .slice a l.length cap]] w (NumPost w s ws n c) := by
  rw [← hk]
  exact (parse_any k a cap l w h hcap ha hl).mono fun e w' hp => psd_num hq hp
theorem r14parse_num (k : UInt8) (kn : Nat) (a : Option Addr) (cap : Nat) (l : List UInt8) (s : Nat) (ws : List Wr) (n c : Int) (w : World) (hk : bv k = .int .u8 (kn : Int)) (hq : psN (psB k l) = (s, ws, n, c)) (h : BsV w a l) (hcap : l.length ≤ cap) (ha : l = [] ∨ ∃ b off, a = some ⟨b, off, none⟩ ∧ b < w.heap.size) (hl : l.length ≤ 3000000) :
    Calls Try.prog 23 #[.agg #[.int .u8 (kn : Int), .slice a l.length cap]] w (NumPost w s ws n c) := by
  rw [← hk]
  rcases ha with rfl | ha
  · exact (r14parse_none k a cap w).mono fun e w' hp => psd_num hq hp
  · exact (r14parse_any k a cap l w h hcap (.inr ha) hl).mono fun e w' hp => psd_num hq hp
theorem own_setne {w : World} {B b i : Nat} {v u : Value} {l : List Wr} (h : kW.Own w B v l) (hb : ∀ j, v.ownBlock = some j → j ≠ b) : kW.Own (w.setCell ⟨b, i, none⟩ u) B v l :=
  ownsRow_of_block h (fun j hj => set_other _ (hb j hj))
theorem below_al' {w u : World} {n : Nat} (h : Below n w u) (hn : n ≤ u.heap.size) (X : Obj) : Below n w (u.alloc X) := h.alloc hn X
theorem BsO.empty {w : World} {B g : Nat} (h : w.heap[g]? = some (.cells #[] 5)) (hB : B ≤ g) : BsO w B (.slice (some ⟨g, 0, none⟩) 0 0) [] :=
  ⟨by simp, .inr ⟨g, 0, #[], rfl, hB, h, Nat.le_refl _, by simp, by simp, by simp⟩⟩
theorem BsO.src2 {w : World} {B : Nat} {a : Option Addr} {n c : Nat} {l : List UInt8} (h : BsO w B (.slice a n c) l) : l.length ≤ c ∧ ((a = none ∧ c = 0) ∨ ∃ b off, a = some ⟨b, off, none⟩ ∧ b < w.heap.size) := by
  rcases h.2 with ⟨h1, h2⟩ | ⟨g, cap, cur, h1, h2, h3, h4, _⟩
  · injection h1 with e1 e2 e3
    exact ⟨by omega, .inl ⟨e1, e3⟩⟩
  · injection h1 with e1 e2 e3
    exact ⟨by omega, .inr ⟨g, 0, e1, (Array.getElem?_eq_some_iff.1 h3).1⟩⟩
theorem small_body {st : Nat} {ws : List Wr} (h : smallW 20 300 ws = true) : ws.length ≤ 20 ∧ (bodyL st ws).length ≤ 1000000 := by
  unfold smallW at h
  simp at h
  obtain ⟨h1, h2⟩ := h
  refine ⟨h1, ?_⟩
  have : ∀ (l : List Wr), (∀ x ∈ l, x.k.s.size ≤ 300 ∧ x.val.size ≤ 300) → (l.flatMap wrB).length ≤ l.length * 616 := by
    intro l
    induction l with
    | nil => intro _; simp
    | cons x l ih =>
      intro hx
      have h3 := ih (fun y hy => hx y (by simp [hy]))
      have h4 := hx x (by simp)
      rw [List.flatMap_cons, List.length_append, wrB_len, List.length_cons]
      omega
  have h5 := this ws h2
  unfold bodyL
  rw [List.length_append, headB_len]
  omega
theorem rsv_one {w : World} {st : Nat} {a : Option Addr} {cap : Nat} {ws : List Wr} (h : WsV w a ws) (hs : st < 18446744073709551616) (hl : ws.length ≤ 1000000) :
    RsV (w.alloc (.cells #[.int .u64 st, .slice a ws.length cap] 35)) (some ⟨w.heap.size, 0, none⟩) [⟨st, a, cap, ws⟩] := fun _ => by
  refine ⟨_, 0, rfl, ⟨fun i x hx => ?_, by simp⟩⟩
  have hn := heap_new w (.cells #[.int .u64 st, .slice a ws.length cap] 35)
  match i, hx with
  | 0, hx =>
    injection hx with hx
    subst hx
    exact ⟨⟨hs, h.below (below_box _ _), hl⟩, cell_of_blk hn 0, cell_of_blk hn 1⟩
theorem rsv_two {w : World} {st : Nat} {a : Option Addr} {cap : Nat} {ws : List Wr} (h : WsV w a ws) (hs : st < 18446744073709551616) (hl : ws.length ≤ 1000000) :
    RsV (w.alloc (.cells #[.int .u64 st, .slice a ws.length cap, .int .u64 st, .slice a ws.length cap] 35)) (some ⟨w.heap.size, 0, none⟩) [⟨st, a, cap, ws⟩, ⟨st, a, cap, ws⟩] := fun _ => by
  refine ⟨_, 0, rfl, ⟨fun i x hx => ?_, by simp⟩⟩
  have hn := heap_new w (.cells #[.int .u64 st, .slice a ws.length cap, .int .u64 st, .slice a ws.length cap] 35)
  match i, hx with
  | 0, hx =>
    injection hx with hx
    subst hx
    exact ⟨⟨hs, h.below (below_box _ _), hl⟩, cell_of_blk hn 0, cell_of_blk hn 1⟩
  | 1, hx =>
    injection hx with hx
    subst hx
    exact ⟨⟨hs, h.below (below_box _ _), hl⟩, cell_of_blk hn 2, cell_of_blk hn 3⟩
theorem any_one (st : Nat) (a : Option Addr) (cap : Nat) (ws : List Wr) : ([⟨st, a, cap, ws⟩] : List Rv).any (·.rc.wrong) = Rc.wrong ⟨st, ws⟩ := by simp [Rv.rc]
theorem any_two (st : Nat) (a : Option Addr) (cap : Nat) (ws : List Wr) : ([⟨st, a, cap, ws⟩, ⟨st, a, cap, ws⟩] : List Rv).any (·.rc.wrong) = Rc.wrong ⟨st, ws⟩ := by simp [Rv.rc]
theorem conv_at {w : World} {g c : Nat} {l : List UInt8} (h : BsAt w g 0 l) : (convert 22 9 (.slice (some ⟨g, 0, none⟩) l.length c)).run Try.prog w = .ok (.string ⟨l.toArray⟩) w :=
  run_convert_bytes_back (P := Try.prog) w 22 9 5 ⟨g, 0, none⟩ c l Try.underlying22 Try.underlying5 Try.underlying9 h.conv
theorem pack_one (a : Option Addr) (cap : Nat) (l : List UInt8) (w : World) (hB : BsV w a l) (hl : l.length ≤ 1000000) :
    Calls Try.prog 27 #[.agg #[.int .u8 1, .slice a l.length cap]] w (OutPost w (packL 1 l)) := r8pack_any 1 a cap l w hB hl
theorem wrong_bad' {st : Nat} {ws : List Wr} (h : Rc.wrong ⟨st, ws⟩ = false) : badWs ws none = false := by
  unfold Rc.wrong at h
  simp only [Bool.or_eq_false_iff] at h
  exact h.1
end Go.Proofs.Ytcghgnncmnoalaa
