/- redo.sorted. Conditions: each contract's own premises. -/
import Derived.Test.YtcghgnncmnoalaaSrtA
import Derived.Test.YtcghgnncmnoalaaRdS
namespace Go.Proofs.Ytcghgnncmnoalaa
open Go.RowKit Go.Maps

/-- records as a function hands them back, in a row of its own -/
def RsN (w : World) (B : Nat) (v : Value) (l : List Rv) : Prop :=
  (v = .slice none 0 0 ∧ l = []) ∨ ∃ g cap, v = .slice (some ⟨g, 0, none⟩) l.length cap ∧ B ≤ g ∧ l.length ≤ cap ∧ SAt w g 0 l.length l (fun i => i)
theorem RsN.of_own {w : World} {B : Nat} {v : Value} {l : List Rv} (h : kR.Own w B v l) : RsN w B v l := by
  rcases h.2 with ⟨h1, h2⟩ | ⟨g, cap, cur, h1, h2, h3, h4, h5, h6, h7⟩
  · exact .inl ⟨h1, List.eq_nil_of_length_eq_zero h2⟩
  · refine .inr ⟨g, cap, h1, h2, h4, cur, h3, fun i hi => ?_⟩
    have hx : l[i]? = some l[i]! := by rw [List.getElem?_eq_getElem hi]; simp [hi]
    have hc : ∀ (j : Nat) (u : Value), (kR.enc l[i]!)[j]? = some u → cur[i * 2 + j]? = some u := fun j u hu => by
      have := kR.cells_at hx hu
      have hlt : i * 2 + j < l.length * kR.size := by
        have hj : j < 2 := by
          have := (List.getElem?_eq_some_iff.1 hu).1
          rw [kR.len] at this; exact this
        show i * 2 + j < l.length * 2
        omega
      have h8 : (cur.toList.take (l.length * kR.size))[i * 2 + j]? = some u := by
        rw [show cur.toList.take (l.length * kR.size) = kR.cells l from h7]; exact this
      rw [List.getElem?_take, if_pos hlt, Array.getElem?_toList] at h8
      exact h8
    exact ⟨by rw [Nat.zero_add]; exact hc 0 _ rfl, by rw [Nat.zero_add]; exact hc 1 _ rfl⟩
theorem RsN.block {w w' : World} {B : Nat} {v : Value} {l : List Rv} (h : RsN w B v l) (hb : ∀ g, v.ownBlock = some g → w'.heap[g]? = w.heap[g]?) : RsN w' B v l := by
  rcases h with h | ⟨g, cap, h1, h2, h3, h4⟩
  · exact .inl h
  · exact .inr ⟨g, cap, h1, h2, h3, h4.of_block (hb g (by rw [h1]; rfl))⟩
theorem RsN.below {w w' : World} {B : Nat} {v : Value} {l : List Rv} (h : RsN w B v l) (hb : Below w.heap.size w w') : RsN w' B v l := by
  rcases h with h | ⟨g, cap, h1, h2, h3, h4⟩
  · exact .inl h
  · exact .inr ⟨g, cap, h1, h2, h3, h4.below hb⟩
theorem RsV.ok {w : World} {a : Option Addr} {l : List Rv} (h : RsV w a l) : ∀ x ∈ l, x.Ok w := fun x hx => by
  obtain ⟨b, off, _, hat⟩ := h (fun e => by rw [e] at hx; simp at hx)
  obtain ⟨i, hi, e⟩ := List.getElem_of_mem hx
  exact (hat.cells i x (by rw [List.getElem?_eq_getElem hi, e])).1
theorem RsN.shape {w : World} {B : Nat} {v : Value} {l : List Rv} (h : RsN w B v l) : ∃ a cap, v = .slice a l.length cap ∧ ((∀ x ∈ l, x.Ok w) → RsV w a l) := by
  rcases h with ⟨h1, h2⟩ | ⟨g, cap, h1, h2, h3, h4⟩
  · subst h2; exact ⟨none, 0, h1, fun _ hn => absurd rfl hn⟩
  · refine ⟨_, cap, h1, fun hok _ => ⟨g, 0, rfl, ⟨fun i x hx => ?_, h4.lt⟩⟩⟩
    obtain ⟨hi, rfl⟩ := List.getElem?_eq_some_iff.1 hx
    have e : l[i]! = l[i] := by simp [hi]
    have c0 := h4.cell0 hi
    have c1 := h4.cell1 hi
    rw [e] at c0 c1
    exact ⟨hok _ (List.getElem_mem hi), c0, c1⟩
theorem sat_list {w : World} {b off n : Nat} {L : List Rv} {t : Nat → Nat} (h : SAt w b off n L t) {l : List Rv} (hl : l = (List.range n).map (fun i => L[t i]!)) : SAt w b off n l (fun i => i) := by
  obtain ⟨cs, h1, h2⟩ := h
  refine ⟨cs, h1, fun i hi => ?_⟩
  have e : l[i]! = L[t i]! := by rw [hl]; simp [hi]
  rw [e]; exact h2 i hi
/-- no record at all -/
theorem insR_nil (g : Value) (w : World) : Calls Try.prog 180 #[.slice none 0 0, .int .i64 0, .int .i64 0, g] w (fun e w' => e = .returned (.tuple #[]) ∧ w = w') := by
  go_enter Try.func180, Try.ntmps180
  go_wp2_with fail
  go_loopw [8] (fun i wr => i = .int .i64 1 ∧ w = wr) (fun _ _ => 0)
  case atStart => exact ⟨rfl, rfl⟩
  case round =>
    obtain ⟨rfl, rfl⟩ := hrel
    go_wp2_with fail
    go_end0
    exact ⟨rfl, rfl⟩
set_option maxRecDepth 10000 in
theorem stableR_nil (g : Value) (w : World) : Calls Try.prog 160 #[.slice none 0 0, .int .i64 0, g] w (fun e w' => e = .returned (.tuple #[]) ∧ w = w') := by
  go_enter Try.func160, Try.ntmps160
  go_wp2_with fail
  go_loopw [7, 8] (fun i j wr => i = .int .i64 0 ∧ j = .int .i64 20 ∧ w = wr) (fun _ _ _ => 0)
  case atStart => exact ⟨rfl, rfl, rfl⟩
  case round =>
    obtain ⟨rfl, rfl, rfl⟩ := hrel
    go_wp2_with fail
    refine (insR_nil g _).mono ?_
    rintro e w1 ⟨rfl, rfl⟩
    go_wp2_with fail
    go_loopw [6, 7, 8, 9] (fun i _ _ _ wr => i = .int .i64 20 ∧ w = wr) (fun _ _ _ _ _ => 0)
    case atStart => exact ⟨rfl, rfl⟩
    case round =>
      obtain ⟨rfl, rfl⟩ := hrel
      go_wp2_with fail
      go_end0
      exact ⟨rfl, rfl⟩
theorem sortStR_nil (g : Value) (w : World) : Calls Try.prog 148 #[.slice none 0 0, g] w (fun e w' => e = .returned (.tuple #[]) ∧ w = w') := by
  go_enter Try.func148, Try.ntmps148
  go_wp2_with fail
  refine (stableR_nil g _).mono ?_
  rintro e w1 ⟨rfl, rfl⟩
  go_wp2_with fail
  go_end0
  exact ⟨rfl, rfl⟩
theorem sortStR_any (b off cap n : Nat) (L : List Rv) (w : World) (h : SAt w b off n L (fun i => i)) (hn : n ≤ 1000000) :
    Calls Try.prog 148 #[.slice (some ⟨b, off, none⟩) n cap, .func (.func 125) #[] #[]] w (SrtPostW w b off n L) := by
  have HS0 := Lib.hid h
  clear h
  go_enter Try.func148, Try.ntmps148
  go_wp2_with fail
  refine (stableR_any b off cap n L _ HS0.out hn).mono ?_
  rintro e w1 ⟨rfl, H⟩
  go_wp2_with fail
  go_end0
  exact ⟨rfl, H⟩
/-- records in a row of the call's own, and what they hold -/
def RSorted (w : World) (l : List Rv) (e : Ending) (w' : World) : Prop := ∃ v, e = .returned v ∧ RsN w' w.heap.size v l ∧ (∀ x ∈ l, x.Ok w') ∧ Below w.heap.size w w'
theorem sortK_mem {l : List Rv} {x : Rv} (h : x ∈ Srt.sortK Rv.stamp l) : x ∈ l := by
  have : ∀ (l m : List Rv) (x : Rv), x ∈ l.foldl (Srt.putK Rv.stamp) m → x ∈ m ∨ x ∈ l := by
    intro l
    induction l with
    | nil => intro m x h; exact .inl h
    | cons y l ih =>
      intro m x h
      rw [List.foldl_cons] at h
      rcases ih _ x h with h | h
      · rcases List.mem_cons.1 ((Srt.putK_perm _ _ _).subset h) with rfl | h
        · exact .inr (by simp)
        · exact .inl h
      · exact .inr (by simp [h])
  rcases this l [] x h with h | h
  · simp at h
  · exact h
theorem sortK_len (l : List Rv) : (Srt.sortK Rv.stamp l).length = l.length := by
  have : ∀ (l m : List Rv), (l.foldl (Srt.putK Rv.stamp) m).length = m.length + l.length := by
    intro l
    induction l with
    | nil => intro m; rfl
    | cons y l ih => intro m; rw [List.foldl_cons, ih, (Srt.putK_perm _ _ _).length_eq]; simp; omega
  have := this l []
  simpa [Srt.sortK] using this
theorem sortedStR_any (Bs : Nat) (a : Option Addr) (cap : Nat) (zs : List Rv) (hlen : zs.length ≤ 1000000) (w : World) (hBs : Bs < w.heap.size) (hc : w.cell? ⟨Bs, 0, none⟩ = some (.slice a zs.length cap)) (hz : RsV w a zs) :
    Calls Try.prog 123 #[.func (.func 149) #[] #[.pointer (some ⟨Bs, 0, none⟩)], .func (.func 125) #[] #[]] w (RSorted w (Srt.sortK Rv.stamp zs)) := by
  have HZ := Lib.hid hz
  have HC := Lib.hid hc
  clear hz hc
  go_enter Try.func123, Try.ntmps123
  go_wp2_with fail
  refine (colR_any Bs a cap zs hlen _ hBs HC.out HZ.out).mono ?_
  rintro e w1 ⟨v, rfl, ho, hb⟩
  have HB := Lib.hid hb
  have HO := Lib.hid (RsN.of_own ho)
  have HK : Hid (∀ x ∈ Srt.sortK Rv.stamp zs, x.Ok w) := Lib.hid (fun x hx => HZ.out.ok x (sortK_mem hx))
  clear hb ho
  rcases HO.out with ⟨hv, hl⟩ | ⟨g, cp, hv, hg, hcp, hS⟩
  · subst hv
    have HL := Lib.hid hl
    clear hl
    go_wp2_with fail
    refine (sortStR_nil _ _).mono ?_
    rintro e w2 ⟨rfl, rfl⟩
    go_wp2_with fail
    go_ret
    exact ⟨_, rfl, .inl ⟨rfl, by rw [HL.out]; rfl⟩, fun x hx => (HK.out x hx).below HB.out, HB.out⟩
  · subst hv
    have HS := Lib.hid hS
    have HG := Lib.hid hg
    have HCP := Lib.hid hcp
    clear hS hg hcp
    go_wp2_with fail
    refine (sortStR_any g 0 cp zs.length zs _ HS.out hlen).mono ?_
    rintro e w2 ⟨rfl, t, q1, q2, q3, q4⟩
    have hb2 : Below w.heap.size w w2 := HB.out.trans (q2.below HB.out.size (fun i e => by subst e; exact HG.out))
    have HF : Hid (RsN w2 w.heap.size (.slice (some ⟨g, 0, none⟩) zs.length cp) (Srt.sortK Rv.stamp zs) ∧ Below w.heap.size w w2) := Lib.hid ⟨.inr ⟨g, cp, by rw [sortK_len], HG.out, by rw [sortK_len]; exact HCP.out, by
      rw [sortK_len]
      exact sat_list q1 (Srt.srt_sortK Rv.stamp zs q4 q3).symm⟩, hb2⟩
    clear q1 q2 q3 q4 hb2
    go_wp2_with fail
    go_ret
    exact ⟨_, rfl, HF.out.1, fun x hx => (HK.out x hx).below HF.out.2, HF.out.2⟩
/-- records by rising stamps -/
theorem dsorted_any (a : Option Addr) (cap : Nat) (zs : List Rv) (hlen : zs.length ≤ 1000000) (w : World) (hz : RsV w a zs) :
    Calls Try.prog 77 #[.slice a zs.length cap] w (RSorted w (Srt.sortK Rv.stamp zs)) := by
  have HZ := Lib.hid hz
  clear hz
  go_enter Try.func77, Try.ntmps77
  go_wp2_with fail
  refine (valR_any a zs.length cap _).mono ?_
  rintro e w1 ⟨rfl, hw1⟩
  have hb : Below w.heap.size w w1 := by rw [hw1]; exact below_box w _
  have hsz : w.heap.size < w1.heap.size := by rw [hw1]; simp
  have hcell : w1.cell? ⟨w.heap.size, 0, none⟩ = some (.slice a zs.length cap) := by rw [hw1]; exact cell_of_blk (heap_new w _) 0
  have HB := Lib.hid hb
  have HC := Lib.hid hcell
  have HSZ := Lib.hid hsz
  clear hb hcell hw1 hsz
  go_wp2_with fail
  refine (sortedStR_any w.heap.size a cap zs hlen _ HSZ.out HC.out (HZ.out.below HB.out)).mono ?_
  rintro e w2 ⟨v, rfl, q1, q2, q3⟩
  have HF : Hid (RsN w2 w.heap.size v (Srt.sortK Rv.stamp zs) ∧ (∀ x ∈ Srt.sortK Rv.stamp zs, x.Ok w2) ∧ Below w.heap.size w w2) := Lib.hid ⟨by
    rcases q1 with q | ⟨g, cp, h1, h2, h3, h4⟩
    · exact .inl q
    · exact .inr ⟨g, cp, h1, Nat.le_trans HB.out.size h2, h3, h4⟩, q2, below_then HB.out q3⟩
  clear q1 q2 q3
  go_wp2_with fail
  go_ret
  exact ⟨_, rfl, HF.out⟩
end Go.Proofs.Ytcghgnncmnoalaa
