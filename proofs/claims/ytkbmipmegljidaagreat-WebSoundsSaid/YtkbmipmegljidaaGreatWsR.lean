/- props.Bytes of right properties. Conditions: each contract's own premises. web.text, VertexText, EdgeText. Conditions: each contract's own premises. -/
import Derived.Test.YtkbmipmegljidaaGreatWsQ
namespace Go.Proofs.YtkbmipmegljidaaGreat
open Go.RowKit Go.Maps

/-- a property's bytes -/
def Pr.bytes (p : Pr) : List UInt8 := UInt8.ofNat p.key.size :: (p.key.data.toList ++ p.v.bytes)
/-- bytes of properties -/
def psB : List Pr → List UInt8
  | [] => []
  | p :: t => p.bytes ++ psB t
theorem psB_app : ∀ (a b : List Pr), psB (a ++ b) = psB a ++ psB b
  | [], _ => rfl
  | p :: a, b => by
    show p.bytes ++ psB (a ++ b) = (p.bytes ++ psB a) ++ psB b
    rw [psB_app a b, List.append_assoc]
theorem psB_take {l : List Pr} {k : Nat} {p : Pr} (h : l[k]? = some p) : psB (l.take (k + 1)) = psB (l.take k) ++ p.bytes := by
  rw [List.take_add_one, h, psB_app]
  simp [psB]
/-- bytes of a list of properties -/
def Pr.all (ps : List Pr) : List UInt8 := UInt8.ofNat ps.length :: psB ps
theorem pr_len {p : Pr} (h1 : p.key.size ≤ 1000) (h2 : p.v.right = true) : p.bytes.length ≤ 2001 := by
  have := bytes_len h2
  unfold Pr.bytes
  simp
  omega
theorem psB_len : ∀ (l : List Pr), (∀ p ∈ l, p.key.size ≤ 1000 ∧ p.v.right = true) → (psB l).length ≤ 2001 * l.length
  | [], _ => by simp [psB]
  | p :: l, h => by
    have h1 := pr_len (h p (by simp)).1 (h p (by simp)).2
    have h2 := psB_len l (fun q hq => h q (by simp [hq]))
    unfold psB
    simp
    omega
open Classical in
theorem rightPs_yes {ps : List Pr} (h : rightPs ps = true) : (∀ i, i < ps.length → okAt ps i) ∧ ps.length ≤ 16 := of_decide_eq_true h
theorem right_mem {ps : List Pr} (h : rightPs ps = true) {p : Pr} (hp : p ∈ ps) : p.v.right = true ∧ badS p.key = false := by
  obtain ⟨i, hi⟩ := List.getElem?_of_mem hp
  have := (rightPs_yes h).1 i (List.getElem?_eq_some_iff.1 hi).1 p hi
  exact ⟨this.2.1, this.1⟩
def PlPost (w : World) (l : List UInt8) (e : Ending) (w' : World) : Prop := ∃ r, e = .returned (.tuple #[r, .int .i64 0]) ∧ BsO w' w.heap.size r l ∧ Below w.heap.size w w'
set_option maxRecDepth 100000 in
set_option maxHeartbeats 2000000 in
theorem pbytes_any (a : Option Addr) (cap : Nat) (ps : List Pr) (w : World) (h : PsV w a ps) (hr : rightPs ps = true) (hk : ∀ p ∈ ps, p.key.size ≤ 200) :
    Calls Tryz.prog 50 #[.slice a ps.length cap] w (PlPost w (Pr.all ps)) := by
  obtain ⟨ho, hl⟩ := rightPs_yes hr
  have HH := Lib.hid h
  have HR := Lib.hid hr
  have HO := Lib.hid ho
  have HK := Lib.hid hk
  clear ho hr hk h
  go_enter Tryz.func50, Tryz.ntmps50
  go_wp2_with fail
  refine (pright_any a cap ps _ HH.out (by omega)).mono ?_
  rintro e w1 ⟨rfl, hb1⟩
  rw [HR.out]
  have hz1 := hb1.size
  go_wp2_with fail
  have st : BsO (w1.alloc (.cells #[.int .u8 (ps.length : Int)] 5)) w.heap.size (.slice (some ⟨w1.heap.size, 0, none⟩) 1 1) [UInt8.ofNat ps.length] := BsO.one hz1 (by unfold bv; congr 1; simp; omega)
  have ST := Lib.hid st
  clear st
  go_loopw [4, 18] (fun b i wr => ∃ j : Nat, j ≤ ps.length ∧ i = .int .i64 j ∧ BsO wr w.heap.size b (UInt8.ofNat ps.length :: psB (ps.take j)) ∧ Below w.heap.size w wr) (fun _ i _ => ps.length - (intOf i).toNat)
  case atStart => exact ⟨0, by omega, rfl, ST.out, below_al hb1 _⟩
  case round =>
    obtain ⟨j, hj, rfl, hO, hbel⟩ := hrel
    have hz := hbel.size
    by_cases hlt : j < ps.length
    · obtain ⟨p, hp⟩ : ∃ p, ps[j]? = some p := ⟨_, List.getElem?_eq_getElem hlt⟩
      obtain ⟨b, off, rfl, hat⟩ := (HH.out.below hbel) (fun e => by rw [e] at hlt; simp at hlt)
      obtain ⟨q0, q1, q2, q3⟩ := hat.cells j p hp
      have hok := hat.ok p (List.mem_of_getElem? hp)
      have hks := HK.out p (List.mem_of_getElem? hp)
      have hlb := hat.lt
      have HTK := Lib.hid (psB_take hp)
      have HV := Lib.hid hok.v
      have RV := Lib.hid (right_mem HR.out (List.mem_of_getElem? hp)).1
      have hln : (psB (ps.take j)).length ≤ 2001 * 16 := by
        have h1 := psB_len (ps.take j) (fun q hq => ⟨by have := HK.out q (List.mem_of_mem_take hq); omega, (right_mem HR.out (List.mem_of_mem_take hq)).1⟩)
        have h2 : (ps.take j).length ≤ 16 := by rw [List.length_take]; omega
        omega
      have HLN := Lib.hid (show (psB (ps.take j)).length ≤ 32016 ∧ p.v.bytes.length ≤ 1000 ∧ p.key.size ≤ 200 from ⟨by omega, bytes_len RV.out, hks⟩)
      clear hat hok hp hln hks
      go_wp2_with fail
      obtain ⟨W, hW⟩ : ∃ W, W = wr.alloc (.cells #[.string p.key, .int .i64 p.v.kind, .int .i64 p.v.n, .string p.v.s] 62) := ⟨_, rfl⟩
      rw [← hW]
      have eW : W.heap[wr.heap.size]? = some (.cells #[.string p.key, .int .i64 p.v.kind, .int .i64 p.v.n, .string p.v.s] 62) := by rw [hW]; exact heap_new wr _
      have hWr : Below wr.heap.size wr W := by rw [hW]; exact below_box wr _
      have hzW : W.heap.size = wr.heap.size + 1 := by rw [hW, size_alloc]
      have hOW := hO.below hWr
      clear hW q0 q1 q2 q3
      refine (vbytes_any p.v _ HV.out RV.out).mono ?_
      rintro e w2 ⟨r2, rfl, o2, hb2⟩
      obtain ⟨g2, c2, rfl, hg2, at2⟩ := o2.at' (bytes_ne p.v)
      have e2 := (hb2.block _ (by omega)).trans eW
      have HNX : Hid (some wr.heap.size ≠ u4.ownBlock) := Lib.hid (fun e => by have := (hO.lt _ e.symm).2; omega)
      have HNG : Hid (some g2 ≠ u4.ownBlock) := Lib.hid (fun e => by have := (hO.lt _ e.symm).2; omega)
      have hO2 := hOW.below hb2
      have hXl : wr.heap.size < w2.heap.size := (Array.getElem?_eq_some_iff.1 e2).1
      have hGl := at2.lt
      have HA2 := Lib.hid at2
      have ks : ∀ w' : World, w'.heap[wr.heap.size]? = w2.heap[wr.heap.size]? → (fun w' => w'.cell? ⟨wr.heap.size, 0, none⟩ = some (.string p.key)) w' := fun w' hb => by
        show w'.cell? ⟨wr.heap.size, 0, none⟩ = some (.string p.key)
        rw [cell_of_blk (hb.trans e2)]; rfl
      have KS := Lib.hid ks
      have HB2 := Lib.hid ((hbel.trans (hWr.mono hz)).trans (hb2.mono (by omega)))
      clear ks e2 o2 at2 hOW hb2 hWr eW hO
      go_wp2_with fail
      refine wp_region_held_drew (S := (fun w' => w'.cell? ⟨wr.heap.size, 0, none⟩ = some (.string p.key))) (by kernel_rfl) (KS.out _ rfl) (fun hHeld => ?_)
      refine wpAnyH_take (i := 0) (oi := ⟨some 28, _, _, _, _, _⟩) (v := ?vvq1) rfl (by kernel_rfl) (by kernel_rfl) (by kernel_rfl) (fun _ _ _ h => h) (Or.inl ⟨by rfl, ?yyq1⟩) hHeld ?rrq1
      case yyq1 => (intro wq hSw; (try dsimp only at hSw); go_simp; first | done | with_reducible rfl)
      simp only [Act.put, List.setIfInBounds_toArray, List.set_cons_zero, List.set_cons_succ]
      refine wpAnyH_take (i := 1) (oi := ⟨some 29, _, _, _, _, _⟩) (v := ?vvq2) rfl (by kernel_rfl) (by kernel_rfl) (by kernel_rfl) (fun _ _ _ h => h) (Or.inl ⟨by rfl, ?yyq2⟩) hHeld ?rrq2
      case yyq2 => (intro wq hSw; (try dsimp only at hSw); go_simp; first | done | with_reducible rfl)
      simp only [Act.put, List.setIfInBounds_toArray, List.set_cons_zero, List.set_cons_succ]
      refine wpAnyH_take (i := 2) (oi := ⟨some 30, _, _, _, _, _⟩) (v := ?vvq3) rfl (by kernel_rfl) (by kernel_rfl) (by kernel_rfl) (fun _ _ _ h => h) (Or.inl ⟨by rfl, ?yyq3⟩) hHeld ?rrq3
      case yyq3 => (intro wq hSw; (try dsimp only at hSw); go_simp; first | done | with_reducible rfl)
      simp only [Act.put, List.setIfInBounds_toArray, List.set_cons_zero, List.set_cons_succ]
      refine wpAnyH_take (i := 3) (oi := ⟨some 31, _, _, _, _, _⟩) (v := ?vvq4) rfl (by kernel_rfl) (by kernel_rfl) (by kernel_rfl) (fun _ _ _ h => h) (Or.inl ⟨by rfl, ?yyq4⟩) hHeld ?rrq4
      case yyq4 => (intro wq hSw; (try dsimp only at hSw); go_simp; first | done | with_reducible rfl)
      simp only [Act.put, List.setIfInBounds_toArray, List.set_cons_zero, List.set_cons_succ]
      refine wpAnyH_take (i := 4) (oi := ⟨some 32, _, _, _, _, _⟩) (v := ?vvq5) rfl (by kernel_rfl) (by kernel_rfl) (by kernel_rfl) (fun _ _ _ h => h) (Or.inl ⟨by rfl, ?yyq5⟩) hHeld ?rrq5
      case yyq5 => (intro wq hSw; (try dsimp only at hSw); go_simp; first | done | with_reducible rfl)
      simp only [Act.put, List.setIfInBounds_toArray, List.set_cons_zero, List.set_cons_succ]
      refine wpAnyH_take (i := 7) (oi := ⟨some 35, _, _, _, _, _⟩) (v := ?vvq6) rfl (by kernel_rfl) (by kernel_rfl) (by kernel_rfl) (fun _ _ _ h => h) (Or.inl ⟨by rfl, ?yyq6⟩) hHeld ?rrq6
      case yyq6 => (intro wq hSw; (try dsimp only at hSw); go_simp; first | done | with_reducible rfl)
      simp only [Act.put, List.setIfInBounds_toArray, List.set_cons_zero, List.set_cons_succ]
      refine wpAnyH_take (i := 8) (oi := ⟨some 36, _, _, _, _, _⟩) (v := ?vvq7) rfl (by kernel_rfl) (by kernel_rfl) (by kernel_rfl) (fun _ _ _ h => h) (Or.inl ⟨by rfl, ?yyq7⟩) hHeld ?rrq7
      case yyq7 => (intro wq hSw; (try dsimp only at hSw); go_simp; first | done | with_reducible rfl)
      simp only [Act.put, List.setIfInBounds_toArray, List.set_cons_zero, List.set_cons_succ]
      refine wpAnyH_take (i := 10) (oi := ⟨some 38, _, _, _, _, _⟩) (v := ?vvq8) rfl (by kernel_rfl) (by kernel_rfl) (by kernel_rfl) (fun _ _ _ h => h) (Or.inl ⟨by rfl, ?yyq8⟩) hHeld ?rrq8
      case yyq8 => (intro wq hSw; (try dsimp only at hSw); go_simp; first | done | with_reducible rfl)
      simp only [Act.put, List.setIfInBounds_toArray, List.set_cons_zero, List.set_cons_succ]
      refine wpAnyH_ready (rs := [5]) (by kernel_rfl) (by simp) ?_
      refine AllReadyH.cons (o := ⟨some 33, _, _, _, _, _⟩) rfl (fun K hK => ?_) AllReadyH.nil
      go_simp
      refine hK.out _ _ ?ssq9 (fun hHeld => ?_)
      case ssq9 => (exact KS.out _ (Below.heap_alloc _ _ _ hXl))
      clear hK K
      try simp only [Act.put, List.setIfInBounds_toArray, List.set_cons_zero, List.set_cons_succ]
      refine wpAnyH_ready (rs := [6]) (by kernel_rfl) (by simp) ?_
      refine AllReadyH.cons (o := ⟨some 34, _, _, _, _, _⟩) rfl (fun K hK => ?_) AllReadyH.nil
      refine step_appB _ rfl (.tmp 28) (.tmp 33) rfl w.heap.size _ _ rfl (hO2.drew.alloc _) ⟨w2.heap.size, 0, none⟩ 1 1 [UInt8.ofNat p.key.size] rfl rfl (new_one ?hxn) (by have := HLN.out; simp; omega) (by simp; omega) ?_
      case hxn => first | rfl | (simp [bv]; done) | (simp [bv]; omega)
      intro v3 w3 o3 b3 g3 k3
      have z3 := g3.size
      simp at z3 k3
      have X3 : w3.heap[wr.heap.size]? = w2.heap[wr.heap.size]? := (g3.block _ (by simp; omega) HNX.out).trans (Below.heap_alloc _ _ _ hXl)
      have G3 : w3.heap[g2]? = w2.heap[g2]? := (g3.block _ (by simp; omega) HNG.out).trans (Below.heap_alloc _ _ _ hGl)
      have NX3 : Hid (some wr.heap.size ≠ v3.ownBlock) := Lib.hid (by rcases k3 with e | e <;> rw [e]; exact HNX.out; intro h; injection h; omega)
      have NG3 : Hid (some g2 ≠ v3.ownBlock) := Lib.hid (by rcases k3 with e | e <;> rw [e]; exact HNG.out; intro h; injection h; omega)
      have B3 := Lib.hid b3
      clear g3 k3 b3
      refine hK.out _ _ ?ssq10 (fun hHeld => ?_)
      case ssq10 => (exact KS.out _ X3)
      clear hK K
      try simp only [Act.put, List.setIfInBounds_toArray, List.set_cons_zero, List.set_cons_succ]
      refine wpAnyH_ready (rs := [9]) (by kernel_rfl) (by simp) ?_
      refine AllReadyH.cons (o := ⟨some 37, _, _, _, _, _⟩) rfl (fun K hK => ?_) AllReadyH.nil
      refine step_appS _ rfl (.tmp 34) (.tmp 36) rfl w.heap.size _ _ rfl o3 (by simp) p.key rfl (by have := HLN.out; simp; omega) (by omega) ?_
      intro v4 w4 o4 b4 g4 k4
      have z4 := g4.size
      have X4 : w4.heap[wr.heap.size]? = w2.heap[wr.heap.size]? := (g4.block _ (by omega) NX3.out).trans X3
      have G4 : w4.heap[g2]? = w2.heap[g2]? := (g4.block _ (by omega) NG3.out).trans G3
      have NX4 : Hid (some wr.heap.size ≠ v4.ownBlock) := Lib.hid (by rcases k4 with e | e <;> rw [e]; exact NX3.out; intro h; injection h; omega)
      have B4 := Lib.hid (b4)
      clear g4 k4 b4
      refine hK.out _ _ ?ssq11 (fun hHeld => ?_)
      case ssq11 => (exact KS.out _ X4)
      clear hK K
      try simp only [Act.put, List.setIfInBounds_toArray, List.set_cons_zero, List.set_cons_succ]
      refine wpAnyH_ready (rs := [11]) (by kernel_rfl) (by simp) ?_
      refine AllReadyH.cons (o := ⟨some 39, _, _, _, _, _⟩) rfl (fun K hK => ?_) AllReadyH.nil
      refine step_appB _ rfl (.tmp 37) (.tmp 38) rfl w.heap.size _ _ rfl o4 ⟨g2, 0, none⟩ _ _ p.v.bytes rfl rfl (HA2.out.of_block G4).conv (by have := HLN.out; simp; omega) (by omega) ?_
      intro v5 w5 o5 b5 g5 k5
      have X5 : w5.heap[wr.heap.size]? = w2.heap[wr.heap.size]? := (g5.block _ (by omega) NX4.out).trans X4
      have B5 := Lib.hid b5
      clear g5 k5 b5
      refine hK.out _ _ ?ssq12 (fun hHeld => ?_)
      case ssq12 => (exact KS.out _ X5)
      clear hK K
      try simp only [Act.put, List.setIfInBounds_toArray, List.set_cons_zero, List.set_cons_succ]
      refine wpAnyH_take (i := 12) (oi := ⟨some 4, _, _, _, _, _⟩) (v := ?vvq13) rfl (by kernel_rfl) (by kernel_rfl) (by kernel_rfl) (fun _ _ _ h => h) (Or.inl ⟨by rfl, ?yyq13⟩) hHeld ?rrq13
      case yyq13 => (intro wq hSw; (try dsimp only at hSw); go_simp; first | done | with_reducible rfl)
      simp only [Act.put, List.setIfInBounds_toArray, List.set_cons_zero, List.set_cons_succ]
      refine wpAnyH_done (by kernel_rfl) ?_ _
      go_wp2_with fail
      refine ⟨⟨j + 1, by omega, by go_num, ?_, (((below_al HB2.out.drew _).trans B3.out).trans B4.out).trans B5.out⟩, by simp [intOf]; omega⟩
      rw [HTK.out]
      simpa [Pr.bytes] using o5
    · obtain rfl : j = ps.length := by omega
      go_wp2_with fail
      go_ret2
      refine ⟨_, rfl, ?_, hbel⟩
      rw [List.take_length] at hO
      exact hO
end Go.Proofs.YtkbmipmegljidaaGreat
namespace Go.Proofs.YtkbmipmegljidaaGreat
open Go.RowKit Go.Maps

/-- the text of a label and properties -/
def textL (label : ByteArray) (ps : List Pr) : List UInt8 := UInt8.ofNat label.size :: (label.data.toList ++ Pr.all ps)
theorem all_len {ps : List Pr} (hr : rightPs ps = true) (hk : ∀ p ∈ ps, p.key.size ≤ 200) : (Pr.all ps).length ≤ 40000 := by
  have h1 := psB_len ps (fun p hp => ⟨by have := hk p hp; omega, (right_mem hr hp).1⟩)
  have h2 := (rightPs_yes hr).2
  unfold Pr.all
  simp
  omega
theorem all_ne (ps : List Pr) : Pr.all ps ≠ [] := by unfold Pr.all; simp
set_option maxHeartbeats 1000000 in
theorem text_any (label : ByteArray) (pa : Option Addr) (pc : Nat) (ps : List Pr) (w : World) (hl : label.size ≤ 200) (hp : PsV w pa ps) (hr : rightPs ps = true) (hk : ∀ p ∈ ps, p.key.size ≤ 200) :
    Calls Tryz.prog 20 #[.string label, .slice pa ps.length pc] w fun e w' => e = .returned (.string ⟨(textL label ps).toArray⟩) ∧ Below w.heap.size w w' := by
  have hal := all_len hr hk
  have h1 : ∀ w, (Op.stringOp .add ⟨#[UInt8.ofNat label.size]⟩ label).run Tryz.prog w = .ok (.string ⟨(UInt8.ofNat label.size :: label.data.toList).toArray⟩) w := fun w => run_string_add_lists w [UInt8.ofNat label.size] label.data.toList (by simp) (by simp; omega)
  have h2 : ∀ w, (Op.stringOp .add ⟨(UInt8.ofNat label.size :: label.data.toList).toArray⟩ ⟨(Pr.all ps).toArray⟩).run Tryz.prog w = .ok (.string ⟨(textL label ps).toArray⟩) w := fun w => run_string_add_lists w (UInt8.ofNat label.size :: label.data.toList) (Pr.all ps) (by simp; omega) (by omega)
  have HP := Lib.hid hp
  have HR := Lib.hid hr
  have HK := Lib.hid hk
  clear hp hr hk hal
  go_enter Tryz.func20, Tryz.ntmps20
  go_wp2_with fail
  refine (pbytes_any pa pc ps _ HP.out HR.out HK.out).mono ?_
  rintro e w1 ⟨r, rfl, o1, hb1⟩
  obtain ⟨g, c, rfl, _, at1⟩ := o1.at' (all_ne ps)
  have AT := Lib.hid (at1.of_block (Below.heap_alloc w1 (.cells #[.int .u8 (label.size : Int)] 5) g at1.lt))
  have NEW : Hid (∀ j (hj : j < [UInt8.ofNat label.size].length), (w1.alloc (.cells #[.int .u8 (label.size : Int)] 5)).cell? ((⟨w1.heap.size, 0, none⟩ : Addr).add j) = some (.int .u8 (([UInt8.ofNat label.size][j]).toNat : Int))) := Lib.hid (new_one (by unfold bv; congr 1; simp; omega))
  clear at1 o1
  go_wp2_with (first | (refine wpList_toStr _ rfl (.tmp 15) rfl ⟨w1.heap.size, 0, none⟩ 1 1 [UInt8.ofNat label.size] rfl rfl NEW.out ?_) | (refine wpList_toStr _ rfl (.tmp 19) rfl ⟨g, 0, none⟩ _ _ (Pr.all ps) rfl rfl AT.out.conv ?_))
  go_ret
  exact ⟨rfl, below_al hb1 _⟩
/-- ids laid in a new block -/
theorem ids_new {w : World} {B : Nat} {l : List Int} (hb : w.heap[B]? = some (.cells (l.map (Value.int .i64)).toArray 3 (0, 0))) (hi : ∀ x ∈ l, I64 x) : IsV w (some ⟨B, 0, none⟩) l :=
  fun _ => ⟨B, 0, rfl, ⟨hi, fun i x hx => by
    rw [cell_of_blk hb]
    simp [hx], (Array.getElem?_eq_some_iff.1 hb).1⟩⟩
noncomputable def vtext (label : ByteArray) (ps : List Pr) (ids : List Int) (pre : List UInt8) : ByteArray := if checkR label ps ids = 0 then ⟨(pre ++ textL label ps).toArray⟩ else ⟨#[]⟩
theorem checkR_ok {label : ByteArray} {ps : List Pr} {ids : List Int} (h : checkR label ps ids = 0) : ids.any idB = false ∧ badS label = false ∧ rightPs ps = true := by
  unfold checkR at h
  split at h
  · cases h
  · next h1 =>
    split at h
    · cases h
    · next h2 =>
      split at h
      · next h3 => exact ⟨by simpa using h1, by simpa using h2, h3⟩
      · cases h
set_option maxHeartbeats 1000000 in
theorem vertexText_any (id : Int) (label : ByteArray) (pa : Option Addr) (pc : Nat) (ps : List Pr) (w : World) (hi : I64 id) (hl : label.size ≤ 200) (hp : PsV w pa ps) (hn : ps.length ≤ 100000) (hk : ∀ p ∈ ps, p.key.size ≤ 200) :
    Calls Tryz.prog 7 #[.agg #[.int .i64 id, .string label, .slice pa ps.length pc]] w fun e w' => e = .returned (.tuple #[.string (vtext label ps [id] []), .int .i64 (checkR label ps [id])]) ∧ Below w.heap.size w w' := by
  have HP := Lib.hid hp
  have HK := Lib.hid hk
  have HI := Lib.hid hi
  clear hp hk hi
  go_enter Tryz.func7, Tryz.ntmps7
  go_wp2_with fail
  obtain ⟨W1, hW1⟩ : ∃ W1, W1 = w.alloc (.cells #[.int .i64 id, .string label, .slice pa ps.length pc] 30) := ⟨_, rfl⟩
  have z1 : W1.heap.size = w.heap.size + 1 := by rw [hW1, size_alloc]
  have e1 : W1.heap[w.heap.size]? = some (.cells #[.int .i64 id, .string label, .slice pa ps.length pc] 30) := by rw [hW1]; exact heap_new w _
  have hB1 : Below w.heap.size w W1 := by rw [hW1]; exact below_box w _
  rw [← hW1]
  rw [← z1]
  clear hW1
  have IV : IsV (W1.alloc (.cells #[.int .i64 id] 3)) (some ⟨W1.heap.size, 0, none⟩) [id] := ids_new (heap_new W1 _) (fun x hx => by rw [List.mem_singleton.1 hx]; exact HI.out)
  refine (check_any label pa _ pc 1 ps [id] _ (by unfold maxLen; omega) (HP.out.below (below_al hB1 _)) IV hn (by simp)).mono ?_
  rintro e w2 ⟨rfl, hb2⟩
  have hB2 := below_then (below_al (Below.refl W1.heap.size W1) _) hb2
  have e2 := (hB2.block w.heap.size (by omega)).trans e1
  have c1 := cell_of_blk e2 1
  have c2 := cell_of_blk e2 2
  simp at c1 c2
  have hlw := (Array.getElem?_eq_some_iff.1 e2).1
  have HB := Lib.hid (below_then hB1 hB2)
  clear e1 e2 hb2 IV hB2 hB1
  by_cases hc : checkR label ps [id] = 0
  · have HR := Lib.hid (checkR_ok hc).2.2
    have HT : Hid (vtext label ps [id] [] = ⟨(textL label ps).toArray⟩) := Lib.hid (by unfold vtext; rw [if_pos hc]; rfl)
    rw [hc]
    have HC := Lib.hid hc
    clear hc
    go_wp2_with fail
    refine (text_any label pa pc ps _ hl (HP.out.below HB.out) HR.out HK.out).mono ?_
    rintro e w3 ⟨rfl, hb3⟩
    go_wp2_with fail
    go_ret2
    exact ⟨by rw [HT.out, HC.out]; rfl, below_then HB.out hb3⟩
  · have HT : Hid (vtext label ps [id] [] = ⟨#[]⟩) := Lib.hid (by unfold vtext; rw [if_neg hc])
    obtain ⟨k, hk⟩ : ∃ k, checkR label ps [id] = k := ⟨_, rfl⟩
    rw [hk] at hc ⊢
    have HC := Lib.hid hk
    clear hk
    have hc' : (k == 0) = false := by simpa using hc
    clear hc
    go_wp2_with fail
    go_ret2
    exact ⟨by rw [HT.out, HC.out]; rfl, HB.out⟩
theorem idB_ok {n : Int} (h : idB n = false) : ∃ m : Nat, n = m ∧ m < 1099511627776 := by
  have := of_decide_eq_false h
  exact ⟨n.toNat, by omega, by omega⟩
theorem textL_len {label : ByteArray} {ps : List Pr} (hl : label.size ≤ 200) (hr : rightPs ps = true) (hk : ∀ p ∈ ps, p.key.size ≤ 200) : (textL label ps).length ≤ 41000 := by
  have := all_len hr hk
  unfold textL
  simp
  omega
set_option maxRecDepth 100000 in
set_option maxHeartbeats 1000000 in
theorem edgeText_any (id fi ti : Int) (label : ByteArray) (pa : Option Addr) (pc : Nat) (ps : List Pr) (w : World) (hi : I64 id) (hf : I64 fi) (ht : I64 ti) (hl : label.size ≤ 200) (hp : PsV w pa ps) (hn : ps.length ≤ 100000) (hk : ∀ p ∈ ps, p.key.size ≤ 200) :
    Calls Tryz.prog 9 #[.agg #[.int .i64 id, .string label, .int .i64 fi, .int .i64 ti, .slice pa ps.length pc]] w fun e w' => e = .returned (.tuple #[.string (vtext label ps [id, fi, ti] (fiveL fi.toNat ++ fiveL ti.toNat)), .int .i64 (checkR label ps [id, fi, ti])]) ∧ Below w.heap.size w w' := by
  have HP0 := Lib.hid hp
  have HK := Lib.hid hk
  have HL := Lib.hid hl
  have HI : Hid (∀ x ∈ [id, fi, ti], I64 x) := Lib.hid (by simp; exact ⟨hi, hf, ht⟩)
  clear hp hk hi hf ht
  go_enter Tryz.func9, Tryz.ntmps9
  go_wp2_with fail
  obtain ⟨W1, hW1⟩ : ∃ W1, W1 = w.alloc (.cells #[.int .i64 id, .string label, .int .i64 fi, .int .i64 ti, .slice pa ps.length pc] 32) := ⟨_, rfl⟩
  have z1 : W1.heap.size = w.heap.size + 1 := by rw [hW1, size_alloc]
  have e1 : W1.heap[w.heap.size]? = some (.cells #[.int .i64 id, .string label, .int .i64 fi, .int .i64 ti, .slice pa ps.length pc] 32) := by rw [hW1]; exact heap_new w _
  have hB1 : Below w.heap.size w W1 := by rw [hW1]; exact below_box w _
  rw [← hW1]
  rw [← z1]
  clear hW1
  have IV : IsV (W1.alloc (.cells #[.int .i64 id, .int .i64 fi, .int .i64 ti] 3)) (some ⟨W1.heap.size, 0, none⟩) [id, fi, ti] := ids_new (heap_new W1 _) HI.out
  refine (check_any label pa _ pc 3 ps [id, fi, ti] _ (by unfold maxLen; omega) (HP0.out.below (below_al hB1 _)) IV hn (by simp)).mono ?_
  rintro e W ⟨rfl, hb2⟩
  have hB2 := below_then (below_al (Below.refl W1.heap.size W1) _) hb2
  have e2 := (hB2.block w.heap.size (by omega)).trans e1
  have HB := Lib.hid (below_then hB1 hB2)
  clear e1 hb2 IV hB2 hB1
  by_cases hc : checkR label ps [id, fi, ti] = 0
  · have hck := checkR_ok hc
    have HR := Lib.hid hck.2.2
    obtain ⟨f, rfl, hf⟩ : ∃ m : Nat, fi = m ∧ m < 1099511627776 := idB_ok (by have := hck.1; simp at this; exact this.2.1)
    obtain ⟨t, rfl, ht⟩ : ∃ m : Nat, ti = m ∧ m < 1099511627776 := idB_ok (by have := hck.1; simp at this; exact this.2.2)
    have HF := Lib.hid hf
    have HT := Lib.hid ht
    have HV : Hid (vtext label ps [id, (f : Int), (t : Int)] (fiveL (f : Int).toNat ++ fiveL (t : Int).toNat) = ⟨(fiveL f ++ fiveL t ++ textL label ps).toArray⟩) := Lib.hid (by unfold vtext; rw [if_pos hc]; rfl)
    have ks : ∀ w', Below W.heap.size W w' → (fun w' => Below W.heap.size W w' ∧ w'.cell? ⟨w.heap.size, 1, none⟩ = some (.string label) ∧ w'.cell? ⟨w.heap.size, 2, none⟩ = some (.int .i64 (f : Int)) ∧ w'.cell? ⟨w.heap.size, 3, none⟩ = some (.int .i64 (t : Int)) ∧ w'.cell? ⟨w.heap.size, 4, none⟩ = some (.slice pa ps.length pc)) w' := fun w' hb => by
      have e := (hb.block _ (Array.getElem?_eq_some_iff.1 e2).1).trans e2
      exact ⟨hb, by rw [cell_of_blk e]; rfl, by rw [cell_of_blk e]; rfl, by rw [cell_of_blk e]; rfl, by rw [cell_of_blk e]; rfl⟩
    have KS := Lib.hid ks
    have HP := Lib.hid (HP0.out.below HB.out)
    have htl := textL_len hl HR.out HK.out
    have h1 : ∀ w, (Op.stringOp .add ⟨(fiveL f).toArray⟩ ⟨(fiveL t).toArray⟩).run Tryz.prog w = .ok (.string ⟨(fiveL f ++ fiveL t).toArray⟩) w := fun w => run_string_add_lists w (fiveL f) (fiveL t) (by simp [fiveL]) (by simp [fiveL])
    have h2 : ∀ w, (Op.stringOp .add ⟨(fiveL f ++ fiveL t).toArray⟩ ⟨(textL label ps).toArray⟩).run Tryz.prog w = .ok (.string ⟨(fiveL f ++ fiveL t ++ textL label ps).toArray⟩) w := fun w => run_string_add_lists w (fiveL f ++ fiveL t) (textL label ps) (by simp [fiveL]) (by omega)
    rw [hc]
    have HC := Lib.hid hc
    clear hc hck hf ht ks e2 htl
    go_wp2_with fail
    refine wp_region_held_drew (S := (fun w' => Below W.heap.size W w' ∧ w'.cell? ⟨w.heap.size, 1, none⟩ = some (.string label) ∧ w'.cell? ⟨w.heap.size, 2, none⟩ = some (.int .i64 (f : Int)) ∧ w'.cell? ⟨w.heap.size, 3, none⟩ = some (.int .i64 (t : Int)) ∧ w'.cell? ⟨w.heap.size, 4, none⟩ = some (.slice pa ps.length pc))) (by kernel_rfl) (KS.out _ (Below.refl _ _).drew) (fun hHeld => ?_)
    refine wpAnyH_take (i := 0) (oi := ⟨some 20, _, _, _, _, _⟩) (v := ?vvq1) rfl (by kernel_rfl) (by kernel_rfl) (by kernel_rfl) (fun _ _ _ h => h) (Or.inl ⟨by rfl, ?yyq1⟩) hHeld ?rrq1
    case yyq1 => (intro wq hSw; (try dsimp only at hSw); go_simp; first | done | with_reducible rfl)
    simp only [Act.put, List.setIfInBounds_toArray, List.set_cons_zero, List.set_cons_succ]
    refine wpAnyH_take (i := 1) (oi := ⟨some 21, _, _, _, _, _⟩) (v := ?vvq2) rfl (by kernel_rfl) (by kernel_rfl) (by kernel_rfl) (fun _ _ _ h => h) (Or.inl ⟨by rfl, ?yyq2⟩) hHeld ?rrq2
    case yyq2 => (intro wq hSw; (try dsimp only at hSw); go_simp; first | done | with_reducible rfl)
    simp only [Act.put, List.setIfInBounds_toArray, List.set_cons_zero, List.set_cons_succ]
    refine wpAnyH_take (i := 3) (oi := ⟨some 23, _, _, _, _, _⟩) (v := ?vvq3) rfl (by kernel_rfl) (by kernel_rfl) (by kernel_rfl) (fun _ _ _ h => h) (Or.inl ⟨by rfl, ?yyq3⟩) hHeld ?rrq3
    case yyq3 => (intro wq hSw; (try dsimp only at hSw); go_simp; first | done | with_reducible rfl)
    simp only [Act.put, List.setIfInBounds_toArray, List.set_cons_zero, List.set_cons_succ]
    refine wpAnyH_take (i := 4) (oi := ⟨some 24, _, _, _, _, _⟩) (v := ?vvq4) rfl (by kernel_rfl) (by kernel_rfl) (by kernel_rfl) (fun _ _ _ h => h) (Or.inl ⟨by rfl, ?yyq4⟩) hHeld ?rrq4
    case yyq4 => (intro wq hSw; (try dsimp only at hSw); go_simp; first | done | with_reducible rfl)
    simp only [Act.put, List.setIfInBounds_toArray, List.set_cons_zero, List.set_cons_succ]
    refine wpAnyH_take (i := 7) (oi := ⟨some 27, _, _, _, _, _⟩) (v := ?vvq5) rfl (by kernel_rfl) (by kernel_rfl) (by kernel_rfl) (fun _ _ _ h => h) (Or.inl ⟨by rfl, ?yyq5⟩) hHeld ?rrq5
    case yyq5 => (intro wq hSw; (try dsimp only at hSw); go_simp; first | done | with_reducible rfl)
    simp only [Act.put, List.setIfInBounds_toArray, List.set_cons_zero, List.set_cons_succ]
    refine wpAnyH_take (i := 8) (oi := ⟨some 28, _, _, _, _, _⟩) (v := ?vvq6) rfl (by kernel_rfl) (by kernel_rfl) (by kernel_rfl) (fun _ _ _ h => h) (Or.inl ⟨by rfl, ?yyq6⟩) hHeld ?rrq6
    case yyq6 => (intro wq hSw; (try dsimp only at hSw); go_simp; first | done | with_reducible rfl)
    simp only [Act.put, List.setIfInBounds_toArray, List.set_cons_zero, List.set_cons_succ]
    refine wpAnyH_take (i := 9) (oi := ⟨some 29, _, _, _, _, _⟩) (v := ?vvq7) rfl (by kernel_rfl) (by kernel_rfl) (by kernel_rfl) (fun _ _ _ h => h) (Or.inl ⟨by rfl, ?yyq7⟩) hHeld ?rrq7
    case yyq7 => (intro wq hSw; (try dsimp only at hSw); go_simp; first | done | with_reducible rfl)
    simp only [Act.put, List.setIfInBounds_toArray, List.set_cons_zero, List.set_cons_succ]
    refine wpAnyH_take (i := 10) (oi := ⟨some 30, _, _, _, _, _⟩) (v := ?vvq8) rfl (by kernel_rfl) (by kernel_rfl) (by kernel_rfl) (fun _ _ _ h => h) (Or.inl ⟨by rfl, ?yyq8⟩) hHeld ?rrq8
    case yyq8 => (intro wq hSw; (try dsimp only at hSw); go_simp; first | done | with_reducible rfl)
    simp only [Act.put, List.setIfInBounds_toArray, List.set_cons_zero, List.set_cons_succ]
    refine wpAnyH_ready (rs := [2]) (by kernel_rfl) (by simp) ?_
    refine AllReadyH.cons (o := ⟨some 22, _, _, _, _, _⟩) rfl (fun K hK => ?_) AllReadyH.nil
    go_simp
    refine (five_any f _ HF.out).mono ?_
    rintro e wa ⟨rfl, hba⟩
    go_wp2_with fail
    refine hK.out _ _ ?ssq9 (fun hHeld => ?_)
    case ssq9 => (exact KS.out _ (below_then hHeld.1 hba))
    clear hK K
    try simp only [Act.put, List.setIfInBounds_toArray, List.set_cons_zero, List.set_cons_succ]
    refine wpAnyH_ready (rs := [5]) (by kernel_rfl) (by simp) ?_
    refine AllReadyH.cons (o := ⟨some 25, _, _, _, _, _⟩) rfl (fun K hK => ?_) AllReadyH.nil
    go_simp
    refine (five_any t _ HT.out).mono ?_
    rintro e wb ⟨rfl, hbb⟩
    go_wp2_with fail
    refine hK.out _ _ ?ssq10 (fun hHeld => ?_)
    case ssq10 => (exact KS.out _ (below_then hHeld.1 hbb))
    clear hK K
    try simp only [Act.put, List.setIfInBounds_toArray, List.set_cons_zero, List.set_cons_succ]
    refine wpAnyH_take (i := 6) (oi := ⟨some 26, _, _, _, _, _⟩) (v := ?vvq11) rfl (by kernel_rfl) (by kernel_rfl) (by kernel_rfl) (fun _ _ _ h => h) (Or.inl ⟨by rfl, ?yyq11⟩) hHeld ?rrq11
    case yyq11 => (intro wq hSw; (try dsimp only at hSw); go_simp; first | done | with_reducible rfl)
    simp only [Act.put, List.setIfInBounds_toArray, List.set_cons_zero, List.set_cons_succ]
    refine wpAnyH_ready (rs := [11]) (by kernel_rfl) (by simp) ?_
    refine AllReadyH.cons (o := ⟨some 31, _, _, _, _, _⟩) rfl (fun K hK => ?_) AllReadyH.nil
    go_simp
    refine (text_any label pa pc ps _ HL.out (HP.out.below hHeld.1) HR.out HK.out).mono ?_
    rintro e wc ⟨rfl, hbc⟩
    go_wp2_with fail
    refine hK.out _ _ ?ssq12 (fun hHeld => ?_)
    case ssq12 => (exact KS.out _ (below_then hHeld.1 hbc))
    clear hK K
    try simp only [Act.put, List.setIfInBounds_toArray, List.set_cons_zero, List.set_cons_succ]
    refine wpAnyH_take (i := 12) (oi := ⟨some 32, _, _, _, _, _⟩) (v := ?vvq13) rfl (by kernel_rfl) (by kernel_rfl) (by kernel_rfl) (fun _ _ _ h => h) (Or.inl ⟨by rfl, ?yyq13⟩) hHeld ?rrq13
    case yyq13 => (intro wq hSw; (try dsimp only at hSw); go_simp; first | done | with_reducible rfl)
    simp only [Act.put, List.setIfInBounds_toArray, List.set_cons_zero, List.set_cons_succ]
    refine wpAnyH_take (i := 13) (oi := ⟨some 2, _, _, _, _, _⟩) (v := ?vvq14) rfl (by kernel_rfl) (by kernel_rfl) (by kernel_rfl) (fun _ _ _ h => h) (Or.inl ⟨by rfl, ?yyq14⟩) hHeld ?rrq14
    case yyq14 => (intro wq hSw; (try dsimp only at hSw); go_simp; first | done | with_reducible rfl)
    simp only [Act.put, List.setIfInBounds_toArray, List.set_cons_zero, List.set_cons_succ]
    refine wpAnyH_take (i := 14) (oi := ⟨some 3, _, _, _, _, _⟩) (v := ?vvq15) rfl (by kernel_rfl) (by kernel_rfl) (by kernel_rfl) (fun _ _ _ h => h) (Or.inl ⟨by rfl, ?yyq15⟩) hHeld ?rrq15
    case yyq15 => (intro wq hSw; (try dsimp only at hSw); go_simp; first | done | with_reducible rfl)
    simp only [Act.put, List.setIfInBounds_toArray, List.set_cons_zero, List.set_cons_succ]
    refine wpAnyH_done (by kernel_rfl) ?_ _
    go_wp2_with fail
    go_ret2
    exact ⟨by rw [HV.out, HC.out]; rfl, below_then HB.out hHeld.1⟩
  · have HT : Hid (vtext label ps [id, fi, ti] (fiveL fi.toNat ++ fiveL ti.toNat) = ⟨#[]⟩) := Lib.hid (by unfold vtext; rw [if_neg hc])
    obtain ⟨k, hk⟩ : ∃ k, checkR label ps [id, fi, ti] = k := ⟨_, rfl⟩
    rw [hk] at hc ⊢
    have HC := Lib.hid hk
    clear hk
    have hc' : (k == 0) = false := by simpa using hc
    clear hc
    go_wp2_with fail
    go_ret2
    exact ⟨by rw [HT.out, HC.out]; rfl, HB.out⟩
end Go.Proofs.YtkbmipmegljidaaGreat
