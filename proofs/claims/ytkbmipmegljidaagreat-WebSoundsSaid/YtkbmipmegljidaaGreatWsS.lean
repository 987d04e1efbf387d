/- web.Entries. Conditions: each contract's own premises. cobwebref03.Same of lists of properties. Conditions: the contract's own premises. cobwebref16.SameV of one vertex beside one. Conditions: the contract's own premises. Texts tell labels and properties; entries tell ids: plain facts. Conditions: each lemma's own premises. WebApart: the walk. Conditions: the theorem's own premises. WebApart: the walk where nothing is too great. Conditions: the theorem's own premises. WebApart, of any arguments; vertices, edges and properties of an argument in memory. Conditions: each lemma's own premises. -/
import Derived.Test.YtkbmipmegljidaaGreatWsR
namespace Go.Proofs.YtkbmipmegljidaaGreat
open Go.RowKit Go.Maps

theorem infoEn : (Tryz.prog.info? 58).map (fun i => (i.zero, i.size, i.bytes)) = some (some (.agg #[.string ⟨#[]⟩, .string ⟨#[]⟩]), 2, 32) := by kernel_rfl
/-- cells of entries -/
def enC : List (ByteArray × ByteArray) → List Value
  | [] => []
  | e :: t => .string e.1 :: .string e.2 :: enC t
theorem enC_app : ∀ a b, enC (a ++ b) = enC a ++ enC b
  | [], _ => rfl
  | _ :: a, b => by simp [enC, enC_app a b]
theorem enC_at : ∀ (l : List (ByteArray × ByteArray)) (i : Nat) (e : ByteArray × ByteArray), l[i]? = some e → (enC l)[i * 2]? = some (.string e.1) ∧ (enC l)[i * 2 + 1]? = some (.string e.2)
  | [], _, _, h => by simp at h
  | x :: t, 0, e, h => by simp at h; subst h; simp [enC]
  | x :: t, i + 1, e, h => by
    have := enC_at t i e (by simpa using h)
    rw [show (i + 1) * 2 = i * 2 + 1 + 1 by omega]
    exact this
/-- entries, a call's own -/
def EnO (w : World) (B : Nat) (v : Value) (l : List (ByteArray × ByteArray)) : Prop := w.ownsRow B 58 2 v l.length (enC l)
theorem EnO.below {w w' : World} {B : Nat} {v : Value} {l} (h : EnO w B v l) (hb : Below w.heap.size w w') : EnO w' B v l :=
  ownsRow_of_block h (fun k hk => hb.block k (h.lt k hk).2)
theorem EnO.alloc {w : World} {B : Nat} {v : Value} {l} (h : EnO w B v l) (X : Obj) : EnO (w.alloc X) B v l := h.below (below_box w X)
theorem EnO.drew {w : World} {B : Nat} {v : Value} {l} (h : EnO w B v l) : EnO w.drew B v l := ownsRow_of_block h (fun _ _ => rfl)
theorem EnO.mono {w : World} {B B' : Nat} {v : Value} {l} (h : EnO w B v l) (hB : B' ≤ B) : EnO w B' v l := by
  refine ⟨h.1, ?_⟩
  rcases h.2 with h' | ⟨g, cap, cur, h1, h2, h3⟩
  · exact .inl h'
  · exact .inr ⟨g, cap, cur, h1, by omega, h3⟩
theorem EnO.one {w : World} {B : Nat} (e : ByteArray × ByteArray) (hB : B ≤ w.heap.size) : EnO (w.alloc (.cells #[.string e.1, .string e.2] 58)) B (.slice (some ⟨w.heap.size, 0, none⟩) 1 1) [e] :=
  ⟨rfl, .inr ⟨w.heap.size, 1, _, rfl, hB, heap_new w _, Nat.le_refl _, by unfold maxLen; omega, rfl, rfl⟩⟩
theorem EnO.at' {w : World} {B : Nat} {v : Value} {l} (h : EnO w B v l) (hl : l ≠ []) : ∃ b cap, v = .slice (some ⟨b, 0, none⟩) l.length cap ∧ B ≤ b ∧ b < w.heap.size ∧ ∀ (i : Nat) (e : ByteArray × ByteArray), l[i]? = some e → w.cell? ⟨b, i * 2, none⟩ = some (.string e.1) ∧ w.cell? ⟨b, i * 2 + 1, none⟩ = some (.string e.2) := by
  rcases h.2 with ⟨_, h'⟩ | ⟨g, cap, cur, h1, h2, h3, h4, h5, h6, h7⟩
  · exact absurd (List.eq_nil_of_length_eq_zero h') hl
  · refine ⟨g, cap, h1, h2, (Array.getElem?_eq_some_iff.1 h3).1, fun i e he => ?_⟩
    obtain ⟨x1, x2⟩ := enC_at l i e he
    have y1 := h.cells (g := g) (by rw [h1]; rfl) _ _ x1
    have y2 := h.cells (g := g) (by rw [h1]; rfl) _ _ x2
    rw [add_none, Nat.zero_add] at y1 y2
    exact ⟨y1, y2⟩
theorem step_appE (w : World) {ops : Array Oper} {o : Oper} {a : Act} {K : Act → World → Prop} {Q : Exit → Act → World → Prop} {E : Prop} (hgd : o.guard = none) (s x : Operand)
    (ho : o.op = .call { callee := .builtin .append, args := #[s, x], argTypes := #[55, 55] }) (B : Nat) (v : Value) (l : List (ByteArray × ByteArray)) (hs : a.eval s = v) (hown : EnO w B v l)
    (b c : Nat) (e : ByteArray × ByteArray) (hx : a.eval x = .slice (some ⟨b, 0, none⟩) 1 c) (hnew : w.heap[b]? = some (.cells #[.string e.1, .string e.2] 58 (0, 0)))
    (hlen : l.length ≤ 4000000) (hB : B ≤ w.heap.size)
    (h : ∀ v' w', EnO w' B v' (l ++ [e]) → Below B w w' → w.grownBy w' v.ownBlock → K (a.put o.dst v') w') :
    if Region.wanted o (yielded ops a.tmps) = true then Oper.wp Tryz.prog o a w K Q else E := by
  have hw : Region.wanted o (yielded ops a.tmps) = true := by simp [Region.wanted, hgd]
  rw [if_pos hw]
  obtain ⟨i0, hi, hz0, hz1, hz2⟩ := info_parts infoEn
  obtain ⟨v', w', hr, h2, h3, _, h5⟩ := run_append_own_at (P := Tryz.prog) w B 55 o.type 58 i0 _ 2 32 Tryz.underlying55 hi hz0 hz1 hz2 rfl (by omega) v l.length (enC l) hown ⟨b, 0, none⟩ 1 c [.string e.1, .string e.2] rfl
    (by
      intro j u hu
      rw [add_none, cell_of_blk hnew]
      match j, hu with
      | 0, hu => simpa using hu
      | 1, hu => simpa using hu
      | j + 2, hu => simp at hu) (by simp [Value.oneCell']) (by unfold maxLen; omega) (by omega) hB
  unfold Oper.wp execOp
  simp only [ho, resolve, invoke, builtin, Sem.run_bind, Sem.run_pure, Result.andThen_ok, List.map_toArray, List.map_cons, List.map_nil, hs, hx, hr]
  refine h v' w' ?_ ⟨h3.os, h3.tape, h3.output, h3.size, fun k hk => h3.block k (by omega) (fun e => by have := (hown.lt k e.symm).1; omega)⟩ h3
  unfold EnO
  rw [List.length_append, enC_app]
  exact h2
/-- the entries of a vertex -/
def entL (id : Nat) (label : ByteArray) (ps : List Pr) : List (ByteArray × ByteArray) := (⟨#[76]⟩ ++ label, ⟨(fiveL id).toArray⟩) :: ps.map (fun p => (⟨#[80]⟩ ++ label ++ ⟨#[32]⟩ ++ p.key, ⟨(p.v.bytes ++ fiveL id).toArray⟩))
theorem entL_take {id : Nat} {label : ByteArray} {ps : List Pr} {j : Nat} {p : Pr} (h : ps[j]? = some p) : entL id label (ps.take (j + 1)) = entL id label (ps.take j) ++ [(⟨#[80]⟩ ++ label ++ ⟨#[32]⟩ ++ p.key, ⟨(p.v.bytes ++ fiveL id).toArray⟩)] := by
  unfold entL
  rw [List.take_add_one, h]
  simp
def EnPost (w : World) (l : List (ByteArray × ByteArray)) (e : Ending) (w' : World) : Prop := ∃ r, e = .returned r ∧ EnO w' w.heap.size r l ∧ Below w.heap.size w w'
set_option maxRecDepth 100000 in
set_option maxHeartbeats 2000000 in
theorem entries_any (id : Nat) (label : ByteArray) (pa : Option Addr) (pc : Nat) (ps : List Pr) (w : World) (hl : label.size ≤ 200) (hp : PsV w pa ps) (hn : ps.length ≤ 100000) (hk : ∀ p ∈ ps, p.key.size ≤ 200) (hc : checkR label ps [(id : Int)] = 0) :
    Calls Tryz.prog 16 #[.agg #[.int .i64 (id : Int), .string label, .slice pa ps.length pc]] w (EnPost w (entL id label ps)) := by
  have hck := checkR_ok hc
  have HR := Lib.hid hck.2.2
  have hid : id < 1099511627776 := by
    have := hck.1
    simp [idB] at this
    omega
  have HF := Lib.hid hid
  have HP := Lib.hid hp
  have HK := Lib.hid hk
  have HC := Lib.hid hc
  have hid' := hid
  clear hp hk hc hck hid
  go_enter Tryz.func16, Tryz.ntmps16
  go_wp2_with fail
  obtain ⟨W1, hW1⟩ : ∃ W1, W1 = w.alloc (.cells #[.int .i64 (id : Int), .string label, .slice pa ps.length pc] 30) := ⟨_, rfl⟩
  have z1 : W1.heap.size = w.heap.size + 1 := by rw [hW1, size_alloc]
  have e1 : W1.heap[w.heap.size]? = some (.cells #[.int .i64 (id : Int), .string label, .slice pa ps.length pc] 30) := by rw [hW1]; exact heap_new w _
  have hB1 : Below w.heap.size w W1 := by rw [hW1]; exact below_box w _
  rw [← hW1]
  rw [← z1]
  clear hW1
  have IV : IsV (W1.alloc (.cells #[.int .i64 (id : Int)] 3)) (some ⟨W1.heap.size, 0, none⟩) [(id : Int)] := ids_new (heap_new W1 _) (fun x hx => by rw [List.mem_singleton.1 hx]; constructor <;> omega)
  refine (check_any label pa _ pc 1 ps [(id : Int)] _ (by unfold maxLen; omega) (HP.out.below (below_al hB1 _)) IV hn (by simp)).mono ?_
  rintro e W ⟨rfl, hb2⟩
  rw [HC.out]
  have hB2 := below_then (below_al (Below.refl W1.heap.size W1) _) hb2
  have e2 := (hB2.block w.heap.size (by omega)).trans e1
  have HB := Lib.hid (below_then hB1 hB2)
  have hVW := (Array.getElem?_eq_some_iff.1 e2).1
  clear e1 hb2 IV hB2 hB1
  have ks : ∀ w', Below W.heap.size W w' → (fun w' => Below W.heap.size W w' ∧ w'.cell? ⟨w.heap.size, 0, none⟩ = some (.int .i64 (id : Int)) ∧ w'.cell? ⟨w.heap.size, 1, none⟩ = some (.string label)) w' := fun w' hb => by
    have e := (hb.block _ hVW).trans e2
    exact ⟨hb, by rw [cell_of_blk e]; rfl, by rw [cell_of_blk e]; rfl⟩
  have K3 := Lib.hid ks
  have kv : ∀ w' : World, w'.heap[w.heap.size]? = W.heap[w.heap.size]? → w'.cell? ⟨w.heap.size, 0, none⟩ = some (.int .i64 (id : Int)) ∧ w'.cell? ⟨w.heap.size, 1, none⟩ = some (.string label) ∧ w'.cell? ⟨w.heap.size, 2, none⟩ = some (.slice pa ps.length pc) := fun w' h => by
    have e := h.trans e2
    exact ⟨by rw [cell_of_blk e]; rfl, by rw [cell_of_blk e]; rfl, by rw [cell_of_blk e]; rfl⟩
  have KV := Lib.hid kv
  clear ks kv e2
  go_wp2_with fail
  refine wp_region_held_drew (S := (fun w' => Below W.heap.size W w' ∧ w'.cell? ⟨w.heap.size, 0, none⟩ = some (.int .i64 (id : Int)) ∧ w'.cell? ⟨w.heap.size, 1, none⟩ = some (.string label))) (by kernel_rfl) (K3.out _ (Below.refl _ _).drew) (fun hHeld => ?_)
  refine wpAnyH_take (i := 0) (oi := ⟨some 17, _, _, _, _, _⟩) (v := ?vvq1) rfl (by kernel_rfl) (by kernel_rfl) (by kernel_rfl) (fun _ _ _ h => h) (Or.inl ⟨by rfl, ?yyq1⟩) hHeld ?rrq1
  case yyq1 => (intro wq hSw; (try dsimp only at hSw); go_simp; first | done | with_reducible rfl)
  simp only [Act.put, List.setIfInBounds_toArray, List.set_cons_zero, List.set_cons_succ]
  refine wpAnyH_take (i := 1) (oi := ⟨some 18, _, _, _, _, _⟩) (v := ?vvq2) rfl (by kernel_rfl) (by kernel_rfl) (by kernel_rfl) (fun _ _ _ h => h) (Or.inl ⟨by rfl, ?yyq2⟩) hHeld ?rrq2
  case yyq2 => (intro wq hSw; (try dsimp only at hSw); go_simp; first | done | with_reducible rfl)
  simp only [Act.put, List.setIfInBounds_toArray, List.set_cons_zero, List.set_cons_succ]
  refine wpAnyH_take (i := 3) (oi := ⟨some 20, _, _, _, _, _⟩) (v := ?vvq3) rfl (by kernel_rfl) (by kernel_rfl) (by kernel_rfl) (fun _ _ _ h => h) (Or.inl ⟨by rfl, ?yyq3⟩) hHeld ?rrq3
  case yyq3 => (intro wq hSw; (try dsimp only at hSw); go_simp; first | done | with_reducible rfl)
  simp only [Act.put, List.setIfInBounds_toArray, List.set_cons_zero, List.set_cons_succ]
  refine wpAnyH_take (i := 4) (oi := ⟨some 21, _, _, _, _, _⟩) (v := ?vvq4) rfl (by kernel_rfl) (by kernel_rfl) (by kernel_rfl) (fun _ _ _ h => h) (Or.inl ⟨by rfl, ?yyq4⟩) hHeld ?rrq4
  case yyq4 => (intro wq hSw; (try dsimp only at hSw); go_simp; first | done | with_reducible rfl)
  simp only [Act.put, List.setIfInBounds_toArray, List.set_cons_zero, List.set_cons_succ]
  refine wpAnyH_ready (rs := [2]) (by kernel_rfl) (by simp) ?_
  refine AllReadyH.cons (o := ⟨some 19, _, _, _, _, _⟩) rfl (fun K hK => ?_) AllReadyH.nil
  go_simp
  refine (labelIndex_any label _ (by omega)).mono ?_
  rintro e wl ⟨rfl, rfl⟩
  go_wp2_with fail
  refine hK.out _ _ ?ssq5 (fun hHeld => ?_)
  case ssq5 => (exact hHeld)
  clear hK K
  try simp only [Act.put, List.setIfInBounds_toArray, List.set_cons_zero, List.set_cons_succ]
  refine wpAnyH_ready (rs := [5]) (by kernel_rfl) (by simp) ?_
  refine AllReadyH.cons (o := ⟨some 22, _, _, _, _, _⟩) rfl (fun K hK => ?_) AllReadyH.nil
  go_simp
  refine (five_any id _ HF.out).mono ?_
  rintro e w3 ⟨rfl, hb3'⟩
  have hB3' := hHeld.1
  go_wp2_with fail
  refine hK.out _ _ ?ssq6 (fun hHeld => ?_)
  case ssq6 => (exact K3.out _ (below_then hHeld.1 hb3'))
  clear hK K
  try simp only [Act.put, List.setIfInBounds_toArray, List.set_cons_zero, List.set_cons_succ]
  refine wpAnyH_take (i := 6) (oi := ⟨some 23, _, _, _, _, _⟩) (v := ?vvq7) rfl (by kernel_rfl) (by kernel_rfl) (by kernel_rfl) (fun _ _ _ h => h) (Or.inl ⟨by rfl, ?yyq7⟩) hHeld ?rrq7
  case yyq7 => (intro wq hSw; (try dsimp only at hSw); go_simp; first | done | with_reducible rfl)
  simp only [Act.put, List.setIfInBounds_toArray, List.set_cons_zero, List.set_cons_succ]
  refine wpAnyH_ready (rs := [7]) (by kernel_rfl) (by simp) ?_
  refine AllReadyH.cons (o := ⟨some 24, _, _, _, _, _⟩) rfl (fun K hK => ?_) AllReadyH.nil
  go_simp
  refine hK.out _ _ ?ssq8 (fun hHeld => ?_)
  case ssq8 => (exact K3.out _ (below_al hHeld.1 _))
  clear hK K
  try simp only [Act.put, List.setIfInBounds_toArray, List.set_cons_zero, List.set_cons_succ]
  refine wpAnyH_take (i := 8) (oi := ⟨some 3, _, _, _, _, _⟩) (v := ?vvq9) rfl (by kernel_rfl) (by kernel_rfl) (by kernel_rfl) (fun _ _ _ h => h) (Or.inl ⟨by rfl, ?yyq9⟩) hHeld ?rrq9
  case yyq9 => (intro wq hSw; (try dsimp only at hSw); go_simp; first | done | with_reducible rfl)
  simp only [Act.put, List.setIfInBounds_toArray, List.set_cons_zero, List.set_cons_succ]
  refine wpAnyH_done (by kernel_rfl) ?_ _
  have hB3 := hHeld.1
  clear hHeld
  have c2 := (KV.out _ (hB3.block _ hVW)).2.2
  have hz3 := hB3.size
  simp at hz3
  have hzw3 : W.heap.size ≤ w3.heap.size := (below_then hB3' hb3').size
  go_wp2_with fail
  have ST : Hid (EnO (w3.alloc (.cells #[.string (⟨#[76]⟩ ++ label), .string ⟨(fiveL id).toArray⟩] 58)) W.heap.size (.slice (some ⟨w3.heap.size, 0, none⟩) 1 1) (entL id label (ps.take 0))) := Lib.hid (EnO.one (⟨#[76]⟩ ++ label, ⟨(fiveL id).toArray⟩) hzw3)
  clear c2 hz3
  go_loopw [3, 28] (fun b i wr => ∃ j : Nat, j ≤ ps.length ∧ i = .int .i64 j ∧ EnO wr W.heap.size b (entL id label (ps.take j)) ∧ Below W.heap.size W wr) (fun _ i _ => ps.length - (intOf i).toNat)
  case atStart => exact ⟨0, by omega, rfl, ST.out, hB3⟩
  case round =>
    obtain ⟨j, hj, rfl, hO, hbel⟩ := hrel
    have hz := hbel.size
    by_cases hlt : j < ps.length
    · obtain ⟨p, hp⟩ : ∃ p, ps[j]? = some p := ⟨_, List.getElem?_eq_getElem hlt⟩
      obtain ⟨b, off, rfl, hat⟩ := (HP.out.below (below_then HB.out hbel)) (fun e => by rw [e] at hlt; simp at hlt)
      obtain ⟨q0, q1, q2, q3⟩ := hat.cells j p hp
      have hok := hat.ok p (List.mem_of_getElem? hp)
      have hlb := hat.lt
      have HTK := Lib.hid (entL_take (id := id) (label := label) hp)
      have HV := Lib.hid hok.v
      have RV := Lib.hid (right_mem HR.out (List.mem_of_getElem? hp)).1
      have HPK := Lib.hid (show p.key.size ≤ 1000000 by have := HK.out p (List.mem_of_getElem? hp); omega)
      have HLN := Lib.hid (show (entL id label (ps.take j)).length ≤ 200000 by unfold entL; simp; omega)
      have hbl := bytes_len RV.out
      have hadd : ∀ w, (Op.stringOp .add ⟨p.v.bytes.toArray⟩ ⟨(fiveL id).toArray⟩).run Tryz.prog w = .ok (.string ⟨(p.v.bytes ++ fiveL id).toArray⟩) w := fun w => run_string_add_lists w p.v.bytes (fiveL id) (by omega) (by simp [fiveL])
      clear hat hok hp hbl
      go_wp2_with fail
      obtain ⟨WX, hWX⟩ : ∃ WX, WX = wr.alloc (.cells #[.string p.key, .int .i64 p.v.kind, .int .i64 p.v.n, .string p.v.s] 62) := ⟨_, rfl⟩
      rw [← hWX]
      have eW : WX.heap[wr.heap.size]? = some (.cells #[.string p.key, .int .i64 p.v.kind, .int .i64 p.v.n, .string p.v.s] 62) := by rw [hWX]; exact heap_new wr _
      have hWr : Below wr.heap.size wr WX := by rw [hWX]; exact below_box wr _
      have hzW : WX.heap.size = wr.heap.size + 1 := by rw [hWX, size_alloc]
      have hOW := hO.below hWr
      clear hWX q0 q1 q2 q3
      refine (vbytes_any p.v _ HV.out RV.out).mono ?_
      rintro e w2 ⟨r2, rfl, o2, hb2⟩
      obtain ⟨g2, c2, rfl, hg2, at2⟩ := o2.at' (bytes_ne p.v)
      have e2 := (hb2.block _ (by omega)).trans eW
      have HNX : Hid (some wr.heap.size ≠ u3.ownBlock) := Lib.hid (fun e => by have := (hO.lt _ e.symm).2; omega)
      have HNG : Hid (some g2 ≠ u3.ownBlock) := Lib.hid (fun e => by have := (hO.lt _ e.symm).2; omega)
      have HNV : Hid (some w.heap.size ≠ u3.ownBlock) := Lib.hid (fun e => by have := (hO.lt _ e.symm).1; omega)
      have hO2 := hOW.below hb2
      have hXl : wr.heap.size < w2.heap.size := (Array.getElem?_eq_some_iff.1 e2).1
      have hVl : w.heap.size < w2.heap.size := by omega
      have hGl := at2.lt
      have cvf : ∀ w' : World, w'.heap[g2]? = w2.heap[g2]? → (Op.convert 102 9 (.tmp 44)) = (Op.convert 102 9 (.tmp 44)) ∧ BsAt w' g2 0 p.v.bytes := fun w' h => ⟨rfl, at2.of_block h⟩
      have CV := Lib.hid (fun (w' : World) (h : w'.heap[g2]? = w2.heap[g2]?) => run_convert_bytes_back (P := Tryz.prog) w' 102 9 5 ⟨g2, 0, none⟩ c2 p.v.bytes Tryz.underlying102 Tryz.underlying5 Tryz.underlying9 (at2.of_block h).conv)
      clear cvf
      have hV2 : w2.heap[w.heap.size]? = W.heap[w.heap.size]? := (hb2.block _ (by omega)).trans ((hWr.block _ (by omega)).trans (hbel.block _ hVW))
      have ks : ∀ w' : World, w'.heap[g2]? = w2.heap[g2]? → w'.heap[wr.heap.size]? = w2.heap[wr.heap.size]? → w'.heap[w.heap.size]? = w2.heap[w.heap.size]? → (fun w' => w'.heap[g2]? = w2.heap[g2]? ∧ w'.cell? ⟨w.heap.size, 0, none⟩ = some (.int .i64 (id : Int)) ∧ w'.cell? ⟨w.heap.size, 1, none⟩ = some (.string label) ∧ w'.cell? ⟨wr.heap.size, 0, none⟩ = some (.string p.key)) w' := fun w' hg hx hv => by
        have kk := KV.out w' (hv.trans hV2)
        exact ⟨hg, kk.1, kk.2.1, by rw [cell_of_blk (hx.trans e2)]; rfl⟩
      have K8 := Lib.hid ks
      have HB2 := Lib.hid ((hbel.trans (hWr.mono hz)).trans (hb2.mono (by omega)))
      clear ks e2 o2 at2 hOW hb2 hWr eW hO hV2
      go_wp2_with fail
      refine wp_region_held_drew (S := (fun w' => w'.heap[g2]? = w2.heap[g2]? ∧ w'.cell? ⟨w.heap.size, 0, none⟩ = some (.int .i64 (id : Int)) ∧ w'.cell? ⟨w.heap.size, 1, none⟩ = some (.string label) ∧ w'.cell? ⟨wr.heap.size, 0, none⟩ = some (.string p.key))) (by kernel_rfl) (K8.out _ rfl rfl rfl) (fun hHeld => ?_)
      refine wpAnyH_take (i := 0) (oi := ⟨some 38, _, _, _, _, _⟩) (v := ?vvq10) rfl (by kernel_rfl) (by kernel_rfl) (by kernel_rfl) (fun _ _ _ h => h) (Or.inl ⟨by rfl, ?yyq10⟩) hHeld ?rrq10
      case yyq10 => (intro wq hSw; (try dsimp only at hSw); go_simp; first | done | with_reducible rfl)
      simp only [Act.put, List.setIfInBounds_toArray, List.set_cons_zero, List.set_cons_succ]
      refine wpAnyH_take (i := 1) (oi := ⟨some 39, _, _, _, _, _⟩) (v := ?vvq11) rfl (by kernel_rfl) (by kernel_rfl) (by kernel_rfl) (fun _ _ _ h => h) (Or.inl ⟨by rfl, ?yyq11⟩) hHeld ?rrq11
      case yyq11 => (intro wq hSw; (try dsimp only at hSw); go_simp; first | done | with_reducible rfl)
      simp only [Act.put, List.setIfInBounds_toArray, List.set_cons_zero, List.set_cons_succ]
      refine wpAnyH_take (i := 2) (oi := ⟨some 40, _, _, _, _, _⟩) (v := ?vvq12) rfl (by kernel_rfl) (by kernel_rfl) (by kernel_rfl) (fun _ _ _ h => h) (Or.inl ⟨by rfl, ?yyq12⟩) hHeld ?rrq12
      case yyq12 => (intro wq hSw; (try dsimp only at hSw); go_simp; first | done | with_reducible rfl)
      simp only [Act.put, List.setIfInBounds_toArray, List.set_cons_zero, List.set_cons_succ]
      refine wpAnyH_take (i := 3) (oi := ⟨some 41, _, _, _, _, _⟩) (v := ?vvq13) rfl (by kernel_rfl) (by kernel_rfl) (by kernel_rfl) (fun _ _ _ h => h) (Or.inl ⟨by rfl, ?yyq13⟩) hHeld ?rrq13
      case yyq13 => (intro wq hSw; (try dsimp only at hSw); go_simp; first | done | with_reducible rfl)
      simp only [Act.put, List.setIfInBounds_toArray, List.set_cons_zero, List.set_cons_succ]
      refine wpAnyH_take (i := 4) (oi := ⟨some 42, _, _, _, _, _⟩) (v := ?vvq14) rfl (by kernel_rfl) (by kernel_rfl) (by kernel_rfl) (fun _ _ _ h => h) (Or.inl ⟨by rfl, ?yyq14⟩) hHeld ?rrq14
      case yyq14 => (intro wq hSw; (try dsimp only at hSw); go_simp; first | done | with_reducible rfl)
      simp only [Act.put, List.setIfInBounds_toArray, List.set_cons_zero, List.set_cons_succ]
      refine wpAnyH_take (i := 6) (oi := ⟨some 44, _, _, _, _, _⟩) (v := ?vvq15) rfl (by kernel_rfl) (by kernel_rfl) (by kernel_rfl) (fun _ _ _ h => h) (Or.inl ⟨by rfl, ?yyq15⟩) hHeld ?rrq15
      case yyq15 => (intro wq hSw; (try dsimp only at hSw); go_simp; first | done | with_reducible rfl)
      simp only [Act.put, List.setIfInBounds_toArray, List.set_cons_zero, List.set_cons_succ]
      refine wpAnyH_take (i := 7) (oi := ⟨some 45, _, _, _, _, _⟩) (v := ?vvq16) rfl (by kernel_rfl) (by kernel_rfl) (by kernel_rfl) (fun _ _ _ h => h) (Or.inl ⟨by rfl, ?yyq16⟩) hHeld ?rrq16
      case yyq16 => (intro wq hSw; have cv := CV.out wq hSw.1; (try dsimp only at hSw); go_simp; first | done | with_reducible rfl)
      simp only [Act.put, List.setIfInBounds_toArray, List.set_cons_zero, List.set_cons_succ]
      refine wpAnyH_take (i := 8) (oi := ⟨some 46, _, _, _, _, _⟩) (v := ?vvq17) rfl (by kernel_rfl) (by kernel_rfl) (by kernel_rfl) (fun _ _ _ h => h) (Or.inl ⟨by rfl, ?yyq17⟩) hHeld ?rrq17
      case yyq17 => (intro wq hSw; (try dsimp only at hSw); go_simp; first | done | with_reducible rfl)
      simp only [Act.put, List.setIfInBounds_toArray, List.set_cons_zero, List.set_cons_succ]
      refine wpAnyH_take (i := 9) (oi := ⟨some 47, _, _, _, _, _⟩) (v := ?vvq18) rfl (by kernel_rfl) (by kernel_rfl) (by kernel_rfl) (fun _ _ _ h => h) (Or.inl ⟨by rfl, ?yyq18⟩) hHeld ?rrq18
      case yyq18 => (intro wq hSw; (try dsimp only at hSw); go_simp; first | done | with_reducible rfl)
      simp only [Act.put, List.setIfInBounds_toArray, List.set_cons_zero, List.set_cons_succ]
      refine wpAnyH_ready (rs := [5]) (by kernel_rfl) (by simp) ?_
      refine AllReadyH.cons (o := ⟨some 43, _, _, _, _, _⟩) rfl (fun K hK => ?_) AllReadyH.nil
      go_simp
      refine (valueIndex_any label p.key _ (by omega) HPK.out).mono ?_
      rintro e wl ⟨rfl, rfl⟩
      go_wp2_with fail
      refine hK.out _ _ ?ssq19 (fun hHeld => ?_)
      case ssq19 => (exact hHeld)
      clear hK K
      try simp only [Act.put, List.setIfInBounds_toArray, List.set_cons_zero, List.set_cons_succ]
      refine wpAnyH_ready (rs := [10]) (by kernel_rfl) (by simp) ?_
      refine AllReadyH.cons (o := ⟨some 48, _, _, _, _, _⟩) rfl (fun K hK => ?_) AllReadyH.nil
      go_simp
      refine (five_any id _ HF.out).mono ?_
      rintro e w3 ⟨rfl, hb3⟩
      have z3 := hb3.size
      simp at z3
      have G3 : w3.heap[g2]? = w2.heap[g2]? := hb3.block g2 hGl
      have X3 : w3.heap[wr.heap.size]? = w2.heap[wr.heap.size]? := hb3.block _ hXl
      have V3 : w3.heap[w.heap.size]? = w2.heap[w.heap.size]? := hb3.block _ hVl
      have O3 := hO2.drew.below hb3
      have B3 := Lib.hid hb3
      clear hb3
      go_wp2_with fail
      refine hK.out _ _ ?ssq20 (fun hHeld => ?_)
      case ssq20 => (exact K8.out _ G3 X3 V3)
      clear hK K
      try simp only [Act.put, List.setIfInBounds_toArray, List.set_cons_zero, List.set_cons_succ]
      refine wpAnyH_take (i := 11) (oi := ⟨some 49, _, _, _, _, _⟩) (v := ?vvq21) rfl (by kernel_rfl) (by kernel_rfl) (by kernel_rfl) (fun _ _ _ h => h) (Or.inl ⟨by rfl, ?yyq21⟩) hHeld ?rrq21
      case yyq21 => (intro wq hSw; (try dsimp only at hSw); go_simp; first | done | with_reducible rfl)
      simp only [Act.put, List.setIfInBounds_toArray, List.set_cons_zero, List.set_cons_succ]
      refine wpAnyH_take (i := 12) (oi := ⟨some 50, _, _, _, _, _⟩) (v := ?vvq22) rfl (by kernel_rfl) (by kernel_rfl) (by kernel_rfl) (fun _ _ _ h => h) (Or.inl ⟨by rfl, ?yyq22⟩) hHeld ?rrq22
      case yyq22 => (intro wq hSw; (try dsimp only at hSw); go_simp; first | done | with_reducible rfl)
      simp only [Act.put, List.setIfInBounds_toArray, List.set_cons_zero, List.set_cons_succ]
      refine wpAnyH_ready (rs := [13]) (by kernel_rfl) (by simp) ?_
      refine AllReadyH.cons (o := ⟨some 51, _, _, _, _, _⟩) rfl (fun K hK => ?_) AllReadyH.nil
      go_simp
      refine hK.out _ _ ?ssq23 (fun hHeld => ?_)
      case ssq23 => (exact K8.out _ ((Below.heap_alloc _ _ _ (by omega)).trans G3) ((Below.heap_alloc _ _ _ (by omega)).trans X3) ((Below.heap_alloc _ _ _ (by omega)).trans V3))
      clear hK K
      try simp only [Act.put, List.setIfInBounds_toArray, List.set_cons_zero, List.set_cons_succ]
      refine wpAnyH_ready (rs := [14]) (by kernel_rfl) (by simp) ?_
      refine AllReadyH.cons (o := ⟨some 52, _, _, _, _, _⟩) rfl (fun K hK => ?_) AllReadyH.nil
      refine step_appE _ rfl (.tmp 38) (.tmp 51) rfl W.heap.size _ _ rfl (O3.alloc _) w3.heap.size 1 (⟨#[80]⟩ ++ label ++ ⟨#[32]⟩ ++ p.key, ⟨(p.v.bytes ++ fiveL id).toArray⟩) rfl (heap_new w3 _) (by have := HLN.out; omega) (by simp; omega) ?_
      intro v4 w4 o4 b4 g4
      have G4 : w4.heap[g2]? = w2.heap[g2]? := (g4.block _ (by simp; omega) HNG.out).trans ((Below.heap_alloc _ _ _ (by omega)).trans G3)
      have X4 : w4.heap[wr.heap.size]? = w2.heap[wr.heap.size]? := (g4.block _ (by simp; omega) HNX.out).trans ((Below.heap_alloc _ _ _ (by omega)).trans X3)
      have V4 : w4.heap[w.heap.size]? = w2.heap[w.heap.size]? := (g4.block _ (by simp; omega) HNV.out).trans ((Below.heap_alloc _ _ _ (by omega)).trans V3)
      have B4 := Lib.hid b4
      clear g4 b4
      refine hK.out _ _ ?ssq24 (fun hHeld => ?_)
      case ssq24 => (exact K8.out _ G4 X4 V4)
      clear hK K
      try simp only [Act.put, List.setIfInBounds_toArray, List.set_cons_zero, List.set_cons_succ]
      refine wpAnyH_take (i := 15) (oi := ⟨some 3, _, _, _, _, _⟩) (v := ?vvq25) rfl (by kernel_rfl) (by kernel_rfl) (by kernel_rfl) (fun _ _ _ h => h) (Or.inl ⟨by rfl, ?yyq25⟩) hHeld ?rrq25
      case yyq25 => (intro wq hSw; (try dsimp only at hSw); go_simp; first | done | with_reducible rfl)
      simp only [Act.put, List.setIfInBounds_toArray, List.set_cons_zero, List.set_cons_succ]
      refine wpAnyH_done (by kernel_rfl) ?_ _
      clear hHeld
      go_wp2_with fail
      refine ⟨⟨j + 1, by omega, by go_num, ?_, ((HB2.out.drew.trans (B3.out.mono (by simp; omega))).alloc (by omega) _).trans B4.out⟩, by simp [intOf]; omega⟩
      rw [HTK.out]
      exact o4
    · obtain rfl : j = ps.length := by omega
      go_wp2_with fail
      go_ret
      refine ⟨_, rfl, ?_, below_then HB.out hbel⟩
      rw [List.take_length] at hO
      exact hO.mono (by omega)
end Go.Proofs.YtkbmipmegljidaaGreat
namespace Go.Proofs.YtkbmipmegljidaaGreat
open Go.RowKit Go.Maps

def Pr.eqB (a b : Pr) : Bool := a.key.toList == b.key.toList && (a.v.kind == b.v.kind && (a.v.n == b.v.n && a.v.s.toList == b.v.s.toList))
end Go.Proofs.YtkbmipmegljidaaGreat
namespace Go.Proofs.YtkbmipmegljidaaGreat
open Go.RowKit Go.Maps

end Go.Proofs.YtkbmipmegljidaaGreat
namespace Go.Proofs.YtkbmipmegljidaaGreat
open Go.RowKit Go.Maps

theorem ba_of_list {a b : ByteArray} (h : a.data.toList = b.data.toList) : a = b := by
  apply ByteArray.ext
  exact Array.ext' h
theorem ba_len (a : ByteArray) : a.data.toList.length = a.size := rfl
theorem five_len (a : Nat) : (fiveL a).length = 5 := rfl
end Go.Proofs.YtkbmipmegljidaaGreat
namespace Go.Proofs.YtkbmipmegljidaaGreat
open Go.RowKit Go.Maps

end Go.Proofs.YtkbmipmegljidaaGreat
namespace Go.Proofs.YtkbmipmegljidaaGreat
open Go.RowKit Go.Maps

end Go.Proofs.YtkbmipmegljidaaGreat
namespace Go.Proofs.YtkbmipmegljidaaGreat
open Go.RowKit Go.Maps

end Go.Proofs.YtkbmipmegljidaaGreat
