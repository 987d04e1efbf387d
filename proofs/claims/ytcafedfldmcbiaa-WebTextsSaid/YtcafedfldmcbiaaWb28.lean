/- cobwebref21.Body, cobwebref21.Entries; web.Entries of what may not be. Conditions: each contract's own premises. -/
import Derived.Test.YtcafedfldmcbiaaWb27
namespace Go.Proofs.Ytcafedfldmcbiaa
open Go.RowKit Go.Maps Go.Lib

/-- 'string(b)' in a region, b's cells known -/
theorem step_toStr (w : World) {ops : Array Oper} {o : Oper} {a : Act} {K : Act → World → Prop} {Q : Exit → Act → World → Prop} {E : Prop} (hgd : o.guard = none) (x : Operand) (hop : o.op = Op.convert 46 9 x) (ad : Addr) (n cap : Nat) (l : List UInt8) (hx : a.eval x = .slice (some ad) n cap) (hn : n = l.length)
    (hc : ∀ j (hj : j < l.length), w.cell? (ad.add j) = some (.int .u8 (l[j].toNat : Int))) (hK : K (a.put o.dst (.string ⟨l.toArray⟩)) w) :
    if Region.wanted o (yielded ops a.tmps) = true then Oper.wp Try.prog o a w K Q else E := by
  have hw : Region.wanted o (yielded ops a.tmps) = true := by simp [Region.wanted, hgd]
  rw [if_pos hw]
  subst hn
  have hrun := run_convert_bytes_back (P := Try.prog) w 46 9 5 ad cap l Try.underlying46 Try.underlying5 Try.underlying9 hc
  unfold Oper.wp
  simp [execOp, hop, hx, hrun, Result.andThen]
  exact hK
set_option maxRecDepth 100000 in
set_option maxHeartbeats 2000000 in
theorem r21body_any (label : ByteArray) (pa : Option Addr) (pc : Nat) (ps : List Pr) (w : World) (hl : label.size ≤ 200) (hp : PsV w pa ps) (hr : rightPs ps = true) (hk : ∀ p ∈ ps, p.key.size ≤ 200) :
    Calls Try.prog 30 #[.string label, .slice pa ps.length pc] w fun e w' => e = .returned (.string ⟨(textL label ps).toArray⟩) ∧ Below w.heap.size w w' := by
  have hal := all_len hr hk
  have h1 : ∀ w, (Op.stringOp .add ⟨#[UInt8.ofNat label.size]⟩ label).run Try.prog w = .ok (.string ⟨(UInt8.ofNat label.size :: label.data.toList).toArray⟩) w := fun w => run_string_add_lists w [UInt8.ofNat label.size] label.data.toList (by simp) (by simp; omega)
  have h2 : ∀ w, (Op.stringOp .add ⟨(UInt8.ofNat label.size :: label.data.toList).toArray⟩ ⟨(Pr.all ps).toArray⟩).run Try.prog w = .ok (.string ⟨(textL label ps).toArray⟩) w := fun w => run_string_add_lists w (UInt8.ofNat label.size :: label.data.toList) (Pr.all ps) (by simp; omega) (by omega)
  have HP := Lib.hid hp
  have HR := Lib.hid hr
  have HK := Lib.hid hk
  have hw8 : IntKind.u8.wrap (label.size : Int) = label.size := by simp [IntKind.wrap, IntKind.bits, IntKind.signed]; omega
  have NEWAT : Hid (∀ w : World, BsAt (w.alloc (.cells #[.int .u8 (label.size : Int)] 5)) w.heap.size 0 [UInt8.ofNat label.size]) := Lib.hid (fun w => ⟨fun i x hx => by
    have e := heap_new w (.cells #[.int .u8 (label.size : Int)] 5)
    match i, hx with
    | 0, hx =>
      simp at hx
      subst hx
      rw [cell_of_blk e]
      unfold bv
      simp
      omega
    | i + 1, hx => simp at hx, by simp⟩)
  clear hp hr hk hal
  go_enter Try.func30, Try.ntmps30
  go_wp2_with fail
  refine wp_region_held_drew (S := (fun w' => Below w.heap.size w w')) (by kernel_rfl) ((Below.refl _ _).drew) (fun hHeld => ?_)
  refine wpAnyH_take (i := 0) (oi := ⟨some 5, _, _, _, _, _⟩) (v := ?vvb1) rfl (by kernel_rfl) (by kernel_rfl) (by kernel_rfl) (fun _ _ _ h => h) (Or.inl ⟨by rfl, ?yyb1⟩) hHeld ?rrb1
  case yyb1 => (intro wq hSw; (try dsimp only at hSw); go_simp; first | done | with_reducible rfl)
  simp only [Act.put, List.setIfInBounds_toArray, List.set_cons_zero, List.set_cons_succ]
  refine wpAnyH_take (i := 1) (oi := ⟨some 6, _, _, _, _, _⟩) (v := ?vvb2) rfl (by kernel_rfl) (by kernel_rfl) (by kernel_rfl) (fun _ _ _ h => h) (Or.inl ⟨by rfl, ?yyb2⟩) hHeld ?rrb2
  case yyb2 => (intro wq hSw; (try dsimp only at hSw); go_simp; first | done | with_reducible rfl)
  simp only [Act.put, List.setIfInBounds_toArray, List.set_cons_zero, List.set_cons_succ]
  refine wpAnyH_take (i := 2) (oi := ⟨some 7, _, _, _, _, _⟩) (v := ?vvb3) rfl (by kernel_rfl) (by kernel_rfl) (by kernel_rfl) (fun _ _ _ h => h) (Or.inl ⟨by rfl, ?yyb3⟩) hHeld ?rrb3
  case yyb3 => (intro wq hSw; (try dsimp only at hSw); go_simp; first | done | with_reducible rfl)
  simp only [Act.put, List.setIfInBounds_toArray, List.set_cons_zero, List.set_cons_succ]
  refine wpAnyH_take (i := 5) (oi := ⟨some 10, _, _, _, _, _⟩) (v := ?vvb4) rfl (by kernel_rfl) (by kernel_rfl) (by kernel_rfl) (fun _ _ _ h => h) (Or.inl ⟨by rfl, ?yyb4⟩) hHeld ?rrb4
  case yyb4 => (intro wq hSw; (try dsimp only at hSw); go_simp; first | done | with_reducible rfl)
  simp only [Act.put, List.setIfInBounds_toArray, List.set_cons_zero, List.set_cons_succ]
  refine wpAnyH_take (i := 7) (oi := ⟨some 12, _, _, _, _, _⟩) (v := ?vvb5) rfl (by kernel_rfl) (by kernel_rfl) (by kernel_rfl) (fun _ _ _ h => h) (Or.inl ⟨by rfl, ?yyb5⟩) hHeld ?rrb5
  case yyb5 => (intro wq hSw; (try dsimp only at hSw); go_simp; first | done | with_reducible rfl)
  simp only [Act.put, List.setIfInBounds_toArray, List.set_cons_zero, List.set_cons_succ]
  refine wpAnyH_ready (rs := [3, 8]) (by kernel_rfl) (by simp) ?_
  refine AllReadyH.cons (o := ⟨some 8, _, _, _, _, _⟩) rfl (fun K hK => ?_) (AllReadyH.cons (o := ⟨some 13, _, _, _, _, _⟩) rfl (fun K hK => ?_) AllReadyH.nil)
  · go_simp
    have ATA := Lib.hid (NEWAT.out w.drew)
    refine hK.out _ _ ?ssb6 (fun hHeld => ?_)
    case ssb6 => (exact below_al hHeld _)
    clear hK K
    try simp only [Act.put, List.setIfInBounds_toArray, List.set_cons_zero, List.set_cons_succ]
    refine wpAnyH_ready (rs := [4, 8]) (by kernel_rfl) (by simp) ?_
    refine AllReadyH.cons (o := ⟨some 9, _, _, _, _, _⟩) rfl (fun K hK => ?_) (AllReadyH.cons (o := ⟨some 13, _, _, _, _, _⟩) rfl (fun K hK => ?_) AllReadyH.nil)
    · refine step_toStr _ rfl (.tmp 8) rfl _ _ _ [UInt8.ofNat label.size] rfl rfl ATA.out.conv ?_
      refine hK.out _ _ ?ssb7 (fun hHeld => ?_)
      case ssb7 => (exact hHeld)
      clear hK K
      try simp only [Act.put, List.setIfInBounds_toArray, List.set_cons_zero, List.set_cons_succ]
      refine wpAnyH_take (i := 6) (oi := ⟨some 11, _, _, _, _, _⟩) (v := ?vvb8) rfl (by kernel_rfl) (by kernel_rfl) (by kernel_rfl) (fun _ _ _ h => h) (Or.inl ⟨by rfl, ?yyb8⟩) hHeld ?rrb8
      case yyb8 => (intro wq hSw; (try dsimp only at hSw); go_simp; first | done | with_reducible rfl)
      simp only [Act.put, List.setIfInBounds_toArray, List.set_cons_zero, List.set_cons_succ]
      refine wpAnyH_ready (rs := [8]) (by kernel_rfl) (by simp) ?_
      refine AllReadyH.cons (o := ⟨some 13, _, _, _, _, _⟩) rfl (fun K hK => ?_) AllReadyH.nil
      go_simp
      refine (r3bytes_any pa pc ps _ (HP.out.below hHeld) HR.out HK.out).mono ?_
      rintro e wb1 ⟨rb, rfl, ob, hbb⟩
      have hBe := below_then hHeld hbb
      obtain ⟨gb, cb, rfl, _, atb⟩ := ob.at' (all_ne ps)
      have ATB := Lib.hid atb
      clear ob atb
      go_wp2_with fail
      refine hK.out _ _ ?ssb9 (fun hHeld => ?_)
      case ssb9 => (exact hBe)
      clear hK K
      try simp only [Act.put, List.setIfInBounds_toArray, List.set_cons_zero, List.set_cons_succ]
      refine wpAnyH_ready (rs := [9]) (by kernel_rfl) (by simp) ?_
      refine AllReadyH.cons (o := ⟨some 14, _, _, _, _, _⟩) rfl (fun K hK => ?_) AllReadyH.nil
      refine step_toStr _ rfl (.tmp 13) rfl _ _ _ (Pr.all ps) rfl rfl ATB.out.conv ?_
      refine hK.out _ _ ?ssb10 (fun hHeld => ?_)
      case ssb10 => (exact hHeld)
      clear hK K
      try simp only [Act.put, List.setIfInBounds_toArray, List.set_cons_zero, List.set_cons_succ]
      refine wpAnyH_take (i := 10) (oi := ⟨some 15, _, _, _, _, _⟩) (v := ?vvb11) rfl (by kernel_rfl) (by kernel_rfl) (by kernel_rfl) (fun _ _ _ h => h) (Or.inl ⟨by rfl, ?yyb11⟩) hHeld ?rrb11
      case yyb11 => (intro wq hSw; (try dsimp only at hSw); go_simp; first | done | with_reducible rfl)
      simp only [Act.put, List.setIfInBounds_toArray, List.set_cons_zero, List.set_cons_succ]
      refine wpAnyH_take (i := 11) (oi := ⟨some 4, _, _, _, _, _⟩) (v := ?vvb12) rfl (by kernel_rfl) (by kernel_rfl) (by kernel_rfl) (fun _ _ _ h => h) (Or.inl ⟨by rfl, ?yyb12⟩) hHeld ?rrb12
      case yyb12 => (intro wq hSw; (try dsimp only at hSw); go_simp; first | done | with_reducible rfl)
      simp only [Act.put, List.setIfInBounds_toArray, List.set_cons_zero, List.set_cons_succ]
      refine wpAnyH_done (by kernel_rfl) ?_ _
      have hBe := hHeld
      clear hHeld
      go_wp2_with fail
      go_ret
      exact ⟨rfl, hBe⟩
    · go_simp
      refine (r3bytes_any pa pc ps _ (HP.out.below hHeld) HR.out HK.out).mono ?_
      rintro e wb2 ⟨rb, rfl, ob, hbb⟩
      have hBe := below_then hHeld hbb
      replace ATA := Lib.hid (ATA.out.below hbb)
      obtain ⟨gb, cb, rfl, _, atb⟩ := ob.at' (all_ne ps)
      have ATB := Lib.hid atb
      clear ob atb
      go_wp2_with fail
      refine hK.out _ _ ?ssb13 (fun hHeld => ?_)
      case ssb13 => (exact hBe)
      clear hK K
      try simp only [Act.put, List.setIfInBounds_toArray, List.set_cons_zero, List.set_cons_succ]
      refine wpAnyH_ready (rs := [4, 9]) (by kernel_rfl) (by simp) ?_
      refine AllReadyH.cons (o := ⟨some 9, _, _, _, _, _⟩) rfl (fun K hK => ?_) (AllReadyH.cons (o := ⟨some 14, _, _, _, _, _⟩) rfl (fun K hK => ?_) AllReadyH.nil)
      · refine step_toStr _ rfl (.tmp 8) rfl _ _ _ [UInt8.ofNat label.size] rfl rfl ATA.out.conv ?_
        refine hK.out _ _ ?ssb14 (fun hHeld => ?_)
        case ssb14 => (exact hHeld)
        clear hK K
        try simp only [Act.put, List.setIfInBounds_toArray, List.set_cons_zero, List.set_cons_succ]
        refine wpAnyH_take (i := 6) (oi := ⟨some 11, _, _, _, _, _⟩) (v := ?vvb15) rfl (by kernel_rfl) (by kernel_rfl) (by kernel_rfl) (fun _ _ _ h => h) (Or.inl ⟨by rfl, ?yyb15⟩) hHeld ?rrb15
        case yyb15 => (intro wq hSw; (try dsimp only at hSw); go_simp; first | done | with_reducible rfl)
        simp only [Act.put, List.setIfInBounds_toArray, List.set_cons_zero, List.set_cons_succ]
        refine wpAnyH_ready (rs := [9]) (by kernel_rfl) (by simp) ?_
        refine AllReadyH.cons (o := ⟨some 14, _, _, _, _, _⟩) rfl (fun K hK => ?_) AllReadyH.nil
        refine step_toStr _ rfl (.tmp 13) rfl _ _ _ (Pr.all ps) rfl rfl ATB.out.conv ?_
        refine hK.out _ _ ?ssb16 (fun hHeld => ?_)
        case ssb16 => (exact hHeld)
        clear hK K
        try simp only [Act.put, List.setIfInBounds_toArray, List.set_cons_zero, List.set_cons_succ]
        refine wpAnyH_take (i := 10) (oi := ⟨some 15, _, _, _, _, _⟩) (v := ?vvb17) rfl (by kernel_rfl) (by kernel_rfl) (by kernel_rfl) (fun _ _ _ h => h) (Or.inl ⟨by rfl, ?yyb17⟩) hHeld ?rrb17
        case yyb17 => (intro wq hSw; (try dsimp only at hSw); go_simp; first | done | with_reducible rfl)
        simp only [Act.put, List.setIfInBounds_toArray, List.set_cons_zero, List.set_cons_succ]
        refine wpAnyH_take (i := 11) (oi := ⟨some 4, _, _, _, _, _⟩) (v := ?vvb18) rfl (by kernel_rfl) (by kernel_rfl) (by kernel_rfl) (fun _ _ _ h => h) (Or.inl ⟨by rfl, ?yyb18⟩) hHeld ?rrb18
        case yyb18 => (intro wq hSw; (try dsimp only at hSw); go_simp; first | done | with_reducible rfl)
        simp only [Act.put, List.setIfInBounds_toArray, List.set_cons_zero, List.set_cons_succ]
        refine wpAnyH_done (by kernel_rfl) ?_ _
        have hBe := hHeld
        clear hHeld
        go_wp2_with fail
        go_ret
        exact ⟨rfl, hBe⟩
      · refine step_toStr _ rfl (.tmp 13) rfl _ _ _ (Pr.all ps) rfl rfl ATB.out.conv ?_
        refine hK.out _ _ ?ssb19 (fun hHeld => ?_)
        case ssb19 => (exact hHeld)
        clear hK K
        try simp only [Act.put, List.setIfInBounds_toArray, List.set_cons_zero, List.set_cons_succ]
        refine wpAnyH_ready (rs := [4]) (by kernel_rfl) (by simp) ?_
        refine AllReadyH.cons (o := ⟨some 9, _, _, _, _, _⟩) rfl (fun K hK => ?_) AllReadyH.nil
        refine step_toStr _ rfl (.tmp 8) rfl _ _ _ [UInt8.ofNat label.size] rfl rfl ATA.out.conv ?_
        refine hK.out _ _ ?ssb20 (fun hHeld => ?_)
        case ssb20 => (exact hHeld)
        clear hK K
        try simp only [Act.put, List.setIfInBounds_toArray, List.set_cons_zero, List.set_cons_succ]
        refine wpAnyH_take (i := 6) (oi := ⟨some 11, _, _, _, _, _⟩) (v := ?vvb21) rfl (by kernel_rfl) (by kernel_rfl) (by kernel_rfl) (fun _ _ _ h => h) (Or.inl ⟨by rfl, ?yyb21⟩) hHeld ?rrb21
        case yyb21 => (intro wq hSw; (try dsimp only at hSw); go_simp; first | done | with_reducible rfl)
        simp only [Act.put, List.setIfInBounds_toArray, List.set_cons_zero, List.set_cons_succ]
        refine wpAnyH_take (i := 10) (oi := ⟨some 15, _, _, _, _, _⟩) (v := ?vvb22) rfl (by kernel_rfl) (by kernel_rfl) (by kernel_rfl) (fun _ _ _ h => h) (Or.inl ⟨by rfl, ?yyb22⟩) hHeld ?rrb22
        case yyb22 => (intro wq hSw; (try dsimp only at hSw); go_simp; first | done | with_reducible rfl)
        simp only [Act.put, List.setIfInBounds_toArray, List.set_cons_zero, List.set_cons_succ]
        refine wpAnyH_take (i := 11) (oi := ⟨some 4, _, _, _, _, _⟩) (v := ?vvb23) rfl (by kernel_rfl) (by kernel_rfl) (by kernel_rfl) (fun _ _ _ h => h) (Or.inl ⟨by rfl, ?yyb23⟩) hHeld ?rrb23
        case yyb23 => (intro wq hSw; (try dsimp only at hSw); go_simp; first | done | with_reducible rfl)
        simp only [Act.put, List.setIfInBounds_toArray, List.set_cons_zero, List.set_cons_succ]
        refine wpAnyH_done (by kernel_rfl) ?_ _
        have hBe := hHeld
        clear hHeld
        go_wp2_with fail
        go_ret
        exact ⟨rfl, hBe⟩
  · go_simp
    refine (r3bytes_any pa pc ps _ (HP.out.below hHeld) HR.out HK.out).mono ?_
    rintro e wb3 ⟨rb, rfl, ob, hbb⟩
    have hBe := below_then hHeld hbb
    obtain ⟨gb, cb, rfl, _, atb⟩ := ob.at' (all_ne ps)
    have ATB := Lib.hid atb
    clear ob atb
    go_wp2_with fail
    refine hK.out _ _ ?ssb24 (fun hHeld => ?_)
    case ssb24 => (exact hBe)
    clear hK K
    try simp only [Act.put, List.setIfInBounds_toArray, List.set_cons_zero, List.set_cons_succ]
    refine wpAnyH_ready (rs := [3, 9]) (by kernel_rfl) (by simp) ?_
    refine AllReadyH.cons (o := ⟨some 8, _, _, _, _, _⟩) rfl (fun K hK => ?_) (AllReadyH.cons (o := ⟨some 14, _, _, _, _, _⟩) rfl (fun K hK => ?_) AllReadyH.nil)
    · go_simp
      replace ATB := Lib.hid (ATB.out.below (below_box wb3 (.cells #[.int .u8 (label.size : Int)] 5)))
      have ATA := Lib.hid (NEWAT.out wb3)
      refine hK.out _ _ ?ssb25 (fun hHeld => ?_)
      case ssb25 => (exact below_al hHeld _)
      clear hK K
      try simp only [Act.put, List.setIfInBounds_toArray, List.set_cons_zero, List.set_cons_succ]
      refine wpAnyH_ready (rs := [4, 9]) (by kernel_rfl) (by simp) ?_
      refine AllReadyH.cons (o := ⟨some 9, _, _, _, _, _⟩) rfl (fun K hK => ?_) (AllReadyH.cons (o := ⟨some 14, _, _, _, _, _⟩) rfl (fun K hK => ?_) AllReadyH.nil)
      · refine step_toStr _ rfl (.tmp 8) rfl _ _ _ [UInt8.ofNat label.size] rfl rfl ATA.out.conv ?_
        refine hK.out _ _ ?ssb26 (fun hHeld => ?_)
        case ssb26 => (exact hHeld)
        clear hK K
        try simp only [Act.put, List.setIfInBounds_toArray, List.set_cons_zero, List.set_cons_succ]
        refine wpAnyH_take (i := 6) (oi := ⟨some 11, _, _, _, _, _⟩) (v := ?vvb27) rfl (by kernel_rfl) (by kernel_rfl) (by kernel_rfl) (fun _ _ _ h => h) (Or.inl ⟨by rfl, ?yyb27⟩) hHeld ?rrb27
        case yyb27 => (intro wq hSw; (try dsimp only at hSw); go_simp; first | done | with_reducible rfl)
        simp only [Act.put, List.setIfInBounds_toArray, List.set_cons_zero, List.set_cons_succ]
        refine wpAnyH_ready (rs := [9]) (by kernel_rfl) (by simp) ?_
        refine AllReadyH.cons (o := ⟨some 14, _, _, _, _, _⟩) rfl (fun K hK => ?_) AllReadyH.nil
        refine step_toStr _ rfl (.tmp 13) rfl _ _ _ (Pr.all ps) rfl rfl ATB.out.conv ?_
        refine hK.out _ _ ?ssb28 (fun hHeld => ?_)
        case ssb28 => (exact hHeld)
        clear hK K
        try simp only [Act.put, List.setIfInBounds_toArray, List.set_cons_zero, List.set_cons_succ]
        refine wpAnyH_take (i := 10) (oi := ⟨some 15, _, _, _, _, _⟩) (v := ?vvb29) rfl (by kernel_rfl) (by kernel_rfl) (by kernel_rfl) (fun _ _ _ h => h) (Or.inl ⟨by rfl, ?yyb29⟩) hHeld ?rrb29
        case yyb29 => (intro wq hSw; (try dsimp only at hSw); go_simp; first | done | with_reducible rfl)
        simp only [Act.put, List.setIfInBounds_toArray, List.set_cons_zero, List.set_cons_succ]
        refine wpAnyH_take (i := 11) (oi := ⟨some 4, _, _, _, _, _⟩) (v := ?vvb30) rfl (by kernel_rfl) (by kernel_rfl) (by kernel_rfl) (fun _ _ _ h => h) (Or.inl ⟨by rfl, ?yyb30⟩) hHeld ?rrb30
        case yyb30 => (intro wq hSw; (try dsimp only at hSw); go_simp; first | done | with_reducible rfl)
        simp only [Act.put, List.setIfInBounds_toArray, List.set_cons_zero, List.set_cons_succ]
        refine wpAnyH_done (by kernel_rfl) ?_ _
        have hBe := hHeld
        clear hHeld
        go_wp2_with fail
        go_ret
        exact ⟨rfl, hBe⟩
      · refine step_toStr _ rfl (.tmp 13) rfl _ _ _ (Pr.all ps) rfl rfl ATB.out.conv ?_
        refine hK.out _ _ ?ssb31 (fun hHeld => ?_)
        case ssb31 => (exact hHeld)
        clear hK K
        try simp only [Act.put, List.setIfInBounds_toArray, List.set_cons_zero, List.set_cons_succ]
        refine wpAnyH_ready (rs := [4]) (by kernel_rfl) (by simp) ?_
        refine AllReadyH.cons (o := ⟨some 9, _, _, _, _, _⟩) rfl (fun K hK => ?_) AllReadyH.nil
        refine step_toStr _ rfl (.tmp 8) rfl _ _ _ [UInt8.ofNat label.size] rfl rfl ATA.out.conv ?_
        refine hK.out _ _ ?ssb32 (fun hHeld => ?_)
        case ssb32 => (exact hHeld)
        clear hK K
        try simp only [Act.put, List.setIfInBounds_toArray, List.set_cons_zero, List.set_cons_succ]
        refine wpAnyH_take (i := 6) (oi := ⟨some 11, _, _, _, _, _⟩) (v := ?vvb33) rfl (by kernel_rfl) (by kernel_rfl) (by kernel_rfl) (fun _ _ _ h => h) (Or.inl ⟨by rfl, ?yyb33⟩) hHeld ?rrb33
        case yyb33 => (intro wq hSw; (try dsimp only at hSw); go_simp; first | done | with_reducible rfl)
        simp only [Act.put, List.setIfInBounds_toArray, List.set_cons_zero, List.set_cons_succ]
        refine wpAnyH_take (i := 10) (oi := ⟨some 15, _, _, _, _, _⟩) (v := ?vvb34) rfl (by kernel_rfl) (by kernel_rfl) (by kernel_rfl) (fun _ _ _ h => h) (Or.inl ⟨by rfl, ?yyb34⟩) hHeld ?rrb34
        case yyb34 => (intro wq hSw; (try dsimp only at hSw); go_simp; first | done | with_reducible rfl)
        simp only [Act.put, List.setIfInBounds_toArray, List.set_cons_zero, List.set_cons_succ]
        refine wpAnyH_take (i := 11) (oi := ⟨some 4, _, _, _, _, _⟩) (v := ?vvb35) rfl (by kernel_rfl) (by kernel_rfl) (by kernel_rfl) (fun _ _ _ h => h) (Or.inl ⟨by rfl, ?yyb35⟩) hHeld ?rrb35
        case yyb35 => (intro wq hSw; (try dsimp only at hSw); go_simp; first | done | with_reducible rfl)
        simp only [Act.put, List.setIfInBounds_toArray, List.set_cons_zero, List.set_cons_succ]
        refine wpAnyH_done (by kernel_rfl) ?_ _
        have hBe := hHeld
        clear hHeld
        go_wp2_with fail
        go_ret
        exact ⟨rfl, hBe⟩
    · refine step_toStr _ rfl (.tmp 13) rfl _ _ _ (Pr.all ps) rfl rfl ATB.out.conv ?_
      refine hK.out _ _ ?ssb36 (fun hHeld => ?_)
      case ssb36 => (exact hHeld)
      clear hK K
      try simp only [Act.put, List.setIfInBounds_toArray, List.set_cons_zero, List.set_cons_succ]
      refine wpAnyH_ready (rs := [3]) (by kernel_rfl) (by simp) ?_
      refine AllReadyH.cons (o := ⟨some 8, _, _, _, _, _⟩) rfl (fun K hK => ?_) AllReadyH.nil
      go_simp
      have ATA := Lib.hid (NEWAT.out wb3)
      refine hK.out _ _ ?ssb37 (fun hHeld => ?_)
      case ssb37 => (exact below_al hHeld _)
      clear hK K
      try simp only [Act.put, List.setIfInBounds_toArray, List.set_cons_zero, List.set_cons_succ]
      refine wpAnyH_ready (rs := [4]) (by kernel_rfl) (by simp) ?_
      refine AllReadyH.cons (o := ⟨some 9, _, _, _, _, _⟩) rfl (fun K hK => ?_) AllReadyH.nil
      refine step_toStr _ rfl (.tmp 8) rfl _ _ _ [UInt8.ofNat label.size] rfl rfl ATA.out.conv ?_
      refine hK.out _ _ ?ssb38 (fun hHeld => ?_)
      case ssb38 => (exact hHeld)
      clear hK K
      try simp only [Act.put, List.setIfInBounds_toArray, List.set_cons_zero, List.set_cons_succ]
      refine wpAnyH_take (i := 6) (oi := ⟨some 11, _, _, _, _, _⟩) (v := ?vvb39) rfl (by kernel_rfl) (by kernel_rfl) (by kernel_rfl) (fun _ _ _ h => h) (Or.inl ⟨by rfl, ?yyb39⟩) hHeld ?rrb39
      case yyb39 => (intro wq hSw; (try dsimp only at hSw); go_simp; first | done | with_reducible rfl)
      simp only [Act.put, List.setIfInBounds_toArray, List.set_cons_zero, List.set_cons_succ]
      refine wpAnyH_take (i := 10) (oi := ⟨some 15, _, _, _, _, _⟩) (v := ?vvb40) rfl (by kernel_rfl) (by kernel_rfl) (by kernel_rfl) (fun _ _ _ h => h) (Or.inl ⟨by rfl, ?yyb40⟩) hHeld ?rrb40
      case yyb40 => (intro wq hSw; (try dsimp only at hSw); go_simp; first | done | with_reducible rfl)
      simp only [Act.put, List.setIfInBounds_toArray, List.set_cons_zero, List.set_cons_succ]
      refine wpAnyH_take (i := 11) (oi := ⟨some 4, _, _, _, _, _⟩) (v := ?vvb41) rfl (by kernel_rfl) (by kernel_rfl) (by kernel_rfl) (fun _ _ _ h => h) (Or.inl ⟨by rfl, ?yyb41⟩) hHeld ?rrb41
      case yyb41 => (intro wq hSw; (try dsimp only at hSw); go_simp; first | done | with_reducible rfl)
      simp only [Act.put, List.setIfInBounds_toArray, List.set_cons_zero, List.set_cons_succ]
      refine wpAnyH_done (by kernel_rfl) ?_ _
      have hBe := hHeld
      clear hHeld
      go_wp2_with fail
      go_ret
      exact ⟨rfl, hBe⟩
set_option maxRecDepth 100000 in
set_option maxHeartbeats 2000000 in
theorem entries_no (id : Int) (label : ByteArray) (pa : Option Addr) (pc : Nat) (ps : List Pr) (w : World) (hi : I64 id) (hl : label.size ≤ 200) (hp : PsV w pa ps) (hn : ps.length ≤ 100000) (hc : checkR label ps [id] ≠ 0) :
    Calls Try.prog 12 #[.agg #[.int .i64 id, .string label, .slice pa ps.length pc]] w fun e w' => e = .returned (.slice none 0 0) ∧ Below w.heap.size w w' := by
  have HP := Lib.hid hp
  have HI := Lib.hid hi
  have hc' : (checkR label ps [id] == 0) = false := by simpa using hc
  clear hp hi hc
  go_enter Try.func12, Try.ntmps12
  go_wp2_with fail
  obtain ⟨W1, hW1⟩ : ∃ W1, W1 = w.alloc (.cells #[.int .i64 id, .string label, .slice pa ps.length pc] 24) := ⟨_, rfl⟩
  have z1 : W1.heap.size = w.heap.size + 1 := by rw [hW1, size_alloc]
  have hB1 : Below w.heap.size w W1 := by rw [hW1]; exact below_box w _
  rw [← hW1]
  rw [← z1]
  clear hW1
  have IV : IsV (W1.alloc (.cells #[.int .i64 id] 3)) (some ⟨W1.heap.size, 0, none⟩) [id] := ids_new (heap_new W1 _) (fun x hx => by rw [List.mem_singleton.1 hx]; exact HI.out)
  refine (check_any label pa _ pc 1 ps [id] _ (by unfold maxLen; omega) (HP.out.below (below_al hB1 _)) IV hn (by simp)).mono ?_
  rintro e W ⟨rfl, hb2⟩
  obtain ⟨k, hk⟩ : ∃ k, checkR label ps [id] = k := ⟨_, rfl⟩
  rw [hk] at hc' ⊢
  clear hk IV z1
  go_wp2_with fail
  go_ret
  exact ⟨rfl, below_then (below_al hB1 _) hb2⟩
set_option maxRecDepth 100000 in
set_option maxHeartbeats 2000000 in
theorem r21entries_no (id : Int) (label : ByteArray) (pa : Option Addr) (pc : Nat) (ps : List Pr) (w : World) (hi : I64 id) (hl : label.size ≤ 200) (hp : PsV w pa ps) (hn : ps.length ≤ 100000) (hc : checkR label ps [id] ≠ 0) :
    Calls Try.prog 33 #[.agg #[.int .i64 id, .string label, .slice pa ps.length pc]] w fun e w' => e = .returned (.slice none 0 0) ∧ Below w.heap.size w w' := by
  have HP := Lib.hid hp
  have HI := Lib.hid hi
  have hc' : (checkR label ps [id] == 0) = false := by simpa using hc
  clear hp hi hc
  go_enter Try.func33, Try.ntmps33
  go_wp2_with fail
  obtain ⟨W1, hW1⟩ : ∃ W1, W1 = w.alloc (.cells #[.int .i64 id, .string label, .slice pa ps.length pc] 24) := ⟨_, rfl⟩
  have z1 : W1.heap.size = w.heap.size + 1 := by rw [hW1, size_alloc]
  have hB1 : Below w.heap.size w W1 := by rw [hW1]; exact below_box w _
  rw [← hW1]
  rw [← z1]
  clear hW1
  have IV : IsV (W1.alloc (.cells #[.int .i64 id] 3)) (some ⟨W1.heap.size, 0, none⟩) [id] := ids_new (heap_new W1 _) (fun x hx => by rw [List.mem_singleton.1 hx]; exact HI.out)
  refine (r16check_any label pa _ pc 1 ps [id] _ (by omega) (HP.out.below (below_al hB1 _)) IV hn (by simp)).mono ?_
  rintro e W ⟨rfl, hb2⟩
  obtain ⟨k, hk⟩ : ∃ k, checkR label ps [id] = k := ⟨_, rfl⟩
  rw [hk] at hc' ⊢
  clear hk IV z1
  go_wp2_with fail
  go_ret
  exact ⟨rfl, below_then (below_al hB1 _) hb2⟩
set_option maxRecDepth 100000 in
set_option maxHeartbeats 4000000 in
theorem r21entries_any (id : Nat) (label : ByteArray) (pa : Option Addr) (pc : Nat) (ps : List Pr) (w : World) (hl : label.size ≤ 200) (hp : PsV w pa ps) (hn : ps.length ≤ 100000) (hk : ∀ p ∈ ps, p.key.size ≤ 200) (hc : checkR label ps [(id : Int)] = 0) :
    Calls Try.prog 33 #[.agg #[.int .i64 (id : Int), .string label, .slice pa ps.length pc]] w (EnPost w (entL id label ps)) := by
  have hck := checkR_ok hc
  have HR := Lib.hid hck.2.2
  have hid : id < 1099511627776 := by
    have := hck.1
    simp [idB] at this
    omega
  have HF := Lib.hid hid
  have HP := Lib.hid hp
  have HK := Lib.hid hk
  have HC := Lib.hid hc
  have hid' := hid
  clear hp hk hc hck hid
  go_enter Try.func33, Try.ntmps33
  go_wp2_with fail
  obtain ⟨W1, hW1⟩ : ∃ W1, W1 = w.alloc (.cells #[.int .i64 (id : Int), .string label, .slice pa ps.length pc] 24) := ⟨_, rfl⟩
  have z1 : W1.heap.size = w.heap.size + 1 := by rw [hW1, size_alloc]
  have e1 : W1.heap[w.heap.size]? = some (.cells #[.int .i64 (id : Int), .string label, .slice pa ps.length pc] 24) := by rw [hW1]; exact heap_new w _
  have hB1 : Below w.heap.size w W1 := by rw [hW1]; exact below_box w _
  rw [← hW1]
  rw [← z1]
  clear hW1
  have IV : IsV (W1.alloc (.cells #[.int .i64 (id : Int)] 3)) (some ⟨W1.heap.size, 0, none⟩) [(id : Int)] := ids_new (heap_new W1 _) (fun x hx => by rw [List.mem_singleton.1 hx]; constructor <;> omega)
  refine (r16check_any label pa _ pc 1 ps [(id : Int)] _ (by omega) (HP.out.below (below_al hB1 _)) IV hn (by simp)).mono ?_
  rintro e W ⟨rfl, hb2⟩
  rw [HC.out]
  have hB2 := below_then (below_al (Below.refl W1.heap.size W1) _) hb2
  have e2 := (hB2.block w.heap.size (by omega)).trans e1
  have HB := Lib.hid (below_then hB1 hB2)
  have hVW := (Array.getElem?_eq_some_iff.1 e2).1
  clear e1 hb2 IV hB2 hB1
  have ks : ∀ w', Below W.heap.size W w' → (fun w' => Below W.heap.size W w' ∧ w'.cell? ⟨w.heap.size, 0, none⟩ = some (.int .i64 (id : Int)) ∧ w'.cell? ⟨w.heap.size, 1, none⟩ = some (.string label)) w' := fun w' hb => by
    have e := (hb.block _ hVW).trans e2
    exact ⟨hb, by rw [cell_of_blk e]; rfl, by rw [cell_of_blk e]; rfl⟩
  have K3 := Lib.hid ks
  have kv : ∀ w' : World, w'.heap[w.heap.size]? = W.heap[w.heap.size]? → w'.cell? ⟨w.heap.size, 0, none⟩ = some (.int .i64 (id : Int)) ∧ w'.cell? ⟨w.heap.size, 1, none⟩ = some (.string label) ∧ w'.cell? ⟨w.heap.size, 2, none⟩ = some (.slice pa ps.length pc) := fun w' h => by
    have e := h.trans e2
    exact ⟨by rw [cell_of_blk e]; rfl, by rw [cell_of_blk e]; rfl, by rw [cell_of_blk e]; rfl⟩
  have KV := Lib.hid kv
  clear ks kv e2
  have t1 : ¬ 9223372036854775807 < 1 + label.size := by omega
  go_wp2_with fail
  refine wp_region_held_drew (S := (fun w' => Below W.heap.size W w' ∧ w'.cell? ⟨w.heap.size, 0, none⟩ = some (.int .i64 (id : Int)) ∧ w'.cell? ⟨w.heap.size, 1, none⟩ = some (.string label))) (by kernel_rfl) (K3.out _ (Below.refl _ _).drew) (fun hHeld => ?_)
  refine wpAnyH_take (i := 0) (oi := ⟨some 15, _, _, _, _, _⟩) (v := ?vvq1) rfl (by kernel_rfl) (by kernel_rfl) (by kernel_rfl) (fun _ _ _ h => h) (Or.inl ⟨by rfl, ?yyq1⟩) hHeld ?rrq1
  case yyq1 => (intro wq hSw; (try dsimp only at hSw); go_simp; first | done | with_reducible rfl)
  simp only [Act.put, List.setIfInBounds_toArray, List.set_cons_zero, List.set_cons_succ]
  refine wpAnyH_take (i := 1) (oi := ⟨some 16, _, _, _, _, _⟩) (v := ?vvq2) rfl (by kernel_rfl) (by kernel_rfl) (by kernel_rfl) (fun _ _ _ h => h) (Or.inl ⟨by rfl, ?yyq2⟩) hHeld ?rrq2
  case yyq2 => (intro wq hSw; (try dsimp only at hSw); go_simp; first | done | with_reducible rfl)
  simp only [Act.put, List.setIfInBounds_toArray, List.set_cons_zero, List.set_cons_succ]
  refine wpAnyH_take (i := 2) (oi := ⟨some 17, _, _, _, _, _⟩) (v := ?vvq3) rfl (by kernel_rfl) (by kernel_rfl) (by kernel_rfl) (fun _ _ _ h => h) (Or.inl ⟨by rfl, ?yyq3⟩) hHeld ?rrq3
  case yyq3 => (intro wq hSw; (try dsimp only at hSw); go_simp; first | done | with_reducible rfl)
  simp only [Act.put, List.setIfInBounds_toArray, List.set_cons_zero, List.set_cons_succ]
  refine wpAnyH_take (i := 3) (oi := ⟨some 18, _, _, _, _, _⟩) (v := ?vvq4) rfl (by kernel_rfl) (by kernel_rfl) (by kernel_rfl) (fun _ _ _ h => h) (Or.inl ⟨by rfl, ?yyq4⟩) hHeld ?rrq4
  case yyq4 => (intro wq hSw; (try dsimp only at hSw); go_simp; first | done | with_reducible rfl)
  simp only [Act.put, List.setIfInBounds_toArray, List.set_cons_zero, List.set_cons_succ]
  refine wpAnyH_take (i := 4) (oi := ⟨some 19, _, _, _, _, _⟩) (v := ?vvq5) rfl (by kernel_rfl) (by kernel_rfl) (by kernel_rfl) (fun _ _ _ h => h) (Or.inl ⟨by rfl, ?yyq5⟩) hHeld ?rrq5
  case yyq5 => (intro wq hSw; (try dsimp only at hSw); go_simp; first | done | with_reducible rfl)
  simp only [Act.put, List.setIfInBounds_toArray, List.set_cons_zero, List.set_cons_succ]
  refine wpAnyH_ready (rs := [5]) (by kernel_rfl) (by simp) ?_
  refine AllReadyH.cons (o := ⟨some 20, _, _, _, _, _⟩) rfl (fun K hK => ?_) AllReadyH.nil
  go_simp
  refine (r21five_any id _ HF.out).mono ?_
  rintro e w3 ⟨rfl, hb3'⟩
  have hB3' := hHeld.1
  go_wp2_with fail
  refine hK.out _ _ ?ssq6 (fun hHeld => ?_)
  case ssq6 => (exact K3.out _ (below_then hHeld.1 hb3'))
  clear hK K
  try simp only [Act.put, List.setIfInBounds_toArray, List.set_cons_zero, List.set_cons_succ]
  refine wpAnyH_take (i := 6) (oi := ⟨some 21, _, _, _, _, _⟩) (v := ?vvq7) rfl (by kernel_rfl) (by kernel_rfl) (by kernel_rfl) (fun _ _ _ h => h) (Or.inl ⟨by rfl, ?yyq7⟩) hHeld ?rrq7
  case yyq7 => (intro wq hSw; (try dsimp only at hSw); go_simp; first | done | with_reducible rfl)
  simp only [Act.put, List.setIfInBounds_toArray, List.set_cons_zero, List.set_cons_succ]
  refine wpAnyH_ready (rs := [7]) (by kernel_rfl) (by simp) ?_
  refine AllReadyH.cons (o := ⟨some 22, _, _, _, _, _⟩) rfl (fun K hK => ?_) AllReadyH.nil
  go_simp
  refine hK.out _ _ ?ssq8 (fun hHeld => ?_)
  case ssq8 => (exact K3.out _ (below_al hHeld.1 _))
  clear hK K
  try simp only [Act.put, List.setIfInBounds_toArray, List.set_cons_zero, List.set_cons_succ]
  refine wpAnyH_take (i := 8) (oi := ⟨some 3, _, _, _, _, _⟩) (v := ?vvq9) rfl (by kernel_rfl) (by kernel_rfl) (by kernel_rfl) (fun _ _ _ h => h) (Or.inl ⟨by rfl, ?yyq9⟩) hHeld ?rrq9
  case yyq9 => (intro wq hSw; (try dsimp only at hSw); go_simp; first | done | with_reducible rfl)
  simp only [Act.put, List.setIfInBounds_toArray, List.set_cons_zero, List.set_cons_succ]
  refine wpAnyH_done (by kernel_rfl) ?_ _
  have hB3 := hHeld.1
  clear hHeld
  have hzw3 : W.heap.size ≤ w3.heap.size := (below_then hB3' hb3').size
  have ST : Hid (EnO (w3.alloc (.cells #[.string (⟨#[76]⟩ ++ label), .string ⟨(fiveL id).toArray⟩] 39)) W.heap.size (.slice (some ⟨w3.heap.size, 0, none⟩) 1 1) (entL id label (ps.take 0))) := Lib.hid (EnO.one (⟨#[76]⟩ ++ label, ⟨(fiveL id).toArray⟩) hzw3)
  go_wp2_with fail
  go_loopw [3, 4] (fun b i wr => ∃ j : Nat, j ≤ ps.length ∧ i = .int .i64 j ∧ EnO wr W.heap.size b (entL id label (ps.take j)) ∧ Below W.heap.size W wr) (fun _ i _ => ps.length - (intOf i).toNat)
  case atStart => exact ⟨0, by omega, rfl, ST.out, hB3⟩
  case round =>
    obtain ⟨j, hj, rfl, hO, hbel⟩ := hrel
    have hz := hbel.size
    have c2 := (KV.out _ (hbel.block _ hVW)).2.2
    have hlv : w.heap.size < wr.heap.size := by omega
    by_cases hlt : j < ps.length
    · obtain ⟨p, hp⟩ : ∃ p, ps[j]? = some p := ⟨_, List.getElem?_eq_getElem hlt⟩
      obtain ⟨b, off, rfl, hat⟩ := (HP.out.below (below_then HB.out hbel)) (fun e => by rw [e] at hlt; simp at hlt)
      obtain ⟨q0, q1, q2, q3⟩ := hat.cells j p hp
      have hok := hat.ok p (List.mem_of_getElem? hp)
      have hlb := hat.lt
      have HTK := Lib.hid (entL_take (id := id) (label := label) hp)
      have HV := Lib.hid hok.v
      have RV := Lib.hid (right_mem HR.out (List.mem_of_getElem? hp)).1
      have hpk : p.key.size ≤ 200 := HK.out p (List.mem_of_getElem? hp)
      have HLN := Lib.hid (show (entL id label (ps.take j)).length ≤ 200000 by unfold entL; simp; omega)
      have hbl := bytes_len RV.out
      have hadd : ∀ w, (Op.stringOp .add ⟨p.v.bytes.toArray⟩ ⟨(fiveL id).toArray⟩).run Try.prog w = .ok (.string ⟨(p.v.bytes ++ fiveL id).toArray⟩) w := fun w => run_string_add_lists w p.v.bytes (fiveL id) (by omega) (by simp [fiveL])
      clear hat hok hp hbl
      go_wp2_with fail
      obtain ⟨WX, hWX⟩ : ∃ WX, WX = wr.alloc (.cells #[.string p.key, .int .i64 p.v.kind, .int .i64 p.v.n, .string p.v.s] 79) := ⟨_, rfl⟩
      rw [← hWX]
      have eW : WX.heap[wr.heap.size]? = some (.cells #[.string p.key, .int .i64 p.v.kind, .int .i64 p.v.n, .string p.v.s] 79) := by rw [hWX]; exact heap_new wr _
      have hWr : Below wr.heap.size wr WX := by rw [hWX]; exact below_box wr _
      have hzW : WX.heap.size = wr.heap.size + 1 := by rw [hWX, size_alloc]
      have HOW := Lib.hid (hO.below hWr)
      have HNX : Hid (some wr.heap.size ≠ u3.ownBlock) := Lib.hid (fun e => by have := (hO.lt _ e.symm).2; omega)
      have HNV : Hid (some w.heap.size ≠ u3.ownBlock) := Lib.hid (fun e => by have := (hO.lt _ e.symm).1; omega)
      have hVX : WX.heap[w.heap.size]? = W.heap[w.heap.size]? := (hWr.block _ hlv).trans (hbel.block _ hVW)
      have ks : ∀ w' : World, w'.heap[wr.heap.size]? = WX.heap[wr.heap.size]? → w'.heap[w.heap.size]? = WX.heap[w.heap.size]? → (fun w' => w'.cell? ⟨w.heap.size, 0, none⟩ = some (.int .i64 (id : Int)) ∧ w'.cell? ⟨w.heap.size, 1, none⟩ = some (.string label) ∧ w'.cell? ⟨wr.heap.size, 0, none⟩ = some (.string p.key) ∧ w'.cell? ⟨wr.heap.size, 1, none⟩ = some (.int .i64 p.v.kind) ∧ w'.cell? ⟨wr.heap.size, 2, none⟩ = some (.int .i64 p.v.n) ∧ w'.cell? ⟨wr.heap.size, 3, none⟩ = some (.string p.v.s)) w' := fun w' hx hv => by
        have kk := KV.out w' (hv.trans hVX)
        have e := hx.trans eW
        exact ⟨kk.1, kk.2.1, by rw [cell_of_blk e]; rfl, by rw [cell_of_blk e]; rfl, by rw [cell_of_blk e]; rfl, by rw [cell_of_blk e]; rfl⟩
      have K8 := Lib.hid ks
      have HBX := Lib.hid (hbel.trans (hWr.mono hz))
      have hXl : wr.heap.size < WX.heap.size := by omega
      have hVl : w.heap.size < WX.heap.size := by omega
      clear hWX q0 q1 q2 q3 c2 ks hVX hWr eW hO
      have t1 : ¬ 9223372036854775807 < 1 + label.size := by omega
      have t2 : ¬ 9223372036854775807 < 1 + label.size + 1 := by omega
      have t3 : ¬ 9223372036854775807 < 1 + label.size + 1 + p.key.size := by omega
      refine wp_region_held_drew (S := (fun w' => w'.cell? ⟨w.heap.size, 0, none⟩ = some (.int .i64 (id : Int)) ∧ w'.cell? ⟨w.heap.size, 1, none⟩ = some (.string label) ∧ w'.cell? ⟨wr.heap.size, 0, none⟩ = some (.string p.key) ∧ w'.cell? ⟨wr.heap.size, 1, none⟩ = some (.int .i64 p.v.kind) ∧ w'.cell? ⟨wr.heap.size, 2, none⟩ = some (.int .i64 p.v.n) ∧ w'.cell? ⟨wr.heap.size, 3, none⟩ = some (.string p.v.s))) (by kernel_rfl) (K8.out _ rfl rfl) (fun hHeld => ?_)
      refine wpAnyH_take (i := 0) (oi := ⟨some 35, _, _, _, _, _⟩) (v := ?vve1) rfl (by kernel_rfl) (by kernel_rfl) (by kernel_rfl) (fun _ _ _ h => h) (Or.inl ⟨by rfl, ?yye1⟩) hHeld ?rre1
      case yye1 => (intro wq hSw; (try dsimp only at hSw); go_simp; first | done | with_reducible rfl)
      simp only [Act.put, List.setIfInBounds_toArray, List.set_cons_zero, List.set_cons_succ]
      refine wpAnyH_take (i := 1) (oi := ⟨some 36, _, _, _, _, _⟩) (v := ?vve2) rfl (by kernel_rfl) (by kernel_rfl) (by kernel_rfl) (fun _ _ _ h => h) (Or.inl ⟨by rfl, ?yye2⟩) hHeld ?rre2
      case yye2 => (intro wq hSw; (try dsimp only at hSw); go_simp; first | done | with_reducible rfl)
      simp only [Act.put, List.setIfInBounds_toArray, List.set_cons_zero, List.set_cons_succ]
      refine wpAnyH_take (i := 2) (oi := ⟨some 37, _, _, _, _, _⟩) (v := ?vve3) rfl (by kernel_rfl) (by kernel_rfl) (by kernel_rfl) (fun _ _ _ h => h) (Or.inl ⟨by rfl, ?yye3⟩) hHeld ?rre3
      case yye3 => (intro wq hSw; (try dsimp only at hSw); go_simp; first | done | with_reducible rfl)
      simp only [Act.put, List.setIfInBounds_toArray, List.set_cons_zero, List.set_cons_succ]
      refine wpAnyH_take (i := 3) (oi := ⟨some 38, _, _, _, _, _⟩) (v := ?vve4) rfl (by kernel_rfl) (by kernel_rfl) (by kernel_rfl) (fun _ _ _ h => h) (Or.inl ⟨by rfl, ?yye4⟩) hHeld ?rre4
      case yye4 => (intro wq hSw; (try dsimp only at hSw); go_simp; first | done | with_reducible rfl)
      simp only [Act.put, List.setIfInBounds_toArray, List.set_cons_zero, List.set_cons_succ]
      refine wpAnyH_take (i := 4) (oi := ⟨some 39, _, _, _, _, _⟩) (v := ?vve5) rfl (by kernel_rfl) (by kernel_rfl) (by kernel_rfl) (fun _ _ _ h => h) (Or.inl ⟨by rfl, ?yye5⟩) hHeld ?rre5
      case yye5 => (intro wq hSw; (try dsimp only at hSw); go_simp; first | done | with_reducible rfl)
      simp only [Act.put, List.setIfInBounds_toArray, List.set_cons_zero, List.set_cons_succ]
      refine wpAnyH_take (i := 5) (oi := ⟨some 40, _, _, _, _, _⟩) (v := ?vve6) rfl (by kernel_rfl) (by kernel_rfl) (by kernel_rfl) (fun _ _ _ h => h) (Or.inl ⟨by rfl, ?yye6⟩) hHeld ?rre6
      case yye6 => (intro wq hSw; (try dsimp only at hSw); go_simp; first | done | with_reducible rfl)
      simp only [Act.put, List.setIfInBounds_toArray, List.set_cons_zero, List.set_cons_succ]
      refine wpAnyH_take (i := 6) (oi := ⟨some 41, _, _, _, _, _⟩) (v := ?vve7) rfl (by kernel_rfl) (by kernel_rfl) (by kernel_rfl) (fun _ _ _ h => h) (Or.inl ⟨by rfl, ?yye7⟩) hHeld ?rre7
      case yye7 => (intro wq hSw; (try dsimp only at hSw); go_simp; first | done | with_reducible rfl)
      simp only [Act.put, List.setIfInBounds_toArray, List.set_cons_zero, List.set_cons_succ]
      refine wpAnyH_take (i := 7) (oi := ⟨some 42, _, _, _, _, _⟩) (v := ?vve8) rfl (by kernel_rfl) (by kernel_rfl) (by kernel_rfl) (fun _ _ _ h => h) (Or.inl ⟨by rfl, ?yye8⟩) hHeld ?rre8
      case yye8 => (intro wq hSw; (try dsimp only at hSw); go_simp; first | done | with_reducible rfl)
      simp only [Act.put, List.setIfInBounds_toArray, List.set_cons_zero, List.set_cons_succ]
      refine wpAnyH_take (i := 8) (oi := ⟨some 43, _, _, _, _, _⟩) (v := ?vve9) rfl (by kernel_rfl) (by kernel_rfl) (by kernel_rfl) (fun _ _ _ h => h) (Or.inl ⟨by rfl, ?yye9⟩) hHeld ?rre9
      case yye9 => (intro wq hSw; (try dsimp only at hSw); go_simp; first | done | with_reducible rfl)
      simp only [Act.put, List.setIfInBounds_toArray, List.set_cons_zero, List.set_cons_succ]
      refine wpAnyH_take (i := 9) (oi := ⟨some 44, _, _, _, _, _⟩) (v := ?vve10) rfl (by kernel_rfl) (by kernel_rfl) (by kernel_rfl) (fun _ _ _ h => h) (Or.inl ⟨by rfl, ?yye10⟩) hHeld ?rre10
      case yye10 => (intro wq hSw; (try dsimp only at hSw); go_simp; first | done | with_reducible rfl)
      simp only [Act.put, List.setIfInBounds_toArray, List.set_cons_zero, List.set_cons_succ]
      refine wpAnyH_take (i := 12) (oi := ⟨some 47, _, _, _, _, _⟩) (v := ?vve11) rfl (by kernel_rfl) (by kernel_rfl) (by kernel_rfl) (fun _ _ _ h => h) (Or.inl ⟨by rfl, ?yye11⟩) hHeld ?rre11
      case yye11 => (intro wq hSw; (try dsimp only at hSw); go_simp; first | done | with_reducible rfl)
      simp only [Act.put, List.setIfInBounds_toArray, List.set_cons_zero, List.set_cons_succ]
      refine wpAnyH_take (i := 13) (oi := ⟨some 48, _, _, _, _, _⟩) (v := ?vve12) rfl (by kernel_rfl) (by kernel_rfl) (by kernel_rfl) (fun _ _ _ h => h) (Or.inl ⟨by rfl, ?yye12⟩) hHeld ?rre12
      case yye12 => (intro wq hSw; (try dsimp only at hSw); go_simp; first | done | with_reducible rfl)
      simp only [Act.put, List.setIfInBounds_toArray, List.set_cons_zero, List.set_cons_succ]
      refine wpAnyH_ready (rs := [10]) (by kernel_rfl) (by simp) ?_
      refine AllReadyH.cons (o := ⟨some 45, _, _, _, _, _⟩) rfl (fun K hK => ?_) AllReadyH.nil
      go_simp
      refine (r2bytes_any p.v _ HV.out RV.out).mono ?_
      rintro e w2 ⟨r2, rfl, o2, hb2⟩
      obtain ⟨g2, c2, rfl, hg2, at2⟩ := o2.at' (bytes_ne p.v)
      have z2 := hb2.size
      simp at z2 hg2
      have X2 : w2.heap[wr.heap.size]? = WX.heap[wr.heap.size]? := hb2.block _ hXl
      have V2 : w2.heap[w.heap.size]? = WX.heap[w.heap.size]? := hb2.block _ hVl
      have O2 := Lib.hid (HOW.out.drew.below hb2)
      have B2 := Lib.hid hb2
      have AT2 := Lib.hid at2
      have hGl := at2.lt
      clear hb2 o2 at2
      go_wp2_with fail
      refine hK.out _ _ ?sse13 (fun hHeld => ?_)
      case sse13 => (exact K8.out _ X2 V2)
      clear hK K
      try simp only [Act.put, List.setIfInBounds_toArray, List.set_cons_zero, List.set_cons_succ]
      refine wpAnyH_ready (rs := [11, 14]) (by kernel_rfl) (by simp) ?_
      refine AllReadyH.cons (o := ⟨some 46, _, _, _, _, _⟩) rfl (fun K hK => ?_) (AllReadyH.cons (o := ⟨some 49, _, _, _, _, _⟩) rfl (fun K hK => ?_) AllReadyH.nil)
      · refine step_toStr _ rfl (.tmp 45) rfl _ _ _ p.v.bytes rfl rfl AT2.out.conv ?_
        refine hK.out _ _ ?sse14 (fun hHeld => ?_)
        case sse14 => (exact K8.out _ X2 V2)
        clear hK K
        try simp only [Act.put, List.setIfInBounds_toArray, List.set_cons_zero, List.set_cons_succ]
        refine wpAnyH_ready (rs := [14]) (by kernel_rfl) (by simp) ?_
        refine AllReadyH.cons (o := ⟨some 49, _, _, _, _, _⟩) rfl (fun K hK => ?_) AllReadyH.nil
        go_simp
        refine (r21five_any id _ HF.out).mono ?_
        rintro e w3 ⟨rfl, hb3⟩
        have z3 := hb3.size
        replace AT2 := Lib.hid (AT2.out.below hb3)
        have X3 : w3.heap[wr.heap.size]? = WX.heap[wr.heap.size]? := (hb3.block _ (by omega)).trans X2
        have V3 : w3.heap[w.heap.size]? = WX.heap[w.heap.size]? := (hb3.block _ (by omega)).trans V2
        have O3 := Lib.hid (O2.out.below hb3)
        have B3 := Lib.hid hb3
        clear hb3
        go_wp2_with fail
        refine hK.out _ _ ?sse15 (fun hHeld => ?_)
        case sse15 => (exact K8.out _ X3 V3)
        clear hK K
        try simp only [Act.put, List.setIfInBounds_toArray, List.set_cons_zero, List.set_cons_succ]
        refine wpAnyH_take (i := 15) (oi := ⟨some 50, _, _, _, _, _⟩) (v := ?vve16) rfl (by kernel_rfl) (by kernel_rfl) (by kernel_rfl) (fun _ _ _ h => h) (Or.inl ⟨by rfl, ?yye16⟩) hHeld ?rre16
        case yye16 => (intro wq hSw; (try dsimp only at hSw); go_simp; first | done | with_reducible rfl)
        simp only [Act.put, List.setIfInBounds_toArray, List.set_cons_zero, List.set_cons_succ]
        refine wpAnyH_take (i := 16) (oi := ⟨some 51, _, _, _, _, _⟩) (v := ?vve17) rfl (by kernel_rfl) (by kernel_rfl) (by kernel_rfl) (fun _ _ _ h => h) (Or.inl ⟨by rfl, ?yye17⟩) hHeld ?rre17
        case yye17 => (intro wq hSw; (try dsimp only at hSw); go_simp; first | done | with_reducible rfl)
        simp only [Act.put, List.setIfInBounds_toArray, List.set_cons_zero, List.set_cons_succ]
        refine wpAnyH_ready (rs := [17]) (by kernel_rfl) (by simp) ?_
        refine AllReadyH.cons (o := ⟨some 52, _, _, _, _, _⟩) rfl (fun K hK => ?_) AllReadyH.nil
        go_simp
        refine hK.out _ _ ?sse18 (fun hHeld => ?_)
        case sse18 => (exact K8.out _ ((Below.heap_alloc _ _ _ (by omega)).trans X3) ((Below.heap_alloc _ _ _ (by omega)).trans V3))
        clear hK K
        try simp only [Act.put, List.setIfInBounds_toArray, List.set_cons_zero, List.set_cons_succ]
        refine wpAnyH_ready (rs := [18]) (by kernel_rfl) (by simp) ?_
        refine AllReadyH.cons (o := ⟨some 53, _, _, _, _, _⟩) rfl (fun K hK => ?_) AllReadyH.nil
        refine step_appE _ rfl (.tmp 35) (.tmp 52) rfl W.heap.size _ _ rfl (O3.out.alloc _) w3.heap.size 1 (⟨#[80]⟩ ++ label ++ ⟨#[32]⟩ ++ p.key, ⟨(p.v.bytes ++ fiveL id).toArray⟩) rfl (heap_new w3 _) (by have := HLN.out; omega) (by simp; omega) ?_
        intro v4 w4 o4 b4 g4
        have X4 : w4.heap[wr.heap.size]? = WX.heap[wr.heap.size]? := (g4.block _ (by simp; omega) HNX.out).trans ((Below.heap_alloc _ _ _ (by omega)).trans X3)
        have V4 : w4.heap[w.heap.size]? = WX.heap[w.heap.size]? := (g4.block _ (by simp; omega) HNV.out).trans ((Below.heap_alloc _ _ _ (by omega)).trans V3)
        have B4 := Lib.hid b4
        clear g4 b4
        refine hK.out _ _ ?sse19 (fun hHeld => ?_)
        case sse19 => (exact K8.out _ X4 V4)
        clear hK K
        try simp only [Act.put, List.setIfInBounds_toArray, List.set_cons_zero, List.set_cons_succ]
        refine wpAnyH_take (i := 19) (oi := ⟨some 3, _, _, _, _, _⟩) (v := ?vve20) rfl (by kernel_rfl) (by kernel_rfl) (by kernel_rfl) (fun _ _ _ h => h) (Or.inl ⟨by rfl, ?yye20⟩) hHeld ?rre20
        case yye20 => (intro wq hSw; (try dsimp only at hSw); go_simp; first | done | with_reducible rfl)
        simp only [Act.put, List.setIfInBounds_toArray, List.set_cons_zero, List.set_cons_succ]
        refine wpAnyH_done (by kernel_rfl) ?_ _
        clear hHeld
        go_wp2_with fail
        refine ⟨⟨j + 1, by omega, by go_num, ?_, (((HBX.out.drew.trans (B2.out.mono (by simp; omega))).trans (B3.out.mono (by omega))).alloc (by omega) _).trans B4.out⟩, by simp [intOf]; omega⟩
        rw [HTK.out]
        exact o4
      · go_simp
        refine (r21five_any id _ HF.out).mono ?_
        rintro e w3 ⟨rfl, hb3⟩
        have z3 := hb3.size
        replace AT2 := Lib.hid (AT2.out.below hb3)
        have X3 : w3.heap[wr.heap.size]? = WX.heap[wr.heap.size]? := (hb3.block _ (by omega)).trans X2
        have V3 : w3.heap[w.heap.size]? = WX.heap[w.heap.size]? := (hb3.block _ (by omega)).trans V2
        have O3 := Lib.hid (O2.out.below hb3)
        have B3 := Lib.hid hb3
        clear hb3
        go_wp2_with fail
        refine hK.out _ _ ?sse21 (fun hHeld => ?_)
        case sse21 => (exact K8.out _ X3 V3)
        clear hK K
        try simp only [Act.put, List.setIfInBounds_toArray, List.set_cons_zero, List.set_cons_succ]
        refine wpAnyH_ready (rs := [11]) (by kernel_rfl) (by simp) ?_
        refine AllReadyH.cons (o := ⟨some 46, _, _, _, _, _⟩) rfl (fun K hK => ?_) AllReadyH.nil
        refine step_toStr _ rfl (.tmp 45) rfl _ _ _ p.v.bytes rfl rfl AT2.out.conv ?_
        refine hK.out _ _ ?sse22 (fun hHeld => ?_)
        case sse22 => (exact K8.out _ X3 V3)
        clear hK K
        try simp only [Act.put, List.setIfInBounds_toArray, List.set_cons_zero, List.set_cons_succ]
        refine wpAnyH_take (i := 15) (oi := ⟨some 50, _, _, _, _, _⟩) (v := ?vve23) rfl (by kernel_rfl) (by kernel_rfl) (by kernel_rfl) (fun _ _ _ h => h) (Or.inl ⟨by rfl, ?yye23⟩) hHeld ?rre23
        case yye23 => (intro wq hSw; (try dsimp only at hSw); go_simp; first | done | with_reducible rfl)
        simp only [Act.put, List.setIfInBounds_toArray, List.set_cons_zero, List.set_cons_succ]
        refine wpAnyH_take (i := 16) (oi := ⟨some 51, _, _, _, _, _⟩) (v := ?vve24) rfl (by kernel_rfl) (by kernel_rfl) (by kernel_rfl) (fun _ _ _ h => h) (Or.inl ⟨by rfl, ?yye24⟩) hHeld ?rre24
        case yye24 => (intro wq hSw; (try dsimp only at hSw); go_simp; first | done | with_reducible rfl)
        simp only [Act.put, List.setIfInBounds_toArray, List.set_cons_zero, List.set_cons_succ]
        refine wpAnyH_ready (rs := [17]) (by kernel_rfl) (by simp) ?_
        refine AllReadyH.cons (o := ⟨some 52, _, _, _, _, _⟩) rfl (fun K hK => ?_) AllReadyH.nil
        go_simp
        refine hK.out _ _ ?sse25 (fun hHeld => ?_)
        case sse25 => (exact K8.out _ ((Below.heap_alloc _ _ _ (by omega)).trans X3) ((Below.heap_alloc _ _ _ (by omega)).trans V3))
        clear hK K
        try simp only [Act.put, List.setIfInBounds_toArray, List.set_cons_zero, List.set_cons_succ]
        refine wpAnyH_ready (rs := [18]) (by kernel_rfl) (by simp) ?_
        refine AllReadyH.cons (o := ⟨some 53, _, _, _, _, _⟩) rfl (fun K hK => ?_) AllReadyH.nil
        refine step_appE _ rfl (.tmp 35) (.tmp 52) rfl W.heap.size _ _ rfl (O3.out.alloc _) w3.heap.size 1 (⟨#[80]⟩ ++ label ++ ⟨#[32]⟩ ++ p.key, ⟨(p.v.bytes ++ fiveL id).toArray⟩) rfl (heap_new w3 _) (by have := HLN.out; omega) (by simp; omega) ?_
        intro v4 w4 o4 b4 g4
        have X4 : w4.heap[wr.heap.size]? = WX.heap[wr.heap.size]? := (g4.block _ (by simp; omega) HNX.out).trans ((Below.heap_alloc _ _ _ (by omega)).trans X3)
        have V4 : w4.heap[w.heap.size]? = WX.heap[w.heap.size]? := (g4.block _ (by simp; omega) HNV.out).trans ((Below.heap_alloc _ _ _ (by omega)).trans V3)
        have B4 := Lib.hid b4
        clear g4 b4
        refine hK.out _ _ ?sse26 (fun hHeld => ?_)
        case sse26 => (exact K8.out _ X4 V4)
        clear hK K
        try simp only [Act.put, List.setIfInBounds_toArray, List.set_cons_zero, List.set_cons_succ]
        refine wpAnyH_take (i := 19) (oi := ⟨some 3, _, _, _, _, _⟩) (v := ?vve27) rfl (by kernel_rfl) (by kernel_rfl) (by kernel_rfl) (fun _ _ _ h => h) (Or.inl ⟨by rfl, ?yye27⟩) hHeld ?rre27
        case yye27 => (intro wq hSw; (try dsimp only at hSw); go_simp; first | done | with_reducible rfl)
        simp only [Act.put, List.setIfInBounds_toArray, List.set_cons_zero, List.set_cons_succ]
        refine wpAnyH_done (by kernel_rfl) ?_ _
        clear hHeld
        go_wp2_with fail
        refine ⟨⟨j + 1, by omega, by go_num, ?_, (((HBX.out.drew.trans (B2.out.mono (by simp; omega))).trans (B3.out.mono (by omega))).alloc (by omega) _).trans B4.out⟩, by simp [intOf]; omega⟩
        rw [HTK.out]
        exact o4
    · obtain rfl : j = ps.length := by omega
      go_wp2_with fail
      go_ret
      refine ⟨_, rfl, ?_, below_then HB.out hbel⟩
      rw [List.take_length] at hO
      exact hO.mono (by omega)
end Go.Proofs.Ytcafedfldmcbiaa
