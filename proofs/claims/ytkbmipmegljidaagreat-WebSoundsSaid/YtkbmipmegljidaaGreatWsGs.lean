/- References 03 Same, 16 SameV, SameE of rows that say the same. Conditions: each contract's own premises. graph.All. Conditions: the contract's own premises. -/
import Derived.Test.YtkbmipmegljidaaGreatWsZ
import Derived.Test.YtkbmipmegljidaaGreatWsGi
import Derived.BigQuiet
namespace Go.Proofs.YtkbmipmegljidaaGreat
open Go.RowKit Go.Maps

set_option maxRecDepth 100000 in
set_option maxHeartbeats 2000000 in
theorem samePs_any (a b : Option Addr) (ca cb : Nat) (x : List Pr) (w : World) (ha : PsV w a x) (hb : PsV w b x) (hx : x.length ≤ 100000) :
    Calls Tryz.prog 30 #[.slice a x.length ca, .slice b x.length cb] w fun e w' => e = .returned (.bool true) ∧ ∃ n, w' = w.drewN n := by
  have HA := Lib.hid ha
  have HB := Lib.hid hb
  obtain ⟨m, hm⟩ : ∃ m, m = x.length := ⟨_, rfl⟩
  have HM : Hid (m = x.length ∧ m ≤ 100000) := Lib.hid (by omega)
  have tm : ((m : Int) != (m : Int)) = false := by simp
  rw [← hm]
  clear ha hb hx hm
  go_enter Tryz.func30, Tryz.ntmps30
  go_wp2_with fail
  clear tm
  go_loopw [5] (fun i wr => ∃ j : Nat, i = .int .i64 (j : Int) ∧ j ≤ m ∧ ∃ n, wr = w.drewN n) (fun i _ => m - (intOf i).toNat)
  case atStart => exact ⟨0, rfl, Nat.zero_le _, 0, rfl⟩
  case round =>
    obtain ⟨j, rfl, hj, n, rfl⟩ := hrel
    have hm6 := HM.out.2
    by_cases hlt : j < m
    · obtain ⟨p, hp⟩ : ∃ p, x[j]? = some p := ⟨_, List.getElem?_eq_getElem (by have := HM.out.1; omega)⟩
      obtain ⟨b1, o1, rfl, at1⟩ := HA.out (fun e => by rw [e] at hp; simp at hp)
      obtain ⟨b2, o2, rfl, at2⟩ := HB.out (fun e => by rw [e] at hp; simp at hp)
      obtain ⟨p0, p1, p2, p3⟩ := at1.cells j p hp
      obtain ⟨q0, q1, q2, q3⟩ := at2.cells j p hp
      have l1 := at1.lt
      have l2 := at2.lt
      clear at1 at2 hp
      go_wp2_with fail
      go_quiet (fail)
      go_wp2_with fail
      exact ⟨⟨j + 1, by simp, hlt, _, rfl⟩, by simp [intOf]; omega⟩
    · have tj : decide ((j : Int) < (m : Int)) = false := decide_eq_false (by omega)
      go_wp2_with fail
      go_ret
      exact ⟨rfl, _, rfl⟩
set_option maxRecDepth 100000 in
set_option maxHeartbeats 4000000 in
/-- reference SameV of two rows that say the same -/
theorem sameV_any (a b : Option Addr) (ca cb : Nat) (L1 L2 : List Vr) (w : World) (hv1 : kVr.V w a L1) (hv2 : kVr.V w b L2) (h1 : ∀ x ∈ L1, PsA w x.a x.c x.v.ps ∧ x.v.ps.length ≤ 100000) (h2 : ∀ x ∈ L2, PsA w x.a x.c x.v.ps) (he : L1.map Vr.v = L2.map Vr.v) (hl : L1.length ≤ 1000000) :
    Calls Tryz.prog 13 #[.slice a L1.length ca, .slice b L2.length cb] w fun e w' => e = .returned (.bool true) ∧ ∃ n, w' = w.drewN n := by
  have hle : L2.length = L1.length := by have := congrArg List.length he; simpa using this.symm
  rw [hle]
  obtain ⟨m, hm⟩ : ∃ m, m = L1.length := ⟨_, rfl⟩
  have HM : Hid (m = L1.length ∧ m = L2.length ∧ m ≤ 1000000) := Lib.hid (by omega)
  have HE : Hid (∀ (j : Nat) (x y : Vr), L1[j]? = some x → L2[j]? = some y → x.v = y.v) := Lib.hid (fun j x y hx hy => by
    have h := congrArg (fun l => l[j]?) he
    simp only [List.getElem?_map, hx, hy, Option.map_some, Option.some.injEq] at h
    exact h)
  have H1 := Lib.hid hv1
  have H2 := Lib.hid hv2
  have P1 := Lib.hid h1
  have P2 := Lib.hid h2
  rw [← hm]
  have tm : ((m : Int) != (m : Int)) = false := by simp
  clear hle hm he hl hv1 hv2 h1 h2
  go_enter Tryz.func13, Tryz.ntmps13
  go_wp2_with fail
  clear tm
  go_loopw [5] (fun i wr => ∃ j : Nat, i = .int .i64 (j : Int) ∧ j ≤ m ∧ ∃ n, wr = w.drewN n) (fun i _ => m - (intOf i).toNat)
  case atStart => exact ⟨0, rfl, Nat.zero_le _, 0, rfl⟩
  case round =>
    obtain ⟨j, rfl, hj, n, rfl⟩ := hrel
    have hm6 := HM.out.2.2
    by_cases hlt : j < m
    · obtain ⟨x, hx⟩ : ∃ x, L1[j]? = some x := ⟨_, List.getElem?_eq_getElem (by have := HM.out.1; omega)⟩
      obtain ⟨y, hy⟩ : ∃ y, L2[j]? = some y := ⟨_, List.getElem?_eq_getElem (by have := HM.out.2.1; omega)⟩
      obtain ⟨b1, o1, rfl, hat1⟩ := H1.out (fun e => by rw [e] at hx; simp at hx)
      obtain ⟨b2, o2, rfl, hat2⟩ := H2.out (fun e => by rw [e] at hy; simp at hy)
      have hxy := HE.out j x y hx hy
      have a0 := hat1.cells j x hx 0 _ rfl
      have b0 := hat2.cells j y hy 0 _ rfl
      have a1 := hat1.cells j x hx 1 _ rfl
      have b1 := hat2.cells j y hy 1 _ rfl
      have a2 := hat1.cells j x hx 2 _ rfl
      have b2 := hat2.cells j y hy 2 _ rfl
      have z1 := hat1.lt
      have z2 := hat2.lt
      have q : ∀ k, Calls Tryz.prog 30 #[.slice x.a x.v.ps.length x.c, .slice y.a x.v.ps.length y.c] (w.drewN (n + k)) fun e w' => e = .returned (.bool true) ∧ ∃ i, w' = w.drewN (n + i) := fun k => by
        have p1 := P1.out x (List.mem_of_getElem? hx)
        have p2 := P2.out y (List.mem_of_getElem? hy)
        refine (samePs_any x.a y.a x.c y.c x.v.ps (w.drewN (n + k)) (p1.1.below (below_drewN' (Below.refl _ _) _)).v ((by rw [hxy]; exact (p2.below (below_drewN' (Below.refl _ _) _)).v)) p1.2).mono ?_
        rintro e w' ⟨rfl, i, rfl⟩
        exact ⟨rfl, k + i, by rw [World.drewN_drewN, Nat.add_assoc]⟩
      have Q := Lib.hid q
      simp [kVr] at a0 b0 a1 b1 a2 b2
      rw [← hxy] at b0 b1 b2
      have t0 : (x.v.id != x.v.id) = false := by simp
      have t1 : (x.v.label.toList == x.v.label.toList) = true := by simp
      clear hx hy hxy hat1 hat2 q
      go_wp2_with fail
      go_quiet ((go_at_call 30; exact Q.out _))
      go_wp2_with fail
      exact ⟨⟨j + 1, by simp, hlt, _, rfl⟩, by simp [intOf]; omega⟩
    · have tj : decide ((j : Int) < (m : Int)) = false := decide_eq_false (by omega)
      go_wp2_with fail
      go_ret
      exact ⟨rfl, _, rfl⟩
set_option maxRecDepth 100000 in
set_option maxHeartbeats 4000000 in
/-- reference SameE of two rows that say the same -/
theorem sameE_any (a b : Option Addr) (ca cb : Nat) (L1 L2 : List Er) (w : World) (hv1 : kEr.V w a L1) (hv2 : kEr.V w b L2) (h1 : ∀ x ∈ L1, PsA w x.a x.c x.e.ps ∧ x.e.ps.length ≤ 100000) (h2 : ∀ x ∈ L2, PsA w x.a x.c x.e.ps) (he : L1.map Er.e = L2.map Er.e) (hl : L1.length ≤ 1000000) :
    Calls Tryz.prog 14 #[.slice a L1.length ca, .slice b L2.length cb] w fun e w' => e = .returned (.bool true) ∧ ∃ n, w' = w.drewN n := by
  have hle : L2.length = L1.length := by have := congrArg List.length he; simpa using this.symm
  rw [hle]
  obtain ⟨m, hm⟩ : ∃ m, m = L1.length := ⟨_, rfl⟩
  have HM : Hid (m = L1.length ∧ m = L2.length ∧ m ≤ 1000000) := Lib.hid (by omega)
  have HE : Hid (∀ (j : Nat) (x y : Er), L1[j]? = some x → L2[j]? = some y → x.e = y.e) := Lib.hid (fun j x y hx hy => by
    have h := congrArg (fun l => l[j]?) he
    simp only [List.getElem?_map, hx, hy, Option.map_some, Option.some.injEq] at h
    exact h)
  have H1 := Lib.hid hv1
  have H2 := Lib.hid hv2
  have P1 := Lib.hid h1
  have P2 := Lib.hid h2
  rw [← hm]
  have tm : ((m : Int) != (m : Int)) = false := by simp
  clear hle hm he hl hv1 hv2 h1 h2
  go_enter Tryz.func14, Tryz.ntmps14
  go_wp2_with fail
  clear tm
  go_loopw [5] (fun i wr => ∃ j : Nat, i = .int .i64 (j : Int) ∧ j ≤ m ∧ ∃ n, wr = w.drewN n) (fun i _ => m - (intOf i).toNat)
  case atStart => exact ⟨0, rfl, Nat.zero_le _, 0, rfl⟩
  case round =>
    obtain ⟨j, rfl, hj, n, rfl⟩ := hrel
    have hm6 := HM.out.2.2
    by_cases hlt : j < m
    · obtain ⟨x, hx⟩ : ∃ x, L1[j]? = some x := ⟨_, List.getElem?_eq_getElem (by have := HM.out.1; omega)⟩
      obtain ⟨y, hy⟩ : ∃ y, L2[j]? = some y := ⟨_, List.getElem?_eq_getElem (by have := HM.out.2.1; omega)⟩
      obtain ⟨b1, o1, rfl, hat1⟩ := H1.out (fun e => by rw [e] at hx; simp at hx)
      obtain ⟨b2, o2, rfl, hat2⟩ := H2.out (fun e => by rw [e] at hy; simp at hy)
      have hxy := HE.out j x y hx hy
      have a0 := hat1.cells j x hx 0 _ rfl
      have b0 := hat2.cells j y hy 0 _ rfl
      have a1 := hat1.cells j x hx 1 _ rfl
      have b1 := hat2.cells j y hy 1 _ rfl
      have a2 := hat1.cells j x hx 2 _ rfl
      have b2 := hat2.cells j y hy 2 _ rfl
      have a3 := hat1.cells j x hx 3 _ rfl
      have b3 := hat2.cells j y hy 3 _ rfl
      have a4 := hat1.cells j x hx 4 _ rfl
      have b4 := hat2.cells j y hy 4 _ rfl
      have z1 := hat1.lt
      have z2 := hat2.lt
      have q : ∀ k, Calls Tryz.prog 30 #[.slice x.a x.e.ps.length x.c, .slice y.a x.e.ps.length y.c] (w.drewN (n + k)) fun e w' => e = .returned (.bool true) ∧ ∃ i, w' = w.drewN (n + i) := fun k => by
        have p1 := P1.out x (List.mem_of_getElem? hx)
        have p2 := P2.out y (List.mem_of_getElem? hy)
        refine (samePs_any x.a y.a x.c y.c x.e.ps (w.drewN (n + k)) (p1.1.below (below_drewN' (Below.refl _ _) _)).v ((by rw [hxy]; exact (p2.below (below_drewN' (Below.refl _ _) _)).v)) p1.2).mono ?_
        rintro e w' ⟨rfl, i, rfl⟩
        exact ⟨rfl, k + i, by rw [World.drewN_drewN, Nat.add_assoc]⟩
      have Q := Lib.hid q
      simp [kEr] at a0 b0 a1 b1 a2 b2 a3 b3 a4 b4
      rw [← hxy] at b0 b1 b2 b3 b4
      have t0 : (x.e.id != x.e.id) = false := by simp
      have t1 : (x.e.label.toList == x.e.label.toList) = true := by simp
      have t2 : (x.e.fr != x.e.fr) = false := by simp
      have t3 : (x.e.to != x.e.to) = false := by simp
      clear hx hy hxy hat1 hat2 q
      go_wp2_with fail
      go_quiet ((go_at_call 30; exact Q.out _))
      go_wp2_with fail
      exact ⟨⟨j + 1, by simp, hlt, _, rfl⟩, by simp [intOf]; omega⟩
    · have tj : decide ((j : Int) < (m : Int)) = false := decide_eq_false (by omega)
      go_wp2_with fail
      go_ret
      exact ⟨rfl, _, rfl⟩
end Go.Proofs.YtkbmipmegljidaaGreat
namespace Go.Proofs.YtkbmipmegljidaaGreat
open Go.RowKit Go.Maps

theorem psA_grown {u u' : World} {r : Option Nat} {a : Option Addr} {c : Nat} {ps : List Pr} (h : PsA u a c ps) (hn : ps ≠ [] → ∀ b off, a = some ⟨b, off, none⟩ → some b ≠ r) (hg : u.grownBy u' r) : PsA u' a c ps :=
  ⟨fun hp => by
    obtain ⟨b, off, e, hat⟩ := h.v hp
    exact ⟨b, off, e, hat.of_block (hg.block b hat.lt (hn hp b off e))⟩, h.nil⟩
/-- a row of elements with properties, none of which lie in the row's own block -/
structure RowP {α : Type} (k : RowK Tryz.prog α) (pa : α → Option Addr) (pc : α → Nat) (pp : α → List Pr) (u : World) (B : Nat) (v : Value) (L : List α) : Prop where
  o : k.Own u B v L
  p : ∀ x ∈ L, PsA u (pa x) (pc x) (pp x) ∧ (pp x ≠ [] → ∀ b off, pa x = some ⟨b, off, none⟩ → some b ≠ v.ownBlock)
section
variable {α : Type} {k : RowK Tryz.prog α} {pa : α → Option Addr} {pc : α → Nat} {pp : α → List Pr} {u u' : World} {B : Nat} {v v' : Value} {L : List α} {x : α}
theorem RowP.nil (u : World) (B : Nat) : RowP k pa pc pp u B (.slice none 0 0) [] := ⟨RowK.Own.nil k _ _, fun x hx => by cases hx⟩
theorem RowP.below (h : RowP k pa pc pp u B v L) (hb : Below u.heap.size u u') : RowP k pa pc pp u' B v L := ⟨h.o.below hb, fun x hx => ⟨(h.p x hx).1.below hb, (h.p x hx).2⟩⟩
theorem RowP.mono {B' : Nat} (h : RowP k pa pc pp u B v L) (hB : B' ≤ B) : RowP k pa pc pp u B' v L := ⟨h.o.mono hB, h.p⟩
theorem RowP.app (h : RowP k pa pc pp u B v L) (hx : PsA u (pa x) (pc x) (pp x)) (hn : pp x ≠ [] → ∀ b off, pa x = some ⟨b, off, none⟩ → some b ≠ v.ownBlock) (hA : k.App u B v (L ++ [x]) v' u') : RowP k pa pc pp u' B v' (L ++ [x]) := by
  obtain ⟨o1, g1, e1⟩ := hA
  have key : ∀ y, PsA u (pa y) (pc y) (pp y) → (pp y ≠ [] → ∀ b off, pa y = some ⟨b, off, none⟩ → some b ≠ v.ownBlock) → PsA u' (pa y) (pc y) (pp y) ∧ (pp y ≠ [] → ∀ b off, pa y = some ⟨b, off, none⟩ → some b ≠ v'.ownBlock) := fun y h1 h2 => by
    refine ⟨psA_grown h1 h2 g1, fun hp b off e => ?_⟩
    rcases e1 with e1 | e1
    · rw [e1]; exact h2 hp b off e
    · rw [e1]
      obtain ⟨b', off', e', hat⟩ := h1.v hp
      rw [e] at e'
      injection e' with e'
      injection e' with e2 e3
      have := hat.lt
      intro e4
      injection e4 with e4
      omega
  refine ⟨o1, fun y hy => ?_⟩
  rcases List.mem_append.1 hy with hy | hy
  · exact key y (h.p y hy).1 (h.p y hy).2
  · obtain rfl : y = x := by simpa using hy
    exact key y hx hn
end
theorem below_grownK {α : Type} {k : RowK Tryz.prog α} {w w' : World} {B : Nat} {v : Value} {l : List α} (h : k.Own w B v l) (hg : w.grownBy w' v.ownBlock) (hB : B ≤ w.heap.size) : Below B w w' :=
  ⟨hg.os, hg.tape, hg.output, hg.size, fun k hk => hg.block k (by omega) (fun e => by have := (h.lt k e.symm).1; omega)⟩
abbrev RowV := RowP kVr Vr.a Vr.c (fun x => x.v.ps)
abbrev RowE := RowP kEr Er.a Er.c (fun x => x.e.ps)
theorem getV_run {w : World} {gb vb eb : Nat} {V : List Vt} {E : List Eg} (h : GrC w gb vb eb V E) {y : Vt} (hy : y ∈ V) : ∃ a c, (Instr.lookup 77 (.map (some vb)) (.int .i64 y.id) false).run Tryz.prog w = .ok (.agg #[.int .i64 y.id, .string y.label, .slice a y.ps.length c]) w ∧ PsA w a c y.ps ∧ y.ps.length ≤ 100000 := by
  obtain ⟨f, m, hf⟩ := h.vm
  obtain ⟨a, c, h3, h4⟩ := hf.yes y hy
  have e := m.look lawI Tryz.underlying77 (zeroV w) (keyI (checkR_ids (h.ok.v y hy) (by simp) : I64 y.id))
  rw [h3] at e
  exact ⟨a, c, e, h4, by have := checkR_ps (h.ok.v y hy); omega⟩
theorem getE_run {w : World} {gb vb eb : Nat} {V : List Vt} {E : List Eg} (h : GrC w gb vb eb V E) {y : Eg} (hy : y ∈ E) : ∃ a c, (Instr.lookup 78 (.map (some eb)) (.int .i64 y.id) false).run Tryz.prog w = .ok (.agg #[.int .i64 y.id, .string y.label, .int .i64 y.fr, .int .i64 y.to, .slice a y.ps.length c]) w ∧ PsA w a c y.ps ∧ y.ps.length ≤ 100000 := by
  obtain ⟨f, m, hf⟩ := h.em
  obtain ⟨a, c, h3, h4⟩ := hf.yes y hy
  have e := m.look lawI Tryz.underlying78 (zeroE w) (keyI (checkR_ids (h.ok.e y hy) (by simp) : I64 y.id))
  rw [h3] at e
  exact ⟨a, c, e, h4, by have := checkR_ps (h.ok.e y hy); omega⟩
def AlPost (w : World) (V : List Vt) (E : List Eg) (e : Ending) (w' : World) : Prop :=
  ∃ v1 v2 VL EL, e = .returned (.tuple #[v1, v2]) ∧ RowV w' w.heap.size v1 VL ∧ RowE w' w.heap.size v2 EL ∧ VL.map Vr.v = V ∧ EL.map Er.e = E ∧ Below w.heap.size w w'
set_option maxRecDepth 100000 in
set_option maxHeartbeats 8000000 in
theorem gall_any (gb vb eb : Nat) (V : List Vt) (E : List Eg) (w : World) (h : GrC w gb vb eb V E) (hV : V.length ≤ 1000000) (hE : E.length ≤ 1000000) :
    Calls Tryz.prog 12 #[.pointer (some ⟨gb, 0, none⟩)] w (AlPost w V E) := by
  have c0 : w.cell? ⟨gb, 0, none⟩ = some (.map (some vb)) := by rw [cell_of_blk h.blk]; rfl
  have zg := h.lt
  have HGC := Lib.hid h
  have HV := Lib.hid hV
  have HE := Lib.hid hE
  clear h hV hE
  go_enter Tryz.func12, Tryz.ntmps12
  go_wp2_with fail

  refine (ikeysV_any (some vb) w).mono ?_
  rintro e waV ⟨rfl, hwa⟩
  have HBaV : Hid (Below w.heap.size w waV) := Lib.hid (by rw [hwa]; exact below_box w _)
  have HGaV := Lib.hid (HGC.out.below HBaV.out)
  have HSR : Hid (Calls Tryz.prog 25 #[.func (.func 63) #[] #[.pointer (some ⟨w.heap.size, 0, none⟩)]] waV fun e W' => ∃ v, e = .returned v ∧ kI.Own W' waV.heap.size v (V.map Vt.id) ∧ Below waV.heap.size waV W') := Lib.hid (isortedV_any w.heap.size waV HGaV.out HV.out (by rw [hwa]; simp) (by rw [hwa]; exact cell_of_blk (heap_new w _) 0))
  clear hwa
  go_wp2_with fail
  refine HSR.out.mono ?_
  rintro e wbV ⟨vi, rfl, oi, bi⟩
  obtain ⟨nV, hnV⟩ : ∃ n, n = V.length := ⟨_, rfl⟩
  obtain ⟨iaV, icV, rfl⟩ := oi.shape
  rw [List.length_map, ← hnV] at oi ⊢
  have HNV : Hid (nV = V.length ∧ nV ≤ 1000000) := Lib.hid ⟨hnV, by have := HV.out; omega⟩
  have HBbV : Hid (Below w.heap.size w wbV) := Lib.hid (below_then HBaV.out bi)
  have HGbV := Lib.hid (HGaV.out.below bi)
  have HOIV := Lib.hid oi
  clear oi bi hnV HSR

  go_wp2_with fail

  go_loopw [4, 17] (fun vv iv wr => ∃ (i : Nat) (RL : List Vr), iv = .int .i64 (i : Int) ∧ i ≤ nV ∧ Hid (RL.map Vr.v = V.take i) ∧ Hid (RowV wr wbV.heap.size vv RL) ∧ Hid (Below wbV.heap.size wbV wr)) (fun _ iv _ => nV - (intOf iv).toNat)
  case atStart => exact ⟨0, [], rfl, Nat.zero_le _, Lib.hid rfl, Lib.hid (RowP.nil _ _), Lib.hid (Below.refl _ _)⟩
  case round =>
    obtain ⟨i, RL, rfl, hi, HRL, HRW, HB⟩ := hrel
    obtain ⟨ra, rc, rfl⟩ := HRW.out.o.shape
    have hlr : RL.length = i := by
      have := congrArg List.length HRL.out
      rw [List.length_map, List.length_take] at this
      have := HNV.out.1
      omega
    rw [hlr] at HRW ⊢
    have HLR := Lib.hid hlr
    have hn6 := HNV.out.2
    clear hlr
    by_cases hlt : i < nV
    · obtain ⟨y, hy⟩ : ∃ y, V[i]? = some y := ⟨_, List.getElem?_eq_getElem (by have := HNV.out.1; omega)⟩
      obtain ⟨lb, lcap, hsl, _, _, hat⟩ := (HOIV.out.below HB.out).at' (fun e => by rw [List.map_eq_nil_iff] at e; rw [e] at hy; simp at hy)
      injection hsl with e1 e2 e3
      subst e1
      have x0 := hat.cells i y.id (by rw [List.getElem?_map, hy]; rfl) 0 _ rfl
      simp [kI] at x0
      have zl := hat.lt
      have hgr := HGbV.out.below HB.out
      have c0 : wr.cell? ⟨gb, 0, none⟩ = some (.map (some vb)) := by rw [cell_of_blk hgr.blk]; rfl
      have zg := hgr.lt
      obtain ⟨a, c, hlk, hpa, hpl⟩ := getV_run hgr (List.mem_of_getElem? hy)
      have HPA := Lib.hid hpa
      have HPL := Lib.hid hpl
      have HY := Lib.hid hy
      have HOW : Hid (Calls Tryz.prog 27 #[.agg #[.int .i64 y.id, .string y.label, .slice a y.ps.length c]] wr (OvPost wr y)) := Lib.hid (ownV_any y a c wr hpa hpl)
      clear hat hgr hpa hpl hy e2 e3
      go_wp2_with fail
      refine HOW.out.mono ?_
      rintro e w3 ⟨a3, c3, rfl, ⟨p3, n3⟩, b3⟩
      obtain ⟨W4, hW4⟩ : ∃ W4, W4 = w3.alloc (.cells #[.int .i64 y.id, .string y.label, .slice a3 y.ps.length c3] 30) := ⟨_, rfl⟩
      have hb4 : Below w3.heap.size w3 W4 := by rw [hW4]; exact below_box w3 _
      have HB4 : Hid (Below wr.heap.size wr W4) := Lib.hid (below_then b3 hb4)
      have HR4 := Lib.hid (HRW.out.below HB4.out)
      have HP4 := Lib.hid (p3.below hb4)
      have HXV : Hid (kVr.V W4 (some ⟨w3.heap.size, 0, none⟩) [⟨y, a3, c3⟩]) := Lib.hid (by rw [hW4]; exact fun _ => ⟨_, 0, rfl, RowK.new_at (k := kVr) (heap_new w3 _) (by simp [RowK.cells, kVr, Vr.enc])⟩)
      have HN3 : Hid (∀ b off, a3 = some ⟨b, off, none⟩ → some b ≠ (Value.slice ra i rc).ownBlock) := Lib.hid (fun b off e h => by
        have h1 := n3 b off e
        have h2 := (HRW.out.o.lt b h.symm).2
        omega)
      have HZ4 : Hid (wbV.heap.size ≤ W4.heap.size) := Lib.hid (Nat.le_trans HB.out.size HB4.out.size)
      have HW4 := Lib.hid hW4.symm
      clear p3 n3 b3 hW4 hb4 x0 zl c0 zg hlk
      unfold Vt.val
      go_wp2_with (first | (at_builtin; rw [HW4.out]; refine RowK.wpList_app (k := kVr) (B := wbV.heap.size) (v := .slice ra i rc) (l := RL) rfl (.tmp 21) (.tmp 29) rfl rfl HR4.out.o (some ⟨w3.heap.size, 0, none⟩) 1 [⟨y, a3, c3⟩] 1 rfl rfl HXV.out (fun e => by cases e) (by rw [HLR.out]; simp; omega) HZ4.out ?_; intro v8 w8 hA; have HA8 := Lib.hid hA; clear hA) | fail)
      refine ⟨⟨i + 1, RL ++ [⟨y, a3, c3⟩], by simp, hlt, Lib.hid (by rw [List.map_append, HRL.out, List.take_add_one, HY.out]; rfl), Lib.hid (HR4.out.app HP4.out (fun _ b off e => HN3.out b off e) HA8.out), Lib.hid ((below_then HB.out HB4.out).trans (below_grownK HR4.out.o HA8.out.2.1 HZ4.out))⟩, by simp [intOf]; omega⟩
    · have hin : i = nV := by omega
      have ti : decide ((i : Int) < (nV : Int)) = false := decide_eq_false (by omega)

      have HVL : Hid (RL.map Vr.v = V) := Lib.hid (by rw [HRL.out, hin]; exact List.take_of_length_le (by have := HNV.out.1; omega))
      have HW2 : Hid (Below w.heap.size w wr) := Lib.hid (HBbV.out.trans (HB.out.mono HBbV.out.size))
      have HG2 := Lib.hid (HGC.out.below HW2.out)
      have HRV := Lib.hid HRW.out
      have c1 : wr.cell? ⟨gb, 1, none⟩ = some (.map (some eb)) := by rw [cell_of_blk HG2.out.blk]; rfl
      have zg := HG2.out.lt
      obtain ⟨wo, hwo⟩ : ∃ wo : World, wo = wr := ⟨_, rfl⟩
      go_wp2_with fail
      rw [← hwo] at HW2 HG2 HRV ⊢
      clear c1 zg hin ti hlt hi hwo
      refine (ikeysE_any (some eb) wo).mono ?_
      rintro e waE ⟨rfl, hwa⟩
      have HBaE : Hid (Below wo.heap.size wo waE) := Lib.hid (by rw [hwa]; exact below_box wo _)
      have HGaE := Lib.hid (HG2.out.below HBaE.out)
      have HSR : Hid (Calls Tryz.prog 25 #[.func (.func 65) #[] #[.pointer (some ⟨wo.heap.size, 0, none⟩)]] waE fun e W' => ∃ v, e = .returned v ∧ kI.Own W' waE.heap.size v (E.map Eg.id) ∧ Below waE.heap.size waE W') := Lib.hid (isortedE_any wo.heap.size waE HGaE.out HE.out (by rw [hwa]; simp) (by rw [hwa]; exact cell_of_blk (heap_new wo _) 0))
      clear hwa
      go_wp2_with fail
      refine HSR.out.mono ?_
      rintro e wbE ⟨vi, rfl, oi, bi⟩
      obtain ⟨nE, hnE⟩ : ∃ n, n = E.length := ⟨_, rfl⟩
      obtain ⟨iaE, icE, rfl⟩ := oi.shape
      rw [List.length_map, ← hnE] at oi ⊢
      have HNE : Hid (nE = E.length ∧ nE ≤ 1000000) := Lib.hid ⟨hnE, by have := HE.out; omega⟩
      have HBbE : Hid (Below wo.heap.size wo wbE) := Lib.hid (below_then HBaE.out bi)
      have HGbE := Lib.hid (HGaE.out.below bi)
      have HOIE := Lib.hid oi
      clear oi bi hnE HSR

      have HRV2 := Lib.hid (HRV.out.below HBbE.out)
      go_wp2_with fail

      go_loopw [5, 39] (fun vv iv wr => ∃ (i : Nat) (RE : List Er), iv = .int .i64 (i : Int) ∧ i ≤ nE ∧ Hid (RE.map Er.e = E.take i) ∧ Hid (RowE wr wbE.heap.size vv RE) ∧ Hid (Below wbE.heap.size wbE wr)) (fun _ iv _ => nE - (intOf iv).toNat)
      case atStart => exact ⟨0, [], rfl, Nat.zero_le _, Lib.hid rfl, Lib.hid (RowP.nil _ _), Lib.hid (Below.refl _ _)⟩
      case round =>
        obtain ⟨i, RE, rfl, hi, HRL, HRW, HB⟩ := hrel
        obtain ⟨ra, rc, rfl⟩ := HRW.out.o.shape
        have hlr : RE.length = i := by
          have := congrArg List.length HRL.out
          rw [List.length_map, List.length_take] at this
          have := HNE.out.1
          omega
        rw [hlr] at HRW ⊢
        have HLR := Lib.hid hlr
        have hn6 := HNE.out.2
        clear hlr
        by_cases hlt : i < nE
        · obtain ⟨y, hy⟩ : ∃ y, E[i]? = some y := ⟨_, List.getElem?_eq_getElem (by have := HNE.out.1; omega)⟩
          obtain ⟨lb, lcap, hsl, _, _, hat⟩ := (HOIE.out.below HB.out).at' (fun e => by rw [List.map_eq_nil_iff] at e; rw [e] at hy; simp at hy)
          injection hsl with e1 e2 e3
          subst e1
          have x0 := hat.cells i y.id (by rw [List.getElem?_map, hy]; rfl) 0 _ rfl
          simp [kI] at x0
          have zl := hat.lt
          have hgr := HGbE.out.below HB.out
          have c1 : wr.cell? ⟨gb, 1, none⟩ = some (.map (some eb)) := by rw [cell_of_blk hgr.blk]; rfl
          have zg := hgr.lt
          obtain ⟨a, c, hlk, hpa, hpl⟩ := getE_run hgr (List.mem_of_getElem? hy)
          have HPA := Lib.hid hpa
          have HPL := Lib.hid hpl
          have HY := Lib.hid hy
          have HOW : Hid (Calls Tryz.prog 29 #[.agg #[.int .i64 y.id, .string y.label, .int .i64 y.fr, .int .i64 y.to, .slice a y.ps.length c]] wr (OePost wr y)) := Lib.hid (ownE_any y a c wr hpa hpl)
          clear hat hgr hpa hpl hy e2 e3
          go_wp2_with fail
          refine HOW.out.mono ?_
          rintro e w3 ⟨a3, c3, rfl, ⟨p3, n3⟩, b3⟩
          obtain ⟨W4, hW4⟩ : ∃ W4, W4 = w3.alloc (.cells #[.int .i64 y.id, .string y.label, .int .i64 y.fr, .int .i64 y.to, .slice a3 y.ps.length c3] 32) := ⟨_, rfl⟩
          have hb4 : Below w3.heap.size w3 W4 := by rw [hW4]; exact below_box w3 _
          have HB4 : Hid (Below wr.heap.size wr W4) := Lib.hid (below_then b3 hb4)
          have HR4 := Lib.hid (HRW.out.below HB4.out)
          have HP4 := Lib.hid (p3.below hb4)
          have HXV : Hid (kEr.V W4 (some ⟨w3.heap.size, 0, none⟩) [⟨y, a3, c3⟩]) := Lib.hid (by rw [hW4]; exact fun _ => ⟨_, 0, rfl, RowK.new_at (k := kEr) (heap_new w3 _) (by simp [RowK.cells, kEr, Er.enc])⟩)
          have HN3 : Hid (∀ b off, a3 = some ⟨b, off, none⟩ → some b ≠ (Value.slice ra i rc).ownBlock) := Lib.hid (fun b off e h => by
            have h1 := n3 b off e
            have h2 := (HRW.out.o.lt b h.symm).2
            omega)
          have HZ4 : Hid (wbE.heap.size ≤ W4.heap.size) := Lib.hid (Nat.le_trans HB.out.size HB4.out.size)
          have HW4 := Lib.hid hW4.symm
          clear p3 n3 b3 hW4 hb4 x0 zl c1 zg hlk
          unfold Eg.val
          go_wp2_with (first | (at_builtin; rw [HW4.out]; refine RowK.wpList_app (k := kEr) (B := wbE.heap.size) (v := .slice ra i rc) (l := RE) rfl (.tmp 43) (.tmp 51) rfl rfl HR4.out.o (some ⟨w3.heap.size, 0, none⟩) 1 [⟨y, a3, c3⟩] 1 rfl rfl HXV.out (fun e => by cases e) (by rw [HLR.out]; simp; omega) HZ4.out ?_; intro v8 w8 hA; have HA8 := Lib.hid hA; clear hA) | fail)
          refine ⟨⟨i + 1, RE ++ [⟨y, a3, c3⟩], by simp, hlt, Lib.hid (by rw [List.map_append, HRL.out, List.take_add_one, HY.out]; rfl), Lib.hid (HR4.out.app HP4.out (fun _ b off e => HN3.out b off e) HA8.out), Lib.hid ((below_then HB.out HB4.out).trans (below_grownK HR4.out.o HA8.out.2.1 HZ4.out))⟩, by simp [intOf]; omega⟩
        · have hin : i = nE := by omega
          have ti : decide ((i : Int) < (nE : Int)) = false := decide_eq_false (by omega)

          have HEL : Hid (RE.map Er.e = E) := Lib.hid (by rw [HRL.out, hin]; exact List.take_of_length_le (by have := HNE.out.1; omega))
          go_wp2_with fail
          go_ret2
          refine ⟨_, _, _, _, rfl, ?_, ?_, HVL.out, HEL.out, ?_⟩
          · exact (HRV2.out.below HB.out).mono HBbV.out.size
          · exact HRW.out.mono (Nat.le_trans HW2.out.size HBbE.out.size)
          · exact HW2.out.trans ((HBbE.out.trans (HB.out.mono HBbE.out.size)).mono HW2.out.size)
end Go.Proofs.YtkbmipmegljidaaGreat
