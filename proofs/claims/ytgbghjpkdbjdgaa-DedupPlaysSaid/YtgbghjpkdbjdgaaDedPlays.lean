/- DedupPlays, walked. -/
import Derived.Test.YtgbghjpkdbjdgaaDe9
import Derived.Test.YtgbghjpkdbjdgaaDp4
namespace Go.Proofs.Ytgbghjpkdbjdgaa
open Go.RowKit Go.Lib
open Extern.Stop (cell)

/-- Something that is done. -/
structure AcD where
  kind : Int
  id : Nat
  pack : Nat
  n : Int
def acells (a : AcD) : List Value := [.int .i64 a.kind, .int .u8 (a.id : Int), .int .u8 (a.pack : Int), .int .i64 a.n]
theorem acells_len (a : AcD) : (acells a).length = 4 := rfl
theorem acells_one (a : AcD) : ∀ u ∈ acells a, u.oneCell' = true := by
  intro u hu
  simp only [acells, List.mem_cons, List.not_mem_nil, or_false] at hu
  rcases hu with rfl | rfl | rfl | rfl <;> rfl
theorem size_a : (Try.prog.info? 28).map (·.size) = some 4 := by kernel_rfl
theorem sizea (a : AcD) : (Try.prog.info? 28).map (·.size) = some (acells a).toArray.size := by rw [size_a]; rfl
theorem EV.turn {w w' : World} {v : Value} {es l : List Ent} {M : Nat} (h : EV w v es) (hm : IdMap plv w M l) (hg : w.grownBy w' (some M)) : EV w' v es := by
  obtain ⟨ad, c, h1, h2, h3, h4⟩ := h
  refine ⟨ad, c, h1, fun j u hj => ?_, h3, h4⟩
  obtain ⟨b, off, e, hc⟩ := h2 j u hj
  refine ⟨b, off, e, cell_grown hc hg (fun e2 => ?_)⟩
  have e3 : M = b := Option.some.inj e2
  rw [← e3] at hc
  exact map_no_cell hm hc
def AcOk (a : AcD) : Prop := a.id < 256 ∧ a.pack < 256
set_option linter.unusedSimpArgs false in
set_option maxRecDepth 100000 in
set_option maxHeartbeats 16000000 in
theorem plays_law {W : World} {ad : Option Addr} {l : List AcD} {c : Nat} (hrow : RowAt W ad (l.flatMap acells)) (hok : ∀ a ∈ l, AcOk a) :
    Calls Try.prog 3 #[.slice ad l.length c] W fun e w' => e = .returned (.bool true) ∧ Below W.heap.size W w' := by
  have ROW := Lib.hid hrow
  have AOK := Lib.hid hok
  obtain ⟨m, hm⟩ : ∃ m, m = l.length := ⟨_, rfl⟩
  have LM := Lib.hid hm
  rw [← hm]
  clear hrow hok hm
  go_enter Try.func3, Try.ntmps3
  go_wp2_with fail
  refine (awake_any _).mono ?_
  rintro e w1 ⟨rfl, b1⟩
  have B1 := Lib.hid b1
  clear b1
  go_wp2_with fail
  refine (new_any _).mono ?_
  rintro e w2 ⟨x, M, rfl, x2, hx2, hM2, b2⟩
  have X2 := Lib.hid x2
  have B2 := Lib.hid (B1.out.trans (b2.mono B1.out.size))
  have hWM : W.heap.size ≤ M := Nat.le_trans B1.out.size hM2
  clear x2 b2 B1
  have R0 : rowOf ([] : List Ent) = [] := List.eq_nil_of_length_eq_zero (by rw [row_len]; rfl)
  have RZ0 := Lib.hid R0
  clear R0
  go_wp2_with fail
  go_loopg [5, 6] 40 (fun k s5 s6 wr => ∃ (i : Nat) (lst : List Ent), i ≤ 40 ∧ k = 40 - i ∧ lst.length ≤ i ∧ s6 = .int .i64 i ∧ IxIs wr x M lst ∧ PlsOk lst ∧ EV wr s5 (rowOf lst) ∧ Below W.heap.size W wr)
  case atStart => exact ⟨0, [], by omega, rfl, Nat.le_refl _, rfl, X2.out, (fun e he => absurd he (by simp)), by rw [RZ0.out]; exact EV.nil _, B2.out⟩
  case round =>
    obtain ⟨i, lst, hi, hk, hli, rfl, x3, ok3, ev3, b3⟩ := hrel
    have HK := Lib.hid hk
    have LI := Lib.hid hli
    have X3 := Lib.hid x3
    have OK3 := Lib.hid ok3
    have EV3 := Lib.hid ev3
    have B3 := Lib.hid b3
    obtain ⟨av, vc, hs5, _⟩ := ev3
    subst hs5
    have i0 : (0 : Int) ≤ (i : Int) := Int.natCast_nonneg _
    clear hk hli x3 ok3 b3 X2 B2
    by_cases hcont : i < m ∧ i < 40
    · obtain ⟨hlt, h40⟩ := hcont
      have hlt' : (i : Int) < (m : Int) := by omega
      have h40' : (i : Int) < 40 := by omega
      obtain ⟨a, hia⟩ : ∃ a, l[i]? = some a := ⟨l[i]'(by rw [← LM.out]; exact hlt), List.getElem?_eq_getElem _⟩
      obtain ⟨b, off, rfl, hb, hL⟩ := rowAt_elem acells_len (by decide) (ROW.out.later B3.out) hia
      have LL := Lib.hid hL
      have AO := Lib.hid (AOK.out a (List.mem_of_getElem? hia))
      clear hia hL
      go_upto_region 10 with (first | (refine wpList_load_agg rfl 28 (.tmp 34) rfl b (off + i * 4) rfl (acells a).toArray _ LL.out Try.underlying28 rfl (sizea a) ?_) | (refine wpList_store_new rfl 28 (.tmp 7) (.tmp 35) rfl _ (acells a).toArray rfl rfl (sizea a) rfl (all_oneCell_toArray (acells_one a)) ?_))
      refine wp_named fun w5 hw5 => ?_
      obtain ⟨T, hT⟩ : ∃ T, T = wr.heap.size := ⟨_, rfl⟩
      rw [← hT]
      have e5 : w5.heap[T]? = some (.cells (acells a).toArray 28 (0, 0)) := by rw [hw5, hT]; exact heap_at _ _
      have b5 : Below wr.heap.size wr w5 := by rw [hw5]; exact below_alloc (Below.refl _ _) _
      have E5 := Lib.hid e5
      have X5 := Lib.hid (X3.out.later b5)
      have EV5 := Lib.hid (EV3.out.later b5)
      have B5 := Lib.hid (B3.out.trans (b5.mono B3.out.size))
      have hMT : M < T := by rw [hT]; exact X3.out.map.lt
      have y0 : w5.cell? ⟨T, 0, none⟩ = some (.int .i64 a.kind) := blk_cell e5 rfl
      have y2 : w5.cell? ⟨T, 2, none⟩ = some (.int .u8 (a.pack : Int)) := blk_cell e5 rfl
      clear hw5 hT e5 b5 LL X3 EV3 B3
      by_cases hk3 : a.kind.tmod 4 = 3
      · have d1 : (a.kind.tmod 4 == 3) = true := by simpa using hk3
        clear hk3
        go_wp2_with fail
        refine (id_any _ a.pack AO.out.2).mono ?_
        rintro e w6 ⟨rfl, b6⟩
        obtain ⟨p, hp⟩ : ∃ p, p = idz a.pack := ⟨_, rfl⟩
        rw [← hp]
        have DR := drop_any (X5.out.later b6) (by have := LI.out; omega) p
        have DR1 := Lib.hid DR
        have X6 := Lib.hid (X5.out.later b6)
        have EV6 := Lib.hid (EV5.out.later b6)
        have E6 := Lib.hid (aRegionKept E5.out b6)
        have B6 := Lib.hid (B5.out.trans (b6.mono B5.out.size))
        have HP := Lib.hid hp
        have AP := Lib.hid X5.out.map.apart
        clear b6 DR X5 EV5 E5 B5 y0 y2 hp
        go_wp2_with fail
        refine DR1.out.mono ?_
        rintro e w7 ⟨rfl, x7, g7⟩
        have X7 := Lib.hid x7
        have E7 : Hid (w7.heap[T]? = some (.cells (acells a).toArray 28 (0, 0))) := Lib.hid ((g7.block T (Array.getElem?_eq_some_iff.1 E6.out).1 (fun e => by have := Option.some.inj e; omega)).trans E6.out)
        have B7 := Lib.hid (B6.out.trans (below_grown g7 B6.out.size hWM))
        have y2 : w7.cell? ⟨T, 2, none⟩ = some (.int .u8 (a.pack : Int)) := blk_cell E7.out rfl
        have EV7 := Lib.hid (EV6.out.turn X6.out.map g7)
        clear x7 g7 DR1 EV6 E6 B6 X6
        go_wp2_with fail
        refine (id_any _ a.pack AO.out.2).mono ?_
        rintro e w8 ⟨rfl, b8⟩
        rw [← HP.out]
        have RD := rdrop_any (EV7.out.later b8) (by rw [row_len]; have := LI.out; omega) p
        rw [cntOf_perm (row_perm AP.out), filter_row AP.out] at RD
        have RD1 := Lib.hid RD
        have X8 := Lib.hid (X7.out.later b8)
        have E8 := Lib.hid (aRegionKept E7.out b8)
        have B8 := Lib.hid (B7.out.trans (b8.mono B7.out.size))
        clear b8 RD X7 E7 B7 EV7 y2
        go_wp2_with fail
        refine RD1.out.mono ?_
        rintro e w9 ⟨v9, rfl, ev9, b9⟩
        have EV9 := Lib.hid ev9
        have X9 := Lib.hid (X8.out.later b9)
        have E9 := Lib.hid (aRegionKept E8.out b9)
        have B9 := Lib.hid (B8.out.trans (b9.mono B8.out.size))
        clear ev9 b9 X8 E8 B8 RD1
        have y1 : w9.cell? ⟨T, 1, none⟩ = some (.int .u8 (a.id : Int)) := blk_cell E9.out rfl
        obtain ⟨l2, hl2⟩ : ∃ l2, l2 = lst.filter fun e => !decide (e.2.pack = p) := ⟨_, rfl⟩
        rw [← hl2] at EV9 X9
        have OK9 : Hid (PlsOk l2) := Lib.hid (by rw [hl2]; exact filter_ok OK3.out _)
        have LI9 : Hid (l2.length ≤ i + 1) := Lib.hid (by rw [hl2]; have := List.length_filter_le (fun e : Ent => !decide (e.2.pack = p)) lst; have := LI.out; omega)
        clear hl2 LI OK3 HP AP
        go_upto_region 21 with fail
        obtain ⟨zq, hzq⟩ : ∃ zq, zq = (a.id + 1) % 256 := ⟨_, rfl⟩
        have zq8 : zq < 256 := by rw [hzq]; exact Nat.mod_lt _ (by decide)
        have W1 : IntKind.u8.wrap ((a.id : Int) + 1) = (zq : Int) := by
          simp only [IntKind.wrap, IntKind.bits, IntKind.signed]
          simp
          omega
        have W2 : ((a.id : Int) + 1) % 256 = (zq : Int) := by omega
        have ZQ := Lib.hid zq8
        clear hzq zq8
        go_wp2_with fail
        refine (id_any _ zq ZQ.out).mono ?_
        rintro e wa ⟨rfl, ba⟩
        obtain ⟨q2, hq2⟩ : ∃ q2, q2 = idz zq := ⟨_, rfl⟩
        rw [← hq2]
        have HQ2 := Lib.hid hq2
        have FI := Lib.hid (find_any (X9.out.later ba) q2)
        have XA := Lib.hid (X9.out.later ba)
        have EVA := Lib.hid (EV9.out.later ba)
        have EA := Lib.hid (aRegionKept E9.out ba)
        have BA := Lib.hid (B9.out.trans (ba.mono B9.out.size))
        clear ba X9 EV9 E9 B9 y1 hq2
        go_wp2_with fail
        refine FI.out.mono ?_
        rintro e wb ⟨rfl, bb⟩
        obtain ⟨iss, his⟩ : ∃ iss, iss = (aget l2 q2).isSome := ⟨_, rfl⟩
        obtain ⟨pl, hpl⟩ : ∃ pl, pl = (aget l2 q2).getD zpl := ⟨_, rfl⟩
        rw [← his, ← hpl]
        have HIS := Lib.hid his
        have XB := Lib.hid (XA.out.later bb)
        have EVB := Lib.hid (EVA.out.later bb)
        have EB := Lib.hid (aRegionKept EA.out bb)
        have BB := Lib.hid (BA.out.trans (bb.mono BA.out.size))
        clear bb XA EVA EA BA his hpl FI
        go_upto_region 22 with (refine wpList_store_new rfl 37 (.tmp 14) (.tmp 93) rfl _ (plcells pl).toArray rfl rfl (sizepl pl) (by simp [plcells_len]) (all_oneCell_toArray (plcells_one pl)) ?_)
        refine wp_named fun wc hwc => ?_
        have bc : Below wb.heap.size wb wc := by rw [hwc]; exact below_alloc (Below.refl _ _) _
        have XC := Lib.hid (XB.out.later bc)
        have EVC := Lib.hid (EVB.out.later bc)
        have EC := aRegionKept EB.out bc
        have BC := Lib.hid (BB.out.trans (bc.mono BB.out.size))
        have y1 : wc.cell? ⟨T, 1, none⟩ = some (.int .u8 (a.id : Int)) := blk_cell EC rfl
        clear hwc bc XB EVB EB BB EC
        go_wp2_with fail
        refine (id_any _ zq ZQ.out).mono ?_
        rintro e wd ⟨rfl, bd⟩
        rw [← HQ2.out]
        have XD := Lib.hid (XC.out.later bd)
        have EVD := Lib.hid (EVC.out.later bd)
        have BD := Lib.hid (BC.out.trans (bd.mono BC.out.size))
        obtain ⟨avd, vcd, hvd, hrd, _, _⟩ := EVD.out
        subst hvd
        have RF := rfind_any (c := vcd) hrd (by rw [row_len]; have := LI9.out; omega) q2
        rw [aget_row XD.out.map.apart, ← HIS.out] at RF
        have RF1 := Lib.hid RF
        clear bd XC EVC BC y1 RF hrd
        go_wp2_with fail
        refine RF1.out.mono ?_
        rintro e we ⟨⟨r, rfl, hr, _⟩, be⟩
        have LK := Lib.hid (like_any (XD.out.later be) OK9.out (by have := LI9.out; omega) (EVD.out.later be))
        have XE := Lib.hid (XD.out.later be)
        have EVE := Lib.hid (EVD.out.later be)
        have BE := Lib.hid (BD.out.trans (be.mono BD.out.size))
        clear be XD EVD BD RF1
        go_wp2_with fail
        refine LK.out.mono ?_
        rintro e wf ⟨rfl, bf⟩
        have XF := Lib.hid (XE.out.later bf)
        have EVF := Lib.hid (EVE.out.later bf)
        have BF := Lib.hid (BE.out.trans (bf.mono BE.out.size))
        clear bf XE EVE BE LK hr
        go_wp2
        go_roundg (40 - (i + 1))
        case measure => rw [HK.out]; omega
        case rel => exact ⟨i + 1, l2, by omega, rfl, LI9.out, by go_num, XF.out, OK9.out, EVF.out, BF.out⟩
      · have d1 : (a.kind.tmod 4 == 3) = false := by simpa using hk3
        clear hk3
        have y1 : w5.cell? ⟨T, 1, none⟩ = some (.int .u8 (a.id : Int)) := blk_cell E5.out rfl
        have y3 : w5.cell? ⟨T, 3, none⟩ = some (.int .i64 a.n) := blk_cell E5.out rfl
        have SS5 := Lib.hid (show w5.cell? ⟨T, 1, none⟩ = some (.int .u8 (a.id : Int)) ∧ w5.cell? ⟨T, 2, none⟩ = some (.int .u8 (a.pack : Int)) ∧ w5.cell? ⟨T, 3, none⟩ = some (.int .i64 a.n) from ⟨y1, y2, y3⟩)
        have AP := Lib.hid X5.out.map.apart
        obtain ⟨k1, hk1⟩ : ∃ k1, k1 = idz a.id := ⟨_, rfl⟩
        obtain ⟨k2, hk2⟩ : ∃ k2, k2 = idz a.pack := ⟨_, rfl⟩
        have K1 := Lib.hid hk1
        have K2 := Lib.hid hk2
        clear hk1 hk2 y1 y2 y3
        go_upto_region 16 with fail
        refine wp_region_held_drew (S := fun w' => w'.cell? ⟨T, 1, none⟩ = some (.int .u8 (a.id : Int)) ∧ w'.cell? ⟨T, 2, none⟩ = some (.int .u8 (a.pack : Int)) ∧ w'.cell? ⟨T, 3, none⟩ = some (.int .i64 a.n)) (by kernel_rfl) (show w5.drew.cell? _ = _ ∧ w5.drew.cell? _ = _ ∧ w5.drew.cell? _ = _ from SS5.out) (fun hHeld => ?_)
        refine wpAnyH_take (i := 0) (v := ?_) rfl (by kernel_rfl) (by kernel_rfl) (by kernel_rfl) (fun _ _ _ h => h) (Or.inl ⟨by kernel_rfl, ?_⟩) (by assumption) ?_
        rotate_left
        · (intro w hSw; (have q1 := hSw.1; have q2 := hSw.2.1; have q3 := hSw.2.2; go_simp; try with_reducible rfl))
        try simp only [Act.put, List.getElem_toArray, List.getElem_cons_succ, List.getElem_cons_zero, List.setIfInBounds_toArray, List.set_cons_zero, List.set_cons_succ]
        refine wpAnyH_take (i := 1) (v := ?_) rfl (by kernel_rfl) (by kernel_rfl) (by kernel_rfl) (fun _ _ _ h => h) (Or.inl ⟨by kernel_rfl, ?_⟩) (by assumption) ?_
        rotate_left
        · (intro w hSw; (have q1 := hSw.1; have q2 := hSw.2.1; have q3 := hSw.2.2; go_simp; try with_reducible rfl))
        try simp only [Act.put, List.getElem_toArray, List.getElem_cons_succ, List.getElem_cons_zero, List.setIfInBounds_toArray, List.set_cons_zero, List.set_cons_succ]
        refine wpAnyH_take (i := 2) (v := ?_) rfl (by kernel_rfl) (by kernel_rfl) (by kernel_rfl) (fun _ _ _ h => h) (Or.inl ⟨by kernel_rfl, ?_⟩) (by assumption) ?_
        rotate_left
        · (intro w hSw; (have q1 := hSw.1; have q2 := hSw.2.1; have q3 := hSw.2.2; go_simp; try with_reducible rfl))
        try simp only [Act.put, List.getElem_toArray, List.getElem_cons_succ, List.getElem_cons_zero, List.setIfInBounds_toArray, List.set_cons_zero, List.set_cons_succ]
        refine wpAnyH_take (i := 4) (v := ?_) rfl (by kernel_rfl) (by kernel_rfl) (by kernel_rfl) (fun _ _ _ h => h) (Or.inl ⟨by kernel_rfl, ?_⟩) (by assumption) ?_
        rotate_left
        · (intro w hSw; (have q1 := hSw.1; have q2 := hSw.2.1; have q3 := hSw.2.2; go_simp; try with_reducible rfl))
        try simp only [Act.put, List.getElem_toArray, List.getElem_cons_succ, List.getElem_cons_zero, List.setIfInBounds_toArray, List.set_cons_zero, List.set_cons_succ]
        refine wpAnyH_take (i := 5) (v := ?_) rfl (by kernel_rfl) (by kernel_rfl) (by kernel_rfl) (fun _ _ _ h => h) (Or.inl ⟨by kernel_rfl, ?_⟩) (by assumption) ?_
        rotate_left
        · (intro w hSw; (have q1 := hSw.1; have q2 := hSw.2.1; have q3 := hSw.2.2; go_simp; try with_reducible rfl))
        try simp only [Act.put, List.getElem_toArray, List.getElem_cons_succ, List.getElem_cons_zero, List.setIfInBounds_toArray, List.set_cons_zero, List.set_cons_succ]
        refine wpAnyH_take (i := 7) (v := ?_) rfl (by kernel_rfl) (by kernel_rfl) (by kernel_rfl) (fun _ _ _ h => h) (Or.inl ⟨by kernel_rfl, ?_⟩) (by assumption) ?_
        rotate_left
        · (intro w hSw; (have q1 := hSw.1; have q2 := hSw.2.1; have q3 := hSw.2.2; go_simp; try with_reducible rfl))
        try simp only [Act.put, List.getElem_toArray, List.getElem_cons_succ, List.getElem_cons_zero, List.setIfInBounds_toArray, List.set_cons_zero, List.set_cons_succ]
        refine wpAnyH_take (i := 8) (v := ?_) rfl (by kernel_rfl) (by kernel_rfl) (by kernel_rfl) (fun _ _ _ h => h) (Or.inl ⟨by kernel_rfl, ?_⟩) (by assumption) ?_
        rotate_left
        · (intro w hSw; (have q1 := hSw.1; have q2 := hSw.2.1; have q3 := hSw.2.2; go_simp; try with_reducible rfl))
        try simp only [Act.put, List.getElem_toArray, List.getElem_cons_succ, List.getElem_cons_zero, List.setIfInBounds_toArray, List.set_cons_zero, List.set_cons_succ]
        refine wpAnyH_ready (rs := [3]) (by kernel_rfl) (by simp) (AllReadyH.cons rfl (fun J1 hJ1 => ?_) AllReadyH.nil)
        go_simp
        go_at_call 11
        refine (id_any _ a.id AO.out.1).mono ?_
        rintro e w6 ⟨rfl, b6⟩
        rw [← K1.out]
        have s6 := (show w6.cell? ⟨T, 1, none⟩ = some (.int .u8 (a.id : Int)) ∧ w6.cell? ⟨T, 2, none⟩ = some (.int .u8 (a.pack : Int)) ∧ w6.cell? ⟨T, 3, none⟩ = some (.int .i64 a.n) from ⟨cell_below (w := w5.drew) SS5.out.1 b6, cell_below (w := w5.drew) SS5.out.2.1 b6, cell_below (w := w5.drew) SS5.out.2.2 b6⟩)
        have b56 := (below_drew (Below.refl w5.heap.size w5)).trans b6
        refine hJ1.out _ _ s6 (fun hH => ?_)
        clear hHeld hJ1
        try simp only [Act.put, List.getElem_toArray, List.getElem_cons_succ, List.getElem_cons_zero, List.setIfInBounds_toArray, List.set_cons_zero, List.set_cons_succ]
        refine wpAnyH_ready (rs := [6]) (by kernel_rfl) (by simp) (AllReadyH.cons rfl (fun J1 hJ1 => ?_) AllReadyH.nil)
        go_simp
        go_at_call 11
        refine (id_any _ a.pack AO.out.2).mono ?_
        rintro e w7 ⟨rfl, b7⟩
        rw [← K2.out]
        have s7 := (show w7.cell? ⟨T, 1, none⟩ = some (.int .u8 (a.id : Int)) ∧ w7.cell? ⟨T, 2, none⟩ = some (.int .u8 (a.pack : Int)) ∧ w7.cell? ⟨T, 3, none⟩ = some (.int .i64 a.n) from ⟨cell_below s6.1 b7, cell_below s6.2.1 b7, cell_below s6.2.2 b7⟩)
        have b57 := b56.trans (b7.mono b56.size)
        refine hJ1.out _ _ s7 (fun hH2 => ?_)
        have X7 := Lib.hid (X5.out.later b57)
        have EV7 := Lib.hid (EV5.out.later b57)
        have E7 := Lib.hid (aRegionKept E5.out b57)
        have B7 := Lib.hid (B5.out.trans (b57.mono B5.out.size))
        clear hH hJ1 s6 b6 b7 b56 b57 X5 EV5 E5 B5 SS5 s7
        try simp only [Act.put, List.getElem_toArray, List.getElem_cons_succ, List.getElem_cons_zero, List.setIfInBounds_toArray, List.set_cons_zero, List.set_cons_succ]
        refine' wpAnyH_take (i := 9) (v := _) rfl (by kernel_rfl) (by kernel_rfl) (by kernel_rfl) (fun _ _ _ h => h) (yieldsIf_build2 (by kernel_rfl) 37 _ rfl [(0, .agg (encId k2).toArray), (1, .int .i64 a.n)] (by kernel_rfl) (plcells ⟨k2, a.n⟩).toArray (built_pl k2 a.n)) (by assumption) ?_
        try simp only [Act.put, List.getElem_toArray, List.getElem_cons_succ, List.getElem_cons_zero, List.setIfInBounds_toArray, List.set_cons_zero, List.set_cons_succ]
        have AD := Lib.hid (add_any X7.out k1 ⟨k2, a.n⟩)
        refine wpAnyH_ready (rs := [10]) (by kernel_rfl) (by simp) (AllReadyH.cons rfl (fun J1 hJ1 => ?_) AllReadyH.nil)
        go_simp
        go_at_call 13
        refine AD.out.mono ?_
        rintro e w8 ⟨rfl, x8, g8⟩
        have X8 := Lib.hid x8
        have EV8 := Lib.hid (EV7.out.turn X7.out.map g8)
        have E8 : Hid (w8.heap[T]? = some (.cells (acells a).toArray 28 (0, 0))) := Lib.hid ((g8.block T (Array.getElem?_eq_some_iff.1 E7.out).1 (fun e => by have := Option.some.inj e; omega)).trans E7.out)
        have B8 := Lib.hid (B7.out.trans (below_grown g8 B7.out.size hWM))
        have s8 := (show w8.cell? ⟨T, 1, none⟩ = some (.int .u8 (a.id : Int)) ∧ w8.cell? ⟨T, 2, none⟩ = some (.int .u8 (a.pack : Int)) ∧ w8.cell? ⟨T, 3, none⟩ = some (.int .i64 a.n) from ⟨blk_cell E8.out rfl, blk_cell E8.out rfl, blk_cell E8.out rfl⟩)
        refine hJ1.out _ _ s8 (fun hH => ?_)
        have S8 := Lib.hid s8
        clear hH2 hJ1 x8 g8 s8 AD X7 EV7 E7 B7
        obtain ⟨bb, hbb⟩ : ∃ bb, bb = addB lst k1 ⟨k2, a.n⟩ := ⟨_, rfl⟩
        rw [← hbb]
        have HBB := Lib.hid hbb
        clear hbb
        try simp only [Act.put, List.getElem_toArray, List.getElem_cons_succ, List.getElem_cons_zero, List.setIfInBounds_toArray, List.set_cons_zero, List.set_cons_succ]
        refine wpAnyH_take (i := 11) (v := ?_) rfl (by kernel_rfl) (by kernel_rfl) (by kernel_rfl) (fun _ _ _ h => h) (Or.inl ⟨by kernel_rfl, ?_⟩) (by assumption) ?_
        rotate_left
        · (intro w hSw; (go_simp; try with_reducible rfl))
        try simp only [Act.put, List.getElem_toArray, List.getElem_cons_succ, List.getElem_cons_zero, List.setIfInBounds_toArray, List.set_cons_zero, List.set_cons_succ]
        refine wpAnyH_done (by kernel_rfl) ?_ _
        clear hH
        go_upto_region 17 with fail
        refine wp_region_held_drew (S := fun w' => w'.cell? ⟨T, 1, none⟩ = some (.int .u8 (a.id : Int)) ∧ w'.cell? ⟨T, 2, none⟩ = some (.int .u8 (a.pack : Int)) ∧ w'.cell? ⟨T, 3, none⟩ = some (.int .i64 a.n)) (by kernel_rfl) (show w8.drew.cell? _ = _ ∧ w8.drew.cell? _ = _ ∧ w8.drew.cell? _ = _ from S8.out) (fun hHeld => ?_)
        refine wpAnyH_take (i := 0) (v := ?_) rfl (by kernel_rfl) (by kernel_rfl) (by kernel_rfl) (fun _ _ _ h => h) (Or.inl ⟨by kernel_rfl, ?_⟩) (by assumption) ?_
        rotate_left
        · (intro w hSw; (have q1 := hSw.1; have q2 := hSw.2.1; have q3 := hSw.2.2; go_simp; try with_reducible rfl))
        try simp only [Act.put, List.getElem_toArray, List.getElem_cons_succ, List.getElem_cons_zero, List.setIfInBounds_toArray, List.set_cons_zero, List.set_cons_succ]
        refine wpAnyH_take (i := 1) (v := ?_) rfl (by kernel_rfl) (by kernel_rfl) (by kernel_rfl) (fun _ _ _ h => h) (Or.inl ⟨by kernel_rfl, ?_⟩) (by assumption) ?_
        rotate_left
        · (intro w hSw; (have q1 := hSw.1; have q2 := hSw.2.1; have q3 := hSw.2.2; go_simp; try with_reducible rfl))
        try simp only [Act.put, List.getElem_toArray, List.getElem_cons_succ, List.getElem_cons_zero, List.setIfInBounds_toArray, List.set_cons_zero, List.set_cons_succ]
        refine wpAnyH_take (i := 2) (v := ?_) rfl (by kernel_rfl) (by kernel_rfl) (by kernel_rfl) (fun _ _ _ h => h) (Or.inl ⟨by kernel_rfl, ?_⟩) (by assumption) ?_
        rotate_left
        · (intro w hSw; (have q1 := hSw.1; have q2 := hSw.2.1; have q3 := hSw.2.2; go_simp; try with_reducible rfl))
        try simp only [Act.put, List.getElem_toArray, List.getElem_cons_succ, List.getElem_cons_zero, List.setIfInBounds_toArray, List.set_cons_zero, List.set_cons_succ]
        refine wpAnyH_take (i := 4) (v := ?_) rfl (by kernel_rfl) (by kernel_rfl) (by kernel_rfl) (fun _ _ _ h => h) (Or.inl ⟨by kernel_rfl, ?_⟩) (by assumption) ?_
        rotate_left
        · (intro w hSw; (have q1 := hSw.1; have q2 := hSw.2.1; have q3 := hSw.2.2; go_simp; try with_reducible rfl))
        try simp only [Act.put, List.getElem_toArray, List.getElem_cons_succ, List.getElem_cons_zero, List.setIfInBounds_toArray, List.set_cons_zero, List.set_cons_succ]
        refine wpAnyH_take (i := 5) (v := ?_) rfl (by kernel_rfl) (by kernel_rfl) (by kernel_rfl) (fun _ _ _ h => h) (Or.inl ⟨by kernel_rfl, ?_⟩) (by assumption) ?_
        rotate_left
        · (intro w hSw; (have q1 := hSw.1; have q2 := hSw.2.1; have q3 := hSw.2.2; go_simp; try with_reducible rfl))
        try simp only [Act.put, List.getElem_toArray, List.getElem_cons_succ, List.getElem_cons_zero, List.setIfInBounds_toArray, List.set_cons_zero, List.set_cons_succ]
        refine wpAnyH_take (i := 7) (v := ?_) rfl (by kernel_rfl) (by kernel_rfl) (by kernel_rfl) (fun _ _ _ h => h) (Or.inl ⟨by kernel_rfl, ?_⟩) (by assumption) ?_
        rotate_left
        · (intro w hSw; (have q1 := hSw.1; have q2 := hSw.2.1; have q3 := hSw.2.2; go_simp; try with_reducible rfl))
        try simp only [Act.put, List.getElem_toArray, List.getElem_cons_succ, List.getElem_cons_zero, List.setIfInBounds_toArray, List.set_cons_zero, List.set_cons_succ]
        refine wpAnyH_take (i := 8) (v := ?_) rfl (by kernel_rfl) (by kernel_rfl) (by kernel_rfl) (fun _ _ _ h => h) (Or.inl ⟨by kernel_rfl, ?_⟩) (by assumption) ?_
        rotate_left
        · (intro w hSw; (have q1 := hSw.1; have q2 := hSw.2.1; have q3 := hSw.2.2; go_simp; try with_reducible rfl))
        try simp only [Act.put, List.getElem_toArray, List.getElem_cons_succ, List.getElem_cons_zero, List.setIfInBounds_toArray, List.set_cons_zero, List.set_cons_succ]
        refine wpAnyH_ready (rs := [3]) (by kernel_rfl) (by simp) (AllReadyH.cons rfl (fun J1 hJ1 => ?_) AllReadyH.nil)
        go_simp
        go_at_call 11
        refine (id_any _ a.id AO.out.1).mono ?_
        rintro e u6 ⟨rfl, b6⟩
        rw [← K1.out]
        have s6 := (show u6.cell? ⟨T, 1, none⟩ = some (.int .u8 (a.id : Int)) ∧ u6.cell? ⟨T, 2, none⟩ = some (.int .u8 (a.pack : Int)) ∧ u6.cell? ⟨T, 3, none⟩ = some (.int .i64 a.n) from ⟨cell_below (w := w8.drew) S8.out.1 b6, cell_below (w := w8.drew) S8.out.2.1 b6, cell_below (w := w8.drew) S8.out.2.2 b6⟩)
        have b56 := (below_drew (Below.refl w8.heap.size w8)).trans b6
        refine hJ1.out _ _ s6 (fun hH => ?_)
        clear hHeld hJ1
        try simp only [Act.put, List.getElem_toArray, List.getElem_cons_succ, List.getElem_cons_zero, List.setIfInBounds_toArray, List.set_cons_zero, List.set_cons_succ]
        refine wpAnyH_ready (rs := [6]) (by kernel_rfl) (by simp) (AllReadyH.cons rfl (fun J1 hJ1 => ?_) AllReadyH.nil)
        go_simp
        go_at_call 11
        refine (id_any _ a.pack AO.out.2).mono ?_
        rintro e u7 ⟨rfl, b7⟩
        rw [← K2.out]
        have s7 := (show u7.cell? ⟨T, 1, none⟩ = some (.int .u8 (a.id : Int)) ∧ u7.cell? ⟨T, 2, none⟩ = some (.int .u8 (a.pack : Int)) ∧ u7.cell? ⟨T, 3, none⟩ = some (.int .i64 a.n) from ⟨cell_below s6.1 b7, cell_below s6.2.1 b7, cell_below s6.2.2 b7⟩)
        have b57 := b56.trans (b7.mono b56.size)
        refine hJ1.out _ _ s7 (fun hH2 => ?_)
        have XA := Lib.hid (X8.out.later b57)
        have EVA := Lib.hid (EV8.out.later b57)
        have EA := Lib.hid (aRegionKept E8.out b57)
        have BA := Lib.hid (B8.out.trans (b57.mono B8.out.size))
        clear hH hJ1 s6 b6 b7 b56 b57 X8 EV8 E8 B8 S8
        try simp only [Act.put, List.getElem_toArray, List.getElem_cons_succ, List.getElem_cons_zero, List.setIfInBounds_toArray, List.set_cons_zero, List.set_cons_succ]
        refine' wpAnyH_take (i := 9) (v := _) rfl (by kernel_rfl) (by kernel_rfl) (by kernel_rfl) (fun _ _ _ h => h) (yieldsIf_build2 (by kernel_rfl) 41 _ rfl [(0, .agg (encId k1).toArray), (1, .agg (encId k2).toArray), (2, .int .i64 a.n)] (by kernel_rfl) (ecells (k1, ⟨k2, a.n⟩)).toArray (built_e k1 k2 a.n)) (by assumption) ?_
        try simp only [Act.put, List.getElem_toArray, List.getElem_cons_succ, List.getElem_cons_zero, List.setIfInBounds_toArray, List.set_cons_zero, List.set_cons_succ]
        obtain ⟨en, hen⟩ : ∃ en : Ent, en = (k1, ⟨k2, a.n⟩) := ⟨_, rfl⟩
        have RA0 := radd_any EVA.out (by rw [row_len]; have := LI.out; omega) en
        have AR := add_row AP.out en.1 en.2
        have AB := addB_row AP.out en.1 en.2
        rw [show insE (rowOf lst) en = insE (rowOf lst) (en.1, en.2) from rfl, AR, AB] at RA0
        have F1 : addB lst en.1 en.2 = bb := by rw [HBB.out, hen]
        have F2 : addL lst en.1 en.2 = addL lst k1 ⟨k2, a.n⟩ := by rw [hen]
        rw [F1, F2] at RA0
        rw [← hen]
        have RA1 := Lib.hid RA0
        clear RA0 AR AB F1 F2 hen
        refine wpAnyH_ready (rs := [10]) (by kernel_rfl) (by simp) (AllReadyH.cons rfl (fun J1 hJ1 => ?_) AllReadyH.nil)
        go_simp
        go_at_call 14
        refine RA1.out.mono ?_
        rintro e w9 ⟨v9, rfl, ev9, b9⟩
        have s9 := (show w9.cell? ⟨T, 1, none⟩ = some (.int .u8 (a.id : Int)) ∧ w9.cell? ⟨T, 2, none⟩ = some (.int .u8 (a.pack : Int)) ∧ w9.cell? ⟨T, 3, none⟩ = some (.int .i64 a.n) from ⟨cell_below s7.1 b9, cell_below s7.2.1 b9, cell_below s7.2.2 b9⟩)
        refine hJ1.out _ _ s9 (fun hH => ?_)
        have X9 := Lib.hid (XA.out.later b9)
        have EV9 := Lib.hid ev9
        have E9 := Lib.hid (aRegionKept EA.out b9)
        have B9 := Lib.hid (BA.out.trans (b9.mono BA.out.size))
        clear hH2 hJ1 s7 s9 b9 ev9 XA EVA EA BA RA1
        try simp only [Act.put, List.getElem_toArray, List.getElem_cons_succ, List.getElem_cons_zero, List.setIfInBounds_toArray, List.set_cons_zero, List.set_cons_succ]
        refine wpAnyH_take (i := 11) (v := ?_) rfl (by kernel_rfl) (by kernel_rfl) (by kernel_rfl) (fun _ _ _ h => h) (Or.inl ⟨by kernel_rfl, ?_⟩) (by assumption) ?_
        rotate_left
        · (intro w hSw; (go_simp; try with_reducible rfl))
        try simp only [Act.put, List.getElem_toArray, List.getElem_cons_succ, List.getElem_cons_zero, List.setIfInBounds_toArray, List.set_cons_zero, List.set_cons_succ]
        refine wpAnyH_take (i := 12) (v := ?_) rfl (by kernel_rfl) (by kernel_rfl) (by kernel_rfl) (fun _ _ _ h => h) (Or.inl ⟨by kernel_rfl, ?_⟩) (by assumption) ?_
        rotate_left
        · (intro w hSw; (go_simp; try with_reducible rfl))
        try simp only [Act.put, List.getElem_toArray, List.getElem_cons_succ, List.getElem_cons_zero, List.setIfInBounds_toArray, List.set_cons_zero, List.set_cons_succ]
        refine wpAnyH_take (i := 13) (v := ?_) rfl (by kernel_rfl) (by kernel_rfl) (by kernel_rfl) (fun _ _ _ h => h) (Or.inl ⟨by kernel_rfl, ?_⟩) (by assumption) ?_
        rotate_left
        · (intro w hSw; (go_simp; try with_reducible rfl))
        try simp only [Act.put, List.getElem_toArray, List.getElem_cons_succ, List.getElem_cons_zero, List.setIfInBounds_toArray, List.set_cons_zero, List.set_cons_succ]
        refine wpAnyH_take (i := 14) (v := ?_) rfl (by kernel_rfl) (by kernel_rfl) (by kernel_rfl) (fun _ _ _ h => h) (Or.inl ⟨by kernel_rfl, ?_⟩) (by assumption) ?_
        rotate_left
        · (intro w hSw; (go_simp; try with_reducible rfl))
        try simp only [Act.put, List.getElem_toArray, List.getElem_cons_succ, List.getElem_cons_zero, List.setIfInBounds_toArray, List.set_cons_zero, List.set_cons_succ]
        refine wpAnyH_take (i := 15) (v := ?_) rfl (by kernel_rfl) (by kernel_rfl) (by kernel_rfl) (fun _ _ _ h => h) (Or.inl ⟨by kernel_rfl, ?_⟩) (by assumption) ?_
        rotate_left
        · (intro w hSw; (go_simp; try with_reducible rfl))
        try simp only [Act.put, List.getElem_toArray, List.getElem_cons_succ, List.getElem_cons_zero, List.setIfInBounds_toArray, List.set_cons_zero, List.set_cons_succ]
        refine wpAnyH_done (by kernel_rfl) ?_ _
        clear hH
        have y1 : w9.cell? ⟨T, 1, none⟩ = some (.int .u8 (a.id : Int)) := blk_cell E9.out rfl
        obtain ⟨l2, hl2⟩ : ∃ l2, l2 = addL lst k1 ⟨k2, a.n⟩ := ⟨_, rfl⟩
        rw [← hl2] at EV9 X9
        have OK9 : Hid (PlsOk l2) := Lib.hid (by rw [hl2]; exact addL_ok OK3.out _ _)
        have LI9 : Hid (l2.length ≤ i + 1) := Lib.hid (by rw [hl2]; have := addL_len lst k1 ⟨k2, a.n⟩; have := LI.out; omega)
        clear hl2 LI OK3 AP HBB
        go_upto_region 21 with fail
        obtain ⟨zq, hzq⟩ : ∃ zq, zq = (a.id + 1) % 256 := ⟨_, rfl⟩
        have zq8 : zq < 256 := by rw [hzq]; exact Nat.mod_lt _ (by decide)
        have W1 : IntKind.u8.wrap ((a.id : Int) + 1) = (zq : Int) := by
          simp only [IntKind.wrap, IntKind.bits, IntKind.signed]
          simp
          omega
        have W2 : ((a.id : Int) + 1) % 256 = (zq : Int) := by omega
        have ZQ := Lib.hid zq8
        clear hzq zq8
        go_wp2_with fail
        refine (id_any _ zq ZQ.out).mono ?_
        rintro e wa ⟨rfl, ba⟩
        obtain ⟨q2, hq2⟩ : ∃ q2, q2 = idz zq := ⟨_, rfl⟩
        rw [← hq2]
        have HQ2 := Lib.hid hq2
        have FI := Lib.hid (find_any (X9.out.later ba) q2)
        have XA := Lib.hid (X9.out.later ba)
        have EVA := Lib.hid (EV9.out.later ba)
        have EA := Lib.hid (aRegionKept E9.out ba)
        have BA := Lib.hid (B9.out.trans (ba.mono B9.out.size))
        clear ba X9 EV9 E9 B9 y1 hq2
        go_wp2_with fail
        refine FI.out.mono ?_
        rintro e wb ⟨rfl, bb⟩
        obtain ⟨iss, his⟩ : ∃ iss, iss = (aget l2 q2).isSome := ⟨_, rfl⟩
        obtain ⟨pl, hpl⟩ : ∃ pl, pl = (aget l2 q2).getD zpl := ⟨_, rfl⟩
        rw [← his, ← hpl]
        have HIS := Lib.hid his
        have XB := Lib.hid (XA.out.later bb)
        have EVB := Lib.hid (EVA.out.later bb)
        have EB := Lib.hid (aRegionKept EA.out bb)
        have BB := Lib.hid (BA.out.trans (bb.mono BA.out.size))
        clear bb XA EVA EA BA his hpl FI
        go_upto_region 22 with (refine wpList_store_new rfl 37 (.tmp 14) (.tmp 93) rfl _ (plcells pl).toArray rfl rfl (sizepl pl) (by simp [plcells_len]) (all_oneCell_toArray (plcells_one pl)) ?_)
        refine wp_named fun wc hwc => ?_
        have bc : Below wb.heap.size wb wc := by rw [hwc]; exact below_alloc (Below.refl _ _) _
        have XC := Lib.hid (XB.out.later bc)
        have EVC := Lib.hid (EVB.out.later bc)
        have EC := aRegionKept EB.out bc
        have BC := Lib.hid (BB.out.trans (bc.mono BB.out.size))
        have y1 : wc.cell? ⟨T, 1, none⟩ = some (.int .u8 (a.id : Int)) := blk_cell EC rfl
        clear hwc bc XB EVB EB BB EC
        go_wp2_with fail
        refine (id_any _ zq ZQ.out).mono ?_
        rintro e wd ⟨rfl, bd⟩
        rw [← HQ2.out]
        have XD := Lib.hid (XC.out.later bd)
        have EVD := Lib.hid (EVC.out.later bd)
        have BD := Lib.hid (BC.out.trans (bd.mono BC.out.size))
        obtain ⟨avd, vcd, hvd, hrd, _, _⟩ := EVD.out
        subst hvd
        have RF := rfind_any (c := vcd) hrd (by rw [row_len]; have := LI9.out; omega) q2
        rw [aget_row XD.out.map.apart, ← HIS.out] at RF
        have RF1 := Lib.hid RF
        clear bd XC EVC BC y1 RF hrd
        go_wp2_with fail
        refine RF1.out.mono ?_
        rintro e we ⟨⟨r, rfl, hr, _⟩, be⟩
        have LK := Lib.hid (like_any (XD.out.later be) OK9.out (by have := LI9.out; omega) (EVD.out.later be))
        have XE := Lib.hid (XD.out.later be)
        have EVE := Lib.hid (EVD.out.later be)
        have BE := Lib.hid (BD.out.trans (be.mono BD.out.size))
        clear be XD EVD BD RF1
        go_wp2_with fail
        refine LK.out.mono ?_
        rintro e wf ⟨rfl, bf⟩
        have XF := Lib.hid (XE.out.later bf)
        have EVF := Lib.hid (EVE.out.later bf)
        have BF := Lib.hid (BE.out.trans (bf.mono BE.out.size))
        clear bf XE EVE BE LK hr
        go_wp2
        go_roundg (40 - (i + 1))
        case measure => rw [HK.out]; omega
        case rel => exact ⟨i + 1, l2, by omega, rfl, LI9.out, by go_num, XF.out, OK9.out, EVF.out, BF.out⟩
    · rcases (by omega : ¬ i < m ∨ (i < m ∧ ¬ i < 40)) with hlt | ⟨hlt, h40⟩
      · have d1 : decide ((i : Int) < (m : Int)) = false := decide_eq_false (by omega)
        clear hcont
        have AP := Lib.hid X3.out.map.apart
        have PU := Lib.hid (put_any X3.out OK3.out (by have := LI.out; omega))
        have RL := row_len lst
        go_upto_region 24 with fail
        go_wp2_with fail
        refine PU.out.mono ?_
        rintro e w5 ⟨v, rfl, h5, b5⟩
        obtain ⟨va, vc2, rfl, hrd⟩ := own_rd_any h5
        have B5 := Lib.hid (B3.out.trans (b5.mono B3.out.size))
        have EV5 := Lib.hid (EV3.out.later b5)
        have GT := Lib.hid (get_any (c := vc2) hrd (putOf_len AP.out OK3.out (by have := LI.out; omega)))
        have G0 := Lib.hid (get_put AP.out OK3.out (by have := LI.out; omega))
        obtain ⟨pn, hpn⟩ : ∃ pn, pn = (putOf lst).length := ⟨_, rfl⟩
        obtain ⟨gg, hgg⟩ : ∃ gg, gg = getAll (putOf lst) := ⟨_, rfl⟩
        rw [← hpn] at GT ⊢
        rw [← hgg] at GT G0
        clear h5 b5 hrd PU B3 EV3 hpn hgg RL
        go_wp2_with fail
        refine GT.out.mono ?_
        rintro e w6 ⟨hc, b6⟩
        have B6 := Lib.hid (B5.out.trans (b6.mono B5.out.size))
        have EV6 := EV5.out.later b6
        rcases hc with ⟨h0, _⟩ | ⟨_, y, M2, rfl, x6, _, _⟩
        · exact absurd G0.out.1 h0
        rw [G0.out.2] at x6
        have RR := row_rise (rise_row AP.out)
        rw [← RR] at EV6
        have LK := Lib.hid (like_any x6 (row_ok AP.out OK3.out) (by rw [row_len]; have := LI.out; omega) EV6)
        rw [RR] at LK
        clear x6 RR EV6 GT G0 b6
        go_wp2_with fail
        refine LK.out.mono ?_
        rintro e w7 ⟨rfl, b7⟩
        have B7 := B6.out.trans (b7.mono B6.out.size)
        clear LK b7
        go_wp2
        go_ret
        exact ⟨rfl, B7⟩
      · have d1 : decide ((i : Int) < (m : Int)) = true := decide_eq_true (by omega)
        have d2 : decide ((i : Int) < 40) = false := decide_eq_false (by omega)
        clear hcont
        have AP := Lib.hid X3.out.map.apart
        have PU := Lib.hid (put_any X3.out OK3.out (by have := LI.out; omega))
        have RL := row_len lst
        go_upto_region 24 with fail
        go_wp2_with fail
        refine PU.out.mono ?_
        rintro e w5 ⟨v, rfl, h5, b5⟩
        obtain ⟨va, vc2, rfl, hrd⟩ := own_rd_any h5
        have B5 := Lib.hid (B3.out.trans (b5.mono B3.out.size))
        have EV5 := Lib.hid (EV3.out.later b5)
        have GT := Lib.hid (get_any (c := vc2) hrd (putOf_len AP.out OK3.out (by have := LI.out; omega)))
        have G0 := Lib.hid (get_put AP.out OK3.out (by have := LI.out; omega))
        obtain ⟨pn, hpn⟩ : ∃ pn, pn = (putOf lst).length := ⟨_, rfl⟩
        obtain ⟨gg, hgg⟩ : ∃ gg, gg = getAll (putOf lst) := ⟨_, rfl⟩
        rw [← hpn] at GT ⊢
        rw [← hgg] at GT G0
        clear h5 b5 hrd PU B3 EV3 hpn hgg RL
        go_wp2_with fail
        refine GT.out.mono ?_
        rintro e w6 ⟨hc, b6⟩
        have B6 := Lib.hid (B5.out.trans (b6.mono B5.out.size))
        have EV6 := EV5.out.later b6
        rcases hc with ⟨h0, _⟩ | ⟨_, y, M2, rfl, x6, _, _⟩
        · exact absurd G0.out.1 h0
        rw [G0.out.2] at x6
        have RR := row_rise (rise_row AP.out)
        rw [← RR] at EV6
        have LK := Lib.hid (like_any x6 (row_ok AP.out OK3.out) (by rw [row_len]; have := LI.out; omega) EV6)
        rw [RR] at LK
        clear x6 RR EV6 GT G0 b6
        go_wp2_with fail
        refine LK.out.mono ?_
        rintro e w7 ⟨rfl, b7⟩
        have B7 := B6.out.trans (b7.mono B6.out.size)
        clear LK b7
        go_wp2
        go_ret
        exact ⟨rfl, B7⟩
end Go.Proofs.Ytgbghjpkdbjdgaa
