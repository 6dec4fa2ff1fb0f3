/- The reference: Packs, walked. -/
import Derived.Test.YtgbghjpkdbjdgaaDe7
namespace Go.Proofs.Ytgbghjpkdbjdgaa
open Go.RowKit Go.Lib
open Extern.Stop (cell)

def i1 (z : Int) : List Value := [.int .i64 z]
theorem i1_len (z : Int) : (i1 z).length = 1 := rfl
theorem i1_one (l : List Int) : ∀ u ∈ l.flatMap i1, u.oneCell' = true := by
  intro u hu
  obtain ⟨z, _, hz⟩ := List.mem_flatMap.1 hu
  simp only [i1, List.mem_singleton] at hz
  rw [hz]
  rfl
theorem id_ones (l : List Id32) : ∀ u ∈ l.flatMap encId, u.oneCell' = true := by
  intro u hu
  obtain ⟨z, _, hz⟩ := List.mem_flatMap.1 hu
  exact encId_one z u hz
theorem sz_id (w : World) : (sizeOf (Try.prog.elem 55)).run Try.prog w = .ok 32 w := by kernel_rfl
theorem sz_int (w : World) : (sizeOf (Try.prog.elem 57)).run Try.prog w = .ok 1 w := by kernel_rfl
theorem und_ids : Try.prog.underlying 55 = some (.slice (Try.prog.elem 55)) := by kernel_rfl
theorem und_ints : Try.prog.underlying 57 = some (.slice (Try.prog.elem 57)) := by kernel_rfl
theorem info_idn : (Try.prog.info? 31).map (fun i => (i.zero, i.size, i.bytes)) = some (some (.agg (encId zid).toArray), 32, 32) := by kernel_rfl
theorem cnts_len (l : List Ent) : (cntsOf l).length = (packsOf l).length := by simp [cntsOf]
theorem cnts_at {l : List Ent} {j : Nat} {p : Id32} (h : (packsOf l)[j]? = some p) : (cntsOf l)[j]? = some (cntOf p l : Int) := by
  unfold cntsOf
  rw [List.getElem?_map, h]
  rfl
theorem setCells_one (w : World) (g i : Nat) (u : Value) : w.setCells g i [u] = w.setCell ⟨g, i, none⟩ u := by
  simp [World.setCells]
set_option linter.unusedSimpArgs false in
set_option maxRecDepth 100000 in
set_option maxHeartbeats 8000000 in
theorem rpacks_any {w : World} {v : Value} {es : List Ent} (hv : EV w v es) (hl : es.length ≤ 10000) :
    Calls Try.prog 23 #[v] w fun e w' => ∃ v4 v5, e = .returned (.tuple #[v4, v5]) ∧ w'.ownsRow w.heap.size 31 32 v4 (packsOf es).length ((packsOf es).flatMap encId) ∧ w'.ownsRow w.heap.size 3 1 v5 (packsOf es).length ((cntsOf es).flatMap i1) ∧ Below w.heap.size w w' := by
  obtain ⟨ad, c, rfl, hrow, hc, hn0⟩ := hv
  have ROW := Lib.hid hrow
  obtain ⟨n, hn⟩ : ∃ n, n = es.length := ⟨_, rfl⟩
  have NN := Lib.hid hn
  rw [← hn] at hl ⊢
  have n1 : (n : Int) ≤ 10000 := by omega
  clear hrow hn hc hn0
  obtain ⟨g0, hi, hz0, hz1, hz2⟩ := info_parts info_idn
  obtain ⟨k0, hki, hkz0, hkz1, hkz2⟩ := info_parts info_int
  go_enter Try.func23, Try.ntmps23
  go_wp2_with fail
  go_loopg [4, 5, 6] n (fun k s4 s5 s6 wr => ∃ i : Nat, i ≤ n ∧ k = n - i ∧ s6 = .int .i64 i ∧ wr.ownsRow w.heap.size 31 32 s4 (packsOf (es.take i)).length ((packsOf (es.take i)).flatMap encId) ∧ wr.ownsRow w.heap.size 3 1 s5 (packsOf (es.take i)).length ((cntsOf (es.take i)).flatMap i1) ∧ Below w.heap.size w wr)
  case atStart =>
    have e0 : packsOf ([] : List Ent) = [] := by
      have := packs_len ([] : List Ent)
      exact List.eq_nil_of_length_eq_zero (by simpa using this)
    refine ⟨0, Nat.zero_le _, rfl, rfl, ?_, ?_, Below.refl _ _⟩
    · rw [List.take_zero, e0]
      exact World.ownsRow_nil _ _ _ _
    · have : cntsOf ([] : List Ent) = [] := by unfold cntsOf; rw [e0]; rfl
      rw [List.take_zero, e0, this]
      exact World.ownsRow_nil _ _ _ _
  case round =>
    obtain ⟨i, hi', hk, rfl, r4, r5, hb⟩ := hrel
    have HK := Lib.hid hk
    have HB := Lib.hid hb
    have ii0 : (0 : Int) ≤ (i : Int) := Int.natCast_nonneg _
    obtain ⟨A, hA⟩ : ∃ A, A = packsOf (es.take i) := ⟨_, rfl⟩
    obtain ⟨C, hC⟩ : ∃ C, C = cntsOf (es.take i) := ⟨_, rfl⟩
    obtain ⟨m, hm⟩ : ∃ m, m = A.length := ⟨_, rfl⟩
    have CL : C.length = m := by rw [hC, cnts_len, ← hA, hm]
    have ml : m ≤ 10000 := by
      rw [hm, hA]
      have := packs_len (es.take i)
      rw [List.length_take] at this
      omega
    rw [← hA, ← hC, ← hm] at r5
    rw [← hA, ← hm] at r4
    obtain ⟨a4, c4, rfl⟩ := own_slice r4
    obtain ⟨a5, c5, rfl⟩ := own_slice r5
    have R4 := Lib.hid r4
    have R5 := Lib.hid r5
    have AA := Lib.hid hA
    have CC := Lib.hid hC
    have MM := Lib.hid hm
    have CL' := Lib.hid CL
    have m0 : (0 : Int) ≤ (m : Int) := Int.natCast_nonneg _
    have m1 : (m : Int) ≤ 10000 := by omega
    clear hk hb hA hC hm r4 r5 CL
    by_cases hlt : i < n
    · have hlt' : (i : Int) < (n : Int) := by omega
      obtain ⟨e, he⟩ : ∃ e, es[i]? = some e := ⟨es[i]'(by rw [← NN.out]; exact hlt), List.getElem?_eq_getElem _⟩
      obtain ⟨b, off, rfl, hb2, hL⟩ := erow_elem (ROW.out.later HB.out) he
      have LP := Lib.hid (e_lies hL).2.1
      have HE := Lib.hid he
      obtain ⟨p, hp⟩ : ∃ p, p = e.2.pack := ⟨_, rfl⟩
      rw [← hp] at LP
      have HP := Lib.hid hp
      have TK : Hid (es.take (i + 1) = es.take i ++ [e]) := Lib.hid (by rw [List.take_add_one, he]; rfl)
      clear hL he hp
      go_upto_region 7 with (first | (refine wpList_load_agg rfl 31 (.tmp 20) rfl b (off + i * 65 + 32) rfl (encId p).toArray _ LP.out Try.underlying31 rfl (sizei p.1) ?_) | (refine wpList_store_new rfl 31 (.tmp 7) (.tmp 21) rfl _ (encId p).toArray rfl rfl (sizei p.1) (by simp [encId_len]) (all_oneCell_toArray (encId_one p)) ?_))
      refine wp_named fun w3 hw3 => ?_
      obtain ⟨T, hT⟩ : ∃ T, T = wr.heap.size := ⟨_, rfl⟩
      rw [← hT]
      have e3 : w3.heap[T]? = some (.cells (encId p).toArray 31 (0, 0)) := by rw [hw3, hT]; exact heap_at _ _
      have b3 : Below wr.heap.size wr w3 := by rw [hw3]; exact below_alloc (Below.refl _ _) _
      have E3 := Lib.hid e3
      have Q4 := Lib.hid (own_later R4.out b3)
      have Q5 := Lib.hid (own_later R5.out b3)
      have B3 := Lib.hid (HB.out.trans (b3.mono HB.out.size))
      obtain ⟨P, hP⟩ : ∃ P, P = posI A p := ⟨_, rfl⟩
      have PP := Lib.hid hP
      have hPm : P ≤ m := by rw [hP, MM.out]; exact posI_le _ _
      obtain ⟨wo, hwo⟩ : ∃ wo : World, wo = wr := ⟨_, rfl⟩
      subst hwo
      clear hw3 hT e3 b3 hP R4 R5 HB LP
      go_wp2_with fail
      go_loopg [8] m (fun k s8 wr => ∃ j : Nat, j ≤ P ∧ k = m - j ∧ s8 = .int .i64 j ∧ Below w3.heap.size w3 wr)
      case atStart => exact ⟨0, Nat.zero_le _, rfl, rfl, Below.refl _ _⟩
      case round =>
        obtain ⟨j, hj, hk2, rfl, hb4⟩ := hrel
        have HK2 := Lib.hid hk2
        have B4 := Lib.hid hb4
        have S4 := Lib.hid (own_later Q4.out hb4)
        have S5 := Lib.hid (own_later Q5.out hb4)
        have E4 := Lib.hid (aRegionKept E3.out hb4)
        have j0 : (0 : Int) ≤ (j : Int) := Int.natCast_nonneg _
        clear hk2 hb4
        by_cases hcont : j < P
        · have hjm : (j : Int) < (m : Int) := by omega
          obtain ⟨x, hx⟩ : ∃ x, A[j]? = some x := ⟨A[j]'(by rw [← MM.out]; omega), List.getElem?_eq_getElem _⟩
          have hless : Op.bytesLess x.1 p.1 = true := by
            rw [less_bytes]
            exact decide_eq_true (posI_yes (by rw [PP.out] at hcont; exact hcont) hx)
          have s4 := S4.out
          rw [MM.out] at s4
          obtain ⟨g, cap, e5, hg, hL⟩ := ids_elem s4 hx
          obtain rfl : a4 = some ⟨g, 0, none⟩ := by cases e5; rfl
          clear e5
          have c1 := conv_id hg hL
          have c2 := conv_id (Array.getElem?_eq_some_iff.1 E4.out).1 (lies_block E4.out)
          clear s4 hx hL
          go_upto_region 8 with fail
          refine wp_region_quiet_lit (by kernel_rfl) (by kernel_rfl) ?_
          repeat go_big_quiet_step (fail)
          refine wpQuiet_nil ?_
          intro _ hw9
          obtain ⟨nq, hw9⟩ := hw9
          subst hw9
          go_wp2
          go_roundg (m - (j + 1))
          case measure => rw [HK2.out]; omega
          case rel => exact ⟨j + 1, by omega, rfl, by go_num, below_drewN B4.out _⟩
        · obtain rfl : j = P := by omega
          have RA : RiseI A := by rw [AA.out]; exact packs_rise _
          by_cases hhas : p ∈ A
          · have hat := posI_has RA hhas
            rw [← PP.out] at hat
            have hjm : j < m := by rw [MM.out]; exact (List.getElem?_eq_some_iff.1 hat).1
            have hjm' : (j : Int) < (m : Int) := by omega
            have hless : Op.bytesLess p.1 p.1 = false := by rw [less_bytes, cb_refl]; rfl
            have s4 := S4.out
            rw [MM.out] at s4
            obtain ⟨g, cap, e5, hg, hL⟩ := ids_elem s4 hat
            obtain rfl : a4 = some ⟨g, 0, none⟩ := by cases e5; rfl
            clear e5
            have c1 := conv_id hg hL
            have c2 := conv_id (Array.getElem?_eq_some_iff.1 E4.out).1 (lies_block E4.out)
            have HAT := Lib.hid hat
            have HAS := Lib.hid hhas
            clear s4 hL hat RA hcont hhas
            go_upto_region 8 with fail
            refine wp_region_quiet_lit (by kernel_rfl) (by kernel_rfl) ?_
            repeat go_big_quiet_step (fail)
            refine wpQuiet_nil ?_
            intro _ hw9
            obtain ⟨nq, hw9⟩ := hw9
            subst hw9
            go_upto_region 10 with fail
            refine wp_named fun w5 hw5 => ?_
            have b5 : Below wr.heap.size wr w5 := by rw [hw5]; exact below_drewN (Below.refl _ _) _
            have B5 := Lib.hid (B3.out.trans ((B4.out.trans (b5.mono B4.out.size)).mono B3.out.size))
            have T4 := Lib.hid (own_later S4.out b5)
            have T5 := Lib.hid (own_later S5.out b5)
            have E5 := Lib.hid (aRegionKept E4.out b5)
            clear hw5 b5 S4 S5 E4 B4
            clear c1 c2 hless
            have s4 := T4.out
            rw [MM.out] at s4
            obtain ⟨g', cap', e5, _, hL⟩ := ids_elem s4 HAT.out
            cases e5
            have LX := Lib.hid hL
            have LT := Lib.hid (lies_block E5.out)
            have hq := eqi32 p p
            have hd : decide (p = p) = true := decide_eq_true rfl
            clear s4 hL
            refine wp_region_quiet_lit (by kernel_rfl) (by kernel_rfl) ?_
            iterate 8 go_big_quiet_step (fail)
            refine wpQuiet_load (by kernel_rfl) 31 (.tmp 45) rfl g (j * 32) rfl (encId p).toArray _ (lies_drewN (LX.out)) Try.underlying31 rfl (sizei p.1) ?_
            try simp only [Act.put, List.setIfInBounds_toArray, List.set_cons_zero, List.set_cons_succ]
            refine wpQuiet_load (by kernel_rfl) 31 (.tmp 7) rfl T (0) rfl (encId p).toArray _ (lies_drewN (LT.out)) Try.underlying31 rfl (sizei p.1) ?_
            try simp only [Act.put, List.setIfInBounds_toArray, List.set_cons_zero, List.set_cons_succ]
            repeat go_big_quiet_step (fail)
            refine wpQuiet_nil ?_
            intro _ hw9
            obtain ⟨nq, hw9⟩ := hw9
            subst hw9
            go_upto_region 11 with fail
            refine wp_named fun w6 hw6 => ?_
            have b6 : Below w5.heap.size w5 w6 := by rw [hw6]; exact below_drewN (Below.refl _ _) _
            have B6 := Lib.hid (B5.out.trans (b6.mono B5.out.size))
            have V4 := Lib.hid (own_later T4.out b6)
            have V5 := Lib.hid (own_later T5.out b6)
            clear hw6 b6 T4 T5 E5 B5 hq hd LX LT
            obtain ⟨cn, hcn⟩ : ∃ cn : Int, cn = (cntOf p (es.take i) : Int) := ⟨_, rfl⟩
            have hcj : C[j]? = some cn := by
              rw [CC.out, hcn]
              exact cnts_at (by rw [← AA.out]; exact HAT.out)
            have cb : 0 ≤ cn ∧ cn ≤ 10000 := by
              have h1 := List.length_filter_le (fun e : Ent => decide (e.2.pack = p)) (es.take i)
              rw [List.length_take] at h1
              have h2 : cntOf p (es.take i) = ((es.take i).filter fun e => decide (e.2.pack = p)).length := rfl
              omega
            obtain ⟨cb0, cb1⟩ := cb
            obtain ⟨g5, rfl, hg5, hc5⟩ := own_at V5.out (k := j) (u := .int .i64 cn) (by
              have := flat_at i1_len (i := 0) hcj (u := .int .i64 cn) rfl
              simpa using this)
            obtain ⟨_, cur5, hcur5⟩ := own_row V5.out (k := g5) rfl
            have fz5 := blk_free hcur5 j
            obtain ⟨p1, p2⟩ := own_put i1_len V5.out CL'.out.symm (i := j) hjm (cn + 1)
            rw [show i1 (cn + 1) = [.int .i64 (cn + 1)] from rfl, setCells_one, Nat.mul_one] at p1 p2
            have N5 := Lib.hid p1
            have N4 : Hid ((w6.setCell ⟨g5, j, none⟩ (.int .i64 (cn + 1))).ownsRow w.heap.size 31 32 (.slice (some ⟨g, 0, none⟩) m c4) m (A.flatMap encId)) := Lib.hid (own_other V4.out p2 (fun k hk => by cases hk; exact ⟨cur5, hcur5⟩) (by decide))
            have BN := Lib.hid (B6.out.trans (below_grown p2 B6.out.size (own_row V5.out (k := g5) rfl).1))
            have CN := Lib.hid hcn
            clear hcn hcj p1 p2 V4 V5 B6 hcur5
            go_wp2
            go_roundg (n - (i + 1))
            case measure => rw [HK.out]; omega
            case rel =>
              have h1 : e.2.pack ∈ packsOf (es.take i) := by rw [← AA.out, ← HP.out]; exact HAS.out
              refine ⟨i + 1, by omega, rfl, by go_num, ?_, ?_, BN.out⟩
              · rw [TK.out, packs_old h1, ← AA.out, ← MM.out]
                exact N4.out
              · rw [TK.out, cnts_old h1, packs_old h1, ← AA.out, ← CC.out, ← HP.out, ← CN.out, ← PP.out, ← MM.out]
                exact N5.out
          · by_cases hjm : j < m
            · have hjm' : (j : Int) < (m : Int) := by omega
              obtain ⟨x, hat⟩ : ∃ x, A[j]? = some x := ⟨A[j]'(by rw [← MM.out]; exact hjm), List.getElem?_eq_getElem _⟩
              have hless : Op.bytesLess x.1 p.1 = false := by
                rw [less_bytes]
                exact decide_eq_false (posI_no (by rw [PP.out] at hat; exact hat))
              have hxp : ¬ x = p := fun e1 => hhas (by rw [← e1]; exact List.mem_of_getElem? hat)
              have s4 := S4.out
              rw [MM.out] at s4
              obtain ⟨g, cap, e5, hg, hL⟩ := ids_elem s4 hat
              obtain rfl : a4 = some ⟨g, 0, none⟩ := by cases e5; rfl
              clear e5
              have c1 := conv_id hg hL
              have c2 := conv_id (Array.getElem?_eq_some_iff.1 E4.out).1 (lies_block E4.out)
              have HAT := Lib.hid hat
              have HAS := Lib.hid hhas
              clear s4 hL hat RA hcont hhas
              go_upto_region 8 with fail
              refine wp_region_quiet_lit (by kernel_rfl) (by kernel_rfl) ?_
              repeat go_big_quiet_step (fail)
              refine wpQuiet_nil ?_
              intro _ hw9
              obtain ⟨nq, hw9⟩ := hw9
              subst hw9
              go_upto_region 10 with fail
              refine wp_named fun w5 hw5 => ?_
              have b5 : Below wr.heap.size wr w5 := by rw [hw5]; exact below_drewN (Below.refl _ _) _
              have B5 := Lib.hid (B3.out.trans ((B4.out.trans (b5.mono B4.out.size)).mono B3.out.size))
              have T4 := Lib.hid (own_later S4.out b5)
              have T5 := Lib.hid (own_later S5.out b5)
              have E5 := Lib.hid (aRegionKept E4.out b5)
              clear hw5 b5 S4 S5 E4 B4
              clear c1 c2 hless
              have s4 := T4.out
              rw [MM.out] at s4
              obtain ⟨g', cap', e5, _, hL⟩ := ids_elem s4 HAT.out
              cases e5
              have LX := Lib.hid hL
              have LT := Lib.hid (lies_block E5.out)
              have hq := eqi32 x p
              have hd : decide (x = p) = false := decide_eq_false hxp
              clear s4 hL hxp
              refine wp_region_quiet_lit (by kernel_rfl) (by kernel_rfl) ?_
              iterate 8 go_big_quiet_step (fail)
              refine wpQuiet_load (by kernel_rfl) 31 (.tmp 45) rfl g (j * 32) rfl (encId x).toArray _ (lies_drewN (LX.out)) Try.underlying31 rfl (sizei x.1) ?_
              try simp only [Act.put, List.setIfInBounds_toArray, List.set_cons_zero, List.set_cons_succ]
              refine wpQuiet_load (by kernel_rfl) 31 (.tmp 7) rfl T (0) rfl (encId p).toArray _ (lies_drewN (LT.out)) Try.underlying31 rfl (sizei p.1) ?_
              try simp only [Act.put, List.setIfInBounds_toArray, List.set_cons_zero, List.set_cons_succ]
              repeat go_big_quiet_step (fail)
              refine wpQuiet_nil ?_
              intro _ hw9
              obtain ⟨nq, hw9⟩ := hw9
              subst hw9
              clear hq hd LX LT HAT
              go_upto_region 13 with fail
              refine wp_named fun w7 hw7 => ?_
              have b7 : Below w5.heap.size w5 w7 := by rw [hw7]; exact below_drewN (Below.refl _ _) _
              have B7 := Lib.hid (B5.out.trans (b7.mono B5.out.size))
              have G4 := Lib.hid (own_later T4.out b7)
              have G5 := Lib.hid (own_later T5.out b7)
              have E7 := Lib.hid (aRegionKept E5.out b7)
              clear hw7 b7 T4 T5 E5 B5
              have jc4 : j ≤ c4 := Nat.le_trans hPm (own_room G4.out)
              have jc5 : j ≤ c5 := Nat.le_trans hPm (own_room G5.out)
              have X1 := Lib.hid (own_cut_hi encId_len G4.out MM.out hPm)
              go_upto_region 14 with (first | (refine wpList_cut_hi rfl 55 (.tmp 57) (.tmp 58) rfl und_ids 32 (sz_id _) (some ⟨g, 0, none⟩) m c4 rfl j rfl jc4 ?_) | (at_builtin; refine wpList_append_opt rfl (.tmp 56) (.tmp 59) 55 rfl w7.heap.size 31 g0 _ 32 32 Try.underlying55 hi hz0 hz1 hz2 (by simp [Value.cells, encId_len]) (by decide) (.slice none 0 0) 0 [] rfl (World.ownsRow_nil _ _ _ _) (cutAt (some ⟨g, 0, none⟩) 0 c4 32) j c4 ((A.take j).flatMap encId) rfl X1.out.1 X1.out.2.2 X1.out.2.1 (id_ones _) (by unfold maxLen; omega) (by omega) (Nat.le_refl _) ?_; intro v8 w8 hown8 hg8 hat8))
              have b8 : Below w7.heap.size w7 w8 := below_none hg8
              have O8 : Hid (w8.ownsRow w7.heap.size 31 32 v8 j ((A.take j).flatMap encId)) := Lib.hid (by simpa using hown8)
              have S8 := b8.size
              have L8 := Lib.hid (lies_block (aRegionKept E7.out b8))
              have B78 := Lib.hid b8
              clear hown8 hg8 hat8 b8 X1 E7
              go_upto_region 15 with (first | (refine wpList_load_agg rfl 31 (.tmp 7) rfl T 0 rfl (encId p).toArray _ L8.out Try.underlying31 rfl (sizei p.1) ?_) | (refine wpList_row_one rfl 55 31 (.tmp 62) rfl (encId p).toArray rfl 32 g0 _ Try.underlying55 hi hz0 hz1 (by decide) (by simp [encId_len]) (by decide) ?_) | (at_builtin; refine wpList_append_opt rfl (.tmp 61) (.tmp 63) 55 rfl w7.heap.size 31 g0 _ 32 32 Try.underlying55 hi hz0 hz1 hz2 (by simp [Value.cells, encId_len]) (by decide) v8 j ((A.take j).flatMap encId) rfl (own_later O8.out (below_alloc (Below.refl _ _) _)) (some ⟨w8.heap.size, 0, none⟩) 1 1 (encId p) rfl (fun h => by cases h) (by rw [encId_len]) (fun ad' h => by cases h; exact World.news_of_block (heap_at w8 _)) (encId_one p) (by unfold maxLen; omega) (by omega) (by simp; omega) ?_; intro v9 w9 hown9 hg9 hat9))
              have b9 : Below w7.heap.size w8 w9 := ((below_alloc (Below.refl w8.heap.size w8) (.cells (encId p).toArray 31)).mono S8).grown hg9 (by simp; omega) (fun k hk => (own_row O8.out hk).1)
              have O9 := Lib.hid hown9
              have B79 := Lib.hid (B78.out.trans b9)
              have S9 := B79.out.size
              have X2 := Lib.hid (own_cut_lo encId_len (own_later G4.out B79.out) MM.out hPm)
              clear hown9 hg9 hat9 b9 L8 O8 B78
              go_upto_region 16 with (first | (refine wpList_cut_lo rfl 55 (.tmp 66) (.tmp 67) rfl und_ids 32 (sz_id _) (some ⟨g, 0, none⟩) m c4 rfl j rfl hPm ?_) | (at_builtin; refine wpList_append_opt rfl (.tmp 65) (.tmp 68) 55 rfl w7.heap.size 31 g0 _ 32 32 Try.underlying55 hi hz0 hz1 hz2 (by simp [Value.cells, encId_len]) (by decide) v9 (j + 1) ((A.take j).flatMap encId ++ encId p) rfl O9.out (cutAt (some ⟨g, 0, none⟩) j c4 32) (m - j) (c4 - j) ((A.drop j).flatMap encId) rfl X2.out.1 X2.out.2.2 X2.out.2.1 (id_ones _) (by unfold maxLen; omega) (by omega) S9 ?_; intro v10 w10 hown10 hg10 hat10))
              have b10 : Below w7.heap.size w7 w10 := B79.out.grown hg10 S9 (fun k hk => (own_row O9.out hk).1)
              have O10 : Hid (w10.ownsRow w7.heap.size 31 32 v10 (m + 1) ((insI A p).flatMap encId)) := Lib.hid (by
                have e1 : (A.take j).flatMap encId ++ encId p ++ (A.drop j).flatMap encId = (insI A p).flatMap encId := by
                  unfold insI
                  rw [← PP.out]
                  simp
                have e2 : j + 1 + (m - j) = m + 1 := by omega
                rw [← e1, ← e2]
                exact hown10)
              have B10 := Lib.hid b10
              have H5 := Lib.hid (own_later G5.out b10)
              have X3 := Lib.hid (own_cut_hi i1_len H5.out CL'.out.symm hPm)
              have S10 := b10.size
              clear hown10 hg10 hat10 b10 O9 B79 X2 G4 G5 S9 S8
              go_upto_region 18 with (first | (refine wpList_cut_hi rfl 57 (.tmp 71) (.tmp 72) rfl und_ints 1 (sz_int _) a5 m c5 rfl j rfl jc5 ?_) | (at_builtin; refine wpList_append_opt rfl (.tmp 70) (.tmp 73) 57 rfl w10.heap.size 3 k0 _ 1 8 Try.underlying57 hki hkz0 hkz1 hkz2 rfl (by decide) (.slice none 0 0) 0 [] rfl (World.ownsRow_nil _ _ _ _) (cutAt a5 0 c5 1) j c5 ((C.take j).flatMap i1) rfl X3.out.1 X3.out.2.2 X3.out.2.1 (i1_one _) (by unfold maxLen; omega) (by omega) (Nat.le_refl _) ?_; intro v11 w11 hown11 hg11 hat11))
              have b11 : Below w10.heap.size w10 w11 := below_none hg11
              have O11 : Hid (w11.ownsRow w10.heap.size 3 1 v11 j ((C.take j).flatMap i1)) := Lib.hid (by simpa using hown11)
              have B11 := Lib.hid b11
              have S11 := b11.size
              clear hown11 hg11 hat11 b11 X3
              go_upto_region 19 with (at_builtin; refine wpList_append_opt rfl (.tmp 75) (.tmp 76) 57 rfl w10.heap.size 3 k0 _ 1 8 Try.underlying57 hki hkz0 hkz1 hkz2 rfl (by decide) v11 j ((C.take j).flatMap i1) rfl (own_later O11.out (below_alloc (Below.refl _ _) _)) (some ⟨w11.heap.size, 0, none⟩) 1 1 (i1 1) rfl (fun h => by cases h) rfl (fun ad' h => by cases h; exact World.news_of_block (heap_at w11 _)) (i1_one [1]) (by unfold maxLen; omega) (by omega) (by simp; omega) ?_; intro v12 w12 hown12 hg12 hat12)
              have b12 : Below w10.heap.size w11 w12 := ((below_alloc (Below.refl w11.heap.size w11) (.cells #[.int .i64 1] 3)).mono S11).grown hg12 (by simp; omega) (fun k hk => (own_row O11.out hk).1)
              have O12 := Lib.hid hown12
              have B12 := Lib.hid (B11.out.trans b12)
              have S12 := B12.out.size
              have X4 := Lib.hid (own_cut_lo i1_len (own_later H5.out B12.out) CL'.out.symm hPm)
              clear hown12 hg12 hat12 b12 O11 B11
              go_wp2_with (first | (refine wpList_cut_lo rfl 57 (.tmp 79) (.tmp 80) rfl und_ints 1 (sz_int _) a5 m c5 rfl j rfl hPm ?_) | (at_builtin; refine wpList_append_opt rfl (.tmp 78) (.tmp 81) 57 rfl w10.heap.size 3 k0 _ 1 8 Try.underlying57 hki hkz0 hkz1 hkz2 rfl (by decide) v12 (j + 1) ((C.take j).flatMap i1 ++ i1 1) rfl O12.out (cutAt a5 j c5 1) (m - j) (c5 - j) ((C.drop j).flatMap i1) rfl X4.out.1 X4.out.2.2 X4.out.2.1 (i1_one _) (by unfold maxLen; omega) (by omega) S12 ?_; intro v13 w13 hown13 hg13 hat13))
              have b13 : Below w10.heap.size w10 w13 := B12.out.grown hg13 S12 (fun k hk => (own_row O12.out hk).1)
              have F4 := Lib.hid (own_later O10.out b13)
              have B13 := Lib.hid (B7.out.trans ((B10.out.trans (b13.mono S10)).mono B7.out.size))
              have F5 := Lib.hid hown13
              have S7 := B7.out.size
              clear hown13 hg13 hat13 b13 O12 B12 X4 H5
              go_roundg (n - (i + 1))
              case measure => rw [HK.out]; omega
              case rel =>
                have h1 : e.2.pack ∉ packsOf (es.take i) := by rw [← AA.out, ← HP.out]; exact HAS.out
                have h2 : (packsOf (es.take (i + 1))).length = m + 1 := by
                  rw [TK.out, packs_new h1, ← AA.out, MM.out, insI, List.length_append, List.length_cons, List.length_take, List.length_drop]
                  have := posI_le A e.2.pack
                  omega
                refine ⟨i + 1, by omega, rfl, by go_num, ?_, ?_, B13.out⟩
                · rw [h2, TK.out, packs_new h1, ← AA.out, ← HP.out]
                  exact own_mono F4.out S7
                · rw [h2, TK.out, cnts_new h1, ← AA.out, ← CC.out, ← HP.out, ← PP.out]
                  have f5 := F5.out
                  rw [show j + 1 + (m - j) = m + 1 by omega] at f5
                  refine own_mono ?_ (Nat.le_trans S7 S10)
                  simpa [List.flatMap_append, List.append_assoc] using f5
            · have hjm' : ¬ (j : Int) < (m : Int) := by omega
              have HAS := Lib.hid hhas
              clear RA hcont hhas
              go_upto_region 8 with fail
              refine wp_region_quiet_lit (by kernel_rfl) (by kernel_rfl) ?_
              repeat go_big_quiet_step (fail)
              refine wpQuiet_nil ?_
              intro _ hw9
              obtain ⟨nq, hw9⟩ := hw9
              subst hw9
              go_upto_region 10 with fail
              refine wp_named fun w5 hw5 => ?_
              have b5 : Below wr.heap.size wr w5 := by rw [hw5]; exact below_drewN (Below.refl _ _) _
              have B5 := Lib.hid (B3.out.trans ((B4.out.trans (b5.mono B4.out.size)).mono B3.out.size))
              have T4 := Lib.hid (own_later S4.out b5)
              have T5 := Lib.hid (own_later S5.out b5)
              have E5 := Lib.hid (aRegionKept E4.out b5)
              clear hw5 b5 S4 S5 E4 B4
              refine wp_region_quiet_lit (by kernel_rfl) (by kernel_rfl) ?_
              repeat go_big_quiet_step (fail)
              refine wpQuiet_nil ?_
              intro _ hw9
              obtain ⟨nq, hw9⟩ := hw9
              subst hw9
              go_upto_region 13 with fail
              refine wp_named fun w7 hw7 => ?_
              have b7 : Below w5.heap.size w5 w7 := by rw [hw7]; exact below_drewN (Below.refl _ _) _
              have B7 := Lib.hid (B5.out.trans (b7.mono B5.out.size))
              have G4 := Lib.hid (own_later T4.out b7)
              have G5 := Lib.hid (own_later T5.out b7)
              have E7 := Lib.hid (aRegionKept E5.out b7)
              clear hw7 b7 T4 T5 E5 B5
              have jc4 : j ≤ c4 := Nat.le_trans hPm (own_room G4.out)
              have jc5 : j ≤ c5 := Nat.le_trans hPm (own_room G5.out)
              have X1 := Lib.hid (own_cut_hi encId_len G4.out MM.out hPm)
              go_upto_region 14 with (first | (refine wpList_cut_hi rfl 55 (.tmp 57) (.tmp 58) rfl und_ids 32 (sz_id _) a4 m c4 rfl j rfl jc4 ?_) | (at_builtin; refine wpList_append_opt rfl (.tmp 56) (.tmp 59) 55 rfl w7.heap.size 31 g0 _ 32 32 Try.underlying55 hi hz0 hz1 hz2 (by simp [Value.cells, encId_len]) (by decide) (.slice none 0 0) 0 [] rfl (World.ownsRow_nil _ _ _ _) (cutAt a4 0 c4 32) j c4 ((A.take j).flatMap encId) rfl X1.out.1 X1.out.2.2 X1.out.2.1 (id_ones _) (by unfold maxLen; omega) (by omega) (Nat.le_refl _) ?_; intro v8 w8 hown8 hg8 hat8))
              have b8 : Below w7.heap.size w7 w8 := below_none hg8
              have O8 : Hid (w8.ownsRow w7.heap.size 31 32 v8 j ((A.take j).flatMap encId)) := Lib.hid (by simpa using hown8)
              have S8 := b8.size
              have L8 := Lib.hid (lies_block (aRegionKept E7.out b8))
              have B78 := Lib.hid b8
              clear hown8 hg8 hat8 b8 X1 E7
              go_upto_region 15 with (first | (refine wpList_load_agg rfl 31 (.tmp 7) rfl T 0 rfl (encId p).toArray _ L8.out Try.underlying31 rfl (sizei p.1) ?_) | (refine wpList_row_one rfl 55 31 (.tmp 62) rfl (encId p).toArray rfl 32 g0 _ Try.underlying55 hi hz0 hz1 (by decide) (by simp [encId_len]) (by decide) ?_) | (at_builtin; refine wpList_append_opt rfl (.tmp 61) (.tmp 63) 55 rfl w7.heap.size 31 g0 _ 32 32 Try.underlying55 hi hz0 hz1 hz2 (by simp [Value.cells, encId_len]) (by decide) v8 j ((A.take j).flatMap encId) rfl (own_later O8.out (below_alloc (Below.refl _ _) _)) (some ⟨w8.heap.size, 0, none⟩) 1 1 (encId p) rfl (fun h => by cases h) (by rw [encId_len]) (fun ad' h => by cases h; exact World.news_of_block (heap_at w8 _)) (encId_one p) (by unfold maxLen; omega) (by omega) (by simp; omega) ?_; intro v9 w9 hown9 hg9 hat9))
              have b9 : Below w7.heap.size w8 w9 := ((below_alloc (Below.refl w8.heap.size w8) (.cells (encId p).toArray 31)).mono S8).grown hg9 (by simp; omega) (fun k hk => (own_row O8.out hk).1)
              have O9 := Lib.hid hown9
              have B79 := Lib.hid (B78.out.trans b9)
              have S9 := B79.out.size
              have X2 := Lib.hid (own_cut_lo encId_len (own_later G4.out B79.out) MM.out hPm)
              clear hown9 hg9 hat9 b9 L8 O8 B78
              go_upto_region 16 with (first | (refine wpList_cut_lo rfl 55 (.tmp 66) (.tmp 67) rfl und_ids 32 (sz_id _) a4 m c4 rfl j rfl hPm ?_) | (at_builtin; refine wpList_append_opt rfl (.tmp 65) (.tmp 68) 55 rfl w7.heap.size 31 g0 _ 32 32 Try.underlying55 hi hz0 hz1 hz2 (by simp [Value.cells, encId_len]) (by decide) v9 (j + 1) ((A.take j).flatMap encId ++ encId p) rfl O9.out (cutAt a4 j c4 32) (m - j) (c4 - j) ((A.drop j).flatMap encId) rfl X2.out.1 X2.out.2.2 X2.out.2.1 (id_ones _) (by unfold maxLen; omega) (by omega) S9 ?_; intro v10 w10 hown10 hg10 hat10))
              have b10 : Below w7.heap.size w7 w10 := B79.out.grown hg10 S9 (fun k hk => (own_row O9.out hk).1)
              have O10 : Hid (w10.ownsRow w7.heap.size 31 32 v10 (m + 1) ((insI A p).flatMap encId)) := Lib.hid (by
                have e1 : (A.take j).flatMap encId ++ encId p ++ (A.drop j).flatMap encId = (insI A p).flatMap encId := by
                  unfold insI
                  rw [← PP.out]
                  simp
                have e2 : j + 1 + (m - j) = m + 1 := by omega
                rw [← e1, ← e2]
                exact hown10)
              have B10 := Lib.hid b10
              have H5 := Lib.hid (own_later G5.out b10)
              have X3 := Lib.hid (own_cut_hi i1_len H5.out CL'.out.symm hPm)
              have S10 := b10.size
              clear hown10 hg10 hat10 b10 O9 B79 X2 G4 G5 S9 S8
              go_upto_region 18 with (first | (refine wpList_cut_hi rfl 57 (.tmp 71) (.tmp 72) rfl und_ints 1 (sz_int _) a5 m c5 rfl j rfl jc5 ?_) | (at_builtin; refine wpList_append_opt rfl (.tmp 70) (.tmp 73) 57 rfl w10.heap.size 3 k0 _ 1 8 Try.underlying57 hki hkz0 hkz1 hkz2 rfl (by decide) (.slice none 0 0) 0 [] rfl (World.ownsRow_nil _ _ _ _) (cutAt a5 0 c5 1) j c5 ((C.take j).flatMap i1) rfl X3.out.1 X3.out.2.2 X3.out.2.1 (i1_one _) (by unfold maxLen; omega) (by omega) (Nat.le_refl _) ?_; intro v11 w11 hown11 hg11 hat11))
              have b11 : Below w10.heap.size w10 w11 := below_none hg11
              have O11 : Hid (w11.ownsRow w10.heap.size 3 1 v11 j ((C.take j).flatMap i1)) := Lib.hid (by simpa using hown11)
              have B11 := Lib.hid b11
              have S11 := b11.size
              clear hown11 hg11 hat11 b11 X3
              go_upto_region 19 with (at_builtin; refine wpList_append_opt rfl (.tmp 75) (.tmp 76) 57 rfl w10.heap.size 3 k0 _ 1 8 Try.underlying57 hki hkz0 hkz1 hkz2 rfl (by decide) v11 j ((C.take j).flatMap i1) rfl (own_later O11.out (below_alloc (Below.refl _ _) _)) (some ⟨w11.heap.size, 0, none⟩) 1 1 (i1 1) rfl (fun h => by cases h) rfl (fun ad' h => by cases h; exact World.news_of_block (heap_at w11 _)) (i1_one [1]) (by unfold maxLen; omega) (by omega) (by simp; omega) ?_; intro v12 w12 hown12 hg12 hat12)
              have b12 : Below w10.heap.size w11 w12 := ((below_alloc (Below.refl w11.heap.size w11) (.cells #[.int .i64 1] 3)).mono S11).grown hg12 (by simp; omega) (fun k hk => (own_row O11.out hk).1)
              have O12 := Lib.hid hown12
              have B12 := Lib.hid (B11.out.trans b12)
              have S12 := B12.out.size
              have X4 := Lib.hid (own_cut_lo i1_len (own_later H5.out B12.out) CL'.out.symm hPm)
              clear hown12 hg12 hat12 b12 O11 B11
              go_wp2_with (first | (refine wpList_cut_lo rfl 57 (.tmp 79) (.tmp 80) rfl und_ints 1 (sz_int _) a5 m c5 rfl j rfl hPm ?_) | (at_builtin; refine wpList_append_opt rfl (.tmp 78) (.tmp 81) 57 rfl w10.heap.size 3 k0 _ 1 8 Try.underlying57 hki hkz0 hkz1 hkz2 rfl (by decide) v12 (j + 1) ((C.take j).flatMap i1 ++ i1 1) rfl O12.out (cutAt a5 j c5 1) (m - j) (c5 - j) ((C.drop j).flatMap i1) rfl X4.out.1 X4.out.2.2 X4.out.2.1 (i1_one _) (by unfold maxLen; omega) (by omega) S12 ?_; intro v13 w13 hown13 hg13 hat13))
              have b13 : Below w10.heap.size w10 w13 := B12.out.grown hg13 S12 (fun k hk => (own_row O12.out hk).1)
              have F4 := Lib.hid (own_later O10.out b13)
              have B13 := Lib.hid (B7.out.trans ((B10.out.trans (b13.mono S10)).mono B7.out.size))
              have F5 := Lib.hid hown13
              have S7 := B7.out.size
              clear hown13 hg13 hat13 b13 O12 B12 X4 H5
              go_roundg (n - (i + 1))
              case measure => rw [HK.out]; omega
              case rel =>
                have h1 : e.2.pack ∉ packsOf (es.take i) := by rw [← AA.out, ← HP.out]; exact HAS.out
                have h2 : (packsOf (es.take (i + 1))).length = m + 1 := by
                  rw [TK.out, packs_new h1, ← AA.out, MM.out, insI, List.length_append, List.length_cons, List.length_take, List.length_drop]
                  have := posI_le A e.2.pack
                  omega
                refine ⟨i + 1, by omega, rfl, by go_num, ?_, ?_, B13.out⟩
                · rw [h2, TK.out, packs_new h1, ← AA.out, ← HP.out]
                  exact own_mono F4.out S7
                · rw [h2, TK.out, cnts_new h1, ← AA.out, ← CC.out, ← HP.out, ← PP.out]
                  have f5 := F5.out
                  rw [show j + 1 + (m - j) = m + 1 by omega] at f5
                  refine own_mono ?_ (Nat.le_trans S7 S10)
                  simpa [List.flatMap_append, List.append_assoc] using f5
    · obtain rfl : i = n := by omega
      have hlt' : ¬ (i : Int) < (i : Int) := by omega
      have TE : Hid (es.take i = es) := Lib.hid (List.take_of_length_le (by rw [← NN.out]; exact Nat.le_refl _))
      go_wp2
      go_ret2
      have r4 := R4.out
      have r5 := R5.out
      rw [AA.out, MM.out, AA.out, TE.out] at r4
      rw [CC.out, MM.out, AA.out, TE.out] at r5
      exact ⟨_, _, by rw [MM.out, AA.out, TE.out]; rfl, r4, r5, HB.out⟩
end Go.Proofs.Ytgbghjpkdbjdgaa
