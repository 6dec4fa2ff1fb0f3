/- The law QuotaPlays: whatever is granted, set aside, released, used and freed, what is told, and all accounts, are the document's, step by step. No conditions. -/
import Derived.Test.YtoinlhjdmkeaeaaPlayP
import Derived.Test.YtoinlhjdmkeaeaaAwake
import Derived.Test.YtoinlhjdmkeaeaaActs
import Derived.Deep.DeepCutAuto
import Derived.Deep.CutBlock
import Derived.Deep.RegionWith
import Derived.Deep.RegionHeld3
namespace Go.Proofs.Ytoinlhjdmkeaeaa
open Go.ChangeShapes Go.WideShapes Go.ChangeAt Go.RowKit

/-- What holds at the head of a round. -/
structure PlayIs (w : World) (b m bl : Nat) (l : List (Int × Acc)) (R : Nat → RefA) (cs : Array Value) (wr : World) : Prop where
  book : IsBook wr b m l
  arr : wr.heap[bl]? = some (.cells cs 42 (0, 0))
  is : ArrIs cs R
  sim : Sim l R
  below : Below w.heap.size w wr
  hm : w.heap.size ≤ m
  hb : w.heap.size ≤ b
  hl : w.heap.size ≤ bl
  ne : bl ≠ m ∧ bl ≠ b

set_option maxHeartbeats 6000000 in
set_option maxRecDepth 100000 in
theorem QuotaPlays_walk (ad : Option Addr) (xs : List Act3) (c : Nat) (w : World) (hx : ActsAt w ad xs) (hxw : ∀ x ∈ xs, x.ok) (hxm : xs.length ≤ maxLen) :
    Calls Try.prog 5 #[.slice ad xs.length c] w fun e w' => e = .returned (.bool true) ∧ Below w.heap.size w w' := by
  have hxl : xs.length ≤ maxLen := hxm
  unfold maxLen at hxl
  have HX := Lib.hid hx
  have HW := Lib.hid hxw
  obtain ⟨n, hn⟩ : ∃ n, n = xs.length := ⟨_, rfl⟩
  have HN := Lib.hid hn
  rw [← hn] at hxl ⊢
  clear hx hxw hn
  go_enter Try.func5, Try.ntmps5
  go_wp2_with fail
  refine (awake_any _).mono ?_
  rintro e w1 ⟨rfl, hb⟩
  go_wp2_with fail
  refine (new_any _).mono ?_
  rintro e w2 ⟨b, m, rfl, h1, hg, hb1, hb2⟩
  have hs := hb.size
  have hM : w.heap.size ≤ m := by omega
  have hb0 : w.heap.size ≤ b := by omega
  replace hb := hb.trans (hg.mono hb.size)
  clear hg hb1 hb2 hs
  have S0 := Lib.hid (PlayIs.mk (w := w) (b := b) (m := m) (bl := w2.heap.size) (l := []) (R := fun _ => ⟨false, 0, 0, 0⟩) (cs := zarr) (wr := w2.alloc (.cells zarr 42)) (h1.below (below_alloc (Below.refl _ _) _)) (heap_at _ _) zarr_is Sim.start (below_alloc hb _) hM hb0 hb.size ⟨by have := h1.map.lt; omega, by have := h1.ltb; omega⟩)
  have hz := fun W => zero_arr W
  go_wp2_with fail
  generalize w2.heap.size = bl at *
  clear hb h1 hM hb0 hz
  go_loopg [6] 60 (fun k i wr => ∃ (j : Nat) (l : List (Int × Acc)) (R : Nat → RefA) (cs : Array Value), j ≤ 60 ∧ k = 60 - j ∧ i = .int .i64 j ∧ PlayIs w b m bl l R cs wr)
  case atStart => exact ⟨0, [], _, zarr, by omega, rfl, rfl, S0.out⟩
  case round =>
    obtain ⟨j, l, R, cs, hj, hk, rfl, hI⟩ := hrel
    have HI := Lib.hid hI
    have HK := Lib.hid hk
    clear hI hk S0
    by_cases hend : j < n ∧ j < 60
    · obtain ⟨e1, e2⟩ := hend
      obtain ⟨x, hxj⟩ : ∃ x, xs[j]? = some x := ⟨xs[j]'(by rw [← HN.out]; exact e1), List.getElem?_eq_getElem _⟩
      obtain ⟨bx, ox, rfl, hx1, k0, k1, k2⟩ := HX.out.at HI.out.below hxj
      obtain ⟨okk, okw, okn⟩ := HW.out x (List.mem_of_getElem? hxj)
      obtain ⟨kind, who, nn⟩ := x
      dsimp only at k0 k1 k2 okk okw okn
      obtain ⟨n0, n1⟩ := bounds_u64 okn
      clear hxj
      have t0 := Int.lt_tmod_of_pos kind (show (0 : Int) < 5 by decide)
      have t1 := Int.tmod_lt_of_pos kind (show (0 : Int) < 5 by decide)
      go_upto_if 41 with fail
      refine wp_named fun W hW => ?_
      generalize kind.tmod 5 = t at *
      obtain ⟨κ, hκ⟩ : ∃ κ : Int, κ = if t < 0 then -t else t := ⟨_, rfl⟩
      have q0 : 0 ≤ κ := by rw [hκ]; split <;> omega
      have q4 : κ ≤ 4 := by rw [hκ]; split <;> omega
      have HT := Lib.hid hκ
      have wA : W.heap[wr.heap.size]? = some (.cells #[.int .i64 kind, .int .i64 who, .int .u64 nn] 44 (0, 0)) := by rw [hW]; exact heap_at _ _
      have wI : PlayIs w b m bl l R cs W := by
        rw [hW]
        obtain ⟨a1, a2, a3, a4, a5, a6, a7, a8, a9⟩ := HI.out
        exact ⟨a1.below (below_alloc (Below.refl _ _) _), heap_up a2, a3, a4, below_alloc a5 _, a6, a7, a8, a9⟩
      have hAm : wr.heap.size ≠ m := by have := HI.out.book.map.lt; omega
      have hAb : wr.heap.size ≠ b := by have := HI.out.book.ltb; omega
      have hAl : wr.heap.size ≠ bl := by have := (Array.getElem?_eq_some_iff.1 HI.out.arr).1; omega
      generalize wr.heap.size = A at *
      have WI := Lib.hid wI
      have WA := Lib.hid wA
      obtain ⟨⟨ca0, ca1, ca2⟩, ca3, ca4, ca5⟩ := blk3 wA
      clear hκ hW wI wA k0 k1 k2 HI
      go_cut [8] (fun s8 wx => s8 = .int .i64 κ ∧ wx = W)
      case first =>
        as_aux_lemma =>
          by_cases ht : t < 0
          · go_wp2
            go_meet
            exact ⟨by rw [HT.out, if_pos ht], rfl⟩
          · go_wp2
            go_meet
            exact ⟨by rw [HT.out, if_neg (by omega)], rfl⟩
      case rest =>
        as_aux_lemma =>
          obtain ⟨rfl, hwc⟩ := hcut
          obtain rfl : W = wc := hwc.symm
          clear HT t0 t1
          obtain ⟨l', hl'⟩ : ∃ l', l' = (opDo κ l who nn).1 := ⟨_, rfl⟩
          obtain ⟨er, her⟩ : ∃ er, er = (opDo κ l who nn).2 := ⟨_, rfl⟩
          have hop : opDo κ l who nn = (l', er) := by rw [hl', her]
          have HOP := Lib.hid hop
          clear hl' her hop
          go_upto_block 2 with fail
          go_cut [9] (fun s9 wx => s9 = .int .i64 er ∧ IsBook wx b m l' ∧ W.grownBy wx (some m))
          case first =>
            as_aux_lemma =>
              have hk5 : κ = 0 ∨ κ = 1 ∨ κ = 2 ∨ κ = 3 ∨ κ = 4 := by omega
              rcases hk5 with rfl | rfl | rfl | rfl | rfl
              · have hb := WI.out.book
                have HB := Lib.hid hb
                clear hb
                go_wp2_with fail
                refine (grant_meth HB.out okw (by simpa [opDo] using HOP.out)).mono ?_
                rintro e wx ⟨rfl, r1, r2⟩
                go_wp2
                go_meet
                exact ⟨rfl, r1, r2⟩
              · have hb := WI.out.book
                have HB := Lib.hid hb
                clear hb
                go_wp2_with fail
                refine (reserve_meth HB.out okw (by simpa [opDo] using HOP.out)).mono ?_
                rintro e wx ⟨rfl, r1, r2⟩
                go_wp2
                go_meet
                exact ⟨rfl, r1, r2⟩
              · have hb := WI.out.book
                have HB := Lib.hid hb
                clear hb
                go_wp2_with fail
                refine (release_meth HB.out okw (by simpa [opDo] using HOP.out)).mono ?_
                rintro e wx ⟨rfl, r1, r2⟩
                go_wp2
                go_meet
                exact ⟨rfl, r1, r2⟩
              · have hb := WI.out.book
                have HB := Lib.hid hb
                clear hb
                go_wp2_with fail
                refine (use_meth HB.out okw (by simpa [opDo] using HOP.out)).mono ?_
                rintro e wx ⟨rfl, r1, r2⟩
                go_wp2
                go_meet
                exact ⟨rfl, r1, r2⟩
              · have hb := WI.out.book
                have HB := Lib.hid hb
                clear hb
                go_wp2_with fail
                refine (free_meth HB.out okw (by simpa [opDo] using HOP.out)).mono ?_
                rintro e wx ⟨rfl, r1, r2⟩
                go_wp2
                go_meet
                exact ⟨rfl, r1, r2⟩
          case rest =>
            as_aux_lemma =>
              obtain ⟨rfl, hbk, hgr⟩ := hcut
              have wA : wc.heap[A]? = some (.cells #[.int .i64 kind, .int .i64 who, .int .u64 nn] 44 (0, 0)) := (hgr.block A (Array.getElem?_eq_some_iff.1 WA.out).1 (by simpa using hAm)).trans WA.out
              have wL : wc.heap[bl]? = some (.cells cs 42 (0, 0)) := (hgr.block bl (Array.getElem?_eq_some_iff.1 WI.out.arr).1 (by simpa using WI.out.ne.1)).trans WI.out.arr
              have wB : Below w.heap.size w wc := WI.out.below.trans (below_grown hgr WI.out.below.size WI.out.hm)
              obtain ⟨hM, hb0, hl0⟩ : w.heap.size ≤ m ∧ w.heap.size ≤ b ∧ w.heap.size ≤ bl := ⟨WI.out.hm, WI.out.hb, WI.out.hl⟩
              obtain ⟨ne1, ne2⟩ := WI.out.ne
              have his := WI.out.is
              have hsim := WI.out.sim
              have HIS := Lib.hid his
              have HSIM := Lib.hid hsim
              clear hgr WA WI ca0 ca1 ca2 ca3 ca4 ca5 his hsim
              obtain ⟨⟨ca0, ca1, ca2⟩, ca3, ca4, ca5⟩ := blk3 wA
              have HBK := Lib.hid hbk
              have WA := Lib.hid wA
              have WL := Lib.hid wL
              have WB := Lib.hid wB
              clear hbk wA wL wB
              by_cases hout : who < 0 ∨ 63 < who
              · have ho := op_out (k := κ) (n := nn) HSIM.out hout
                rw [HOP.out] at ho
                simp only [Prod.mk.injEq] at ho
                obtain ⟨rfl, ho⟩ := ho
                have hpi : PlayIs w b m bl l' R cs wc := ⟨HBK.out, WL.out, HIS.out, HSIM.out, WB.out, hM, hb0, hl0, ne1, ne2⟩
                have HPI := Lib.hid hpi
                clear hpi
                by_cases h0 : κ = 0
                · subst h0
                  rw [if_pos rfl] at ho
                  subst ho
                  rcases hout with hneg | hbig
                  · go_wp2
                    go_roundg (60 - (j + 1))
                    case measure => rw [HK.out]; omega
                    case rel => exact ⟨j + 1, l', R, cs, by omega, rfl, by go_num, HPI.out⟩
                  · have hpos : ¬ who < 0 := by omega
                    go_wp2
                    go_roundg (60 - (j + 1))
                    case measure => rw [HK.out]; omega
                    case rel => exact ⟨j + 1, l', R, cs, by omega, rfl, by go_num, HPI.out⟩
                · rw [if_neg h0] at ho
                  subst ho
                  have h0' : (κ == 0) = false := by simpa using h0
                  clear h0
                  rcases hout with hneg | hbig
                  · go_wp2
                    go_roundg (60 - (j + 1))
                    case measure => rw [HK.out]; omega
                    case rel => exact ⟨j + 1, l', R, cs, by omega, rfl, by go_num, HPI.out⟩
                  · have hpos : ¬ who < 0 := by omega
                    go_wp2
                    go_roundg (60 - (j + 1))
                    case measure => rw [HK.out]; omega
                    case rel => exact ⟨j + 1, l', R, cs, by omega, rfl, by go_num, HPI.out⟩
              · have hw0 : ¬ who < 0 := by omega
                have hw1 : ¬ 63 < who := by omega
                obtain ⟨q, rfl⟩ := Int.eq_ofNat_of_zero_le (show 0 ≤ who by omega)
                have hq : q < 64 := by omega
                have d0 := row_cell WL.out (HIS.out.is q hq)
                have d1 := row_cell WL.out (HIS.out.g q hq)
                have d2 := row_cell WL.out (HIS.out.r q hq)
                have d3 := row_cell WL.out (HIS.out.u q hq)
                obtain ⟨st1, st2⟩ := HSIM.out.step q0 q4 hq n0 n1
                rw [HOP.out] at st1 st2
                dsimp only at st1 st2
                have ST1 := Lib.hid st1
                have ST2 := Lib.hid st2
                clear st1 st2 hout
                obtain ⟨V, rfl⟩ : ∃ V : World, V = wc := ⟨_, rfl⟩
                obtain ⟨v, hv⟩ : ∃ v, v = (doR (R q) κ nn).1 := ⟨_, rfl⟩
                have HV := Lib.hid hv
                clear hv
                obtain ⟨vi, vg, vr, vu⟩ := v
                have CD : ∀ W' : World, Calls Try.prog 17 #[.agg #[.bool (R q).is, .int .u64 (R q).g, .int .u64 (R q).r, .int .u64 (R q).u], .int .i64 κ, .int .u64 nn] W' fun e w' => e = .returned (.tuple #[.agg #[.bool vi, .int .u64 vg, .int .u64 vr, .int .u64 vu], .int .i64 er]) ∧ Below W'.heap.size W' w' := by
                  intro W'
                  have C := do_any (R q) κ nn q0 q4 W'
                  rw [← HV.out, ← ST2.out] at C
                  exact C
                have HCD := Lib.hid CD
                clear CD
                generalize (R q).is = ri at *
                generalize (R q).g = rg at *
                generalize (R q).r = rr at *
                generalize (R q).u = ru at *
                have zA : A < V.heap.size := (Array.getElem?_eq_some_iff.1 WA.out).1
                have zL : bl < V.heap.size := (Array.getElem?_eq_some_iff.1 WL.out).1
                have zA1 : A < V.heap.size + 1 := by omega
                have zL1 : bl < V.heap.size + 1 := by omega
                have yA : ¬ A = V.heap.size := by omega
                have yL : ¬ bl = V.heap.size := by omega
                have yA' : ¬ V.heap.size = A := by omega
                have yL' : ¬ V.heap.size = bl := by omega
                have iq0 : (0 : Int) ≤ (q : Int) := by omega
                have iq1 : (q : Int) < 64 := by omega
                go_upto_region 30 with fail
                go_cut [11, 12] (fun s11 s12 wx => ∃ bv, s11 = .pointer (some ⟨bv, 0, none⟩) ∧ V.heap.size ≤ bv ∧ wx.heap[bv]? = some (.cells #[.bool vi, .int .u64 vg, .int .u64 vr, .int .u64 vu] 41 (0, 0)) ∧ s12 = .int .i64 er ∧ Below V.heap.size V wx)
                case first =>
                  as_aux_lemma =>
                    go_region_held3 (fun w' => w'.cell? ⟨A, 1, none⟩ = some (.int .i64 q) ∧ w'.cell? ⟨A, 2, none⟩ = some (.int .u64 nn) ∧ w'.cell? ⟨bl, q * 4, none⟩ = some (.bool ri) ∧ w'.cell? ⟨bl, q * 4 + 1, none⟩ = some (.int .u64 rg) ∧ w'.cell? ⟨bl, q * 4 + 2, none⟩ = some (.int .u64 rr) ∧ w'.cell? ⟨bl, q * 4 + 3, none⟩ = some (.int .u64 ru)) (first | go_keep | (refine ⟨?_, ?_, ?_, ?_, ?_, ?_⟩ <;> go_keep) | (refine ⟨?_, ?_, ?_, ?_, ?_, ?_⟩ <;> (refine (HG.out.cell (by first | (simp; omega) | simp [*])).trans ?_; simp [*])) | (refine ⟨?_, ?_, ?_, ?_, ?_, ?_⟩ <;> (refine ((below_alloc (Below.refl _ _) _).cell (by first | exact gA | exact gL)).trans ?_; refine (HG.out.cell (by first | (simp; omega) | simp [*])).trans ?_; simp [*]))) (first | (go_at_call 17; refine (HCD.out _).mono ?_; rintro e wd ⟨rfl, hg⟩; have HG := Lib.hid hg; obtain ⟨hc, hf⟩ := bcell hg; have hz := hg.size; have gA : A < wd.heap.size := (by simp at hz; omega); have gL : bl < wd.heap.size := (by simp at hz; omega); have gA1 : ¬ A = wd.heap.size := (by omega); have gL1 : ¬ bl = wd.heap.size := (by omega); have gA2 : ¬ wd.heap.size = A := (by omega); have gL2 : ¬ wd.heap.size = bl := (by omega); clear hg))
                    · go_wp2_with fail
                      go_meet
                      have hB := (below_drew (Below.refl V.heap.size V)).trans HG.out
                      exact ⟨wd.heap.size, rfl, hB.size, heap_at _ _, rfl, below_alloc hB _⟩
                    · go_wp2_with fail
                      go_meet
                      have hB := (below_alloc (below_drew (Below.refl V.heap.size V)) _).trans (HG.out.mono (by simp))
                      exact ⟨V.heap.size, rfl, Nat.le_refl _, heap_setCell_same _ (heap_setCell_same _ (heap_setCell_same _ (heap_setCell_same _ (heap_kept HG.out (heap_at _ _) (by simp))))), rfl,
                        (((hB.setCell (Nat.le_refl _) _).setCell (Nat.le_refl _) _).setCell (Nat.le_refl _) _).setCell (Nat.le_refl _) _⟩
                case rest =>
                  as_aux_lemma =>
                    obtain ⟨bv, rfl, hv1, hv2, rfl, hv3⟩ := hcut
                    have uA := heap_kept hv3 WA.out zA
                    have uL := heap_kept hv3 WL.out zL
                    have uB := WB.out.trans (hv3.mono WB.out.size)
                    have uK := HBK.out.below hv3
                    have neV1 : bv ≠ bl := by omega
                    have neV2 : bv ≠ A := by omega
                    clear ca0 ca1 ca2 ca3 ca4 ca5 d0 d1 d2 d3 HCD yA yA' yL yL' zA1 zL1
                    obtain ⟨⟨ca0, ca1, ca2⟩, ca3, ca4, ca5⟩ := blk3 uA
                    obtain ⟨⟨cv0, cv1, cv2, cv3⟩, cv4, cv5, cv6, cv7⟩ := blk4 hv2
                    have d0 := row_cell uL (HIS.out.is q hq)
                    have d1 := row_cell uL (HIS.out.g q hq)
                    have d2 := row_cell uL (HIS.out.r q hq)
                    have d3 := row_cell uL (HIS.out.u q hq)
                    have f0 := fun j => row_frozen (j := j) uL
                    have UA := Lib.hid uA
                    have UL := Lib.hid uL
                    have UB := Lib.hid uB
                    have UK := Lib.hid uK
                    have HV2 := Lib.hid hv2
                    clear uA uL uB uK hv2 hv3 WA WL WB HBK zA zL hv1
                    go_upto_region 32 with fail
                    refine wp_named fun X hX => ?_
                    have xL : X.heap[bl]? = some (.cells (arrPut cs q ⟨vi, vg, vr, vu⟩) 42 (0, 0)) := by
                      rw [hX]; exact heap_setCell_same _ (heap_setCell_same _ (heap_setCell_same _ (heap_setCell_same _ UL.out)))
                    have xA : X.heap[A]? = some (.cells #[.int .i64 kind, .int .i64 q, .int .u64 nn] 44 (0, 0)) := by
                      rw [hX]; exact heap_setCell_ne _ (heap_setCell_ne _ (heap_setCell_ne _ (heap_setCell_ne _ UA.out hAl) hAl) hAl) hAl
                    have xV : X.heap[bv]? = some (.cells #[.bool vi, .int .u64 vg, .int .u64 vr, .int .u64 vu] 41 (0, 0)) := by
                      rw [hX]; exact heap_setCell_ne _ (heap_setCell_ne _ (heap_setCell_ne _ (heap_setCell_ne _ HV2.out neV1) neV1) neV1) neV1
                    have xK : IsBook X b m l' := by
                      rw [hX]
                      exact ⟨heap_setCell_ne _ (heap_setCell_ne _ (heap_setCell_ne _ (heap_setCell_ne _ UK.out.box ne2.symm) ne2.symm) ne2.symm) ne2.symm, (((UK.out.map.setCell ne1 _).setCell ne1 _).setCell ne1 _).setCell ne1 _⟩
                    have xB : Below w.heap.size w X := by
                      rw [hX]; exact (((UB.out.setCell hl0 _).setCell hl0 _).setCell hl0 _).setCell hl0 _
                    have xI : PlayIs w b m bl l' (upd R q ⟨vi, vg, vr, vu⟩) (arrPut cs q ⟨vi, vg, vr, vu⟩) X :=
                      ⟨xK, xL, HIS.out.put hq _, by rw [HV.out]; exact ST1.out, xB, hM, hb0, hl0, ne1, ne2⟩
                    have xR : (upd R q ⟨vi, vg, vr, vu⟩) q = ⟨vi, vg, vr, vu⟩ := by simp [upd]
                    obtain ⟨i1, i2, i3, i4⟩ := ref_inv xI.sim q
                    rw [xR] at i1 i2 i3 i4
                    dsimp only at i1 i2 i3 i4
                    have xt : (⟨vi, vg, vr, vu⟩ : RefA) = toRef (aget l' q) := by rw [← xR]; exact xI.sim.at_ q
                    have XI := Lib.hid xI
                    have XA := Lib.hid xA
                    have XV := Lib.hid xV
                    have XT := Lib.hid xt
                    clear hX xL xA xV xK xB xI xR xt ca0 ca1 ca2 ca3 ca4 ca5 cv0 cv1 cv2 cv3 cv4 cv5 cv6 cv7 d0 d1 d2 d3 f0 UL UA UB UK HV2 HIS HSIM HV ST1 ST2 HOP
                    obtain ⟨⟨ca0, ca1, ca2⟩, ca3, ca4, ca5⟩ := blk3 XA.out
                    go_wp2_with fail
                    refine (account_ref XI.out.book okw XT.out).mono ?_
                    rintro e Y ⟨rfl, hg⟩
                    have yI : PlayIs w b m bl l' (upd R q ⟨vi, vg, vr, vu⟩) (arrPut cs q ⟨vi, vg, vr, vu⟩) Y := by
                      obtain ⟨a1, a2, a3, a4, a5, a6, a7, a8, a9⟩ := XI.out
                      exact ⟨a1.below hg, heap_kept hg a2 (Array.getElem?_eq_some_iff.1 a2).1, a3, a4, a5.trans (hg.mono a5.size), a6, a7, a8, a9⟩
                    have yA := heap_kept hg XA.out (Array.getElem?_eq_some_iff.1 XA.out).1
                    have yV := heap_kept hg XV.out (Array.getElem?_eq_some_iff.1 XV.out).1
                    have YI := Lib.hid yI
                    have YA := Lib.hid yA
                    have YV := Lib.hid yV
                    clear hg yI yA yV XI XA XV ca0 ca1 ca2 ca3 ca4 ca5
                    go_upto_region 33 with fail
                    refine wp_named fun Z hZ => ?_
                    have zI : PlayIs w b m bl l' (upd R q ⟨vi, vg, vr, vu⟩) (arrPut cs q ⟨vi, vg, vr, vu⟩) Z := by
                      rw [hZ]
                      obtain ⟨a1, a2, a3, a4, a5, a6, a7, a8, a9⟩ := YI.out
                      exact ⟨a1.below (below_alloc (Below.refl _ _) _), heap_up a2, a3, a4, below_alloc a5 _, a6, a7, a8, a9⟩
                    have zA : Z.heap[A]? = some (.cells #[.int .i64 kind, .int .i64 q, .int .u64 nn] 44 (0, 0)) := by rw [hZ]; exact heap_up YA.out
                    have zV : Z.heap[bv]? = some (.cells #[.bool vi, .int .u64 vg, .int .u64 vr, .int .u64 vu] 41 (0, 0)) := by rw [hZ]; exact heap_up YV.out
                    have zX : Z.heap[Y.heap.size]? = some (.cells #[.int .u64 vg, .int .u64 vr, .int .u64 vu] 29 (0, 0)) := by rw [hZ]; exact heap_at _ _
                    have zA1 : A < Z.heap.size := (Array.getElem?_eq_some_iff.1 zA).1
                    have zV1 : bv < Z.heap.size := (Array.getElem?_eq_some_iff.1 zV).1
                    have zX1 : Y.heap.size < Z.heap.size := (Array.getElem?_eq_some_iff.1 zX).1
                    obtain ⟨⟨ca0, ca1, ca2⟩, ca3, ca4, ca5⟩ := blk3 zA
                    obtain ⟨⟨cx0, cx1, cx2⟩, cx3, cx4, cx5⟩ := blk3 zX
                    obtain ⟨⟨cv0, cv1, cv2, cv3⟩, cv4, cv5, cv6, cv7⟩ := blk4 zV
                    have C1 : ∀ x : Later Z, Calls Try.prog 13 #[.pointer (some ⟨b, 0, none⟩), .int .i64 q] x.w fun e w' => e = .returned (.int .u64 (vg - vr - vu)) ∧ Below x.w.heap.size x.w w' := by
                      intro x
                      have C := left_of (account_ref (zI.book.later x) okw XT.out)
                      rw [(left_val i1 i2 i3 i4).1] at C
                      exact C
                    have C2 : ∀ x : Later Z, Calls Try.prog 18 #[.agg #[.bool vi, .int .u64 vg, .int .u64 vr, .int .u64 vu]] x.w fun e w' => e = .returned (.int .u64 (vg - vr - vu)) ∧ Below x.w.heap.size x.w w' := by
                      intro x
                      have C := refleft_any vi vg vr vu x.w
                      rw [(left_val i1 i2 i3 i4).2] at C
                      exact C
                    have HC1 := Lib.hid C1
                    have HC2 := Lib.hid C2
                    have ZI := Lib.hid zI
                    clear hZ zI zA zV zX C1 C2 YI YA YV
                    have g1 : ¬ vg < vu := by omega
                    have g2 : ¬ vg - vu < vr := by omega
                    generalize Y.heap.size = bX at *
                    refine wp_region_later (by kernel_rfl) (by kernel_rfl) ?_
                    repeat (first | go_big_quiet_step ((first | (go_at_call 13; exact later_call (HC1.out _)) | (go_at_call 18; exact later_call (HC2.out _)))) | quiet_step ((first | (go_at_call 13; exact later_call (HC1.out _)) | (go_at_call 18; exact later_call (HC2.out _)))))
                    refine wpQuiet_nil ?_
                    intro wq0 hw'
                    obtain ⟨⟨wq, hq⟩, hw''⟩ := hw'
                    obtain rfl : wq = wq0 := hw''.symm
                    clear hw''
                    have qI : PlayIs w b m bl l' (upd R q ⟨vi, vg, vr, vu⟩) (arrPut cs q ⟨vi, vg, vr, vu⟩) wq := by
                      obtain ⟨a1, a2, a3, a4, a5, a6, a7, a8, a9⟩ := ZI.out
                      exact ⟨a1.below hq, heap_kept hq a2 (Array.getElem?_eq_some_iff.1 a2).1, a3, a4, a5.trans (hq.mono a5.size), a6, a7, a8, a9⟩
                    have QI := Lib.hid qI
                    clear hq qI ZI HC1 HC2 ca0 ca1 ca2 ca3 ca4 ca5 cx0 cx1 cx2 cx3 cx4 cx5 cv0 cv1 cv2 cv3 cv4 cv5 cv6 cv7 zA1 zV1 zX1 g1 g2
                    have T := total_any QI.out.book QI.out.sim.ok
                    have TR := fun W' => reftotal_any _ _ QI.out.is QI.out.sim.rok W'
                    obtain ⟨s1, s2, s3, s4⟩ := QI.out.sim.total
                    have s5 := totR_is (upd R q ⟨vi, vg, vr, vu⟩)
                    obtain ⟨td, htd⟩ : ∃ td, td = totalDo l' := ⟨_, rfl⟩
                    obtain ⟨tn, htn⟩ : ∃ tn, tn = totR (upd R q ⟨vi, vg, vr, vu⟩) := ⟨_, rfl⟩
                    rw [← htd] at T s1 s2 s3 s4
                    rw [← htn] at TR s1 s2 s3 s4 s5
                    obtain ⟨⟨tg, tr, tu⟩, te⟩ := td
                    obtain ⟨⟨ni, ng, nr, nu⟩, ne⟩ := tn
                    dsimp only at s1 s2 s3 s4 s5 T TR
                    subst s1 s2 s3 s4 s5
                    have HT := Lib.hid T
                    have HTR := Lib.hid TR
                    clear T TR htd htn
                    go_wp2_with fail
                    refine HT.out.mono ?_
                    rintro e T1 ⟨rfl, hg⟩
                    have tI : PlayIs w b m bl l' (upd R q ⟨vi, vg, vr, vu⟩) (arrPut cs q ⟨vi, vg, vr, vu⟩) T1 := by
                      obtain ⟨a1, a2, a3, a4, a5, a6, a7, a8, a9⟩ := QI.out
                      exact ⟨a1.below hg, heap_kept hg a2 (Array.getElem?_eq_some_iff.1 a2).1, a3, a4, a5.trans (hg.mono a5.size), a6, a7, a8, a9⟩
                    have TI := Lib.hid tI
                    clear hg tI QI HT
                    go_upto_region 36 with fail
                    refine wp_named fun U hU => ?_
                    have uI : PlayIs w b m bl l' (upd R q ⟨vi, vg, vr, vu⟩) (arrPut cs q ⟨vi, vg, vr, vu⟩) U := by
                      rw [hU]
                      obtain ⟨a1, a2, a3, a4, a5, a6, a7, a8, a9⟩ := TI.out
                      exact ⟨a1.below (below_alloc (Below.refl _ _) _), heap_up a2, a3, a4, below_alloc a5 _, a6, a7, a8, a9⟩
                    have uT : U.heap[T1.heap.size]? = some (.cells #[.int .u64 ng, .int .u64 nr, .int .u64 nu] 29 (0, 0)) := by rw [hU]; exact heap_at _ _
                    have UI := Lib.hid uI
                    have UT := Lib.hid uT
                    clear hU uI uT TI
                    generalize T1.heap.size = bT at *
                    have hsz : (Try.prog.info? 42).map (·.size) = some (arrPut cs q ⟨vi, vg, vr, vu⟩).size := by rw [UI.out.is.size]; kernel_rfl
                    have HSZ := Lib.hid hsz
                    clear hsz
                    go_wp2_with (refine wpList_load_row rfl 42 _ rfl bl rfl 42 (arrPut cs q ⟨vi, vg, vr, vu⟩) (0, 0) _ UI.out.arr Try.underlying42 rfl HSZ.out ?_)
                    refine (HTR.out _).mono ?_
                    rintro e V2 ⟨rfl, hg⟩
                    have vI : PlayIs w b m bl l' (upd R q ⟨vi, vg, vr, vu⟩) (arrPut cs q ⟨vi, vg, vr, vu⟩) V2 := by
                      obtain ⟨a1, a2, a3, a4, a5, a6, a7, a8, a9⟩ := UI.out
                      exact ⟨a1.below hg, heap_kept hg a2 (Array.getElem?_eq_some_iff.1 a2).1, a3, a4, a5.trans (hg.mono a5.size), a6, a7, a8, a9⟩
                    have vT := heap_kept hg UT.out (Array.getElem?_eq_some_iff.1 UT.out).1
                    have VI := Lib.hid vI
                    have VT := Lib.hid vT
                    clear hg vI vT UI UT HTR
                    go_upto_region 37 with fail
                    refine wp_named fun X2 hX => ?_
                    have xI : PlayIs w b m bl l' (upd R q ⟨vi, vg, vr, vu⟩) (arrPut cs q ⟨vi, vg, vr, vu⟩) X2 := by
                      rw [hX]
                      obtain ⟨a1, a2, a3, a4, a5, a6, a7, a8, a9⟩ := VI.out
                      exact ⟨a1.below (below_alloc (Below.refl _ _) _), heap_up a2, a3, a4, below_alloc a5 _, a6, a7, a8, a9⟩
                    have xT : X2.heap[bT]? = some (.cells #[.int .u64 ng, .int .u64 nr, .int .u64 nu] 29 (0, 0)) := by rw [hX]; exact heap_up VT.out
                    have xN : X2.heap[V2.heap.size]? = some (.cells #[.bool false, .int .u64 ng, .int .u64 nr, .int .u64 nu] 41 (0, 0)) := by rw [hX]; exact heap_at _ _
                    have XI := Lib.hid xI
                    obtain ⟨⟨cx0, cx1, cx2⟩, cx3, cx4, cx5⟩ := blk3 xT
                    obtain ⟨⟨cv0, cv1, cv2, cv3⟩, cv4, cv5, cv6, cv7⟩ := blk4 xN
                    clear hX xI xT xN VI VT
                    generalize V2.heap.size = bN at *
                    go_wp2
                    go_roundg (60 - (j + 1))
                    case measure => rw [HK.out]; omega
                    case rel => exact ⟨j + 1, l', _, _, by omega, rfl, by go_num, XI.out⟩
    · have hB := HI.out.below
      have HB := Lib.hid hB
      clear hB HI
      by_cases hjn : j < n
      · have hj60 : ¬ (j : Int) < 60 := by omega
        go_wp2
        go_ret
        exact ⟨rfl, HB.out⟩
      · go_wp2
        go_ret
        exact ⟨rfl, HB.out⟩

set_option maxRecDepth 100000 in
theorem QuotaPlays_lifted (os : Os) (started : os.Started) (H : Type) (enc : TypeId × Value → H) :
    ReturnsInHanded {} Try.checked os 5 .any (Rows.quotaPlaysSpec.pre6 enc Try.prog Try.f5 Rows.quotaPlaysRow.domain false) (Rows.quotaPlaysSpec.post enc Try.prog Try.f5 false true false false) := by
  refine returnsInHanded_of_change (C := Try.checked) own started (by kernel_rfl) Try.func5
    (ChangeSpec.witness6 (enc := enc) (C := Try.checked) false ⟨#[], #[.slice none 0 0], []⟩ 8 (by kernel_rfl) (by kernel_rfl) (by kernel_rfl) (by kernel_rfl)) ?_
  intro W base args ds gs before hval0 hW hcnd _
  have hval : ∀ (j : Nat) t v, Try.f5.params[j]? = some t → args[j]? = some v → Value.okWide Try.prog W .any base t v := hval0
  have hW' := hW
  obtain ⟨p, q, hA0, hV, rfl, hfz, hnd⟩ := hW
  have hA : DataW.TrodAll enc Try.prog W 0 (fun _ => true) true Try.f5.params.toList args.toList ds p := hA0
  rw [Try.params5] at hA hval
  obtain ⟨v0, vs0, d0, ds0, p0, q0, hargs, rfl, rfl, h0, r0⟩ := trodAll_cons hA
  obtain ⟨rfl, rfl, rfl⟩ := trodAll_nil r0
  obtain rfl : args = #[v0] := by cases args; simp_all
  obtain ⟨a0, z0, c0, rfl, x0, y0, l0⟩ := acts_of (hval 0 39 v0 rfl rfl) h0
  refine (QuotaPlays_walk a0 z0 c0 W x0 y0 l0).mono fun e W' ⟨he, hb⟩ => ?_
  subst he
  exact ⟨_, rfl, law_post laidOut (by kernel_rfl) rfl rfl Try.underlying4 rfl hW' hb⟩
theorem QuotaPlays_holds : Rows.QuotaPlaysSaid :=
  OpenClaim.holds_of_wide 5 Try.f5 rfl rfl rfl rfl rfl rfl rfl ⟨rfl, rfl, rfl, rfl, rfl⟩ rfl rfl rfl rfl rfl (by kernel_rfl) Try.func5 (by kernel_rfl)
    (of_decide_eq_true (by kernel_rfl)) (by unfold Func.isWrapper; rw [if_neg (by decide +kernel)]; exact ⟨rfl, rfl⟩)
    (fun os started H enc _ => QuotaPlays_lifted os started H enc)
end Go.Proofs.Ytoinlhjdmkeaeaa
