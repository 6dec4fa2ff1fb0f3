/- 'Total', walked. -/
import Derived.Test.YtoinlhjdmkeaeaaTotal
namespace Go.Proofs.Ytoinlhjdmkeaeaa
open Go.RowKit

/-- What holds at the head of the loop. -/
structure TotIs (w : World) (m br bo bv r : Nat) (l left : List (Int × Acc)) (wr : World) (G R U o : Int) : Prop where
  rng : RangeIs Try.prog 3 ikey Acc.v wr r m l left
  out : wr.heap[bo]? = some (.cells #[.int .u64 G, .int .u64 R, .int .u64 U] 29 (0, 0))
  ov : wr.heap[bv]? = some (.cells #[.int .u64 o] 22 (0, 0))
  res : wr.heap[br]? = some (.cells #[.int .u64 0, .int .u64 0, .int .u64 0] 29 (0, 0))
  below : Below w.heap.size w wr
  sums : Sums l left G R U o
  ok : ∀ p ∈ left, p.2.ok
theorem Sums.pos {l left : List (Int × Acc)} {G R U o : Int} (h : Sums l left G R U o) : 0 ≤ G ∧ 0 ≤ R ∧ 0 ≤ U := by
  rw [h.g, h.r, h.u]; omega

set_option maxHeartbeats 1000000 in
theorem total_any {w : World} {b m : Nat} {l : List (Int × Acc)} (h : IsBook w b m l) (hok : ∀ p ∈ l, p.2.ok) :
    Calls Try.prog 14 #[.pointer (some ⟨b, 0, none⟩)] w fun e w' => e = .returned (.tuple #[(totalDo l).1.v, .int .i64 (totalDo l).2]) ∧ Below w.heap.size w w' := by
  obtain ⟨e0, e1⟩ := blk1 h.box
  have hb := h.ltb
  have hb1 : b < w.heap.size + 1 := by omega
  have hb2 : b < w.heap.size + 1 + 1 := by omega
  have H := Lib.hid h
  clear h
  go_enter Try.func14, Try.ntmps14
  go_wp2_with (at_range; refine wpList_range_is _ rfl _ 51 rfl 29 Try.underlying51 m l rfl (((H.out.map.alloc _).alloc _).alloc _) ?_; intro w0 hrg hb0 hs0)
  go_frame
  have hm := H.out.map.lt
  have i0 : TotIs w m w.heap.size (w.heap.size + 1) (w.heap.size + 1 + 1) (w.heap.size + 1 + 1 + 1) l l w0 0 0 0 0 := by
    refine ⟨by simpa using hrg, ?_, ?_, ?_, ?_, Sums.start l, hok⟩
    · exact heap_kept hb0 (heap_up (by have := heap_at (w.alloc (.cells #[.int .u64 0, .int .u64 0, .int .u64 0] 29)) (.cells #[.int .u64 0, .int .u64 0, .int .u64 0] 29); simpa using this)) (by simp)
    · exact heap_kept hb0 (by have := heap_at ((w.alloc (.cells #[.int .u64 0, .int .u64 0, .int .u64 0] 29)).alloc (.cells #[.int .u64 0, .int .u64 0, .int .u64 0] 29)) (.cells #[.int .u64 0] 22); simpa using this) (by simp)
    · exact heap_kept hb0 (heap_up (heap_up (heap_at _ _))) (by simp; omega)
    · exact (below_alloc (below_alloc (below_alloc (Below.refl w.heap.size w) _) _) _).trans (hb0.mono (by simp; omega))
  have I0 := Lib.hid i0
  clear i0 hrg hb0 hs0
  simp only [World.size_alloc]
  obtain ⟨br, hbr⟩ : ∃ br, br = w.heap.size := ⟨_, rfl⟩
  obtain ⟨bo, hbo⟩ : ∃ bo, bo = br + 1 := ⟨_, rfl⟩
  obtain ⟨bv, hbv⟩ : ∃ bv, bv = bo + 1 := ⟨_, rfl⟩
  obtain ⟨r, hr⟩ : ∃ r, r = bv + 1 := ⟨_, rfl⟩
  rw [← hbr, ← hbo, ← hbv, ← hr]
  have I1 : Hid (TotIs w m br bo bv r l l w0 0 0 0 0) := by rw [hr, hbv, hbo, hbr]; exact I0
  clear I0
  have hmr : m < br := by omega
  have hbb : b < br := by omega
  have o1 : br < bo := by omega
  have o2 : bo < bv := by omega
  have o3 : bv < r := by omega
  have HBR := Lib.hid hbr
  clear hbr hbo hbv hr hb hb1 hb2 hm e0 e1
  go_loopg [] l.length (fun k wr => ∃ left G R U o, k = left.length ∧ TotIs w m br bo bv r l left wr G R U o)
  case atStart => exact ⟨l, 0, 0, 0, 0, rfl, I1.out⟩
  case round =>
    obtain ⟨left, G, R, U, o, hk, hI⟩ := hrel
    have HI := Lib.hid hI
    have HK := Lib.hid hk
    have pos := hI.sums.pos
    obtain ⟨pG, pR, pU⟩ := pos
    clear hI hk I1
    go_wp2_with (at_next; refine wpList_next_is _ rfl _ rfl r m l left rfl HI.out.rng ?_ ?_)
    · intro hd
      subst hd
      obtain ⟨⟨c0, c1, c2⟩, c3, c4, c5⟩ := blk3 HI.out.out
      obtain ⟨⟨f0, f1, f2⟩, f3, f4, f5⟩ := blk3 HI.out.res
      have hbase : Below w.heap.size w wr := HI.out.below
      have hbr : w.heap.size ≤ br := Nat.le_of_eq HBR.out.symm
      have HB := Lib.hid hbase
      clear hbase
      rcases HI.out.sums.done hok with ⟨rfl, ht⟩ | ⟨rfl, ht⟩
      · have HT := Lib.hid ht
        clear ht
        obtain ⟨d0, d1⟩ := blk1 HI.out.ov
        go_wp2
        refine bodyPost_ret (v := .tuple #[.agg #[.int .u64 G, .int .u64 R, .int .u64 U], .int .i64 0]) ?_ rfl ⟨by rw [HT.out], ?_⟩
        · simp [results, Try.results14, go_sem, *]
        · exact ((HB.out.setCell hbr _).setCell hbr _).setCell hbr _
      · have HT := Lib.hid ht
        clear ht
        obtain ⟨d0, d1⟩ := blk1 HI.out.ov
        go_wp2
        refine bodyPost_ret (v := .tuple #[.agg #[.int .u64 0, .int .u64 0, .int .u64 0], .int .i64 38]) ?_ rfl ⟨by rw [HT.out], ?_⟩
        · simp [results, Try.results14, go_sem, *]
        · exact ((HB.out.setCell hbr _).setCell hbr _).setCell hbr _
    · intro j x a w1 hj hrg hgr hsz hen
      obtain ⟨g', r', u'⟩ := a
      have h1 := (hgr.block bo (Array.getElem?_eq_some_iff.1 HI.out.out).1 (by simp; omega)).trans HI.out.out
      have h2 := (hgr.block bv (Array.getElem?_eq_some_iff.1 HI.out.ov).1 (by simp; omega)).trans HI.out.ov
      have h3 := (hgr.block br (Array.getElem?_eq_some_iff.1 HI.out.res).1 (by simp; omega)).trans HI.out.res
      have hsz1 : r < w1.heap.size := hrg.ltr
      have y1 : bo < w1.heap.size := by omega
      have y2 : bv < w1.heap.size := by omega
      have y3 : br < w1.heap.size := by omega
      have y4 : bo ≠ bv := by omega
      have y5 : bv ≠ bo := by omega
      have hokp : Acc.ok ⟨g', r', u'⟩ := HI.out.ok _ (List.mem_of_getElem? hj)
      have hB1 : Below w.heap.size w w1 := HI.out.below.trans (below_grown hgr HI.out.below.size (by have := HBR.out; omega))
      have HJ := Lib.hid hj
      have HRG := Lib.hid hrg
      have H1 := Lib.hid h1
      have H2 := Lib.hid h2
      have H3 := Lib.hid h3
      have HB1 := Lib.hid hB1
      have HOK := Lib.hid hokp
      obtain ⟨⟨c0, c1, c2⟩, c3, c4, c5⟩ := blk3 h1
      obtain ⟨d0, d1⟩ := blk1 h2
      have q1 := hokp.g0
      have q2 := hokp.r0
      have q3 := hokp.u0
      dsimp only at q1 q2 q3 hen
      clear hj hrg hgr hsz h1 h2 h3 hB1 hokp
      go_wp2_with fail
      refine (add_any (x := G) (o := o) ?_ ?_ ?_ ?_ ?_ pG q1).mono ?_
      · go_simp
      · go_simp
      · go_simp
      · go_simp
      · simp [*]
      rintro e wa ⟨rfl, rfl⟩
      go_wp2_with fail
      refine (add_any (x := R) (o := orB o (addC G g')) ?_ ?_ ?_ ?_ ?_ pR q2).mono ?_
      · go_simp
      · go_simp
      · go_simp
      · go_simp
      · simp [*]
      rintro e wb ⟨rfl, rfl⟩
      go_wp2_with fail
      refine (add_any (x := U) (o := orB (orB o (addC G g')) (addC R r')) ?_ ?_ ?_ ?_ ?_ pU q3).mono ?_
      · go_simp
      · simp (maxDischargeDepth := 8) [*, go_sem]
      · go_simp
      · go_simp
      · simp [*]
      rintro e wc ⟨rfl, rfl⟩
      go_wp2
      go_roundg (left.eraseIdx j).length
      case measure => have := HK.out; have := HJ.out; rw [HK.out, List.length_eraseIdx]; have hlt := (List.getElem?_eq_some_iff.1 HJ.out).1; simp only [if_pos hlt]; omega
      case rel =>
        refine ⟨_, _, _, _, _, rfl, ?_, ?_, ?_, ?_, ?_, HI.out.sums.step HJ.out HOK.out, fun p hp => HI.out.ok p ((List.eraseIdx_sublist _ _).subset hp)⟩
        · exact ((((((HRG.out.setCell (by simp; omega) (by simp; omega) _).setCell (by simp; omega) (by simp; omega) _).setCell (by simp; omega) (by simp; omega) _).setCell (by simp; omega) (by simp; omega) _).setCell (by simp; omega) (by simp; omega) _).setCell (by simp; omega) (by simp; omega) _).alloc _
        · exact heap_up (heap_setCell_ne _ (heap_setCell_same _ (heap_setCell_ne _ (heap_setCell_same _ (heap_setCell_ne _ (heap_setCell_same _ H1.out) (by simp; omega))) (by simp; omega))) (by simp; omega))
        · exact heap_up (heap_setCell_same _ (heap_setCell_ne _ (heap_setCell_same _ (heap_setCell_ne _ (heap_setCell_same _ (heap_setCell_ne _ H2.out (by simp; omega))) (by simp; omega))) (by simp; omega)))
        · exact heap_up (heap_setCell_ne _ (heap_setCell_ne _ (heap_setCell_ne _ (heap_setCell_ne _ (heap_setCell_ne _ (heap_setCell_ne _ H3.out (by simp; omega)) (by simp; omega)) (by simp; omega)) (by simp; omega)) (by simp; omega)) (by simp; omega))
        · have hbr : w.heap.size ≤ br := Nat.le_of_eq HBR.out.symm
          exact below_alloc ((((((HB1.out.setCell (by simp; omega) _).setCell (by simp; omega) _).setCell (by simp; omega) _).setCell (by simp; omega) _).setCell (by simp; omega) _).setCell (by simp; omega) _) _
end Go.Proofs.Ytoinlhjdmkeaeaa
