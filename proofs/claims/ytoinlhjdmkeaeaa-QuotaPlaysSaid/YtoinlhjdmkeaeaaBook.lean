/- What a book's methods do to the map behind it. -/
import Derived.Test.YtoinlhjdmkeaeaaAcc
namespace Go.Proofs.Ytoinlhjdmkeaeaa
open Go.RowKit

theorem keyed_int : Maps.Keyed Try.prog 3 := Maps.int_keyed Try.underlying3
theorem zero_acc (w : World) : (zeroValue 29).run Try.prog w = .ok (Acc.mk 0 0 0).v w := by kernel_rfl
abbrev ikey (x : Int) : Value := .int .i64 x
theorem ikey_inj (x y : Int) (h : ikey x = ikey y) : x = y := by cases h; rfl
theorem ikey_ok {x : Int} (h : (Lit.int .i64 x).wf = true) : keyOf Try.prog 3 (ikey x) = some (.int .i64 x) := Maps.keyOf_int_mk Try.underlying3 h
abbrev AccMap (w : World) (m : Nat) (l : List (Int × Acc)) : Prop := MapIs Try.prog 3 ikey Acc.v w m l

/-- The book at block b, its map at block m. -/
structure IsBook (w : World) (b m : Nat) (l : List (Int × Acc)) : Prop where
  box : w.heap[b]? = some (.cells #[.map (some m)] 53 (0, 0))
  map : AccMap w m l
theorem IsBook.ne {w : World} {b m : Nat} {l : List (Int × Acc)} (h : IsBook w b m l) : b ≠ m := by
  rintro rfl
  obtain ⟨es, clk, h1, _⟩ := h.map
  rw [h.box] at h1; cases h1
theorem IsBook.ltb {w : World} {b m : Nat} {l : List (Int × Acc)} (h : IsBook w b m l) : b < w.heap.size := (Array.getElem?_eq_some_iff.1 h.box).1
theorem IsBook.below {w w' : World} {b m : Nat} {l : List (Int × Acc)} (h : IsBook w b m l) (hb : Below w.heap.size w w') : IsBook w' b m l :=
  ⟨(hb.block b h.ltb).trans h.box, h.map.of_block (hb.block m h.map.lt)⟩

theorem IsBook.later {W : World} {b m : Nat} {l : List (Int × Acc)} (h : IsBook W b m l) (x : Later W) : IsBook x.w b m l := h.below x.below
theorem IsBook.drewN {w : World} {b m : Nat} {l : List (Int × Acc)} (h : IsBook w b m l) (n : Nat) : IsBook (w.drewN n) b m l := ⟨h.box, h.map⟩
theorem IsBook.drew {w : World} {b m : Nat} {l : List (Int × Acc)} (h : IsBook w b m l) : IsBook w.drew b m l := ⟨h.box, h.map⟩
def bookDo (F : Acc → Int → Acc × Int) (l : List (Int × Acc)) (who n : Int) : List (Int × Acc) × Int :=
  match aget l who with
  | none => (l, 32)
  | some a => if (F a n).2 = 0 then (aput l who (F a n).1, 0) else (l, (F a n).2)

set_option maxHeartbeats 400000 in
theorem change_any {f : FuncId} {F : Acc → Int → Acc × Int} (D : Does f F) (E : Enters f) {w : World} {b m : Nat} {l : List (Int × Acc)} (h : IsBook w b m l) {who : Int} (hw : (Lit.int .i64 who).wf = true) (n : Int) :
    Calls Try.prog 20 #[.pointer (some ⟨b, 0, none⟩), .int .i64 who, .int .u64 n, .func (.func f) #[] #[]] w fun e w' =>
      e = .returned (.int .i64 (bookDo F l who n).2) ∧ IsBook w' b m (bookDo F l who n).1 ∧ w.grownBy w' (some m) := by
  unfold bookDo
  obtain ⟨e0, e1⟩ := blk1 h.box
  cases hl : aget l who with
  | none =>
    have hlk := fun w' (hm : AccMap w' m l) => hm.look_none keyed_int ikey_inj Try.underlying51 (zero_acc w') true (ikey_ok hw) hl
    have hlk0 := hlk w h.map
    clear hlk
    have H := Lib.hid h
    clear h hl hw
    dsimp only
    go_enter Try.func20, Try.ntmps20
    go_wp2
    go_ret
    exact ⟨rfl, H.out.below (below_alloc (Below.refl _ _) _), grown_below (below_alloc (Below.refl _ _) _) _⟩
  | some a =>
    have hlk := h.map.look_some keyed_int ikey_inj Try.underlying51 true (ikey_ok hw) hl
    dsimp only
    have hb := h.ltb
    have hm := h.map.lt
    have hne := h.ne
    have H := Lib.hid h
    have HL := Lib.hid hl
    have HW := Lib.hid hw
    clear h hl hw
    obtain ⟨g, r, u⟩ := a
    have D1 := D ⟨g, r, u⟩ n
    cases hFv : F ⟨g, r, u⟩ n with
    | mk a' e' =>
    rw [hFv] at D1
    obtain ⟨g', r', u'⟩ := a'
    dsimp only at D1 ⊢
    clear hFv D
    by_cases hF : e' = 0
    · subst hF
      rw [if_pos rfl]
      go_enter Try.func20, Try.ntmps20
      go_wp2_with fail
      refine (D1 _).mono ?_
      rintro e w1 ⟨rfl, hB⟩
      clear D1
      have base : Below w.heap.size w w1 := (below_alloc (Below.refl _ _) _).trans (hB.mono (by simp))
      have hBk := H.out.below base
      have hloc := heap_kept hB (heap_at w _) (by simp)
      clear hB
      obtain ⟨⟨c0, c1, c2⟩, c3, c4, c5⟩ := blk3 hloc
      obtain ⟨f0, f1⟩ := blk1 hBk.box
      have hm1 := hBk.map
      have HB := Lib.hid base
      have HK := Lib.hid hBk
      have HO := Lib.hid hloc
      have HM := Lib.hid hm1
      clear base hBk hloc hm1
      go_wp2
      refine wp_named fun W hW => ?_
      have w0 : W.heap[w.heap.size]? = some (.cells #[.int .u64 g', .int .u64 r', .int .u64 u'] 29 (0, 0)) := by
        rw [hW]; exact heap_setCell_same _ (heap_setCell_same _ (heap_setCell_same _ HO.out))
      have w1b : W.heap[b]? = some (.cells #[.map (some m)] 53 (0, 0)) := by
        rw [hW]; exact heap_setCell_ne _ (heap_setCell_ne _ (heap_setCell_ne _ HK.out.box (by simp; omega)) (by simp; omega)) (by simp; omega)
      have wm : AccMap W m l := by
        rw [hW]; exact ((HM.out.setCell (by simp; omega) _).setCell (by simp; omega) _).setCell (by simp; omega) _
      have wB : Below w.heap.size w W := by
        rw [hW]; exact ((HB.out.setCell (by simp) _).setCell (by simp) _).setCell (by simp) _
      clear hW HO HK HM HB c0 c1 c2 c3 c4 c5 f0 f1 e0 e1 hlk
      obtain ⟨⟨c0, c1, c2⟩, c3, c4, c5⟩ := blk3 w0
      obtain ⟨f0, f1⟩ := blk1 w1b
      obtain ⟨w2, hrun, hm2, hg2, hs2⟩ := wm.drew.store keyed_int ikey_inj Try.underlying51 (a := who) ⟨g', r', u'⟩ (ikey_ok HW.out)
      have X1 := Lib.hid w0
      have X2 := Lib.hid w1b
      have X3 := Lib.hid hm2
      have X4 := Lib.hid hg2
      have X5 := Lib.hid wB
      clear w0 w1b wm wB hm2 hg2 hs2
      go_region
      go_wp2
      go_ret
      refine ⟨rfl, ⟨?_, X3.out⟩, ?_⟩
      · rw [X4.out.block b (by simp; have := X5.out.size; omega) (by simp; omega)]; exact X2.out
      · exact grown_trans (grown_below X5.out _) ⟨X4.out.os, X4.out.tape, X4.out.output, X4.out.size, X4.out.block⟩
    · rw [if_neg hF]
      go_enter Try.func20, Try.ntmps20
      go_wp2_with fail
      refine (D1 _).mono ?_
      rintro e w1 ⟨rfl, hB⟩
      clear D1
      have base : Below w.heap.size w w1 := (below_alloc (Below.refl _ _) _).trans (hB.mono (by simp))
      have hBk := H.out.below base
      have hloc := heap_kept hB (heap_at w _) (by simp)
      clear hB
      obtain ⟨⟨c0, c1, c2⟩, c3, c4, c5⟩ := blk3 hloc
      have hm1 := hBk.map
      have HB := Lib.hid base
      have HK := Lib.hid hBk
      have HM := Lib.hid hm1
      have HF : (e' == 0) = false := by simpa using hF
      clear base hBk hloc hm1 hF
      go_wp2
      go_ret
      have base : Below w.heap.size w (((w1.setCell ⟨w.heap.size, 0, none⟩ (.int .u64 g')).setCell ⟨w.heap.size, 1, none⟩ (.int .u64 r')).setCell ⟨w.heap.size, 2, none⟩ (.int .u64 u')) :=
        ((HB.out.setCell (by simp) _).setCell (by simp) _).setCell (by simp) _
      exact ⟨rfl, H.out.below base, grown_below base _⟩
end Go.Proofs.Ytoinlhjdmkeaeaa
