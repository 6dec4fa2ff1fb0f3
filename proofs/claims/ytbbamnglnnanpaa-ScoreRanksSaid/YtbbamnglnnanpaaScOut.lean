/- slices.Sort at integers of the call's own; what Out tells. -/
import Derived.Test.YtbbamnglnnanpaaScore
import Derived.Test.YtbbamnglnnanpaaShelf
import Derived.Sort.OwnSortedInts
import Derived.Lib.SlKeysI
import Derived.Test.YtbbamnglnnanpaaOwn
import Derived.Deep.LoopGhost
import Derived.Deep.AppendLies
namespace Go.Proofs.Ytbbamnglnnanpaa
open Go.RowKit

abbrev IntsIs (B : Nat) (w : World) (v : Value) (xs : List Int) : Prop := w.ownsRow B 3 1 v xs.length (xs.map (Value.int .i64))
theorem info_int : (Try.prog.info? 3).map (fun i => (i.zero, i.size, i.bytes)) = some (some (.int .i64 0), 1, 8) := by kernel_rfl
theorem sort_ints {B : Nat} {w : World} {v : Value} {zs : List Int} (h : IntsIs B w v zs) (hs : zs.length < 4611686018427387904) :
    Calls Try.prog 26 #[v] w fun e w' => e = .returned (.tuple #[]) ∧ IntsIs B w' v (zs.mergeSort leI) ∧ w.grownBy w' v.ownBlock := by
  rcases h.2 with ⟨rfl, h0⟩ | ⟨g, cap, cur, rfl, hb, hg, hnc, hcm, hcs, htake⟩
  · have : zs = [] := List.eq_nil_of_length_eq_zero h0
    subst this
    exact (Try.slices_Sort_int_none none 0 w).mono fun e w' ⟨he, hw⟩ => ⟨he, by subst hw; simpa [List.mergeSort] using h, by subst hw; exact grown_refl _ _⟩
  · rw [Nat.mul_one] at htake
    refine (Try.slices_Sort_int g 0 cap zs w (holds_of_blockI hg htake) (Array.getElem?_eq_some_iff.1 hg).1 hs).mono ?_
    rintro e w' ⟨rfl, n, os, rfl⟩
    refine ⟨rfl, ?_, ?_⟩
    · have := ownsRow_sortedI (w := w) (base := B) (n := n) (os := os) (ss := zs) (ts := zs.mergeSort leI) (List.length_mergeSort _) hb hg hnc hcm hcs
      show World.ownsRow _ _ _ _ _ (zs.mergeSort leI).length _
      rw [List.length_mergeSort]
      exact this
    · exact grownBy_sortedI _

def outOf (l : List (Int × Int)) : List Int := (l.filter fun p => p.2 = -20).map Prod.fst
def outs (l : List (Int × Int)) : List Int := (outOf l).mergeSort leI
theorem outOf_len (l : List (Int × Int)) : (outOf l).length ≤ l.length := by
  unfold outOf
  rw [List.length_map]
  exact List.length_filter_le _ _
theorem perm_erase {α : Type} {l : List α} {j : Nat} {x : α} (h : l[j]? = some x) : (x :: l.eraseIdx j).Perm l := by
  induction l generalizing j with
  | nil => simp at h
  | cons a r ih =>
    cases j with
    | zero => simp at h; subst h; exact List.Perm.refl _
    | succ j => simp at h; exact (List.Perm.swap a x _).trans ((ih h).cons a)
theorem outs_step {l left : List (Int × Int)} {ds : List Int} {j : Nat} {x v : Int} (h : (ds ++ outOf left).Perm (outOf l)) (hj : left[j]? = some (x, v)) (hv : v = -20) : (ds ++ [x] ++ outOf (left.eraseIdx j)).Perm (outOf l) := by
  refine List.Perm.trans ?_ h
  rw [List.append_assoc]
  refine List.Perm.append_left _ ?_
  have := (perm_erase hj).filter (fun p => decide (p.2 = -20))
  have := this.map Prod.fst
  simpa [outOf, List.filter_cons, hv] using this
theorem outs_skip {l left : List (Int × Int)} {ds : List Int} {j : Nat} {x v : Int} (h : (ds ++ outOf left).Perm (outOf l)) (hj : left[j]? = some (x, v)) (hv : v ≠ -20) : (ds ++ outOf (left.eraseIdx j)).Perm (outOf l) := by
  refine List.Perm.trans ?_ h
  refine List.Perm.append_left _ ?_
  have := (perm_erase hj).filter (fun p => decide (p.2 = -20))
  have := this.map Prod.fst
  simpa [outOf, List.filter_cons, hv] using this
theorem out_none (w : World) : Calls Try.prog 13 #[.pointer none] w fun e w' => e = .returned (.slice none 0 0) ∧ w' = w := by
  go_enter Try.func13, Try.ntmps13
  go_wp2
  go_ret
  exact ⟨rfl, rfl⟩
set_option maxHeartbeats 2000000 in
set_option maxRecDepth 100000 in
theorem out_any {w : World} {b m : Nat} {l : List (Int × Int)} (h : IsBook w b m l) (hl : l.length ≤ 1000000) :
    Calls Try.prog 13 #[.pointer (some ⟨b, 0, none⟩)] w fun e w' => ∃ v', e = .returned v' ∧ IntsIs w.heap.size w' v' (outs l) ∧ Below w.heap.size w w' := by
  obtain ⟨e0, e1⟩ := blk1 h.box
  have H := Lib.hid h
  obtain ⟨i0, hi, hz0, hz1, hz2⟩ := info_parts info_int
  have hlo := outOf_len l
  clear h
  go_enter Try.func13, Try.ntmps13
  go_wp2_with (at_range; refine wpList_range_is _ rfl _ 45 rfl 51 Try.underlying45 m l rfl H.out.map ?_; intro w1 hr1 hb1 hs1)
  have R1 := Lib.hid hr1
  have B1 := Lib.hid hb1
  obtain ⟨r, hr⟩ : ∃ r, r = w.heap.size := ⟨_, rfl⟩
  rw [← hr] at R1 ⊢
  have hsz1 : w1.heap.size = r + 1 := by rw [hr]; exact hs1
  have HR := Lib.hid hr
  have HS1 := Lib.hid hsz1
  clear hr1 hb1 hr hs1 hsz1
  go_frame
  go_loopg [3] l.length (fun k s3 wr => ∃ (left : List (Int × Int)) (ds : List Int), k = left.length ∧ RangeIs Try.prog 3 ikey ikey wr r m l left ∧ IntsIs (r + 1) wr s3 ds ∧ (ds ++ outOf left).Perm (outOf l) ∧ Below r w wr ∧ r + 1 ≤ wr.heap.size)
  case atStart => exact ⟨l, [], rfl, R1.out, World.ownsRow_nil _ _ _ _, List.Perm.refl _, by rw [HR.out]; exact B1.out, by rw [HS1.out]; exact Nat.le_refl _⟩
  case round =>
    obtain ⟨left, ds, hk, hrg, hds, hp, hbw, hsz⟩ := hrel
    have hdl : ds.length ≤ l.length := by have := hp.length_eq; simp at this; omega
    have HK := Lib.hid hk
    have RG := Lib.hid hrg
    have DS := Lib.hid hds
    have PP := Lib.hid hp
    have BW := Lib.hid hbw
    obtain ⟨xa, xc, rfl⟩ := own_slice hds
    clear hk hrg hds hp hbw
    go_wp2_with (at_next; refine wpList_next_is _ rfl _ rfl r m l left rfl RG.out ?_ ?_)
    · intro hd
      subst hd
      have hlen : ds.length < 4611686018427387904 := by omega
      have ST := sort_ints DS.out hlen
      have hperm : ds.Perm (outOf l) := by have := PP.out; simpa [outOf] using this
      have OU : Hid (ds.mergeSort leI = outs l) := mergeSort_of_perm_i hperm
      have ST := Lib.hid ST
      clear hperm
      go_wp2_with fail
      refine ST.out.mono ?_
      rintro e w2 ⟨rfl, h2, g2⟩
      rw [OU.out] at h2
      have X2 := Lib.hid h2
      have b2 : Below r w w2 := BW.out.grown g2 (by omega) (fun k hk => by have := (own_row DS.out hk).1; omega)
      have B2 := Lib.hid b2
      clear h2 g2 b2
      go_wp2
      go_ret
      exact ⟨_, rfl, by rw [← HR.out]; exact own_mono X2.out (by omega), by rw [← HR.out]; exact B2.out⟩
    · intro j x v w1' hj hrg1 hgr hsz1 hen
      have hd1 : IntsIs (r + 1) w1' (.slice xa ds.length xc) ds := own_of DS.out fun k cur hk hc => by
        rw [hgr.block k (Array.getElem?_eq_some_iff.1 hc).1 (fun e => by cases e; have := (own_row DS.out hk).1; omega)]; exact hc
      have hb1 : Below r w w1' := BW.out.grown hgr (by omega) (fun k hk => by cases hk; exact Nat.le_refl _)
      have hs1 : r + 1 ≤ w1'.heap.size := by omega
      have J := Lib.hid hj
      have RG1 := Lib.hid hrg1
      have D1 := Lib.hid hd1
      have HB1 := Lib.hid hb1
      clear hj hrg1 hgr hsz1 hd1 hb1
      by_cases hv : v = -20
      · have ST := Lib.hid (outs_step PP.out J.out hv)
        subst hv
        go_wp2_with (at_builtin; refine wpList_append_own _ rfl _ _ 27 rfl (r + 1) 3 i0 _ 1 8 Try.underlying27 hi hz0 hz1 hz2 rfl (by decide) _ _ _ rfl (own_later D1.out (below_alloc (Below.refl _ _) _)) ⟨w1'.heap.size, 0, none⟩ 1 1 [.int .i64 x] rfl ?p1 ?p2 ?p3 ?p4 ?p5 ?p6 ?_)
        case p1 => rfl
        case p2 => exact World.news_of_block (heap_at w1' _)
        case p3 => intro u hu; simp at hu; subst hu; rfl
        case p4 => unfold maxLen; omega
        case p5 => omega
        case p6 => simp; omega
        intro v2 w2 hown2 hgrow2 hnil2
        have hb2 : Below r w w2 := (HB1.out.alloc (by omega) _).grown hgrow2 (by simp; omega) (fun k hk => by have := (own_row D1.out hk).1; omega)
        have hr2 : RangeIs Try.prog 3 ikey ikey w2 r m l (left.eraseIdx j) := (RG1.out.alloc _).of_blocks (hgrow2.block r (by simp; omega) (fun e => by have := (own_row D1.out e.symm).1; omega)) (hgrow2.block m (by have := RG1.out.map.lt; simp; omega) (fun e => by
          obtain ⟨_, cur, hc⟩ := own_row D1.out e.symm
          obtain ⟨es, clk, h1, _⟩ := RG1.out.map
          rw [h1] at hc; cases hc))
        have hs2 : r + 1 ≤ w2.heap.size := by have := hgrow2.size; simp at this; omega
        have O2 := Lib.hid hown2
        have B2 := Lib.hid hb2
        have R2 := Lib.hid hr2
        clear hown2 hgrow2 hnil2 hb2 hr2
        go_wp2
        go_roundg (left.eraseIdx j).length
        case measure => have hlt := (List.getElem?_eq_some_iff.1 J.out).1; rw [HK.out, List.length_eraseIdx, if_pos hlt]; omega
        case rel => exact ⟨_, ds ++ [x], rfl, R2.out, by have := O2.out; simpa [IntsIs] using this, ST.out, B2.out, hs2⟩
      · have SK := Lib.hid (outs_skip PP.out J.out hv)
        have hv1 : (v == -20) = false := by simpa using hv
        clear hv
        go_wp2
        go_roundg (left.eraseIdx j).length
        case measure => have hlt := (List.getElem?_eq_some_iff.1 J.out).1; rw [HK.out, List.length_eraseIdx, if_pos hlt]; omega
        case rel => exact ⟨_, ds, rfl, RG1.out, D1.out, SK.out, HB1.out, hs1⟩
end Go.Proofs.Ytbbamnglnnanpaa
