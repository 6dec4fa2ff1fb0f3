/- 'Grant'. -/
import Derived.Test.YtoinlhjdmkeaeaaMeth
namespace Go.Proofs.Ytoinlhjdmkeaeaa
open Go.RowKit

theorem grant_out {w : World} {b : Nat} {who n : Int} (hout : who < 0 ∨ 64 ≤ who) :
    Calls Try.prog 9 #[.pointer (some ⟨b, 0, none⟩), .int .i64 who, .int .u64 n] w fun e w' => e = .returned (.int .i64 1) ∧ w = w' := by
  rcases hout with h | h
  · go_enter Try.func9, Try.ntmps9
    go_wp2
    go_ret
    exact ⟨rfl, rfl⟩
  · have h0 : ¬ who < 0 := by omega
    go_enter Try.func9, Try.ntmps9
    go_wp2
    go_ret
    exact ⟨rfl, rfl⟩

set_option maxHeartbeats 400000 in
theorem grant_meth : Meth 9 grantDo := by
  intro w b m l l' who n e0 h hw hr
  unfold grantDo at hr
  by_cases hout : who < 0 ∨ 64 ≤ who
  · rw [if_pos hout] at hr
    cases hr
    exact (grant_out hout).mono fun e w' ⟨he, hw'⟩ => ⟨he, hw' ▸ h, hw' ▸ grown_refl _ _⟩
  · rw [if_neg hout] at hr
    have h0 : ¬ who < 0 := by omega
    have h1 : who < 64 := by omega
    clear hout
    obtain ⟨e0, e1⟩ := blk1 h.box
    have hb := h.ltb
    have hne := h.ne
    have hm := h.map.lt
    cases hl : aget l who with
    | none =>
      rw [if_pos hl] at hr
      have hlk := fun w' (hm : AccMap w' m l) => hm.look_none keyed_int ikey_inj Try.underlying51 (zero_acc w') true (ikey_ok hw) hl
      have hlk0 := hlk _ h.map
      have H := Lib.hid h
      have HR := Lib.hid hr
      have HW := Lib.hid hw
      clear hlk h hl hw hr
      dsimp only [Acc.v] at *
      go_enter Try.func9, Try.ntmps9
      go_wp2_with (at_mapUpdate; refine wpList_mapput _ rfl _ _ _ 51 rfl 3 29 keyed_int Try.underlying51 ikey Acc.v ikey_inj m l (H.out.map.alloc _) rfl who ⟨0, 0, 0⟩ _ rfl rfl (ikey_ok HW.out) ?_; intro w2 hm2 hg2 hs2)
      have hB2 : IsBook w2 b m (aput l who ⟨0, 0, 0⟩) := ⟨(hg2.block b (by simp; omega) (by simp; omega)).trans (heap_up H.out.box), hm2⟩
      have C := change_any grant_does enters_grant hB2 HW.out n
      rw [HR.out] at C
      have HG := Lib.hid hg2
      clear hg2 hs2 hm2 hB2
      refine C.mono ?_
      rintro e w3 ⟨rfl, r1, r2⟩
      go_wp2
      go_ret
      exact ⟨rfl, r1, grown_trans (grown_trans (World.grownBy_alloc _ _ _) HG.out) r2⟩
    | some a =>
      rw [if_neg (by simp [hl])] at hr
      have hlk := h.map.look_some keyed_int ikey_inj Try.underlying51 true (ikey_ok hw) hl
      have C := fun w' (h' : Below w.heap.size w w') => change_any grant_does enters_grant (h.below h') hw n
      rw [hr] at C
      have CH := Lib.hid C
      clear h hl hw hr C
      obtain ⟨g, r, u⟩ := a
      dsimp only [Acc.v] at *
      go_enter Try.func9, Try.ntmps9
      go_wp2_with fail
      refine (CH.out _ (below_alloc (Below.refl _ _) _)).mono ?_
      rintro e w3 ⟨rfl, r1, r2⟩
      go_wp2
      go_ret
      exact ⟨rfl, r1, grown_trans (World.grownBy_alloc _ _ _) r2⟩
end Go.Proofs.Ytoinlhjdmkeaeaa
