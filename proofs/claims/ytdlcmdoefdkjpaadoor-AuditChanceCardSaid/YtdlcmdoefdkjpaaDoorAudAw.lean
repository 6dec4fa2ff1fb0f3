/- The example runs as told. -/
import Derived.Test.YtdlcmdoefdkjpaaDoorAud9
namespace Go.Proofs.YtdlcmdoefdkjpaaDoor
open Go.RowKit
open Extern.Stop (cell)

abbrev awT : List Tgt := [⟨1, [], 3⟩, ⟨2, [], 3⟩]
theorem aw_hits : hitsOf 4 [1, 1, 9, 3] = 2 := by decide
theorem aw_draw {A B : Nat} {w : World} {a : Nat} {ad : Option Addr} {c : Nat} (h : IsAud A B w a 0 []) (hA : B ≤ w.heap.size) (hrow : RowAt w ad (awT.flatMap tcells)) (hnil : ad = none → c = 0) :
    Calls Tryd.prog 13 #[.pointer (some ⟨a, 0, none⟩), .slice ad 2 c, .int .u64 5, .int .u64 0] w fun e w' =>
      e = .returned (.tuple #[.int .i64 2, .agg (ncells 6 [] 2 1 nnil nnil).toArray, .bool true]) ∧ IsAud A B w' a 1 [⟨2, [], 1, 2, 3, 0⟩] ∧ Keeps audT A w w' :=
  draw_yes (t := ⟨2, [], 3⟩) h hA (by decide) (by decide) (by decide) hrow (by decide) hnil 5 (Lib.hid (by decide)) 0 rfl
set_option maxHeartbeats 4000000 in
set_option maxRecDepth 100000 in
theorem awake_any (w : World) : Calls Tryd.prog 9 #[] w fun e w' => e = .returned (.bool true) ∧ Below w.heap.size w w' := by
  go_enter Tryd.func9, Tryd.ntmps9
  go_wp2_with fail
  refine (anew_any _).mono ?_
  rintro e w1 ⟨rfl, h1, b1⟩
  obtain ⟨a, ha⟩ : ∃ a, a = w.heap.size := ⟨_, rfl⟩
  rw [← ha] at h1 ⊢
  have H1 := Lib.hid h1
  have B1 := Lib.hid b1
  have HA := Lib.hid ha
  clear h1 b1 ha
  go_wp2_with fail
  refine (aw_draw (A := a) (B := a + 1) (H1.out.later (below_alloc (Below.refl _ _) _)) ?_ (rowAt_block (heap_at w1 _)) (fun h => by cases h)).mono ?_
  · obtain ⟨v, hv⟩ := H1.out
    have := hv.lt
    simp
    omega
  rintro e w2 ⟨rfl, h2, k2⟩
  have H2 := Lib.hid h2
  have B2 := Lib.hid (B1.out.trans ((below_alloc (Below.refl w1.heap.size w1) _).mono B1.out.size |>.trans (by rw [← HA.out]; exact k2.below)))
  clear h2 k2 H1 B1
  go_wp2_with (first | (refine wpList_store_new rfl 33 (.tmp 3) (.tmp 16) rfl _ (ncells 6 [] 2 1 nnil nnil).toArray rfl rfl (sizen _ _ _ _ _ _) (by simp [ncells_len]) (all_oneCell_toArray (ncells_one rfl rfl)) ?_) | (refine wpList_build_eq rfl 33 _ rfl (ncells 3 [] 0 0 nnil nnil).toArray (by simpa [Act.eval] using built_nkind 3) ?_))
  obtain ⟨NB, hNB⟩ : ∃ NB, NB = w2.heap.size := ⟨_, rfl⟩
  rw [← hNB]
  have nb2 : (w2.alloc (.cells (ncells 6 [] 2 1 nnil nnil).toArray 33)).heap[NB]? = some (.cells (ncells 6 [] 2 1 nnil nnil).toArray 33 (0, 0)) := by rw [hNB]; exact heap_at _ _
  have hB2 : a + 1 ≤ w2.heap.size := by obtain ⟨v, hv⟩ := H2.out; have := hv.lt; omega
  refine (handle_refuse (H2.out.later (below_alloc (Below.refl _ _) (.cells (ncells 6 [] 2 1 nnil nnil).toArray 33))) (by simp; omega) 2 [] 0 0 nnil nnil (k := 0) rfl (by decide) (fun j z hj => absurd hj (Nat.not_lt_zero _))).mono ?_
  rintro e w3 ⟨rfl, h3, k3⟩
  have nb3 := k3.old _ _ nb2 rfl
  have H3 := Lib.hid h3
  have B3 := Lib.hid ((below_alloc B2.out (.cells (ncells 6 [] 2 1 nnil nnil).toArray 33)).trans (by rw [← HA.out]; exact k3.below))
  have N3 := Lib.hid nb3
  clear nb2 h3 k3 nb3 H2 B2 hB2 hNB
  go_wp2_with fail
  have CH := chance_any (w := w3.alloc (.cells #[.int .i64 1, .int .i64 1, .int .i64 9, .int .i64 3] 3)) (n := 4) (by decide) (c := 4) (zs := [1, 1, 9, 3]) (intsRd_block (heap_at w3 _)) (by decide)
  rw [aw_hits] at CH
  refine CH.mono ?_
  rintro e w4 ⟨rfl, b4⟩
  have u4 := (below_alloc (Below.refl w3.heap.size w3) _).trans (b4.mono (by simp))
  have OP := open_any (H3.out.later u4)
  have n4 := heap_kept u4 N3.out (Array.getElem?_eq_some_iff.1 N3.out).1
  have d0 : w4.cell? ⟨NB, 0, none⟩ = some (.int .i64 6) := blk_cell n4 rfl
  have d33 : w4.cell? ⟨NB, 33, none⟩ = some (.int .u64 2) := blk_cell n4 (ncells_tail 6 [] 2 1 nnil nnil 0)
  have d34 : w4.cell? ⟨NB, 34, none⟩ = some (.int .u64 1) := blk_cell n4 (ncells_tail 6 [] 2 1 nnil nnil 1)
  have B4 := Lib.hid (B3.out.trans (u4.mono B3.out.size))
  have OP' := Lib.hid OP
  clear CH b4 u4 OP n4 H3 B3 N3
  go_wp2_with fail
  refine OP'.out.mono ?_
  rintro e w5 ⟨rfl, rfl⟩
  go_wp2
  go_ret
  exact ⟨rfl, B4.out⟩
end Go.Proofs.YtdlcmdoefdkjpaaDoor
