/- The index: Find, Ids. -/
import Derived.Test.YtgbghjpkdbjdgaaDd5
namespace Go.Proofs.Ytgbghjpkdbjdgaa
open Go.RowKit
open Extern.Stop (cell)

theorem heap_two (w : World) (o p : Obj) : ((w.alloc o).alloc p).heap[w.heap.size + 1]? = some p := by
  have := heap_at (w.alloc o) p
  simpa using this
theorem aRegionKept {w w' : World} {b : Nat} {o : Obj} (h : w.heap[b]? = some o) (hb : Below w.heap.size w w') : w'.heap[b]? = some o := (hb.block b (Array.getElem?_eq_some_iff.1 h).1).trans h
set_option linter.unusedSimpArgs false in
set_option maxRecDepth 100000 in
set_option maxHeartbeats 4000000 in
theorem find_any {w : World} {x M : Nat} {l : List (Id32 × Pl)} (h : IxIs w x M l) (id : Id32) :
    Calls Try.prog 15 #[.pointer (some ⟨x, 0, none⟩), keyI id] w fun e w' => e = .returned (.tuple #[plv ((aget l id).getD zpl), .bool (aget l id).isSome]) ∧ Below w.heap.size w w' := by
  have HX := Lib.hid h
  obtain ⟨hb, hhb⟩ : ∃ hb, hb = (aget l id).isSome := ⟨_, rfl⟩
  obtain ⟨q, hq⟩ : ∃ q : Pl, q = (aget l id).getD zpl := ⟨_, rfl⟩
  have HHB := Lib.hid hhb
  have QQ := Lib.hid hq
  obtain ⟨y0, y1⟩ := blk1 h.box
  have Y0 := Lib.hid y0
  obtain ⟨I, hI⟩ : ∃ I, I = w.heap.size := ⟨_, rfl⟩
  have II := Lib.hid hI
  rw [← hhb, ← hq]
  clear hhb hq h y0 y1 hI
  go_enter Try.func15, Try.ntmps15
  go_upto_region 3 with fail
  rw [← II.out]
  refine wp_named fun W hW => ?_
  have e1 : W.heap[I]? = some (.cells (encId id).toArray 31 (0, 0)) := by rw [hW, II.out]; exact heap_up (heap_at _ _)
  have e2 : ∃ C, C.size = 33 ∧ W.heap[I + 1]? = some (.cells C 37 (0, 0)) := by
    rw [hW, II.out]
    refine ⟨_, ?_, heap_two w _ _⟩
    rfl
  obtain ⟨C, hC, e2⟩ := e2
  have b0 : Below w.heap.size w W := by rw [hW]; exact below_alloc (below_alloc (Below.refl _ _) _) _
  have HW := Lib.hid (HX.out.later b0)
  have L1 := Lib.hid (lies_range (lies_block e1))
  have E2 := Lib.hid e2
  have HC := Lib.hid hC
  have B0 := Lib.hid b0
  have Y1 := Lib.hid (blk1 HW.out.box).1
  have LKA : Hid (∀ w', Below W.heap.size W w' → (Instr.lookup 64 (.map (some M)) (keyI id) true).run Try.prog w' = .ok (.tuple #[plv q, .bool hb]) w') := Lib.hid (fun w' hw => by
    have := look_pl (idmap_below HW.out.map hw) id
    rw [← QQ.out, ← HHB.out] at this
    exact this)
  clear hW e1 e2 hC b0
  refine wp_region_held_drew (S := fun w' => Below W.heap.size W w') (by kernel_rfl) (below_drew (Below.refl _ _)) (fun hHeld => ?_)
  refine wpAnyH_take (i := 0) (v := ?_) rfl (by kernel_rfl) (by kernel_rfl) (by kernel_rfl) (fun _ _ _ h => h) (Or.inl ⟨by kernel_rfl, ?_⟩) (by assumption) ?_
  rotate_left
  · (intro w hSw; (have q9 := cell_below Y1.out hSw; go_simp; try with_reducible rfl))
  try simp only [Act.put, List.getElem_toArray, List.getElem_cons_succ, List.getElem_cons_zero, List.setIfInBounds_toArray, List.set_cons_zero, List.set_cons_succ]
  refine wpAnyH_take (i := 1) (v := ?_) rfl (by kernel_rfl) (by kernel_rfl) (by kernel_rfl) (fun _ _ _ h => h) (Or.inl ⟨by kernel_rfl, ?_⟩) (by assumption) ?_
  rotate_left
  · (intro w hSw; (have q9 := cell_below Y1.out hSw; go_simp; try with_reducible rfl))
  try simp only [Act.put, List.getElem_toArray, List.getElem_cons_succ, List.getElem_cons_zero, List.setIfInBounds_toArray, List.set_cons_zero, List.set_cons_succ]
  refine wpAnyH_take (i := 2) (v := ?_) rfl (by kernel_rfl) (by kernel_rfl) (by kernel_rfl) (fun _ _ _ h => h) (Or.inl ⟨by kernel_rfl, ?_⟩) (by assumption) ?_
  rotate_left
  · (intro w hSw; (have q9 := cell_below Y1.out hSw; go_simp; try with_reducible rfl))
  try simp only [Act.put, List.getElem_toArray, List.getElem_cons_succ, List.getElem_cons_zero, List.setIfInBounds_toArray, List.set_cons_zero, List.set_cons_succ]
  refine wpAnyH_take (i := 3) (v := ?_) rfl (by kernel_rfl) (by kernel_rfl) (by kernel_rfl) (fun _ _ _ h => h) (Or.inl ⟨by kernel_rfl, ?_⟩) (by assumption) ?_
  rotate_left
  · (intro w hSw; (have q9 := cell_below Y1.out hSw; go_simp; try with_reducible rfl))
  try simp only [Act.put, List.getElem_toArray, List.getElem_cons_succ, List.getElem_cons_zero, List.setIfInBounds_toArray, List.set_cons_zero, List.set_cons_succ]
  refine' wpAnyH_take (i := 4) (v := _) rfl (by kernel_rfl) (by kernel_rfl) (by kernel_rfl) (fun _ _ _ h => h) (yieldsIf_load_mid (by kernel_rfl) _ _ rfl _ _ rfl (encId id) _ ?hS4 Try.underlying31 rfl (by rw [size_id, encId_len])) (by assumption) ?rest4
  case hS4 => exact fun w' hw => rangeAt_below L1.out hw
  case rest4 =>
  try simp only [Act.put, List.getElem_toArray, List.getElem_cons_succ, List.getElem_cons_zero, List.setIfInBounds_toArray, List.set_cons_zero, List.set_cons_succ]
  refine' wpAnyH_take (i := 5) (v := _) rfl (by kernel_rfl) (by kernel_rfl) (by kernel_rfl) (fun _ _ _ h => h) (yieldsIf_lookup (by kernel_rfl) 64 (.tmp 15) (.tmp 16) true rfl (.map (some M)) (keyI id) (.tuple #[plv q, .bool hb]) rfl rfl LKA.out) (by assumption) ?_
  try simp only [Act.put, List.getElem_toArray, List.getElem_cons_succ, List.getElem_cons_zero, List.setIfInBounds_toArray, List.set_cons_zero, List.set_cons_succ]
  refine wpAnyH_take (i := 6) (v := ?_) rfl (by kernel_rfl) (by kernel_rfl) (by kernel_rfl) (fun _ _ _ h => h) (Or.inl ⟨by kernel_rfl, ?_⟩) (by assumption) ?_
  rotate_left
  · (intro w hSw; (go_simp; try with_reducible rfl))
  try simp only [Act.put, List.getElem_toArray, List.getElem_cons_succ, List.getElem_cons_zero, List.setIfInBounds_toArray, List.set_cons_zero, List.set_cons_succ]
  refine wpAnyH_take (i := 7) (v := ?_) rfl (by kernel_rfl) (by kernel_rfl) (by kernel_rfl) (fun _ _ _ h => h) (Or.inl ⟨by kernel_rfl, ?_⟩) (by assumption) ?_
  rotate_left
  · (intro w hSw; (go_simp; try with_reducible rfl))
  try simp only [Act.put, List.getElem_toArray, List.getElem_cons_succ, List.getElem_cons_zero, List.setIfInBounds_toArray, List.set_cons_zero, List.set_cons_succ]
  refine wpAnyH_take (i := 8) (v := ?_) rfl (by kernel_rfl) (by kernel_rfl) (by kernel_rfl) (fun _ _ _ h => h) (Or.inl ⟨by kernel_rfl, ?_⟩) (by assumption) ?_
  rotate_left
  · (intro w hSw; (go_simp; try with_reducible rfl))
  try simp only [Act.put, List.getElem_toArray, List.getElem_cons_succ, List.getElem_cons_zero, List.setIfInBounds_toArray, List.set_cons_zero, List.set_cons_succ]
  refine wpAnyH_ready (rs := [9]) (by kernel_rfl) (by simp) (AllReadyH.cons rfl (fun K hK => ?_) AllReadyH.nil)
  go_simp
  refine hK.out _ _ (below_alloc hHeld _) (fun hH => ?_)
  clear hHeld hK
  try simp only [Act.put, List.getElem_toArray, List.getElem_cons_succ, List.getElem_cons_zero, List.setIfInBounds_toArray, List.set_cons_zero, List.set_cons_succ]
  refine wpAnyH_ready (rs := [10]) (by kernel_rfl) (by simp) (AllReadyH.cons rfl (fun K hK => ?_) AllReadyH.nil)
  refine step_store_new rfl 37 (.tmp 6) (.tmp 18) rfl W.drew _ (plcells q).toArray rfl rfl rfl (sizepl q) (by simp [plcells_len]) (all_oneCell_toArray (plcells_one q)) ?_
  have B9 : Below W.heap.size W (W.drew.alloc (.cells (plcells q).toArray 37)) := below_alloc (below_drew (Below.refl _ _)) _
  refine hK.out _ _ B9 (fun hHeld => ?_)
  clear hH hK
  try simp only [Act.put, List.getElem_toArray, List.getElem_cons_succ, List.getElem_cons_zero, List.setIfInBounds_toArray, List.set_cons_zero, List.set_cons_succ]
  refine wpAnyH_ready (rs := [11]) (by kernel_rfl) (by simp) (AllReadyH.cons rfl (fun K hK => ?_) AllReadyH.nil)
  go_simp
  refine hK.out _ _ B9 (fun hH => ?_)
  clear hHeld hK hH
  try simp only [Act.put, List.getElem_toArray, List.getElem_cons_succ, List.getElem_cons_zero, List.setIfInBounds_toArray, List.set_cons_zero, List.set_cons_succ]
  refine wpAnyH_done (by kernel_rfl) ?_ _
  have BB := Lib.hid B9
  have E9 : Hid ((W.drew.alloc (.cells (plcells q).toArray 37)).heap[W.heap.size]? = some (.cells (plcells q).toArray 37 (0, 0))) := Lib.hid (heap_at W.drew _)
  clear B9
  go_upto_region 4 with fail
  refine wp_named fun w9 hw9 => ?_
  have B9 : Below W.heap.size W w9 := by rw [hw9]; exact BB.out
  have E6 : w9.heap[W.heap.size]? = some (.cells (plcells q).toArray 37 (0, 0)) := by rw [hw9]; exact E9.out
  have E4 := aRegionKept E2.out B9
  have L6 := Lib.hid (lies_block E6)
  have E4' := Lib.hid E4
  have TH := there_block (w := w9) E4 (i := 0) (n := 33) (by rw [HC.out]; exact Nat.le_refl _)
  have TH' := Lib.hid TH
  have B09 := Lib.hid (B0.out.trans (B9.mono B0.out.size))
  clear hw9 B9 E6 E4 TH BB E9
  go_wp2_with (first | (refine wpList_load_agg rfl 37 (.tmp 6) rfl W.heap.size 0 rfl (plcells q).toArray _ L6.out Try.underlying37 rfl (sizepl q) ?_) | (refine wpList_store_mid rfl 37 (.tmp 4) (.tmp 20) rfl (I + 1) 0 (plcells q).toArray rfl rfl (by simpa [plcells_len] using TH'.out) (sizepl q) (all_oneCell_toArray (plcells_one q)) ?_))
  have hsz : (plcells q).toArray.size = C.size := by rw [HC.out]; simp [plcells_len]
  have k3 := heap_setCells_whole (w := w9) (D := (plcells q).toArray) E4'.out hsz
  have g3 := grown_setCells (w := w9) (vs := (plcells q).toArray.toList) (i := 0) E4'.out (by rw [HC.out]; simp [plcells_len])
  refine bodyPost_ret (results2_mid rfl _ (I + 1) (plcells q).toArray _ rfl (lies_block k3) Try.underlying37 rfl (sizepl q)) rfl ⟨rfl, B09.out.grown g3 B09.out.size (fun k hk => by cases hk; rw [II.out]; exact Nat.le_succ _)⟩
set_option maxHeartbeats 1000000 in
theorem ids_any {w : World} {x M : Nat} {l : List (Id32 × Pl)} (h : IxIs w x M l) (hl : l.length ≤ 1000000) :
    Calls Try.prog 22 #[.pointer (some ⟨x, 0, none⟩)] w fun e w' => ∃ v, e = .returned v ∧ w'.ownsRow w.heap.size 31 32 v (sortIds (l.map Prod.fst)).length ((sortIds (l.map Prod.fst)).flatMap encId) ∧ Below w.heap.size w w' := by
  obtain ⟨y0, y1⟩ := blk1 h.box
  have HX := Lib.hid h
  clear h
  go_enter Try.func22, Try.ntmps22
  go_wp2_with fail
  refine (keysOf_pl (some M) _).mono ?_
  rintro e w1 ⟨rfl, rfl⟩
  have b1 := below_alloc (Below.refl w.heap.size w) (.cells #[.map (some M)] 64)
  have SO := Lib.hid (sorted_pl (w := w.alloc (.cells #[.map (some M)] 64)) (Bm := w.heap.size) (by simp) (blk1 (heap_at _ _)).1 (idmap_below HX.out.map b1) hl)
  have B1 := Lib.hid b1
  clear b1 y0 y1
  go_wp2_with fail
  refine SO.out.mono ?_
  rintro e w2 ⟨v, rfl, h2, b2⟩
  have H2 := Lib.hid (own_mono h2 B1.out.size)
  have B2 := Lib.hid (B1.out.trans (b2.mono B1.out.size))
  clear h2 b2 SO
  go_wp2
  go_ret
  exact ⟨v, rfl, H2.out, B2.out⟩
end Go.Proofs.Ytgbghjpkdbjdgaa
