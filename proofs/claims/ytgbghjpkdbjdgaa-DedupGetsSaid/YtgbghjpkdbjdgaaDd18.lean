/- The codec: the reader's Id. -/
import Derived.Test.YtgbghjpkdbjdgaaDd17
import Derived.Test.YtgbghjpkdbjdgaaDp1
namespace Go.Proofs.Ytgbghjpkdbjdgaa
open Go.RowKit
open Extern.Stop (cell)

theorem splice_all {α : Type} (L cs : List α) (h : L.length = cs.length) : splice L 0 cs = cs := by
  unfold splice
  rw [Nat.zero_add, ← h, List.drop_length]
  simp
theorem splice_none {α : Type} (L : List α) : splice L 0 [] = L := by simp [splice]
theorem heap_one (w : World) (o p : Obj) : ((w.alloc o).alloc p).heap[w.heap.size]? = some o := heap_up (heap_at _ _)
set_option maxRecDepth 100000 in
set_option maxHeartbeats 4000000 in
set_option linter.unusedSimpArgs false in
theorem rid_any {w : World} {x : Nat} {zs : List UInt8} {er : Int} (h : Rdr w x zs er) :
    Calls Try.prog 28 #[.pointer (some ⟨x, 0, none⟩)] w fun e w' => e = .returned (keyI (idOf zs er).1) ∧ Rdr w' x (idOf zs er).2.1 (idOf zs er).2.2 ∧ w.grownBy w' (some x) := by
  have HR := Lib.hid h
  have hlt := h.lt
  obtain ⟨I, hI⟩ : ∃ I, I = w.heap.size := ⟨_, rfl⟩
  have II := Lib.hid hI
  obtain ⟨D, hD⟩ : ∃ D, D = idOf zs er := ⟨_, rfl⟩
  rw [← hD]
  have DD := Lib.hid hD
  clear hI hD h
  go_enter Try.func28, Try.ntmps28
  go_upto_region 2 with fail
  rw [← II.out]
  refine wp_named fun W hW => ?_
  have e1 : W.heap[I]? = some (.cells (encId zid).toArray 31 (0, 0)) := by rw [hW, II.out]; exact heap_one w _ _
  have e2 : W.heap[I + 1]? = some (.cells (encId zid).toArray 31 (0, 0)) := by rw [hW, II.out]; exact heap_two w _ _
  have b0 : Below w.heap.size w W := by rw [hW]; exact below_alloc (below_alloc (Below.refl _ _) _) _
  have hxI : x < I := by rw [II.out]; exact hlt
  have hIW : I + 1 < W.heap.size := (Array.getElem?_eq_some_iff.1 e2).1
  have E1 := Lib.hid e1
  have E2 := Lib.hid e2
  have B0 := Lib.hid b0
  have RW : Hid (Rdr W.drew x zs er) := Lib.hid ((HR.out.later b0).later (below_drew (Below.refl _ _)))
  clear hW e1 e2 b0 hlt
  have TK : Hid (Calls Try.prog 43 #[.pointer (some ⟨x, 0, none⟩), .int .i64 32] W.drew fun e w' => ∃ a2 n xs, e = .returned (.slice a2 n n) ∧ xs.length = n ∧ n ≤ 32 ∧ BytesRd w' a2 xs ∧ Rdr w' x D.2.1 D.2.2 ∧ W.drew.grownBy w' (some x) ∧ splice (encId zid) 0 (xs.map cell) = encId D.1) := by
    by_cases hbad : er ≠ 0 ∨ zs.length < 32
    · refine Lib.hid ((take_nil RW.out 32 hbad).mono ?_)
      rintro e w' ⟨rfl, h2, g2⟩
      rw [DD.out, idOf_short hbad]
      exact ⟨none, 0, [], rfl, rfl, by omega, fun j z hj => by simp at hj, h2, g2, splice_none _⟩
    · obtain rfl : er = 0 := by omega
      refine Lib.hid ((take_some RW.out 32 (by omega) (by omega)).mono ?_)
      rintro e w' ⟨b, off, rfl, h1, h2, g2⟩
      have hl : (zs.take 32).length = 32 := by rw [List.length_take]; omega
      rw [DD.out, idOf_full (by omega)]
      refine ⟨_, 32, _, rfl, hl, Nat.le_refl _, h1, h2, g2, ?_⟩
      rw [splice_all _ _ (by rw [encId_len, List.length_map, hl])]
      exact (idCells_of hl).symm
  refine wp_region_held_drew (S := fun _ => True) (by kernel_rfl) trivial (fun hHeld => ?_)
  refine wpAnyH_take (i := 0) (v := ?_) rfl (by kernel_rfl) (by kernel_rfl) (by kernel_rfl) (fun _ _ _ h => h) (Or.inl ⟨by kernel_rfl, ?_⟩) (by assumption) ?_
  rotate_left
  · (intro w hSw; (go_simp; try with_reducible rfl))
  try simp only [Act.put, List.getElem_toArray, List.getElem_cons_succ, List.getElem_cons_zero, List.setIfInBounds_toArray, List.set_cons_zero, List.set_cons_succ]
  refine wpAnyH_take (i := 1) (v := ?_) rfl (by kernel_rfl) (by kernel_rfl) (by kernel_rfl) (fun _ _ _ h => h) (Or.inl ⟨by kernel_rfl, ?_⟩) (by assumption) ?_
  rotate_left
  · (intro w hSw; (go_simp; try with_reducible rfl))
  try simp only [Act.put, List.getElem_toArray, List.getElem_cons_succ, List.getElem_cons_zero, List.setIfInBounds_toArray, List.set_cons_zero, List.set_cons_succ]
  refine wpAnyH_ready (rs := [2]) (by kernel_rfl) (by simp) (AllReadyH.cons rfl (fun K hK => ?_) AllReadyH.nil)
  go_simp
  go_at_call 43
  refine TK.out.mono ?_
  rintro e w3 ⟨a2, n, xs, rfl, hxn, hn32, hb3, hr3, hg3, hsp⟩
  have G3 := Lib.hid hg3
  have R3 := Lib.hid hr3
  have SP := Lib.hid hsp
  have RB := Lib.hid hb3
  have XN := Lib.hid hxn
  have E13 : Hid (w3.heap[I]? = some (.cells (encId zid).toArray 31 (0, 0))) := Lib.hid ((hg3.block I (by show I < W.heap.size; omega) (fun e => by have := Option.some.inj e; omega)).trans E1.out)
  have E23 : Hid (w3.heap[I + 1]? = some (.cells (encId zid).toArray 31 (0, 0))) := Lib.hid ((hg3.block (I + 1) (by show I + 1 < W.heap.size; omega) (fun e => by have := Option.some.inj e; omega)).trans E2.out)
  clear hg3 hr3 hsp hb3 hxn TK
  refine hK.out _ _ trivial (fun hH => ?_)
  clear hHeld hK
  try simp only [Act.put, List.getElem_toArray, List.getElem_cons_succ, List.getElem_cons_zero, List.setIfInBounds_toArray, List.set_cons_zero, List.set_cons_succ]
  refine wpAnyH_ready (rs := [3]) (by kernel_rfl) (by simp) (AllReadyH.cons rfl (fun K hK => ?_) AllReadyH.nil)
  refine step_copy_splice rfl (.tmp 4) (.tmp 6) 49 49 rfl 5 Try.underlying49 (by kernel_rfl) (some ⟨I + 1, 0, none⟩) a2 32 32 n n rfl rfl (I + 1) 0 (encId zid) 31 E23.out (xs.map cell) (by rw [List.length_map, XN.out]; exact (Nat.min_eq_left hn32).symm) ?hpos (by rw [List.length_map, XN.out, encId_len]; omega) (cells_one xs) (I + 1) w3 (Below.refl _ _) (Nat.le_refl _) ?_
  case hpos =>
    intro hp
    refine ⟨rfl, ?_⟩
    obtain ⟨z, hz⟩ : ∃ z, xs[0]? = some z := ⟨_, List.getElem?_eq_getElem (by simpa using hp)⟩
    obtain ⟨b, off, e, _, _⟩ := RB.out 0 z hz
    subst e
    exact ⟨_, rfl, bytes_news RB.out⟩
  intro w4 E4 b4
  have B4 := Lib.hid b4
  have R4 : Hid (Rdr w4 x D.2.1 D.2.2) := Lib.hid (by
    obtain ⟨a, c, h1, h2, h3⟩ := R3.out
    refine ⟨a, c, ⟨(b4.block x (by omega)).trans h1.box, fun j z hj => ?_⟩, h2, h3⟩
    obtain ⟨b, off, e, q1, q2⟩ := h1.rd j z hj
    have q3 := h3 _ e
    refine ⟨b, off, e, Nat.lt_of_lt_of_le q1 b4.size, (b4.cell (p := ⟨b, off + j, none⟩) ?_).trans q2⟩
    show b < I + 1
    have : b < x := q3
    omega)
  clear b4
  refine hK.out _ _ trivial (fun hHeld => ?_)
  clear hH hK
  try simp only [Act.put, List.getElem_toArray, List.getElem_cons_succ, List.getElem_cons_zero, List.setIfInBounds_toArray, List.set_cons_zero, List.set_cons_succ]
  refine wpAnyH_done (by kernel_rfl) ?_ _
  have E14 : Hid (w4.heap[I]? = some (.cells (encId zid).toArray 31 (0, 0))) := Lib.hid ((B4.out.block I (Nat.lt_succ_self I)).trans E13.out)
  have E24 : Hid (w4.heap[I + 1]? = some (.cells (encId D.1).toArray 31 (0, 0))) := Lib.hid (by rw [← SP.out]; exact E4.out)
  have L4 := Lib.hid (lies_block E24.out)
  have TH := Lib.hid (there_block (w := w4) E14.out (i := 0) (n := 32) (by simp [encId_len]))
  have G4 : Hid (w.grownBy w4 (some x)) := Lib.hid (by
    have g3 := G3.out
    have b0 := B0.out
    have b4 := B4.out
    refine ⟨b4.os.trans (g3.os.trans b0.os), b4.tape.trans (g3.tape.trans b0.tape), b4.output.trans (g3.output.trans b0.output), Nat.le_trans b0.size (Nat.le_trans g3.size b4.size), fun k hk hr => ?_⟩
    have hkI : k < I := by rw [II.out]; exact hk
    exact (b4.block k (by omega)).trans ((g3.block k (Nat.lt_of_lt_of_le hk b0.size) hr).trans (b0.block k hk)))
  clear E4
  go_wp2_with (first | (refine wpList_load_agg rfl 31 (.tmp 3) rfl (I + 1) 0 rfl (encId D.1).toArray _ L4.out Try.underlying31 rfl (sizei D.1.1) ?_) | (refine wpList_store_mid rfl 31 (.tmp 2) (.tmp 8) rfl I 0 (encId D.1).toArray rfl rfl (by simpa [encId_len] using TH.out) (sizei D.1.1) (all_oneCell_toArray (encId_one D.1)) ?_))
  have hsz : (encId D.1).toArray.size = (encId zid).toArray.size := by simp [encId_len]
  have k3 := heap_setCells_whole (w := w4) (D := (encId D.1).toArray) E14.out hsz
  have g5 := grown_setCells (w := w4) (vs := (encId D.1).toArray.toList) (i := 0) E14.out (by simp [encId_len])
  refine bodyPost_ret (results1_mid rfl _ I (encId D.1).toArray _ rfl (lies_block k3) Try.underlying31 rfl (sizei D.1.1)) rfl ⟨rfl, ?_, ?_⟩
  · obtain ⟨a, c, h1, h2, h3⟩ := R4.out
    refine ⟨a, c, ⟨(g5.block x (Nat.lt_of_lt_of_le hxI (Nat.le_of_lt (Array.getElem?_eq_some_iff.1 E14.out).1)) (fun e => by have := Option.some.inj e; omega)).trans h1.box, fun j z hj => ?_⟩, h2, h3⟩
    obtain ⟨b, off, e, q1, q2⟩ := h1.rd j z hj
    have q3 := h3 _ e
    have q4 : b < x := q3
    exact ⟨b, off, e, Nat.lt_of_lt_of_le q1 g5.size, cell_grown q2 g5 (fun e => by have := Option.some.inj e; simp at this; omega)⟩
  · have g4 := G4.out
    refine ⟨g5.os.trans g4.os, g5.tape.trans g4.tape, g5.output.trans g4.output, Nat.le_trans g4.size g5.size, fun k hk hr => ?_⟩
    have hkI : k < I := by rw [II.out]; exact hk
    exact (g5.block k (Nat.lt_of_lt_of_le hk g4.size) (fun e => by have := Option.some.inj e; omega)).trans (g4.block k hk hr)
end Go.Proofs.Ytgbghjpkdbjdgaa
