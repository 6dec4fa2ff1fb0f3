/- The law's like. -/
import Derived.Test.YtgbghjpkdbjdgaaDe8
namespace Go.Proofs.Ytgbghjpkdbjdgaa
open Go.RowKit Go.Lib
open Extern.Stop (cell)

theorem row_get {l : List Ent} (h : Apart l) {e : Ent} (he : e ∈ rowOf l) : aget l e.1 = some e.2 := aget_of_mem h ((row_perm h).mem_iff.1 he)
theorem cnts_row {l : List Ent} (h : Apart l) : cntsOf (rowOf l) = (packsOf l).map fun k => (cntOf k l : Int) := by
  unfold cntsOf
  rw [packs_perm (row_perm h)]
  exact List.map_congr_left fun k _ => by rw [cntOf_perm (row_perm h)]
theorem step_convert_if {P : Program} {w : World} {ops : Array Oper} {o : Oper} {a : Act} {K : Act → World → Prop} {Q : Exit → Act → World → Prop} {E : Prop} (hw : Region.wanted o (yielded ops a.tmps) = true) (s d : TypeId) (x : Operand) (ho : o.op = .convert s d x) (xv v : Value) (hx : a.eval x = xv) (hr : (convert s d xv).run P w = .ok v w)
    (h : K (a.put o.dst v) w) : if Region.wanted o (yielded ops a.tmps) = true then Oper.wp P o a w K Q else E := by
  rw [if_pos hw]
  unfold Oper.wp execOp
  simp only [ho, hx, Sem.run_bind, hr, Result.andThen_ok, Sem.run_pure]
  exact h
set_option linter.unusedSimpArgs false in
set_option maxRecDepth 100000 in
set_option maxHeartbeats 8000000 in
theorem like_any {w : World} {x M : Nat} {l : List Ent} (h : IxIs w x M l) (ho : PlsOk l) (hl : l.length ≤ 10000) {v : Value} (hv : EV w v (rowOf l)) :
    Calls Try.prog 17 #[.pointer (some ⟨x, 0, none⟩), v] w fun e w' => e = .returned (.bool true) ∧ Below w.heap.size w w' := by
  have HX := Lib.hid h
  have AP := Lib.hid h.map.apart
  have OK := Lib.hid ho
  have EV0 := Lib.hid hv
  obtain ⟨n, hn⟩ : ∃ n, n = l.length := ⟨_, rfl⟩
  have NN := Lib.hid hn
  have RL := Lib.hid (row_len l)
  rw [← hn] at hl
  have n0 : (0 : Int) ≤ (n : Int) := Int.natCast_nonneg _
  have n1 : (n : Int) ≤ 10000 := by omega
  have IA := Lib.hid (ids_any h (by rw [← hn]; omega))
  clear h ho hn hv
  go_enter Try.func17, Try.ntmps17
  go_wp2_with fail
  refine IA.out.mono ?_
  rintro e w1 ⟨v5, rfl, h5, b1⟩
  rw [sortIds_len, List.length_map, ← NN.out, ← row_keys] at h5
  have V5 := Lib.hid h5
  have B1 := Lib.hid b1
  obtain ⟨a5, c5, rfl⟩ := own_slice h5
  have PK := Lib.hid (packs_any (HX.out.later b1) (by rw [← NN.out]; omega))
  obtain ⟨m, hm⟩ : ∃ m, m = (packsOf l).length := ⟨_, rfl⟩
  have MM := Lib.hid hm
  have mn : m ≤ n := by rw [hm, NN.out]; exact packs_len _
  rw [← hm] at PK
  clear h5 b1 IA hm
  go_wp2_with fail
  refine PK.out.mono ?_
  rintro e w2 ⟨v6, v7, rfl, h6, h7, b2⟩
  have V6 := Lib.hid h6
  have V7 := Lib.hid h7
  have B2 := Lib.hid (B1.out.trans (b2.mono B1.out.size))
  have W5 := Lib.hid (own_later V5.out b2)
  obtain ⟨a6, c6, rfl⟩ := own_slice h6
  obtain ⟨a7, c7, rfl⟩ := own_slice h7
  have RP := rpacks_any (EV0.out.later B2.out) (by rw [RL.out, ← NN.out]; exact hl)
  rw [packs_perm (row_perm AP.out), ← MM.out] at RP
  have RP1 := Lib.hid RP
  clear h6 h7 b2 PK V5 B1 RP
  go_wp2_with fail
  refine RP1.out.mono ?_
  rintro e w3 ⟨v8, v9, rfl, h8, h9, b3⟩
  have V8 := Lib.hid h8
  have V9 := Lib.hid h9
  have B3 := Lib.hid (B2.out.trans (b3.mono B2.out.size))
  have Z5 := Lib.hid (own_later W5.out b3)
  have Z6 := Lib.hid (own_later V6.out b3)
  have Z7 := Lib.hid (own_later V7.out b3)
  obtain ⟨a8, c8, rfl⟩ := own_slice h8
  obtain ⟨a9, c9, rfl⟩ := own_slice h9
  clear h8 h9 b3 RP1 W5 V6 V7 B2
  obtain ⟨ad, c, hve, hrow, hc, hn0⟩ := EV0.out
  subst hve
  have ROW := Lib.hid hrow
  clear hrow hn0
  have RL2 := RL.out
  rw [← NN.out] at RL2
  rw [RL2] at hc EV0 ⊢
  obtain ⟨str, hstr⟩ : ∃ str : ByteArray, str = ⟨(putOf l).toArray⟩ := ⟨_, rfl⟩
  have ST := Lib.hid hstr
  have PX := Lib.hid (put_any (w := w3.drew) ⟨(HX.out.later B3.out).box, (HX.out.later B3.out).map.drew⟩ OK.out (by rw [← NN.out]; exact hl))
  clear hstr RL2
  go_upto_region 4 with fail
  refine wp_region_held_drew (S := fun w' => Below w3.heap.size w3 w') (by kernel_rfl) (below_drew (Below.refl _ _)) (fun hHeld => ?_)
  refine wpAnyH_take (i := 0) (v := ?_) rfl (by kernel_rfl) (by kernel_rfl) (by kernel_rfl) (fun _ _ _ h => h) (Or.inl ⟨by kernel_rfl, ?_⟩) (by assumption) ?_
  rotate_left
  · (intro w hSw; (go_simp; try with_reducible rfl))
  try simp only [Act.put, List.getElem_toArray, List.getElem_cons_succ, List.getElem_cons_zero, List.setIfInBounds_toArray, List.set_cons_zero, List.set_cons_succ]
  refine wpAnyH_take (i := 1) (v := ?_) rfl (by kernel_rfl) (by kernel_rfl) (by kernel_rfl) (fun _ _ _ h => h) (Or.inl ⟨by kernel_rfl, ?_⟩) (by assumption) ?_
  rotate_left
  · (intro w hSw; (go_simp; try with_reducible rfl))
  try simp only [Act.put, List.getElem_toArray, List.getElem_cons_succ, List.getElem_cons_zero, List.setIfInBounds_toArray, List.set_cons_zero, List.set_cons_succ]
  refine wpAnyH_take (i := 2) (v := ?_) rfl (by kernel_rfl) (by kernel_rfl) (by kernel_rfl) (fun _ _ _ h => h) (Or.inl ⟨by kernel_rfl, ?_⟩) (by assumption) ?_
  rotate_left
  · (intro w hSw; (go_simp; try with_reducible rfl))
  try simp only [Act.put, List.getElem_toArray, List.getElem_cons_succ, List.getElem_cons_zero, List.setIfInBounds_toArray, List.set_cons_zero, List.set_cons_succ]
  refine wpAnyH_take (i := 3) (v := ?_) rfl (by kernel_rfl) (by kernel_rfl) (by kernel_rfl) (fun _ _ _ h => h) (Or.inl ⟨by kernel_rfl, ?_⟩) (by assumption) ?_
  rotate_left
  · (intro w hSw; (go_simp; try with_reducible rfl))
  try simp only [Act.put, List.getElem_toArray, List.getElem_cons_succ, List.getElem_cons_zero, List.setIfInBounds_toArray, List.set_cons_zero, List.set_cons_succ]
  refine wpAnyH_take (i := 4) (v := ?_) rfl (by kernel_rfl) (by kernel_rfl) (by kernel_rfl) (fun _ _ _ h => h) (Or.inl ⟨by kernel_rfl, ?_⟩) (by assumption) ?_
  rotate_left
  · (intro w hSw; (go_simp; try with_reducible rfl))
  try simp only [Act.put, List.getElem_toArray, List.getElem_cons_succ, List.getElem_cons_zero, List.setIfInBounds_toArray, List.set_cons_zero, List.set_cons_succ]
  refine wpAnyH_take (i := 5) (v := ?_) rfl (by kernel_rfl) (by kernel_rfl) (by kernel_rfl) (fun _ _ _ h => h) (Or.inl ⟨by kernel_rfl, ?_⟩) (by assumption) ?_
  rotate_left
  · (intro w hSw; (go_simp; try with_reducible rfl))
  try simp only [Act.put, List.getElem_toArray, List.getElem_cons_succ, List.getElem_cons_zero, List.setIfInBounds_toArray, List.set_cons_zero, List.set_cons_succ]
  refine wpAnyH_take (i := 6) (v := ?_) rfl (by kernel_rfl) (by kernel_rfl) (by kernel_rfl) (fun _ _ _ h => h) (Or.inl ⟨by kernel_rfl, ?_⟩) (by assumption) ?_
  rotate_left
  · (intro w hSw; (go_simp; try with_reducible rfl))
  try simp only [Act.put, List.getElem_toArray, List.getElem_cons_succ, List.getElem_cons_zero, List.setIfInBounds_toArray, List.set_cons_zero, List.set_cons_succ]
  refine wpAnyH_take (i := 7) (v := ?_) rfl (by kernel_rfl) (by kernel_rfl) (by kernel_rfl) (fun _ _ _ h => h) (Or.inl ⟨by kernel_rfl, ?_⟩) (by assumption) ?_
  rotate_left
  · (intro w hSw; (go_simp; try with_reducible rfl))
  try simp only [Act.put, List.getElem_toArray, List.getElem_cons_succ, List.getElem_cons_zero, List.setIfInBounds_toArray, List.set_cons_zero, List.set_cons_succ]
  refine wpAnyH_take (i := 8) (v := ?_) rfl (by kernel_rfl) (by kernel_rfl) (by kernel_rfl) (fun _ _ _ h => h) (Or.inl ⟨by kernel_rfl, ?_⟩) (by assumption) ?_
  rotate_left
  · (intro w hSw; (go_simp; try with_reducible rfl))
  try simp only [Act.put, List.getElem_toArray, List.getElem_cons_succ, List.getElem_cons_zero, List.setIfInBounds_toArray, List.set_cons_zero, List.set_cons_succ]
  refine wpAnyH_take (i := 9) (v := ?_) rfl (by kernel_rfl) (by kernel_rfl) (by kernel_rfl) (fun _ _ _ h => h) (Or.inl ⟨by kernel_rfl, ?_⟩) (by assumption) ?_
  rotate_left
  · (intro w hSw; (go_simp; try with_reducible rfl))
  try simp only [Act.put, List.getElem_toArray, List.getElem_cons_succ, List.getElem_cons_zero, List.setIfInBounds_toArray, List.set_cons_zero, List.set_cons_succ]
  refine wpAnyH_take (i := 10) (v := ?_) rfl (by kernel_rfl) (by kernel_rfl) (by kernel_rfl) (fun _ _ _ h => h) (Or.inl ⟨by kernel_rfl, ?_⟩) (by assumption) ?_
  rotate_left
  · (intro w hSw; (go_simp; try with_reducible rfl))
  try simp only [Act.put, List.getElem_toArray, List.getElem_cons_succ, List.getElem_cons_zero, List.setIfInBounds_toArray, List.set_cons_zero, List.set_cons_succ]
  refine wpAnyH_take (i := 11) (v := ?_) rfl (by kernel_rfl) (by kernel_rfl) (by kernel_rfl) (fun _ _ _ h => h) (Or.inl ⟨by kernel_rfl, ?_⟩) (by assumption) ?_
  rotate_left
  · (intro w hSw; (go_simp; try with_reducible rfl))
  try simp only [Act.put, List.getElem_toArray, List.getElem_cons_succ, List.getElem_cons_zero, List.setIfInBounds_toArray, List.set_cons_zero, List.set_cons_succ]
  refine wpAnyH_take (i := 12) (v := ?_) rfl (by kernel_rfl) (by kernel_rfl) (by kernel_rfl) (fun _ _ _ h => h) (Or.inl ⟨by kernel_rfl, ?_⟩) (by assumption) ?_
  rotate_left
  · (intro w hSw; (go_simp; try with_reducible rfl))
  try simp only [Act.put, List.getElem_toArray, List.getElem_cons_succ, List.getElem_cons_zero, List.setIfInBounds_toArray, List.set_cons_zero, List.set_cons_succ]
  refine wpAnyH_take (i := 13) (v := ?_) rfl (by kernel_rfl) (by kernel_rfl) (by kernel_rfl) (fun _ _ _ h => h) (Or.inl ⟨by kernel_rfl, ?_⟩) (by assumption) ?_
  rotate_left
  · (intro w hSw; (go_simp; try with_reducible rfl))
  try simp only [Act.put, List.getElem_toArray, List.getElem_cons_succ, List.getElem_cons_zero, List.setIfInBounds_toArray, List.set_cons_zero, List.set_cons_succ]
  refine wpAnyH_take (i := 14) (v := ?_) rfl (by kernel_rfl) (by kernel_rfl) (by kernel_rfl) (fun _ _ _ h => h) (Or.inl ⟨by kernel_rfl, ?_⟩) (by assumption) ?_
  rotate_left
  · (intro w hSw; (go_simp; try with_reducible rfl))
  try simp only [Act.put, List.getElem_toArray, List.getElem_cons_succ, List.getElem_cons_zero, List.setIfInBounds_toArray, List.set_cons_zero, List.set_cons_succ]
  refine wpAnyH_take (i := 15) (v := ?_) rfl (by kernel_rfl) (by kernel_rfl) (by kernel_rfl) (fun _ _ _ h => h) (Or.inl ⟨by kernel_rfl, ?_⟩) (by assumption) ?_
  rotate_left
  · (intro w hSw; (go_simp; try with_reducible rfl))
  try simp only [Act.put, List.getElem_toArray, List.getElem_cons_succ, List.getElem_cons_zero, List.setIfInBounds_toArray, List.set_cons_zero, List.set_cons_succ]
  refine wpAnyH_take (i := 16) (v := ?_) rfl (by kernel_rfl) (by kernel_rfl) (by kernel_rfl) (fun _ _ _ h => h) (Or.inl ⟨by kernel_rfl, ?_⟩) (by assumption) ?_
  rotate_left
  · (intro w hSw; (go_simp; try with_reducible rfl))
  try simp only [Act.put, List.getElem_toArray, List.getElem_cons_succ, List.getElem_cons_zero, List.setIfInBounds_toArray, List.set_cons_zero, List.set_cons_succ]
  refine wpAnyH_take (i := 17) (v := ?_) rfl (by kernel_rfl) (by kernel_rfl) (by kernel_rfl) (fun _ _ _ h => h) (Or.inl ⟨by kernel_rfl, ?_⟩) (by assumption) ?_
  rotate_left
  · (intro w hSw; (go_simp; try with_reducible rfl))
  try simp only [Act.put, List.getElem_toArray, List.getElem_cons_succ, List.getElem_cons_zero, List.setIfInBounds_toArray, List.set_cons_zero, List.set_cons_succ]
  refine wpAnyH_take (i := 18) (v := ?_) rfl (by kernel_rfl) (by kernel_rfl) (by kernel_rfl) (fun _ _ _ h => h) (Or.inl ⟨by kernel_rfl, ?_⟩) (by assumption) ?_
  rotate_left
  · (intro w hSw; (go_simp; try with_reducible rfl))
  try simp only [Act.put, List.getElem_toArray, List.getElem_cons_succ, List.getElem_cons_zero, List.setIfInBounds_toArray, List.set_cons_zero, List.set_cons_succ]
  refine wpAnyH_take (i := 19) (v := ?_) rfl (by kernel_rfl) (by kernel_rfl) (by kernel_rfl) (fun _ _ _ h => h) (Or.inl ⟨by kernel_rfl, ?_⟩) (by assumption) ?_
  rotate_left
  · (intro w hSw; (go_simp; try with_reducible rfl))
  try simp only [Act.put, List.getElem_toArray, List.getElem_cons_succ, List.getElem_cons_zero, List.setIfInBounds_toArray, List.set_cons_zero, List.set_cons_succ]
  refine wpAnyH_take (i := 20) (v := ?_) rfl (by kernel_rfl) (by kernel_rfl) (by kernel_rfl) (fun _ _ _ h => h) (Or.inl ⟨by kernel_rfl, ?_⟩) (by assumption) ?_
  rotate_left
  · (intro w hSw; (go_simp; try with_reducible rfl))
  try simp only [Act.put, List.getElem_toArray, List.getElem_cons_succ, List.getElem_cons_zero, List.setIfInBounds_toArray, List.set_cons_zero, List.set_cons_succ]
  refine wpAnyH_take (i := 21) (v := ?_) rfl (by kernel_rfl) (by kernel_rfl) (by kernel_rfl) (fun _ _ _ h => h) (Or.inl ⟨by kernel_rfl, ?_⟩) (by assumption) ?_
  rotate_left
  · (intro w hSw; (go_simp; try with_reducible rfl))
  try simp only [Act.put, List.getElem_toArray, List.getElem_cons_succ, List.getElem_cons_zero, List.setIfInBounds_toArray, List.set_cons_zero, List.set_cons_succ]
  refine wpAnyH_take (i := 22) (v := ?_) rfl (by kernel_rfl) (by kernel_rfl) (by kernel_rfl) (fun _ _ _ h => h) (Or.inl ⟨by kernel_rfl, ?_⟩) (by assumption) ?_
  rotate_left
  · (intro w hSw; (go_simp; try with_reducible rfl))
  try simp only [Act.put, List.getElem_toArray, List.getElem_cons_succ, List.getElem_cons_zero, List.setIfInBounds_toArray, List.set_cons_zero, List.set_cons_succ]
  refine wpAnyH_take (i := 23) (v := ?_) rfl (by kernel_rfl) (by kernel_rfl) (by kernel_rfl) (fun _ _ _ h => h) (Or.inl ⟨by kernel_rfl, ?_⟩) (by assumption) ?_
  rotate_left
  · (intro w hSw; (go_simp; try with_reducible rfl))
  try simp only [Act.put, List.getElem_toArray, List.getElem_cons_succ, List.getElem_cons_zero, List.setIfInBounds_toArray, List.set_cons_zero, List.set_cons_succ]
  refine wpAnyH_take (i := 24) (v := ?_) rfl (by kernel_rfl) (by kernel_rfl) (by kernel_rfl) (fun _ _ _ h => h) (Or.inl ⟨by kernel_rfl, ?_⟩) (by assumption) ?_
  rotate_left
  · (intro w hSw; (go_simp; try with_reducible rfl))
  try simp only [Act.put, List.getElem_toArray, List.getElem_cons_succ, List.getElem_cons_zero, List.setIfInBounds_toArray, List.set_cons_zero, List.set_cons_succ]
  refine wpAnyH_take (i := 25) (v := ?_) rfl (by kernel_rfl) (by kernel_rfl) (by kernel_rfl) (fun _ _ _ h => h) (Or.inl ⟨by kernel_rfl, ?_⟩) (by assumption) ?_
  rotate_left
  · (intro w hSw; (go_simp; try with_reducible rfl))
  try simp only [Act.put, List.getElem_toArray, List.getElem_cons_succ, List.getElem_cons_zero, List.setIfInBounds_toArray, List.set_cons_zero, List.set_cons_succ]
  refine wpAnyH_take (i := 26) (v := ?_) rfl (by kernel_rfl) (by kernel_rfl) (by kernel_rfl) (fun _ _ _ h => h) (Or.inl ⟨by kernel_rfl, ?_⟩) (by assumption) ?_
  rotate_left
  · (intro w hSw; (go_simp; try with_reducible rfl))
  try simp only [Act.put, List.getElem_toArray, List.getElem_cons_succ, List.getElem_cons_zero, List.setIfInBounds_toArray, List.set_cons_zero, List.set_cons_succ]
  refine wpAnyH_take (i := 27) (v := ?_) rfl (by kernel_rfl) (by kernel_rfl) (by kernel_rfl) (fun _ _ _ h => h) (Or.inl ⟨by kernel_rfl, ?_⟩) (by assumption) ?_
  rotate_left
  · (intro w hSw; (go_simp; try with_reducible rfl))
  try simp only [Act.put, List.getElem_toArray, List.getElem_cons_succ, List.getElem_cons_zero, List.setIfInBounds_toArray, List.set_cons_zero, List.set_cons_succ]
  refine wpAnyH_take (i := 30) (v := ?_) rfl (by kernel_rfl) (by kernel_rfl) (by kernel_rfl) (fun _ _ _ h => h) (Or.inl ⟨by kernel_rfl, ?_⟩) (by assumption) ?_
  rotate_left
  · (intro w hSw; (go_simp; try with_reducible rfl))
  try simp only [Act.put, List.getElem_toArray, List.getElem_cons_succ, List.getElem_cons_zero, List.setIfInBounds_toArray, List.set_cons_zero, List.set_cons_succ]
  refine wpAnyH_ready (rs := [28]) (by kernel_rfl) (by simp) (AllReadyH.cons rfl (fun K1 hK1 => ?_) AllReadyH.nil)
  go_simp
  go_at_call 19
  refine PX.out.mono ?_
  rintro e w4 ⟨v4, rfl, h4, b4⟩
  obtain ⟨a4, c4, rfl, r4⟩ := own_rd_any h4
  have S4 : Below w3.heap.size w3 w4 := (below_drew (Below.refl w3.heap.size w3)).trans b4
  have CA := Lib.hid (conv_bytes r4 c4)
  have RA := Lib.hid r4
  obtain ⟨n4, hn4⟩ : ∃ n4, n4 = (putOf l).length := ⟨_, rfl⟩
  rw [← hn4, ← ST.out] at CA
  rw [← hn4]
  have N4 := Lib.hid hn4
  have B4 := Lib.hid (B3.out.trans (S4.mono B3.out.size))
  have RR := rput_any (EV0.out.later B4.out) (row_ok AP.out OK.out) (by rw [RL.out, ← NN.out]; exact hl)
  rw [RL.out, show putU l.length ++ (rowOf l).flatMap entB = putOf l from rfl, show strOf (putOf l) = str from ST.out.symm] at RR
  have RR1 := Lib.hid RR
  have XX := Lib.hid S4
  refine hK1.out _ _ S4 (fun hH => ?_)
  clear hHeld hK1 h4 r4 PX RR hn4 S4
  try simp only [Act.put, List.getElem_toArray, List.getElem_cons_succ, List.getElem_cons_zero, List.setIfInBounds_toArray, List.set_cons_zero, List.set_cons_succ]
  refine wpAnyH_ready (rs := [29, 31]) (by kernel_rfl) (by simp) (AllReadyH.cons rfl (fun K1 hK1 => ?_) (AllReadyH.cons rfl (fun K1 hK1 => ?_) AllReadyH.nil))
  · refine step_convert_if (by kernel_rfl) 49 9 (.tmp 54) rfl (.slice a4 n4 c4) (.string str) rfl CA.out ?_
    refine hK1.out _ _ XX.out (fun hH2 => ?_)
    clear hH hK1
    try simp only [Act.put, List.getElem_toArray, List.getElem_cons_succ, List.getElem_cons_zero, List.setIfInBounds_toArray, List.set_cons_zero, List.set_cons_succ]
    refine wpAnyH_ready (rs := [31]) (by kernel_rfl) (by simp) (AllReadyH.cons rfl (fun K1 hK1 => ?_) AllReadyH.nil)
    go_simp
    go_at_call 24
    refine RR1.out.mono ?_
    rintro e w5 ⟨rfl, b5⟩
    have S5 := XX.out.trans (b5.mono XX.out.size)
    refine hK1.out _ _ S5 (fun hH => ?_)
    clear hH2 hK1
    have B5 := Lib.hid (B4.out.trans (b5.mono B4.out.size))
    have Y5 := Lib.hid (own_later Z5.out S5)
    have Y6 := Lib.hid (own_later Z6.out S5)
    have Y7 := Lib.hid (own_later Z7.out S5)
    have Y8 := Lib.hid (own_later V8.out S5)
    have Y9 := Lib.hid (own_later V9.out S5)
    have X5 := Lib.hid (HX.out.later B5.out)
    have R5 := Lib.hid (ROW.out.later B5.out)
    clear b5
    try simp only [Act.put, List.getElem_toArray, List.getElem_cons_succ, List.getElem_cons_zero, List.setIfInBounds_toArray, List.set_cons_zero, List.set_cons_succ]
    refine wpAnyH_take (i := 32) (v := ?_) rfl (by kernel_rfl) (by kernel_rfl) (by kernel_rfl) (fun _ _ _ h => h) (Or.inl ⟨by kernel_rfl, ?_⟩) (by assumption) ?_
    rotate_left
    · (intro w hSw; (go_simp; try with_reducible rfl))
    try simp only [Act.put, List.getElem_toArray, List.getElem_cons_succ, List.getElem_cons_zero, List.setIfInBounds_toArray, List.set_cons_zero, List.set_cons_succ]
    refine wpAnyH_take (i := 33) (v := ?_) rfl (by kernel_rfl) (by kernel_rfl) (by kernel_rfl) (fun _ _ _ h => h) (Or.inl ⟨by kernel_rfl, ?_⟩) (by assumption) ?_
    rotate_left
    · (intro w hSw; (go_simp; try with_reducible rfl))
    try simp only [Act.put, List.getElem_toArray, List.getElem_cons_succ, List.getElem_cons_zero, List.setIfInBounds_toArray, List.set_cons_zero, List.set_cons_succ]
    refine wpAnyH_done (by kernel_rfl) ?_ _
    clear hH S5 RR1 CA RA Z5 Z6 Z7 V8 V9 B3 B4 XX N4
    go_wp2_with fail
    go_loopg [10] n (fun k s10 wr => ∃ j : Nat, j ≤ n ∧ k = n - j ∧ s10 = .int .i64 j ∧ Below w5.heap.size w5 wr)
    case atStart => exact ⟨0, Nat.zero_le _, rfl, rfl, Below.refl _ _⟩
    case round =>
      obtain ⟨j, hj, hk, rfl, hb⟩ := hrel
      have HK := Lib.hid hk
      have HB := Lib.hid hb
      have j0 : (0 : Int) ≤ (j : Int) := Int.natCast_nonneg _
      clear hk hb
      by_cases hlt : j < n
      · have hlt' : (j : Int) < (n : Int) := by omega
        obtain ⟨e, he⟩ : ∃ e, (rowOf l)[j]? = some e := ⟨(rowOf l)[j]'(by rw [RL.out, ← NN.out]; exact hlt), List.getElem?_eq_getElem _⟩
        obtain ⟨b, off, rfl, hb2, hL⟩ := erow_elem (R5.out.later HB.out) he
        have LE := Lib.hid hL
        have L1 := Lib.hid (e_lies hL).1
        have FI := find_any (X5.out.later HB.out) e.1
        rw [row_get AP.out (List.mem_of_getElem? he)] at FI
        have FI1 := Lib.hid FI
        have HE := Lib.hid he
        clear hL he FI
        go_wp2_with (refine wpList_load_agg rfl 31 (.tmp 71) rfl b (off + j * 65) rfl (encId e.1).toArray _ L1.out Try.underlying31 rfl (sizei e.1.1) ?_)
        refine FI1.out.mono ?_
        rintro q w6 ⟨rfl, b6⟩
        obtain ⟨pl, hpl⟩ : ∃ pl, pl = e.2 := ⟨_, rfl⟩
        have PL := Lib.hid hpl
        have hgd : (some e.2).getD zpl = pl := by rw [hpl]; rfl
        rw [hgd]
        clear hgd hpl
        go_upto_region 10 with (refine wpList_store_new rfl 37 (.tmp 11) (.tmp 74) rfl _ (plcells pl).toArray rfl rfl (sizepl pl) (by simp [plcells_len]) (all_oneCell_toArray (plcells_one pl)) ?_)
        refine wp_named fun w7 hw7 => ?_
        obtain ⟨T, hT⟩ : ∃ T, T = w6.heap.size := ⟨_, rfl⟩
        rw [← hT]
        have e7 : w7.heap[T]? = some (.cells (plcells pl).toArray 37 (0, 0)) := by rw [hw7, hT]; exact heap_at _ _
        have b7 : Below wr.heap.size wr w7 := b6.trans ((show Below w6.heap.size w6 w7 by rw [hw7]; exact below_alloc (Below.refl _ _) _).mono b6.size)
        have cn1 : w7.cell? ⟨T, 32, none⟩ = some (.int .i64 pl.n) := pl_n e7
        have LT := Lib.hid (pl_pack e7)
        have hL7 := LE.out.below b7 hb2
        have M1 := Lib.hid (e_lies hL7).1
        have M2 := Lib.hid (e_lies hL7).2.1
        have cn2 := (e_lies hL7).2.2
        rw [← PL.out] at M2 cn2
        have B7 := Lib.hid (HB.out.trans (b7.mono HB.out.size))
        have y5 := own_later Y5.out B7.out
        have hlr : n = ((rowOf l).map Prod.fst).length := by rw [List.length_map, RL.out, NN.out]
        rw [hlr] at y5
        obtain ⟨g, cap, e5, _, hLg⟩ := ids_elem y5 (j := j) (x := e.1) (by rw [List.getElem?_map, HE.out]; rfl)
        obtain rfl : a5 = some ⟨g, 0, none⟩ := by cases e5; rfl
        have LG := Lib.hid hLg
        have hq1 := eqi32 e.1 e.1
        have hd1 : decide (e.1 = e.1) = true := decide_eq_true rfl
        have hq2 := eqi32 pl.pack pl.pack
        have hd2 : decide (pl.pack = pl.pack) = true := decide_eq_true rfl
        clear hw7 hT e7 b7 b6 hL7 y5 e5 hLg L1 LE FI1 hlr
        refine wp_region_quiet_lit (by kernel_rfl) (by kernel_rfl) ?_
        iterate 3 go_big_quiet_step (fail)
        refine wpQuiet_load (by kernel_rfl) 31 (.tmp 78) rfl g (j * 32) rfl (encId e.1).toArray _ (lies_drewN (LG.out)) Try.underlying31 rfl (sizei e.1.1) ?_
        try simp only [Act.put, List.setIfInBounds_toArray, List.set_cons_zero, List.set_cons_succ]
        iterate 4 go_big_quiet_step (fail)
        refine wpQuiet_load (by kernel_rfl) 31 (.tmp 83) rfl b (off + j * 65) rfl (encId e.1).toArray _ (lies_drewN (M1.out)) Try.underlying31 rfl (sizei e.1.1) ?_
        try simp only [Act.put, List.setIfInBounds_toArray, List.set_cons_zero, List.set_cons_succ]
        iterate 7 go_big_quiet_step (fail)
        refine wpQuiet_load (by kernel_rfl) 31 (.tmp 91) rfl T (0) rfl (encId pl.pack).toArray _ (lies_drewN (LT.out)) Try.underlying31 rfl (sizei pl.pack.1) ?_
        try simp only [Act.put, List.setIfInBounds_toArray, List.set_cons_zero, List.set_cons_succ]
        iterate 4 go_big_quiet_step (fail)
        refine wpQuiet_load (by kernel_rfl) 31 (.tmp 96) rfl b (off + j * 65 + 32) rfl (encId pl.pack).toArray _ (lies_drewN (M2.out)) Try.underlying31 rfl (sizei pl.pack.1) ?_
        try simp only [Act.put, List.setIfInBounds_toArray, List.set_cons_zero, List.set_cons_succ]
        repeat go_big_quiet_step (fail)
        refine wpQuiet_nil ?_
        intro _ hw9
        obtain ⟨nq, hw9⟩ := hw9
        subst hw9
        go_wp2
        go_roundg (n - (j + 1))
        case measure => rw [HK.out]; omega
        case rel => exact ⟨j + 1, by omega, rfl, by go_num, below_drewN B7.out _⟩
      · obtain rfl : j = n := by omega
        have hlt' : ¬ (j : Int) < (j : Int) := by omega
        obtain ⟨wo, hwo⟩ : ∃ wo : World, wo = wr := ⟨_, rfl⟩
        subst hwo
        go_wp2_with fail
        go_loopg [13] m (fun k s13 wr => ∃ f : Nat, f ≤ m ∧ k = m - f ∧ s13 = .int .i64 f ∧ Below w5.heap.size w5 wr)
        case atStart => exact ⟨0, Nat.zero_le _, rfl, rfl, HB.out⟩
        case round =>
          obtain ⟨f, hf, hk3, rfl, hb3⟩ := hrel
          have HK3 := Lib.hid hk3
          have HB3 := Lib.hid hb3
          have f0 : (0 : Int) ≤ (f : Int) := Int.natCast_nonneg _
          clear hk3 hb3
          by_cases hfm : f < m
          · have hfm' : (f : Int) < (m : Int) := by omega
            obtain ⟨p, hp⟩ : ∃ p, (packsOf l)[f]? = some p := ⟨(packsOf l)[f]'(by rw [← MM.out]; exact hfm), List.getElem?_eq_getElem _⟩
            have y6 := own_later Y6.out HB3.out
            have y8 := own_later Y8.out HB3.out
            rw [MM.out] at y6 y8
            obtain ⟨g, cap, e5, _, hL6⟩ := ids_elem y6 hp
            obtain rfl : a6 = some ⟨g, 0, none⟩ := by cases e5; rfl
            obtain ⟨g2, cap2, e52, _, hL8⟩ := ids_elem y8 hp
            obtain rfl : a8 = some ⟨g2, 0, none⟩ := by cases e52; rfl
            obtain ⟨cn, hcn⟩ : ∃ cn : Int, cn = (cntOf p l : Int) := ⟨_, rfl⟩
            obtain ⟨g3, rfl, _, hc7⟩ := own_at (own_later Y7.out HB3.out) (k := f) (u := .int .i64 cn) (by rw [List.getElem?_map, hp, hcn]; rfl)
            obtain ⟨g4, rfl, _, hc9⟩ := own_at (own_later Y9.out HB3.out) (k := f) (u := .int .i64 cn) (by
              rw [cnts_row AP.out]
              have := flat_at i1_len (l := (packsOf l).map fun k => (cntOf k l : Int)) (j := f) (x := cn) (i := 0) (u := .int .i64 cn) (by rw [List.getElem?_map, hp, hcn]; rfl) rfl
              simpa using this)
            have L6 := Lib.hid hL6
            have L8 := Lib.hid hL8
            have hq1 := eqi32 p p
            have hd1 : decide (p = p) = true := decide_eq_true rfl
            clear y6 y8 e5 e52 hL6 hL8 hp hcn
            go_upto_region 15 with fail
            refine wp_region_quiet_lit (by kernel_rfl) (by kernel_rfl) ?_
            iterate 3 go_big_quiet_step (fail)
            refine wpQuiet_load (by kernel_rfl) 31 (.tmp 118) rfl g (f * 32) rfl (encId p).toArray _ (lies_drewN (L6.out)) Try.underlying31 rfl (sizei p.1) ?_
            try simp only [Act.put, List.setIfInBounds_toArray, List.set_cons_zero, List.set_cons_succ]
            iterate 3 go_big_quiet_step (fail)
            refine wpQuiet_load (by kernel_rfl) 31 (.tmp 122) rfl g2 (f * 32) rfl (encId p).toArray _ (lies_drewN (L8.out)) Try.underlying31 rfl (sizei p.1) ?_
            try simp only [Act.put, List.setIfInBounds_toArray, List.set_cons_zero, List.set_cons_succ]
            repeat go_big_quiet_step (fail)
            refine wpQuiet_nil ?_
            intro _ hw9
            obtain ⟨nq, hw9⟩ := hw9
            subst hw9
            go_wp2
            go_roundg (m - (f + 1))
            case measure => rw [HK3.out]; omega
            case rel => exact ⟨f + 1, by omega, rfl, by go_num, below_drewN HB3.out _⟩
          · obtain rfl : f = m := by omega
            have hfm' : ¬ (f : Int) < (f : Int) := by omega
            go_wp2
            go_ret
            exact ⟨rfl, B5.out.trans (HB3.out.mono B5.out.size)⟩
  · go_simp
    go_at_call 24
    refine RR1.out.mono ?_
    rintro e w5 ⟨rfl, b5⟩
    have S5 := XX.out.trans (b5.mono XX.out.size)
    have CA5 : Hid ((convert 49 9 (.slice a4 n4 c4)).run Try.prog w5 = .ok (.string str) w5) := Lib.hid (by
      have := conv_bytes (RA.out.later b5) c4
      rw [← N4.out, ← ST.out] at this
      exact this)
    refine hK1.out _ _ S5 (fun hH2 => ?_)
    clear hH hK1
    try simp only [Act.put, List.getElem_toArray, List.getElem_cons_succ, List.getElem_cons_zero, List.setIfInBounds_toArray, List.set_cons_zero, List.set_cons_succ]
    refine wpAnyH_ready (rs := [29]) (by kernel_rfl) (by simp) (AllReadyH.cons rfl (fun K1 hK1 => ?_) AllReadyH.nil)
    refine step_convert_if (by kernel_rfl) 49 9 (.tmp 54) rfl (.slice a4 n4 c4) (.string str) rfl CA5.out ?_
    refine hK1.out _ _ S5 (fun hH => ?_)
    clear hH2 hK1
    have B5 := Lib.hid (B4.out.trans (b5.mono B4.out.size))
    have Y5 := Lib.hid (own_later Z5.out S5)
    have Y6 := Lib.hid (own_later Z6.out S5)
    have Y7 := Lib.hid (own_later Z7.out S5)
    have Y8 := Lib.hid (own_later V8.out S5)
    have Y9 := Lib.hid (own_later V9.out S5)
    have X5 := Lib.hid (HX.out.later B5.out)
    have R5 := Lib.hid (ROW.out.later B5.out)
    clear b5
    try simp only [Act.put, List.getElem_toArray, List.getElem_cons_succ, List.getElem_cons_zero, List.setIfInBounds_toArray, List.set_cons_zero, List.set_cons_succ]
    refine wpAnyH_take (i := 32) (v := ?_) rfl (by kernel_rfl) (by kernel_rfl) (by kernel_rfl) (fun _ _ _ h => h) (Or.inl ⟨by kernel_rfl, ?_⟩) (by assumption) ?_
    rotate_left
    · (intro w hSw; (go_simp; try with_reducible rfl))
    try simp only [Act.put, List.getElem_toArray, List.getElem_cons_succ, List.getElem_cons_zero, List.setIfInBounds_toArray, List.set_cons_zero, List.set_cons_succ]
    refine wpAnyH_take (i := 33) (v := ?_) rfl (by kernel_rfl) (by kernel_rfl) (by kernel_rfl) (fun _ _ _ h => h) (Or.inl ⟨by kernel_rfl, ?_⟩) (by assumption) ?_
    rotate_left
    · (intro w hSw; (go_simp; try with_reducible rfl))
    try simp only [Act.put, List.getElem_toArray, List.getElem_cons_succ, List.getElem_cons_zero, List.setIfInBounds_toArray, List.set_cons_zero, List.set_cons_succ]
    refine wpAnyH_done (by kernel_rfl) ?_ _
    clear hH S5 RR1 CA RA Z5 Z6 Z7 V8 V9 B3 B4 XX N4
    go_wp2_with fail
    go_loopg [10] n (fun k s10 wr => ∃ j : Nat, j ≤ n ∧ k = n - j ∧ s10 = .int .i64 j ∧ Below w5.heap.size w5 wr)
    case atStart => exact ⟨0, Nat.zero_le _, rfl, rfl, Below.refl _ _⟩
    case round =>
      obtain ⟨j, hj, hk, rfl, hb⟩ := hrel
      have HK := Lib.hid hk
      have HB := Lib.hid hb
      have j0 : (0 : Int) ≤ (j : Int) := Int.natCast_nonneg _
      clear hk hb
      by_cases hlt : j < n
      · have hlt' : (j : Int) < (n : Int) := by omega
        obtain ⟨e, he⟩ : ∃ e, (rowOf l)[j]? = some e := ⟨(rowOf l)[j]'(by rw [RL.out, ← NN.out]; exact hlt), List.getElem?_eq_getElem _⟩
        obtain ⟨b, off, rfl, hb2, hL⟩ := erow_elem (R5.out.later HB.out) he
        have LE := Lib.hid hL
        have L1 := Lib.hid (e_lies hL).1
        have FI := find_any (X5.out.later HB.out) e.1
        rw [row_get AP.out (List.mem_of_getElem? he)] at FI
        have FI1 := Lib.hid FI
        have HE := Lib.hid he
        clear hL he FI
        go_wp2_with (refine wpList_load_agg rfl 31 (.tmp 71) rfl b (off + j * 65) rfl (encId e.1).toArray _ L1.out Try.underlying31 rfl (sizei e.1.1) ?_)
        refine FI1.out.mono ?_
        rintro q w6 ⟨rfl, b6⟩
        obtain ⟨pl, hpl⟩ : ∃ pl, pl = e.2 := ⟨_, rfl⟩
        have PL := Lib.hid hpl
        have hgd : (some e.2).getD zpl = pl := by rw [hpl]; rfl
        rw [hgd]
        clear hgd hpl
        go_upto_region 10 with (refine wpList_store_new rfl 37 (.tmp 11) (.tmp 74) rfl _ (plcells pl).toArray rfl rfl (sizepl pl) (by simp [plcells_len]) (all_oneCell_toArray (plcells_one pl)) ?_)
        refine wp_named fun w7 hw7 => ?_
        obtain ⟨T, hT⟩ : ∃ T, T = w6.heap.size := ⟨_, rfl⟩
        rw [← hT]
        have e7 : w7.heap[T]? = some (.cells (plcells pl).toArray 37 (0, 0)) := by rw [hw7, hT]; exact heap_at _ _
        have b7 : Below wr.heap.size wr w7 := b6.trans ((show Below w6.heap.size w6 w7 by rw [hw7]; exact below_alloc (Below.refl _ _) _).mono b6.size)
        have cn1 : w7.cell? ⟨T, 32, none⟩ = some (.int .i64 pl.n) := pl_n e7
        have LT := Lib.hid (pl_pack e7)
        have hL7 := LE.out.below b7 hb2
        have M1 := Lib.hid (e_lies hL7).1
        have M2 := Lib.hid (e_lies hL7).2.1
        have cn2 := (e_lies hL7).2.2
        rw [← PL.out] at M2 cn2
        have B7 := Lib.hid (HB.out.trans (b7.mono HB.out.size))
        have y5 := own_later Y5.out B7.out
        have hlr : n = ((rowOf l).map Prod.fst).length := by rw [List.length_map, RL.out, NN.out]
        rw [hlr] at y5
        obtain ⟨g, cap, e5, _, hLg⟩ := ids_elem y5 (j := j) (x := e.1) (by rw [List.getElem?_map, HE.out]; rfl)
        obtain rfl : a5 = some ⟨g, 0, none⟩ := by cases e5; rfl
        have LG := Lib.hid hLg
        have hq1 := eqi32 e.1 e.1
        have hd1 : decide (e.1 = e.1) = true := decide_eq_true rfl
        have hq2 := eqi32 pl.pack pl.pack
        have hd2 : decide (pl.pack = pl.pack) = true := decide_eq_true rfl
        clear hw7 hT e7 b7 b6 hL7 y5 e5 hLg L1 LE FI1 hlr
        refine wp_region_quiet_lit (by kernel_rfl) (by kernel_rfl) ?_
        iterate 3 go_big_quiet_step (fail)
        refine wpQuiet_load (by kernel_rfl) 31 (.tmp 78) rfl g (j * 32) rfl (encId e.1).toArray _ (lies_drewN (LG.out)) Try.underlying31 rfl (sizei e.1.1) ?_
        try simp only [Act.put, List.setIfInBounds_toArray, List.set_cons_zero, List.set_cons_succ]
        iterate 4 go_big_quiet_step (fail)
        refine wpQuiet_load (by kernel_rfl) 31 (.tmp 83) rfl b (off + j * 65) rfl (encId e.1).toArray _ (lies_drewN (M1.out)) Try.underlying31 rfl (sizei e.1.1) ?_
        try simp only [Act.put, List.setIfInBounds_toArray, List.set_cons_zero, List.set_cons_succ]
        iterate 7 go_big_quiet_step (fail)
        refine wpQuiet_load (by kernel_rfl) 31 (.tmp 91) rfl T (0) rfl (encId pl.pack).toArray _ (lies_drewN (LT.out)) Try.underlying31 rfl (sizei pl.pack.1) ?_
        try simp only [Act.put, List.setIfInBounds_toArray, List.set_cons_zero, List.set_cons_succ]
        iterate 4 go_big_quiet_step (fail)
        refine wpQuiet_load (by kernel_rfl) 31 (.tmp 96) rfl b (off + j * 65 + 32) rfl (encId pl.pack).toArray _ (lies_drewN (M2.out)) Try.underlying31 rfl (sizei pl.pack.1) ?_
        try simp only [Act.put, List.setIfInBounds_toArray, List.set_cons_zero, List.set_cons_succ]
        repeat go_big_quiet_step (fail)
        refine wpQuiet_nil ?_
        intro _ hw9
        obtain ⟨nq, hw9⟩ := hw9
        subst hw9
        go_wp2
        go_roundg (n - (j + 1))
        case measure => rw [HK.out]; omega
        case rel => exact ⟨j + 1, by omega, rfl, by go_num, below_drewN B7.out _⟩
      · obtain rfl : j = n := by omega
        have hlt' : ¬ (j : Int) < (j : Int) := by omega
        obtain ⟨wo, hwo⟩ : ∃ wo : World, wo = wr := ⟨_, rfl⟩
        subst hwo
        go_wp2_with fail
        go_loopg [13] m (fun k s13 wr => ∃ f : Nat, f ≤ m ∧ k = m - f ∧ s13 = .int .i64 f ∧ Below w5.heap.size w5 wr)
        case atStart => exact ⟨0, Nat.zero_le _, rfl, rfl, HB.out⟩
        case round =>
          obtain ⟨f, hf, hk3, rfl, hb3⟩ := hrel
          have HK3 := Lib.hid hk3
          have HB3 := Lib.hid hb3
          have f0 : (0 : Int) ≤ (f : Int) := Int.natCast_nonneg _
          clear hk3 hb3
          by_cases hfm : f < m
          · have hfm' : (f : Int) < (m : Int) := by omega
            obtain ⟨p, hp⟩ : ∃ p, (packsOf l)[f]? = some p := ⟨(packsOf l)[f]'(by rw [← MM.out]; exact hfm), List.getElem?_eq_getElem _⟩
            have y6 := own_later Y6.out HB3.out
            have y8 := own_later Y8.out HB3.out
            rw [MM.out] at y6 y8
            obtain ⟨g, cap, e5, _, hL6⟩ := ids_elem y6 hp
            obtain rfl : a6 = some ⟨g, 0, none⟩ := by cases e5; rfl
            obtain ⟨g2, cap2, e52, _, hL8⟩ := ids_elem y8 hp
            obtain rfl : a8 = some ⟨g2, 0, none⟩ := by cases e52; rfl
            obtain ⟨cn, hcn⟩ : ∃ cn : Int, cn = (cntOf p l : Int) := ⟨_, rfl⟩
            obtain ⟨g3, rfl, _, hc7⟩ := own_at (own_later Y7.out HB3.out) (k := f) (u := .int .i64 cn) (by rw [List.getElem?_map, hp, hcn]; rfl)
            obtain ⟨g4, rfl, _, hc9⟩ := own_at (own_later Y9.out HB3.out) (k := f) (u := .int .i64 cn) (by
              rw [cnts_row AP.out]
              have := flat_at i1_len (l := (packsOf l).map fun k => (cntOf k l : Int)) (j := f) (x := cn) (i := 0) (u := .int .i64 cn) (by rw [List.getElem?_map, hp, hcn]; rfl) rfl
              simpa using this)
            have L6 := Lib.hid hL6
            have L8 := Lib.hid hL8
            have hq1 := eqi32 p p
            have hd1 : decide (p = p) = true := decide_eq_true rfl
            clear y6 y8 e5 e52 hL6 hL8 hp hcn
            go_upto_region 15 with fail
            refine wp_region_quiet_lit (by kernel_rfl) (by kernel_rfl) ?_
            iterate 3 go_big_quiet_step (fail)
            refine wpQuiet_load (by kernel_rfl) 31 (.tmp 118) rfl g (f * 32) rfl (encId p).toArray _ (lies_drewN (L6.out)) Try.underlying31 rfl (sizei p.1) ?_
            try simp only [Act.put, List.setIfInBounds_toArray, List.set_cons_zero, List.set_cons_succ]
            iterate 3 go_big_quiet_step (fail)
            refine wpQuiet_load (by kernel_rfl) 31 (.tmp 122) rfl g2 (f * 32) rfl (encId p).toArray _ (lies_drewN (L8.out)) Try.underlying31 rfl (sizei p.1) ?_
            try simp only [Act.put, List.setIfInBounds_toArray, List.set_cons_zero, List.set_cons_succ]
            repeat go_big_quiet_step (fail)
            refine wpQuiet_nil ?_
            intro _ hw9
            obtain ⟨nq, hw9⟩ := hw9
            subst hw9
            go_wp2
            go_roundg (m - (f + 1))
            case measure => rw [HK3.out]; omega
            case rel => exact ⟨f + 1, by omega, rfl, by go_num, below_drewN HB3.out _⟩
          · obtain rfl : f = m := by omega
            have hfm' : ¬ (f : Int) < (f : Int) := by omega
            go_wp2
            go_ret
            exact ⟨rfl, B5.out.trans (HB3.out.mono B5.out.size)⟩
end Go.Proofs.Ytgbghjpkdbjdgaa
