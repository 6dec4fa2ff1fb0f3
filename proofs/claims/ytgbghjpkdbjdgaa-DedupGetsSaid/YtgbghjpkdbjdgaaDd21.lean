/- The example runs as told. -/
import Derived.Test.YtgbghjpkdbjdgaaDd20
namespace Go.Proofs.Ytgbghjpkdbjdgaa
open Go.RowKit
open Extern.Stop (cell)

/-- An id of one byte. -/
def idb (k : UInt8) : Id32 := ⟨k :: List.replicate 31 0, rfl⟩
abbrev awl (i1 i2 : Id32) : List (Id32 × Pl) := [(i1, ⟨i2, 3⟩)]
section
variable (i1 i2 : Id32)
theorem aw_yes : addB [] i1 ⟨i2, 3⟩ = true := by simp [addB, aget]
theorem aw_add : addL [] i1 ⟨i2, 3⟩ = awl i1 i2 := by
  unfold addL
  rw [aw_yes]
  rfl
theorem aw_get : aget (awl i1 i2) i1 = some ⟨i2, 3⟩ := by simp [aget]
theorem aw_no : addB (awl i1 i2) i1 zpl = false := by
  unfold addB
  rw [aw_get]
  simp
theorem aw_same : addL (awl i1 i2) i1 zpl = awl i1 i2 := by
  unfold addL
  rw [aw_no]
  rfl
theorem aw_apart : Apart (awl i1 i2) := by simp [Apart]
theorem aw_ok : PlsOk (awl i1 i2) := by
  intro e he
  simp only [List.mem_singleton] at he
  subst he
  exact ⟨by show (0 : Int) ≤ 3; decide, by show (3 : Int) ≤ 1023; decide⟩
theorem aw_row : rowOf (awl i1 i2) = awl i1 i2 := row_rise (List.pairwise_singleton _ _)
theorem aw_packs : packsOf (awl i1 i2) = [i2] := by
  unfold packsOf
  have : (cm (awl i1 i2)).map Prod.fst = [i2] := by simp [cm, cmIn, aput]
  rw [this]
  exact List.mergeSort_singleton _
theorem aw_cnt : cntOf i2 (awl i1 i2) = 1 := by simp [cntOf]
theorem aw_drop : (awl i1 i2).filter (fun e => !decide (e.2.pack = i2)) = [] := by simp
end
theorem putOf_len {l : List (Id32 × Pl)} (h : Apart l) (ho : PlsOk l) (hl : l.length ≤ 10000) : (putOf l).length ≤ 1000000 := by
  have h1 := ents_len (row_ok h ho)
  have h2 := putU_len 9 l.length (by omega)
  rw [row_len] at h1
  unfold putOf
  rw [List.length_append]
  omega
theorem built_idb1 : Try.prog.built 31 [(0, .int .u8 1)] = some (encId (idb 1)).toArray := by kernel_rfl
theorem built_idb2 : Try.prog.built 31 [(0, .int .u8 2)] = some (encId (idb 2)).toArray := by kernel_rfl
theorem built_zpl : Try.prog.built 37 [] = some (plcells zpl).toArray := by kernel_rfl
set_option linter.unusedSimpArgs false in
set_option maxRecDepth 100000 in
set_option maxHeartbeats 8000000 in
theorem awake_at (i1 i2 : Id32) (built_idb1 : Try.prog.built 31 [(0, .int .u8 1)] = some (encId i1).toArray) (built_idb2 : Try.prog.built 31 [(0, .int .u8 2)] = some (encId i2).toArray) (w : World) : Calls Try.prog 8 #[] w fun e w' => e = .returned (.bool true) ∧ Below w.heap.size w w' := by
  have built_idb1 := Lib.hid built_idb1
  have built_idb2 := Lib.hid built_idb2
  go_enter Try.func8, Try.ntmps8
  go_wp2_with fail
  refine (new_any _).mono ?_
  rintro e w1 ⟨x, M, rfl, x1, hx1, hM1, b1⟩
  have X1 := Lib.hid x1
  have B1 := Lib.hid b1
  clear x1 b1
  have A1 := Lib.hid (add_any X1.out i1 ⟨i2, 3⟩)
  rw [aw_yes, aw_add] at A1
  go_wp2_with (first | (refine wpList_build_eq rfl 31 #[(0, .const (.int .u8 1))] rfl (encId i1).toArray (by simpa [Act.eval] using built_idb1.out) ?_) | (refine wpList_build_eq rfl 31 #[(0, .const (.int .u8 2))] rfl (encId i2).toArray (by simpa [Act.eval] using built_idb2.out) ?_) | (refine wpList_build_eq rfl 37 #[(0, .tmp 11), (1, .const (.int .i64 3))] rfl (plcells ⟨i2, 3⟩).toArray (by simp only [List.map_toArray, List.map_cons, List.map_nil]; exact built_pl i2 3) ?_))
  refine A1.out.mono ?_
  rintro e w2 ⟨rfl, x2, g2⟩
  have X2 := Lib.hid x2
  have B2 := Lib.hid (B1.out.trans (below_grown g2 B1.out.size hM1))
  clear x2 g2 A1 X1 B1
  have A2 := Lib.hid (add_any X2.out i1 zpl)
  rw [aw_no, aw_same] at A2
  go_wp2_with (first | (refine wpList_build_if (by kernel_rfl) 31 #[(0, .const (.int .u8 1))] rfl (encId i1).toArray (by simpa [Act.eval] using built_idb1.out) ?_) | (refine wpList_build_if (by kernel_rfl) 37 #[] rfl (plcells zpl).toArray (by simpa [Act.eval] using built_zpl) ?_))
  refine A2.out.mono ?_
  rintro e w3 ⟨rfl, x3, g3⟩
  have X3 := Lib.hid x3
  have B3 := Lib.hid (B2.out.trans (below_grown g3 B2.out.size hM1))
  clear x3 g3 A2 X2 B2
  have FI := Lib.hid (find_any X3.out i1)
  rw [aw_get] at FI
  go_wp2_with (refine wpList_build_eq rfl 31 #[(0, .const (.int .u8 1))] rfl (encId i1).toArray (by simpa [Act.eval] using built_idb1.out) ?_)
  refine FI.out.mono ?_
  rintro e w4 ⟨rfl, b4⟩
  have X4 := Lib.hid (X3.out.later b4)
  have B4 := Lib.hid (B3.out.trans (b4.mono B3.out.size))
  clear b4 FI X3 B3
  go_upto_region 5 with (refine wpList_store_new rfl 37 (.tmp 2) (.tmp 25) rfl _ (plcells ⟨i2, 3⟩).toArray rfl rfl (sizepl ⟨i2, 3⟩) (by simp [plcells_len]) (all_oneCell_toArray (plcells_one ⟨i2, 3⟩)) ?_)
  obtain ⟨T, hT⟩ : ∃ T, T = w4.heap.size := ⟨_, rfl⟩
  rw [← hT]
  refine wp_named fun w5 hw5 => ?_
  have e5 : w5.heap[T]? = some (.cells (plcells ⟨i2, 3⟩).toArray 37 (0, 0)) := by rw [hw5, hT]; exact heap_at _ _
  have b5 : Below w4.heap.size w4 w5 := by rw [hw5]; exact below_alloc (Below.refl _ _) _
  have E5 := Lib.hid e5
  have X5 := Lib.hid (X4.out.later b5)
  have B5 := Lib.hid (B4.out.trans (b5.mono B4.out.size))
  clear hw5 hT e5 b5 X4 B4
  have PU := Lib.hid (put_any X5.out (aw_ok i1 i2) (by simp))
  go_wp2_with fail
  refine PU.out.mono ?_
  rintro e w6 ⟨v, rfl, h6, b6⟩
  obtain ⟨va, vc, rfl, hrd⟩ := own_rd_any h6
  have X6 := Lib.hid (X5.out.later b6)
  have B6 := Lib.hid (B5.out.trans (b6.mono B5.out.size))
  have E6 := Lib.hid (aRegionKept E5.out b6)
  obtain ⟨ge, gm⟩ := get_put (aw_apart i1 i2) (aw_ok i1 i2) (by simp)
  have GT0 := get_any (c := vc) hrd (putOf_len (aw_apart i1 i2) (aw_ok i1 i2) (by simp))
  rw [ge, gm, aw_row] at GT0
  have GT := Lib.hid GT0
  clear h6 hrd b6 PU X5 B5 E5 ge gm GT0
  go_wp2_with fail
  refine GT.out.mono ?_
  rintro e w7 ⟨hc, b7⟩
  obtain ⟨hne, _⟩ | ⟨_, y, N, rfl, y7, _, _⟩ := hc
  · exact absurd rfl hne
  have X7 := Lib.hid (X6.out.later b7)
  have B7 := Lib.hid (B6.out.trans (b7.mono B6.out.size))
  have E7 := Lib.hid (aRegionKept E6.out b7)
  have PK := packs_any y7 (by simp)
  rw [aw_packs] at PK
  have PK1 := Lib.hid PK
  clear b7 GT X6 B6 E6 y7 PK
  go_wp2_with fail
  refine PK1.out.mono ?_
  rintro e w8 ⟨v8, u8, rfl, hv8, hu8, b8⟩
  have X8 := Lib.hid (X7.out.later b8)
  have B8 := Lib.hid (B7.out.trans (b8.mono B7.out.size))
  have E8 := Lib.hid (aRegionKept E7.out b8)
  have cn : w8.cell? ⟨T, 32, none⟩ = some (.int .i64 3) := pl_n E8.out
  obtain ⟨g, cap, rfl, hg, hL⟩ := ids_elem hv8 (j := 0) (x := i2) rfl
  obtain ⟨ua, uc, rfl⟩ := own_slice hu8
  obtain ⟨g2, rfl, hg2, hc2⟩ := own_at hu8 (k := 0) (u := .int .i64 1) (by
    rw [← show cntv (cntOf i2 (awl i1 i2)) = .int .i64 1 by rw [aw_cnt]; rfl]
    rfl)
  have LI := Lib.hid hL
  have hq : ∀ w, (Op.equalIn 10000 31 (keyI i2) (keyI i2)).run Try.prog w = .ok true w := fun w => (eqi32 i2 i2 w).trans (by rw [decide_eq_true rfl])
  have DA := Lib.hid (drop_any X8.out (by simp) i2)
  rw [aw_cnt, aw_drop] at DA
  clear hv8 hu8 b8 PK1 X7 B7 E7 hL
  go_wp2_with (first | (refine wpList_load_if (by kernel_rfl) 31 (.tmp 55) rfl g 0 rfl (encId i2).toArray _ LI.out Try.underlying31 rfl (sizei i2.1) ?_) | (refine wpList_build_if (by kernel_rfl) 31 #[(0, .const (.int .u8 2))] rfl (encId i2).toArray (by simpa [Act.eval] using built_idb2.out) ?_))
  refine DA.out.mono ?_
  rintro e w9 ⟨rfl, x9, g9⟩
  have X9 := Lib.hid x9
  have B9 := Lib.hid (B8.out.trans (below_grown g9 B8.out.size hM1))
  clear x9 g9 DA X8 B8
  have IA := Lib.hid (ids_any X9.out (by decide))
  go_wp2_with fail
  refine IA.out.mono ?_
  rintro e w10 ⟨v10, rfl, h10, b10⟩
  have B10 := Lib.hid (B9.out.trans (b10.mono B9.out.size))
  obtain ⟨xa, xc, rfl⟩ := own_slice h10
  have l0 : (sortIds (([] : List (Id32 × Pl)).map Prod.fst)).length = 0 := by rw [sortIds_len]; rfl
  rw [l0] at *
  clear h10 b10 IA X9 B9
  go_wp2
  go_ret
  exact ⟨rfl, B10.out⟩
theorem awake_any (w : World) : Calls Try.prog 8 #[] w fun e w' => e = .returned (.bool true) ∧ Below w.heap.size w w' := awake_at (idb 1) (idb 2) built_idb1 built_idb2 w
end Go.Proofs.Ytgbghjpkdbjdgaa
