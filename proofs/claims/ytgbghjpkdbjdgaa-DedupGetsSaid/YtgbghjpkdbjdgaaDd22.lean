/- One that is none has nothing; ids that came in. -/
import Derived.Test.YtgbghjpkdbjdgaaDd21
import Derived.Test.YtgbghjpkdbjdgaaSized
namespace Go.Proofs.Ytgbghjpkdbjdgaa
open Go.RowKit Go.ChangeShapes Go.WideShapes
open Extern.Stop (cell)

set_option maxHeartbeats 1000000 in
theorem add_none (w : World) (i : Id32) (p : Pl) : Calls Try.prog 13 #[.pointer none, keyI i, plv p] w fun e w' => e = .returned (.bool false) ∧ Below w.heap.size w w' := by
  go_enter Try.func13, Try.ntmps13
  go_wp2
  go_ret
  exact ⟨rfl, below_alloc (below_alloc (Below.refl _ _) _) _⟩
theorem drop_none (w : World) (i : Id32) : Calls Try.prog 10 #[.pointer none, keyI i] w fun e w' => e = .returned (.int .i64 0) ∧ Below w.heap.size w w' := by
  go_enter Try.func10, Try.ntmps10
  go_wp2
  go_ret
  exact ⟨rfl, below_alloc (Below.refl _ _) _⟩
set_option maxRecDepth 100000 in
set_option maxHeartbeats 1000000 in
theorem find_none (w : World) (i : Id32) : Calls Try.prog 15 #[.pointer none, keyI i] w fun e w' => e = .returned (.tuple #[plv zpl, .bool false]) ∧ Below w.heap.size w w' := by
  go_enter Try.func15, Try.ntmps15
  go_upto_region 2 with fail
  refine wp_named fun W hW => ?_
  have e2 : ∃ C, C.size = 33 ∧ W.heap[w.heap.size + 1]? = some (.cells C 37 (0, 0)) := by
    rw [hW]
    refine ⟨_, ?_, heap_two w _ _⟩
    rfl
  obtain ⟨C, hC, e2⟩ := e2
  have b0 : Below w.heap.size w W := by rw [hW]; exact below_alloc (below_alloc (Below.refl _ _) _) _
  have E2 := Lib.hid e2
  have B0 := Lib.hid b0
  have TH := Lib.hid (there_block (w := W) e2 (i := 0) (n := 33) (by rw [hC]; exact Nat.le_refl _))
  have HC := Lib.hid hC
  obtain ⟨I, hI⟩ : ∃ I, I = w.heap.size + 1 := ⟨_, rfl⟩
  rw [← hI] at E2 TH ⊢
  have II := Lib.hid hI
  clear hW e2 b0 hC hI
  go_wp2_with (first | (refine wpList_build_eq rfl 37 #[] rfl (plcells zpl).toArray (by simpa [Act.eval] using built_zpl) ?_) | (refine wpList_store_mid rfl 37 (.tmp 4) (.tmp 10) rfl I 0 (plcells zpl).toArray rfl rfl (by simpa [plcells_len] using TH.out) (sizepl zpl) (all_oneCell_toArray (plcells_one zpl)) ?_))
  have hsz : (plcells zpl).toArray.size = C.size := by rw [HC.out]; simp [plcells_len]
  have k3 := heap_setCells_whole (w := W) (D := (plcells zpl).toArray) E2.out hsz
  have g3 := grown_setCells (w := W) (vs := (plcells zpl).toArray.toList) (i := 0) E2.out (by rw [HC.out]; simp [plcells_len])
  refine bodyPost_ret (results2_mid rfl _ I (plcells zpl).toArray _ rfl (lies_block k3) Try.underlying37 rfl (sizepl zpl)) rfl ⟨rfl, B0.out.grown g3 B0.out.size (fun k hk => by cases hk; rw [II.out]; exact Nat.le_succ _)⟩
theorem ids_none (w : World) : Calls Try.prog 22 #[.pointer none] w fun e w' => e = .returned (.slice none 0 0) ∧ w' = w := by
  go_enter Try.func22, Try.ntmps22
  go_wp2
  go_ret
  exact ⟨rfl, rfl⟩
theorem put_none (w : World) : Calls Try.prog 19 #[.pointer none] w fun e w' => e = .returned (.slice none 0 0) ∧ w' = w := by
  go_enter Try.func19, Try.ntmps19
  go_wp2
  go_ret
  exact ⟨rfl, rfl⟩
set_option maxHeartbeats 1000000 in
theorem packs_none (w : World) : Calls Try.prog 21 #[.pointer none] w fun e w' => e = .returned (.tuple #[.slice none 0 0, .slice none 0 0]) ∧ w' = w := by
  go_enter Try.func21, Try.ntmps21
  go_wp2
  go_ret2
  exact ⟨rfl, rfl⟩

/-! ### what came in -/
section
variable {P : Program} {w : World} {e t : TypeId} {cs : List Value}
theorem rz_id {w : World} {cs : List Value} (h : RZ Try.prog w 31 cs) : ∃ x : Id32, cs = encId x ∧ True := by
  obtain ⟨hl, hi⟩ := h.array Try.underlying31
  rw [cells_id] at hl
  rw [cells_u8] at hi
  obtain ⟨x, hx, hx2⟩ := list_of (Q := fun i (b : UInt8) => (cs.drop (i * 1)).take 1 = [cell b]) 32 (fun i hi' => by
    obtain ⟨z, h1, h2⟩ := (hi i hi').int Try.underlying5
    have hz : 0 ≤ z ∧ z ≤ 255 := by simpa [Lit.wf, IntKind.min, IntKind.max, IntKind.signed, IntKind.bits] using h2
    have e : (((UInt8.ofNat z.toNat).toNat : Nat) : Int) = z := by
      simp only [UInt8.toNat_ofNat']
      omega
    refine ⟨UInt8.ofNat z.toNat, ?_⟩
    rw [h1]
    show [Value.int .u8 z] = [Value.int .u8 (((UInt8.ofNat z.toNat).toNat : Nat) : Int)]
    rw [e])
  refine ⟨⟨x, hx⟩, ?_, trivial⟩
  rw [encId, idCells_of hx]
  apply List.ext_getElem?
  intro i
  by_cases hi' : i < 32
  · have hxi : x[i]? = some (x[i]'(by omega)) := List.getElem?_eq_getElem _
    have h1 := hx2 i _ hxi
    have h2 : cs[i]? = some (cell (x[i]'(by omega))) := by
      have := congrArg (fun l => l[0]?) h1
      simpa using this
    rw [h2, List.getElem?_map, hxi]
    rfl
  · rw [List.getElem?_eq_none (by omega), List.getElem?_eq_none (by simp; omega)]
end
end Go.Proofs.Ytgbghjpkdbjdgaa
