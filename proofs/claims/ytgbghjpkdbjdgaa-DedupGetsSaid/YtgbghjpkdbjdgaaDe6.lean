/- The law's id: one out of few. -/
import Derived.Test.YtgbghjpkdbjdgaaDp3
namespace Go.Proofs.Ytgbghjpkdbjdgaa
open Go.RowKit
open Extern.Stop (cell)

/-- An id of a byte. -/
def idz (z : Nat) : Id32 := ⟨(List.replicate 32 0).set (z % 4) (UInt8.ofNat (z / 4 % 8)), by simp⟩
theorem enc_set (i : Nat) (b : UInt8) : (encId zid).toArray.setIfInBounds i (cell b) = (encId ⟨(List.replicate 32 0).set i b, by simp⟩).toArray := by
  rw [List.setIfInBounds_toArray]
  congr 1
  unfold encId
  rw [idCells_of zid.2, idCells_of (by simp), List.map_set]
  rfl
theorem and_low {z k : Nat} (hz : z < 256) (b : Nat) (hb : b < 256) (h : z &&& b = k) : bits .and .u8 (z : Int) (b : Int) = (k : Int) := by
  rw [u8_and_nat z b hz hb, h]
set_option linter.unusedSimpArgs false in
set_option maxRecDepth 100000 in
set_option maxHeartbeats 4000000 in
theorem id_any (w : World) (z : Nat) (hz : z < 256) :
    Calls Try.prog 11 #[.int .u8 (z : Int)] w fun e w' => e = .returned (keyI (idz z)) ∧ Below w.heap.size w w' := by
  obtain ⟨zi, hzi⟩ : ∃ zi : Int, zi = (z : Int) := ⟨_, rfl⟩
  obtain ⟨q, hq⟩ : ∃ q, q = z % 4 := ⟨_, rfl⟩
  obtain ⟨y, hy⟩ : ∃ y : UInt8, y.toNat = z / 4 % 8 := ⟨UInt8.ofNat (z / 4 % 8), byte_nat (by omega)⟩
  have ID : Hid (idz z = ⟨(List.replicate 32 0).set q y, by simp⟩) := Lib.hid (by
    unfold idz
    apply Subtype.ext
    show (List.replicate 32 0).set (z % 4) (UInt8.ofNat (z / 4 % 8)) = (List.replicate 32 0).set q y
    rw [hq, ← hy, byte_back])
  have AND1 : bits .and .u8 zi 3 = (q : Int) := by rw [hzi, hq]; exact and_low hz 3 (by decide) (Nat.and_two_pow_sub_one_eq_mod z 2)
  have SH : zi / 4 = ((z / 4 : Nat) : Int) := by rw [hzi]; omega
  have AND2 : bits .and .u8 (zi / 4) 7 = (y.toNat : Int) := by
    rw [SH, hy]
    exact and_low (by omega) 7 (by decide) (Nat.and_two_pow_sub_one_eq_mod (z / 4) 3)
  have q0 : (0 : Int) ≤ (q : Int) := Int.natCast_nonneg _
  have q1 : (q : Int) < 32 := by omega
  have q2 : (q : Int) < 4 := by omega
  have WK : IntKind.i64.wrap (q : Int) = (q : Int) := by rw [IntKind.wrap_i64]; omega
  have z0 : 0 ≤ zi := by omega
  have z1 : zi < 256 := by omega
  have hq4 : q < 4 := by omega
  rw [← hzi]
  obtain ⟨I, hI⟩ : ∃ I, I = w.heap.size := ⟨_, rfl⟩
  have II := Lib.hid hI
  clear hzi hq hy SH hI hz
  go_enter Try.func11, Try.ntmps11
  go_upto_region 2 with fail
  rw [← II.out]
  refine wp_named fun W hW => ?_
  have e1 : W.heap[I]? = some (.cells (encId zid).toArray 31 (0, 0)) := by rw [hW, II.out]; exact heap_one w _ _
  have e2 : W.heap[I + 1]? = some (.cells (encId zid).toArray 31 (0, 0)) := by rw [hW, II.out]; exact heap_two w _ _
  have b0 : Below w.heap.size w W := by rw [hW]; exact below_alloc (below_alloc (Below.refl _ _) _) _
  have E1 := Lib.hid e1
  have E2 := Lib.hid e2
  have B0 := Lib.hid b0
  have cz : w_some W ⟨I + 1, q, none⟩ := ⟨_, blk_cell e2 (List.getElem?_eq_getElem (by rw [encId_len]; omega))⟩
  obtain ⟨u, cz⟩ := cz
  have fz := blk_free e2 q
  clear hW e1 e2 b0
  go_upto_region 3 with fail
  refine wp_named fun w4 hw4 => ?_
  obtain ⟨di, hdi⟩ : ∃ di : Id32, di = ⟨(List.replicate 32 0).set q y, by simp⟩ := ⟨_, rfl⟩
  have e14 : w4.heap[I]? = some (.cells (encId zid).toArray 31 (0, 0)) := by rw [hw4]; exact heap_setCell_ne _ E1.out (show I ≠ I + 1 by omega)
  have e24 : w4.heap[I + 1]? = some (.cells (encId di).toArray 31 (0, 0)) := by
    rw [hw4, hdi, ← enc_set]
    exact heap_setCell_same (cell y) E2.out
  have b4 : Below w.heap.size w w4 := by
    rw [hw4]
    exact B0.out.setCell (show w.heap.size ≤ I + 1 by rw [← II.out]; exact Nat.le_succ _) _
  rw [← hdi] at ID
  have E14 := Lib.hid e14
  have L4 := Lib.hid (lies_block e24)
  have TH := Lib.hid (there_block (w := w4) e14 (i := 0) (n := 32) (by simp [encId_len]))
  have B4 := Lib.hid b4
  clear hw4 hdi e14 e24 b4 cz fz E1 E2 B0
  go_wp2_with (first | (refine wpList_load_agg rfl 31 (.tmp 3) rfl (I + 1) 0 rfl (encId di).toArray _ L4.out Try.underlying31 rfl (sizei di.1) ?_) | (refine wpList_store_mid rfl 31 (.tmp 2) (.tmp 11) rfl I 0 (encId di).toArray rfl rfl (by simpa [encId_len] using TH.out) (sizei di.1) (all_oneCell_toArray (encId_one di)) ?_))
  have hsz : (encId di).toArray.size = (encId zid).toArray.size := by simp [encId_len]
  have k3 := heap_setCells_whole (w := w4) (D := (encId di).toArray) E14.out hsz
  have g5 := grown_setCells (w := w4) (vs := (encId di).toArray.toList) (i := 0) E14.out (by simp [encId_len])
  refine bodyPost_ret (results1_mid rfl _ I (encId di).toArray _ rfl (lies_block k3) Try.underlying31 rfl (sizei di.1)) rfl ⟨by rw [ID.out], B4.out.grown g5 B4.out.size (fun k hk => by cases hk; rw [II.out]; exact Nat.le_refl _)⟩
end Go.Proofs.Ytgbghjpkdbjdgaa
