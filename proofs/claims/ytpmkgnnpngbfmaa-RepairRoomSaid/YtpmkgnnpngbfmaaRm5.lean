/- RepairRoom: moves compared; what is used, in memory. -/
import Derived.Test.YtpmkgnnpngbfmaaRm4
import Derived.Laws.StructEq
namespace Go.Proofs.Ytpmkgnnpngbfmaa
open Go.RowKit
open Extern.Stop (cell)

theorem mpart_pack (x : Mv) (w : World) : (part 37 (mcells x).toArray 0).run Try.prog w = .ok (.agg (idCells x.pack).toArray) w := by
  have hs : ∀ w, (sizeOf 37).run Try.prog w = .ok 32 w := fun w => by
    obtain ⟨i, hi, hs⟩ := Option.map_eq_some_iff.1 size_id
    simp [sizeOf, typeInfo, hi, hs]
  have he : List.take 32 (mcells x) = idCells x.pack := by
    unfold mcells
    rw [List.take_append_of_le_length (by rw [idCells_len]; omega), List.take_of_length_le (by rw [idCells_len]; omega)]
  simp [part, isAgg, run_underlying Try.underlying37, hs, he]
theorem mpart_to (x : Mv) (w : World) : (part 3 (mcells x).toArray 32).run Try.prog w = .ok (.int .i64 x.to) w := by
  have h : (mcells x)[32]? = some (.int .i64 x.to) := by
    unfold mcells
    rw [List.getElem?_append_right (by rw [idCells_len]; exact Nat.le_refl _), idCells_len]
    rfl
  simp [part, isAgg, run_underlying Try.underlying3, h]
set_option linter.unusedSimpArgs false in
theorem eql_mv {x y : Mv} (hx : x.pack.length = 32) (hy : y.pack.length = 32) (w : World) :
    (binOp .eql 39 (.agg (mcells x).toArray) (.agg (mcells y).toArray)).run Try.prog w = .ok (.bool (x.pack == y.pack && x.to == y.to)) w := by
  have e2 : (Op.equalIn 9999 37 (.agg (idCells x.pack).toArray) (.agg (idCells y.pack).toArray)).run Try.prog w = .ok (x.pack == y.pack) w := by
    rw [idCells_of hx, idCells_of hy]
    exact run_equalIn_bytes w 9997 37 5 32 Try.underlying37 Try.underlying5 size_u8 x.pack y.pack hx hy
  have e1 : (Op.equalIn 9999 3 (.int .i64 x.to) (.int .i64 y.to)).run Try.prog w = .ok (x.to == y.to) w := run_equalIn_int w 9998 _ _ _ _ _ Try.underlying3
  rw [run_eql_struct, run_equalIn_struct w 9999 _ _ _ (by simp [Program.fieldsOf, Try.underlying39]) (by kernel_rfl)]
  simp only [Program.fieldsOf, Try.underlying39, Op.eqFields]
  generalize (x.pack == y.pack) = b1 at *
  generalize (x.to == y.to) = b2 at *
  cases b1 <;> cases b2 <;> simp [mpart_pack, mpart_to, e1, e2]
theorem eql_mv_no {x y : Mv} (hx : x.pack.length = 32) (hy : y.pack.length = 32) (h : x ≠ y) (w : World) :
    (binOp .eql 39 (.agg (mcells x).toArray) (.agg (mcells y).toArray)).run Try.prog w = .ok (.bool false) w := by
  rw [eql_mv hx hy]
  congr 2
  cases x with
  | mk a b =>
    cases y with
    | mk c d =>
      simp only [ne_eq, Mv.mk.injEq, not_and] at h
      by_cases e : a = c
      · have := h e
        simp [e, this]
      · simp [e]
/-- What is used, partner by partner. -/
abbrev UsedIs (w : World) (b : Nat) (us : List Int) : Prop := w.heap[b]? = some (.cells (us.map (Value.int .u64)).toArray 43 (0, 0))
theorem UsedIs.at {w : World} {b : Nat} {us : List Int} (h : UsedIs w b us) {i : Nat} {x : Int} (hi : us[i]? = some x) : w.cell? ⟨b, i, none⟩ = some (.int .u64 x) ∧ w.frozen? ⟨b, i, none⟩ = false :=
  ⟨blk_cell h (by rw [List.getElem?_map, hi]; rfl), blk_free h i⟩
theorem UsedIs.set {w : World} {b : Nat} {us : List Int} (h : UsedIs w b us) (i : Nat) (x : Int) : UsedIs (w.setCell ⟨b, i, none⟩ (.int .u64 x)) b (us.set i x) := by
  have := heap_setCell_same (i := i) (.int .u64 x) h
  rw [List.setIfInBounds_toArray, ← List.map_set] at this
  exact this
theorem info_u64 : (Try.prog.info? 43).map (fun i => (i.zero, i.size, i.bytes)) = some (some (.int .u64 0), 1, 8) := by kernel_rfl
theorem made_u64 (n : Nat) : madeCells #[Value.int .u64 0] n = ((List.replicate n (0 : Int)).map (Value.int .u64)).toArray := by
  rw [List.map_replicate]
  apply Array.ext_getElem?
  intro i
  by_cases h : i < n
  · simp [madeCells, h, Nat.mod_one]
  · simp [madeCells, h]
/-- What is used behind the first moves. -/
def usedOf (zs : List Int) (all : Nat) (mv : List Mv) : List Int := (List.range all).map fun w : Nat => takenBy (szOf zs) mv (w : Int)
theorem used_nil (zs : List Int) (all : Nat) : usedOf zs all [] = List.replicate all 0 := by
  apply List.ext_getElem?
  intro i
  unfold usedOf
  by_cases h : i < all
  · rw [List.getElem?_map, List.getElem?_range h, List.getElem?_replicate, if_pos h]
    rfl
  · rw [List.getElem?_eq_none (by simp; omega), List.getElem?_eq_none (by simp; omega)]
theorem used_get {zs : List Int} {all w : Nat} (mv : List Mv) (h : w < all) : (usedOf zs all mv)[w]? = some (takenBy (szOf zs) mv (w : Int)) := by
  unfold usedOf
  rw [List.getElem?_map, List.getElem?_range h]
  rfl
theorem used_snoc {zs : List Int} {all w : Nat} {mv : List Mv} {x : Mv} (_h : w < all) (hx : x.to = (w : Int)) : usedOf zs all (mv ++ [x]) = (usedOf zs all mv).set w (takenBy (szOf zs) mv (w : Int) + szOf zs x.pack) := by
  apply List.ext_getElem?
  intro i
  by_cases hi : i < all
  · rw [used_get _ hi, taken_snoc, List.getElem?_set]
    by_cases e : w = i
    · subst e
      rw [if_pos rfl, if_pos hx, if_pos (by simp [usedOf]; omega)]
    · rw [if_neg e, used_get _ hi, if_neg (by omega), Int.add_zero]
  · rw [List.getElem?_eq_none (by simp [usedOf]; omega), List.getElem?_eq_none (by simp [usedOf]; omega)]
theorem taken_in {zs : List Int} (hz : ∀ z ∈ zs, 0 ≤ z ∧ z ≤ 255) (w : Int) : ∀ mv : List Mv, 0 ≤ takenBy (szOf zs) mv w ∧ takenBy (szOf zs) mv w ≤ 255 * mv.length
  | [] => by simp [takenBy]
  | x :: r => by
    have h1 := taken_in hz w r
    have h2 : 0 ≤ szOf zs x.pack ∧ szOf zs x.pack ≤ 255 := by
      unfold szOf
      rw [List.getD_eq_getElem?_getD]
      cases h : zs[(x.pack.headD 0).toNat]? with
      | none => simp
      | some z => exact hz z (List.mem_of_getElem? h)
    have e : takenBy (szOf zs) (x :: r) w = (if x.to = w then szOf zs x.pack else 0) + takenBy (szOf zs) r w := by simp [takenBy]
    rw [e, List.length_cons]
    split <;> omega
theorem taken_take {zs : List Int} (hz : ∀ z ∈ zs, 0 ≤ z ∧ z ≤ 255) (mv : List Mv) (w : Int) (i : Nat) : takenBy (szOf zs) (mv.take i) w ≤ takenBy (szOf zs) mv w := by
  have h := taken_app (szOf zs) (mv.take i) (mv.drop i) w
  rw [List.take_append_drop] at h
  have := (taken_in hz w (mv.drop i)).1
  omega
theorem first_byte {w : World} {b o i : Nat} (hi : i < 256) (h : Lies w b o (idCells (idOne (UInt8.ofNat i))).toArray) : w.cell? ⟨b, o, none⟩ = some (.int .u8 (i : Int)) := by
  have h1 := lies_one h (j := 0) (v := .int .u8 (i : Int)) (by
    unfold idCells idOne
    simp only [List.cons_append, List.take_succ_cons, List.map_cons, List.getElem?_cons_zero]
    show some (Value.int .u8 (((UInt8.ofNat i).toNat : Nat) : Int)) = _
    rw [show (UInt8.ofNat i).toNat = i by simp; omega])
  exact h1
end Go.Proofs.Ytpmkgnnpngbfmaa
