/- An auditor in memory, and what New, Open and the function values do. -/
import Derived.Test.YtdlcmdoefdkjpaaDoorAud2
import Derived.Deep.CutBlock
import Derived.Deep.DeepCutAuto
namespace Go.Proofs.YtdlcmdoefdkjpaaDoor
open Go.RowKit
open Extern.Stop (cell)

abbrev audT : List TypeId := [87, 98]
structure AudIs (A B : Nat) (w : World) (a : Nat) (d : Int) (v : Value) (qs : List Qn) : Prop where
  box : w.heap[a]? = some (.cells #[.int .u64 d, v] 87 (0, 0))
  row : w.ownsRow B 98 37 v qs.length (qs.flatMap qcells)
  few : qs.length ≤ 100000
  hb : A ≤ a
  hB : A ≤ B
def IsAud (A B : Nat) (w : World) (a : Nat) (d : Int) (qs : List Qn) : Prop := ∃ v, AudIs A B w a d v qs
theorem AudIs.lt {A B : Nat} {w : World} {a : Nat} {d : Int} {v : Value} {qs : List Qn} (h : AudIs A B w a d v qs) : a < w.heap.size := (Array.getElem?_eq_some_iff.1 h.box).1
theorem AudIs.later {A B : Nat} {w w' : World} {a : Nat} {d : Int} {v : Value} {qs : List Qn} (h : AudIs A B w a d v qs) (hb : Below w.heap.size w w') : AudIs A B w' a d v qs :=
  ⟨(hb.block a h.lt).trans h.box, own_later h.row hb, h.few, h.hb, h.hB⟩
theorem IsAud.later {A B : Nat} {w w' : World} {a : Nat} {d : Int} {qs : List Qn} (h : IsAud A B w a d qs) (hb : Below w.heap.size w w') : IsAud A B w' a d qs := by
  obtain ⟨v, h⟩ := h
  exact ⟨v, h.later hb⟩
theorem AudIs.slice {A B : Nat} {w : World} {a : Nat} {d : Int} {v : Value} {qs : List Qn} (h : AudIs A B w a d v qs) : ∃ x c, v = .slice x qs.length c := own_slice h.row
theorem tcells_last (t : Tgt) : (tcells t)[33]? = some (.int .i64 t.leaves) := by
  have h : (idCells t.pack ++ [Value.int .i64 t.leaves])[32]? = some (.int .i64 t.leaves) := by
    rw [List.getElem?_append_right (by rw [idCells_len]; exact Nat.le_refl _), idCells_len]
    rfl
  exact h
theorem qcells_tail (q : Qn) (j : Nat) : (qcells q)[33 + j]? = [Value.int .u64 q.nonce, .int .i64 q.leaf, .int .i64 q.leaves, .int .u64 q.since][j]? := by
  have h : (idCells q.pack ++ [Value.int .u64 q.nonce, .int .i64 q.leaf, .int .i64 q.leaves, .int .u64 q.since])[32 + j]? = [Value.int .u64 q.nonce, .int .i64 q.leaf, .int .i64 q.leaves, .int .u64 q.since][j]? := by
    rw [List.getElem?_append_right (by rw [idCells_len]; omega), idCells_len, show 32 + j - 32 = j by omega]
  rw [← h, show 33 + j = (32 + j) + 1 by omega]
  rfl
theorem blk_cell {w : World} {b : Nat} {l : List Value} {t : TypeId} (h : w.heap[b]? = some (.cells l.toArray t (0, 0))) {j : Nat} {v : Value} (hj : l[j]? = some v) : w.cell? ⟨b, j, none⟩ = some v := by
  rw [cell_of_row w b j _ t _ h]
  simpa using hj
theorem blk_free {w : World} {b : Nat} {C : Array Value} {t : TypeId} (h : w.heap[b]? = some (.cells C t (0, 0))) (j : Nat) : w.frozen? ⟨b, j, none⟩ = false := by
  simp [World.frozen?, h]

/-- No leaves, or too many. -/
def tbad (t : Tgt) : Bool := decide (t.leaves < 1) || decide (65536 < t.leaves)
theorem drawp_any (t : Tgt) (w : World) : Calls Tryd.prog 36 #[.agg (tcells t).toArray] w fun e w' => e = .returned (.bool (tbad t)) ∧ Below w.heap.size w w' := by
  have hl := tcells_last t
  have b0 := heap_at w (.cells (tcells t).toArray 37)
  have bb := below_alloc (Below.refl w.heap.size w) (.cells (tcells t).toArray 37)
  have three : t.leaves < 1 ∨ (¬ t.leaves < 1 ∧ 65536 < t.leaves) ∨ (¬ t.leaves < 1 ∧ ¬ 65536 < t.leaves) := by omega
  unfold tbad
  generalize tcells t = C at *
  generalize t.leaves = n at *
  have HL := Lib.hid hl
  have B0 := Lib.hid b0
  have BB := Lib.hid bb
  clear hl b0 bb
  go_enter Tryd.func36, Tryd.ntmps36
  go_upto_region 1 with fail
  refine wp_named fun W hW => ?_
  rw [← hW] at B0 BB
  have c0 := blk_cell B0.out HL.out
  clear hW HL B0
  rcases three with h | ⟨h, h'⟩ | ⟨h, h'⟩
  · go_wp2
    go_ret
    exact ⟨by simp [h], BB.out⟩
  · go_wp2
    go_ret
    exact ⟨by simp, BB.out⟩
  · go_wp2
    go_ret
    exact ⟨by simp [h, h'], BB.out⟩
theorem anew_any (w : World) : Calls Tryd.prog 10 #[] w fun e w' => e = .returned (.pointer (some ⟨w.heap.size, 0, none⟩)) ∧ IsAud w.heap.size (w.heap.size + 1) w' w.heap.size 0 [] ∧ Below w.heap.size w w' := by
  go_enter Tryd.func10, Tryd.ntmps10
  go_wp2
  go_ret
  exact ⟨rfl, ⟨.slice none 0 0, heap_at _ _, World.ownsRow_nil _ _ _ _, by simp, Nat.le_refl _, by omega⟩, below_alloc (Below.refl _ _) _⟩
theorem open_none (w : World) : Calls Tryd.prog 14 #[.pointer none] w fun e w' => e = .returned (.int .i64 0) ∧ w' = w := by
  go_enter Tryd.func14, Tryd.ntmps14
  go_wp2
  go_ret
  exact ⟨rfl, rfl⟩
theorem open_any {A B : Nat} {w : World} {a : Nat} {d : Int} {qs : List Qn} (h : IsAud A B w a d qs) : Calls Tryd.prog 14 #[.pointer (some ⟨a, 0, none⟩)] w fun e w' => e = .returned (.int .i64 qs.length) ∧ w' = w := by
  obtain ⟨v, h⟩ := h
  obtain ⟨x, c, rfl⟩ := h.slice
  obtain ⟨⟨e0, e1⟩, _⟩ := blk2 h.box
  clear h
  go_enter Tryd.func14, Tryd.ntmps14
  go_wp2
  go_ret
  exact ⟨rfl, rfl⟩
end Go.Proofs.YtdlcmdoefdkjpaaDoor
