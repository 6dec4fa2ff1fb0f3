/- DedupDrops: what stands in memory. -/
import Derived.Test.YtgbghjpkdbjdgaaDp2
namespace Go.Proofs.Ytgbghjpkdbjdgaa
open Go.RowKit Go.ChangeShapes Go.WideShapes
open Extern.Stop (cell)

theorem make4 (w : World) : (Instr.makeSlice 57 (.int .i64 4) (.int .i64 4)).run Try.prog w = .ok (.slice (some ⟨w.heap.size, 0, none⟩) 4 4) (w.alloc (.cells #[.int .i64 0, .int .i64 0, .int .i64 0, .int .i64 0] 3)) := by
  have := run_make_row' (P := Try.prog) 57 3 (.int .i64 0) 8 Try.underlying57 info_int rfl .i64 .i64 4 (by omega) (by omega) w
  rw [show madeCells #[Value.int .i64 0] 4 = #[.int .i64 0, .int .i64 0, .int .i64 0, .int .i64 0] by kernel_rfl] at this
  exact this
/-- The index, the tally of four, the row of those that were let in. -/
structure DS (W : World) (x M NB : Nat) (lst : List (Id32 × Pl)) (T : List Int) (v : Value) (ins : List Nat) (wr : World) : Prop where
  ix : IxIs wr x M lst
  tally : wr.heap[NB]? = some (.cells (T.map (Value.int .i64)).toArray 3 (0, 0))
  row : wr.ownsRow (NB + 1) 3 1 v ins.length (ins.map fun j : Nat => Value.int .i64 (j : Int))
  below : Below W.heap.size W wr
section
variable {W : World} {x M NB : Nat} {lst : List (Id32 × Pl)} {T : List Int} {v : Value} {ins : List Nat} {wr w' : World}
theorem DS.later (h : DS W x M NB lst T v ins wr) (hb : Below wr.heap.size wr w') : DS W x M NB lst T v ins w' :=
  ⟨h.ix.later hb, aRegionKept h.tally hb, own_later h.row hb, h.below.trans (hb.mono h.below.size)⟩
theorem DS.drew (h : DS W x M NB lst T v ins wr) : DS W x M NB lst T v ins wr.drew := h.later (below_drew (Below.refl _ _))
theorem DS.cell (h : DS W x M NB lst T v ins wr) {i : Nat} {n : Int} (hi : T[i]? = some n) : wr.cell? ⟨NB, i, none⟩ = some (.int .i64 n) ∧ wr.frozen? ⟨NB, i, none⟩ = false := by
  have := h.tally
  simp [World.cell?, World.frozen?, this, hi]
theorem DS.turn (h : DS W x M NB lst T v ins wr) (hM : M < NB) (hWM : W.heap.size ≤ M) {l' : List (Id32 × Pl)} (hx : IxIs w' x M l') (hg : wr.grownBy w' (some M)) : DS W x M NB l' T v ins w' :=
  ⟨hx, (hg.block NB (Array.getElem?_eq_some_iff.1 h.tally).1 (fun e => by have := Option.some.inj e; omega)).trans h.tally,
    own_grown h.row hg (fun e => by have := (own_row h.row e).1; omega), h.below.trans (below_grown hg h.below.size hWM)⟩
theorem DS.put (h : DS W x M NB lst T v ins wr) (hx : x < NB) (hM : M < NB) (hW : W.heap.size ≤ NB) (i : Nat) (n : Int) : DS W x M NB lst (T.set i n) v ins (wr.setCell ⟨NB, i, none⟩ (.int .i64 n)) := by
  refine ⟨⟨heap_setCell_ne _ h.ix.box (show x ≠ NB by omega), h.ix.map.setCell (show NB ≠ M by omega) _⟩, ?_, own_of h.row fun k cur hk hc => heap_setCell_ne _ hc (show k ≠ NB by have := (own_row h.row hk).1; omega), h.below.setCell hW _⟩
  rw [heap_setCell_same _ h.tally]
  simp [List.map_set]
theorem DS.inAt (h : DS W x M NB lst T v ins wr) {j q : Nat} (hj : ins[j]? = some q) : ∃ g c, v = .slice (some ⟨g, 0, none⟩) ins.length c ∧ g < wr.heap.size ∧ wr.cell? ⟨g, j, none⟩ = some (.int .i64 (q : Int)) := by
  obtain ⟨xa, xc, rfl⟩ := own_slice h.row
  obtain ⟨g, rfl, hg, hc⟩ := own_at h.row (k := j) (u := .int .i64 (q : Int)) (by rw [List.getElem?_map, hj]; rfl)
  exact ⟨g, xc, rfl, hg, hc⟩
end
/-- An id of one byte, built. -/
theorem built_byte (z : UInt8) : Try.prog.built 31 [(0, .int .u8 (z.toNat : Int))] = some (encId (idb z)).toArray := by kernel_rfl
theorem built_pkn {k : Nat} (hk : k < 4) : Try.prog.built 31 [(0, .int .u8 (k : Int))] = some (encId (pkn k)).toArray := by
  have := built_byte (UInt8.ofNat k)
  rw [byte_nat (by omega)] at this
  exact this
theorem and3 {z : Int} (h0 : 0 ≤ z) (h1 : z ≤ 255) : bits .and .u8 z 3 = ((z.toNat % 4 : Nat) : Int) := by
  have h := u8_and_nat z.toNat 3 (by omega) (by decide)
  have h2 : z.toNat &&& 3 = z.toNat % 4 := Nat.and_two_pow_sub_one_eq_mod z.toNat 2
  rw [h2] at h
  have e : ((z.toNat : Nat) : Int) = z := by omega
  rw [e] at h
  exact h
end Go.Proofs.Ytgbghjpkdbjdgaa
