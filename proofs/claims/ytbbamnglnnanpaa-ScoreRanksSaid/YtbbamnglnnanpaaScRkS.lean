/- ScoreRanks' memory behind Rank: the book, the two rows, the tally of eight. -/
import Derived.Test.YtbbamnglnnanpaaScRkPlain
import Derived.Test.YtbbamnglnnanpaaScAw
import Derived.Deep.OwnRows
namespace Go.Proofs.Ytbbamnglnnanpaa
open Go.RowKit

theorem make8 (w : World) : (Instr.makeSlice 27 (.int .i64 8) (.int .i64 8)).run Try.prog w = .ok (.slice (some ⟨w.heap.size, 0, none⟩) 8 8) (w.alloc (.cells #[.int .i64 0, .int .i64 0, .int .i64 0, .int .i64 0, .int .i64 0, .int .i64 0, .int .i64 0, .int .i64 0] 3)) := by
  have := run_make_row' (P := Try.prog) 27 3 (.int .i64 0) 8 Try.underlying27 info_int rfl .i64 .i64 8 (by omega) (by omega) w
  rw [show madeCells #[Value.int .i64 0] 8 = #[.int .i64 0, .int .i64 0, .int .i64 0, .int .i64 0, .int .i64 0, .int .i64 0, .int .i64 0, .int .i64 0] by kernel_rfl] at this
  exact this
structure RkS (w : World) (b m : Nat) (l : List (Int × Int)) (N : Nat) (ws rr : List Int) (u v : Value) (T : List Int) (wr : World) : Prop where
  book : IsBook wr b m l
  who : IntsIs w.heap.size wr u ws
  row : IntsIs w.heap.size wr v rr
  tally : wr.heap[N]? = some (.cells (T.map (Value.int .i64)).toArray 3 (0, 0))
  below : Below w.heap.size w wr
  hN : w.heap.size ≤ N
  neu : ∀ k, u.ownBlock = some k → k ≠ N
  nev : ∀ k, v.ownBlock = some k → k ≠ N
theorem RkS.put {w : World} {b m : Nat} {l : List (Int × Int)} {N : Nat} {ws rr : List Int} {u v : Value} {T : List Int} {wr : World} (h : RkS w b m l N ws rr u v T wr) (i : Nat) (x : Int) : RkS w b m l N ws rr u v (T.set i x) (wr.setCell ⟨N, i, none⟩ (.int .i64 x)) := by
  refine ⟨⟨heap_setCell_ne _ h.book.box (fun e => ?_), h.book.map.setCell (fun e => ?_) _, h.book.few⟩, own_of h.who fun k cur hk hc => heap_setCell_ne _ hc (h.neu k hk), own_of h.row fun k cur hk hc => heap_setCell_ne _ hc (h.nev k hk), ?_, h.below.setCell h.hN _, h.hN, h.neu, h.nev⟩
  · have := h.book.box
    subst e
    rw [h.tally] at this
    simp at this
  · obtain ⟨es, clk, h1, _⟩ := h.book.map
    have e' : N = m := e
    rw [← e', h.tally] at h1
    cases h1
  · rw [heap_setCell_same _ h.tally]
    simp [List.map_set]
theorem RkS.drewN {w : World} {b m : Nat} {l : List (Int × Int)} {N : Nat} {ws rr : List Int} {u v : Value} {T : List Int} {wr : World} (h : RkS w b m l N ws rr u v T wr) (q : Nat) : RkS w b m l N ws rr u v T (wr.drewN q) :=
  ⟨⟨h.book.box, h.book.map, h.book.few⟩, own_of h.who fun _ _ _ hc => hc, own_of h.row fun _ _ _ hc => hc, h.tally, below_drewN h.below q, h.hN, h.neu, h.nev⟩
theorem RkS.cell {w : World} {b m : Nat} {l : List (Int × Int)} {N : Nat} {ws rr : List Int} {u v : Value} {T : List Int} {wr : World} (h : RkS w b m l N ws rr u v T wr) {i : Nat} {x : Int} (hi : T[i]? = some x) : wr.cell? ⟨N, i, none⟩ = some (.int .i64 x) ∧ wr.frozen? ⟨N, i, none⟩ = false := by
  have := h.tally
  simp [World.cell?, World.frozen?, this, hi]
theorem RkS.points {w : World} {b m : Nat} {l : List (Int × Int)} {N : Nat} {ws rr : List Int} {u v : Value} {T : List Int} {wr : World} (h : RkS w b m l N ws rr u v T wr) {x : Int} (hx : (Lit.int .i64 x).wf = true) (q : Nat) :
    Calls Try.prog 12 #[.pointer (some ⟨b, 0, none⟩), .int .i64 x] (wr.drewN q) fun e w' => e = .returned (.int .i64 (pts l x)) ∧ w' = wr.drewN q := points_any (h.drewN q).book hx
end Go.Proofs.Ytbbamnglnnanpaa
