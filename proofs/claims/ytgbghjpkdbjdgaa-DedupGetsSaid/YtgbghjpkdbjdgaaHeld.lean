/- Small laws for regions that draw their order, walked by hand. -/
import Derived.Test.YtgbghjpkdbjdgaaAgg
import Derived.Deep.AppendLies
import Derived.Deep.RegionHeld3
import Derived.Deep.OwnRows
namespace Go.Proofs.Ytgbghjpkdbjdgaa
open Go.RowKit

theorem list32 {l : List Value} (h : l.length = 32) : ∃ c0 c1 c2 c3 c4 c5 c6 c7 c8 c9 c10 c11 c12 c13 c14 c15 c16 c17 c18 c19 c20 c21 c22 c23 c24 c25 c26 c27 c28 c29 c30 c31 : Value, l = [c0, c1, c2, c3, c4, c5, c6, c7, c8, c9, c10, c11, c12, c13, c14, c15, c16, c17, c18, c19, c20, c21, c22, c23, c24, c25, c26, c27, c28, c29, c30, c31] := by
  match l, h with
  | [c0, c1, c2, c3, c4, c5, c6, c7, c8, c9, c10, c11, c12, c13, c14, c15, c16, c17, c18, c19, c20, c21, c22, c23, c24, c25, c26, c27, c28, c29, c30, c31], _ => exact ⟨c0, c1, c2, c3, c4, c5, c6, c7, c8, c9, c10, c11, c12, c13, c14, c15, c16, c17, c18, c19, c20, c21, c22, c23, c24, c25, c26, c27, c28, c29, c30, c31, rfl⟩
theorem rangeAt_below {w w' : World} {b i : Nat} {l : List Value} (h : w.rangeAt b i l) (hb : Below w.heap.size w w') : w'.rangeAt b i l := fun j v hj => (hb.cell (p := ⟨b, i + j, none⟩) (World.block_lt_of_cell? w _ (h j v hj))).trans (h j v hj)
theorem rangeAt_grown {w w' : World} {b i : Nat} {l : List Value} {row : Option Nat} (h : w.rangeAt b i l) (hg : w.grownBy w' row) (hr : row ≠ some b) : w'.rangeAt b i l := fun j v hj => by
  have := h j v hj
  rw [World.cell?_of_block (hg.block b (World.block_lt_of_cell? w _ this) (fun e => hr e.symm))]
  exact this
theorem cell_grown {w w' : World} {p : Addr} {v : Value} {row : Option Nat} (h : w.cell? p = some v) (hg : w.grownBy w' row) (hr : row ≠ some p.block) : w'.cell? p = some v := by
  rw [World.cell?_of_block (hg.block p.block (World.block_lt_of_cell? w p h) (fun e => hr e.symm))]
  exact h
theorem cell_below {w w' : World} {p : Addr} {v : Value} (h : w.cell? p = some v) (hb : Below w.heap.size w w') : w'.cell? p = some v := (hb.cell (World.block_lt_of_cell? w p h)).trans h
theorem blk_cell {w : World} {b : Nat} {l : List Value} {t : TypeId} (h : w.heap[b]? = some (.cells l.toArray t (0, 0))) {j : Nat} {v : Value} (hj : l[j]? = some v) : w.cell? ⟨b, j, none⟩ = some v := by
  rw [cell_of_row w b j _ t _ h]
  simpa using hj
theorem blk_free {w : World} {b : Nat} {C : Array Value} {t : TypeId} (h : w.heap[b]? = some (.cells C t (0, 0))) (j : Nat) : w.frozen? ⟨b, j, none⟩ = false := by
  simp [World.frozen?, h]
theorem cell_up {w : World} {p : Addr} {v : Value} (h : w.cell? p = some v) (o : Obj) : (w.alloc o).cell? p = some v := by
  rw [World.cell?_alloc_lt _ _ _ (World.block_lt_of_cell? w _ h)]; exact h
theorem cell_set {w : World} {p q : Addr} {v : Value} (h : w.cell? p = some v) (hq : q ≠ p) (u : Value) : (w.setCell q u).cell? p = some v := by
  rw [World.cell?_setCell_other _ _ _ _ hq]; exact h
/-- A row of the call's own is as it was where another block was turned. -/
theorem own_grown {w w' : World} {base : Nat} {e : TypeId} {size : Nat} {v : Value} {n : Nat} {xs : List Value} (h : w.ownsRow base e size v n xs) {k : Nat} (hg : w.grownBy w' (some k)) (hk : v.ownBlock ≠ some k) : w'.ownsRow base e size v n xs :=
  own_of h fun i _ hi hc => (hg.block i (Array.getElem?_eq_some_iff.1 hc).1 (fun e => hk (by rw [hi]; exact e))).trans hc
/-- .. of another type. -/
theorem own_other {w w' : World} {base : Nat} {e e' : TypeId} {size : Nat} {v : Value} {n : Nat} {xs : List Value} (h : w.ownsRow base e size v n xs) {row : Option Nat} (hg : w.grownBy w' row) (hr : ∀ k, row = some k → ∃ cur, w.heap[k]? = some (.cells cur e' (0, 0))) (hne : e ≠ e') : w'.ownsRow base e size v n xs :=
  own_of h fun i _ _ hc => (hg.block i (Array.getElem?_eq_some_iff.1 hc).1 (fun e1 => by
    obtain ⟨cur, hc'⟩ := hr i e1.symm
    rw [hc'] at hc
    cases hc
    exact hne rfl)).trans hc
/-- .. a map's block, say. -/
theorem own_not_map {α β : Type} {P : Program} {k : TypeId} {eK : α → Value} {eV : β → Value} {w : World} {b : Nat} {l : List (α × β)} (h : MapIs P k eK eV w b l) {base : Nat} {e : TypeId} {size : Nat} {v : Value} {n : Nat} {xs : List Value} (ho : w.ownsRow base e size v n xs) : v.ownBlock ≠ some b := by
  intro hb
  obtain ⟨_, cur, hc⟩ := own_row ho hb
  obtain ⟨es, clk, h1, _⟩ := h
  rw [h1] at hc
  cases hc
end Go.Proofs.Ytgbghjpkdbjdgaa
