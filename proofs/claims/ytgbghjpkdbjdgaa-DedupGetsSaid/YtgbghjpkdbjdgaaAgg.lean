/- Values of many cells (arrays, structs that hold arrays): read, stored, built, compared, without opening them cell by cell. -/
import Derived.Test.YtgbghjpkdbjdgaaRow2
import Derived.Deep.MidRow
import Derived.Deep.WholeRow
import Derived.StillTailTactics
import Derived.Stop.BytesEq
namespace Go.Proofs.Ytgbghjpkdbjdgaa
open Go.RowKit
open Extern.Stop (cell)

section
variable {P : Program} {w : World} {ops : Array Oper} {rest : List Oper} {o : Oper} {a : Act} {Q : Exit → Act → World → Prop}
/-- A guarded operation whose guard says yes, by a law on the operation. -/
theorem wpList_wanted (hw : Region.wanted o (yielded ops a.tmps) = true) (h : ∀ K : Act → World → Prop, (∀ a' w', wpList P ops Q rest a' w' → K a' w') → o.wp P a w K Q) : wpList P ops Q (o :: rest) a w := by
  unfold wpList
  rw [if_pos hw]
  exact .inl (h _ fun _ _ h' => h')
/-- Cells that lie in a block from a place on, as an array. -/
abbrev Lies (w : World) (b i : Nat) (C : Array Value) : Prop := w.rangeAt b i C.toList
theorem wp_load_agg {K : Act → World → Prop} (ty : TypeId) (x : Operand) (ho : o.op = .load ty x) (b i : Nat) (hx : a.eval x = .pointer (some ⟨b, i, none⟩)) (C : Array Value) (d : TypeDesc) (hc : Lies w b i C)
    (hu : P.underlying ty = some d) (hd : d.isRow = true) (hi : (P.info? ty).map (·.size) = some C.size) (h : K (a.put o.dst (.agg C)) w) : o.wp P a w K Q :=
  wp_load_mid ty x ho b i hx C.toList d hc hu hd (by simpa using hi) (by simpa using h)
theorem wpList_load_agg (hg : o.guard = none) (ty : TypeId) (x : Operand) (ho : o.op = .load ty x) (b i : Nat) (hx : a.eval x = .pointer (some ⟨b, i, none⟩)) (C : Array Value) (d : TypeDesc) (hc : Lies w b i C)
    (hu : P.underlying ty = some d) (hd : d.isRow = true) (hi : (P.info? ty).map (·.size) = some C.size) (h : wpList P ops Q rest (a.put o.dst (.agg C)) w) : wpList P ops Q (o :: rest) a w :=
  wpList_plain hg fun _ hK => wp_load_agg ty x ho b i hx C d hc hu hd hi (hK _ _ h)
/-- .. of a guarded operation whose guard says yes. -/
theorem wpList_load_if (hw : Region.wanted o (yielded ops a.tmps) = true) (ty : TypeId) (x : Operand) (ho : o.op = .load ty x) (b i : Nat) (hx : a.eval x = .pointer (some ⟨b, i, none⟩)) (C : Array Value) (d : TypeDesc) (hc : Lies w b i C)
    (hu : P.underlying ty = some d) (hd : d.isRow = true) (hi : (P.info? ty).map (·.size) = some C.size) (h : wpList P ops Q rest (a.put o.dst (.agg C)) w) : wpList P ops Q (o :: rest) a w :=
  wpList_wanted hw fun _ hK => wp_load_agg ty x ho b i hx C d hc hu hd hi (hK _ _ h)
theorem wpList_build_if (hw : Region.wanted o (yielded ops a.tmps) = true) (t : TypeId) (parts : Array (Nat × Operand)) (ho : o.op = .build t parts) (cells : Array Value) (hf : P.built t (parts.map fun (i, x) => (i, a.eval x)).toList = some cells)
    (h : wpList P ops Q rest (a.put o.dst (.agg cells)) w) : wpList P ops Q (o :: rest) a w :=
  wpList_wanted hw fun _ hK => wp_build t parts ho (by rw [hf]; rfl) (by rw [hf]; exact hK _ _ h)
theorem wpList_build_eq (hg : o.guard = none) (t : TypeId) (parts : Array (Nat × Operand)) (ho : o.op = .build t parts) (cells : Array Value) (hf : P.built t (parts.map fun (i, x) => (i, a.eval x)).toList = some cells)
    (h : wpList P ops Q rest (a.put o.dst (.agg cells)) w) : wpList P ops Q (o :: rest) a w :=
  wpList_plain hg fun _ hK => wp_build t parts ho (by rw [hf]; rfl) (by rw [hf]; exact hK _ _ h)
/-- A store into the block that was made last. -/
theorem wp_store_new {K : Act → World → Prop} (ty : TypeId) (x y : Operand) (ho : o.op = .store ty x y) (c c' : Array Value) (hx : a.eval x = .pointer (some ⟨w.heap.size, 0, none⟩)) (hy : a.eval y = .agg c')
    (hi : (P.info? ty).map (·.size) = some c'.size) (hs : c.size = c'.size) (h1 : c'.all (·.oneCell') = true) (h : K (a.put o.dst undef) (w.alloc (.cells c' ty))) : o.wp P a (w.alloc (.cells c ty)) K Q := by
  unfold Oper.wp execOp
  simp only [ho, hx, hy, run_storeAt_new w ty c c' hi hs h1, Sem.run_bind, Result.andThen_ok, Sem.run_pure]
  exact h
theorem wpList_store_new (hg : o.guard = none) (ty : TypeId) (x y : Operand) (ho : o.op = .store ty x y) (c c' : Array Value) (hx : a.eval x = .pointer (some ⟨w.heap.size, 0, none⟩)) (hy : a.eval y = .agg c')
    (hi : (P.info? ty).map (·.size) = some c'.size) (hs : c.size = c'.size) (h1 : c'.all (·.oneCell') = true) (h : wpList P ops Q rest (a.put o.dst undef) (w.alloc (.cells c' ty))) : wpList P ops Q (o :: rest) a (w.alloc (.cells c ty)) :=
  wpList_plain hg fun _ hK => wp_store_new ty x y ho c c' hx hy hi hs h1 (hK _ _ h)
/-- A store into a block that is known whole. -/
theorem setCells_row {b : Nat} {cur : Array Value} {t : TypeId} (hb : w.heap[b]? = some (.cells cur t (0, 0))) : ∀ (vs : List Value) (i : Nat), i + vs.length ≤ cur.size →
    w.setCells b i vs = w.setRow b (cur.toList.take i ++ vs ++ cur.toList.drop (i + vs.length)).toArray := by
  intro vs
  induction vs generalizing w cur with
  | nil =>
    intro i hi
    simp only [World.setCells, List.append_nil, List.length_nil, Nat.add_zero, List.take_append_drop, Array.toArray_toList]
    have hlt : b < w.heap.size := (Array.getElem?_eq_some_iff.1 hb).1
    have hv : w.heap[b] = .cells cur t (0, 0) := (Array.getElem?_eq_some_iff.1 hb).2
    unfold World.setRow
    cases w with
    | mk heap tape drawn os output =>
      congr 1
      apply Array.ext
      · simp
      · intro k h1 h2
        simp only [Array.getElem_modify]
        split
        · rename_i hk; subst hk; simp at hv; simp [hv]
        · rfl
  | cons v r ih =>
    intro i hi
    simp only [List.length_cons] at hi
    have hb' : (w.setCell ⟨b, i, none⟩ v).heap[b]? = some (.cells (cur.setIfInBounds i v) t (0, 0)) := Go.Proofs.Ytgbghjpkdbjdgaa.heap_setCell_same _ hb
    rw [World.setCells, ih hb' (i + 1) (by simp; omega), setCell_eq_setRow w b i cur t (0, 0) v hb, setRow_setRow]
    congr 2
    simp only [Array.toList_setIfInBounds, List.length_cons]
    have h1 : (cur.toList.set i v).take (i + 1) = cur.toList.take i ++ [v] := by
      rw [List.take_succ_eq_append_getElem (by simp; omega)]
      simp [List.take_set_of_le (Nat.le_refl i)]
    rw [h1, List.drop_set_of_lt (by omega), show i + 1 + r.length = i + (r.length + 1) by omega]
    simp
/-- An address of two loads: what lies in a block that is known whole. -/
theorem lies_block {b : Nat} {C : Array Value} {t : TypeId} {fz : Nat × Nat} (h : w.heap[b]? = some (.cells C t fz)) : Lies w b 0 C := fun j v hj => by
  rw [Nat.zero_add, cell_of_row w b j C t fz h]
  simpa using hj
theorem lies_part {b : Nat} {C D : Array Value} {t : TypeId} {fz : Nat × Nat} {i : Nat} (h : w.heap[b]? = some (.cells C t fz)) (hd : ∀ j v, D[j]? = some v → C[i + j]? = some v) : Lies w b i D := fun j v hj => by
  rw [cell_of_row w b (i + j) C t fz h]
  exact hd j v (by simpa using hj)
theorem Lies.below {w' : World} {b i : Nat} {C : Array Value} (h : Lies w b i C) {B : Nat} (hb : Below B w w') (hB : b < B) : Lies w' b i C := fun j v hj => (hb.cell (p := ⟨b, i + j, none⟩) hB).trans (h j v hj)
end

/-! ### results that lie in a cell of many cells -/
section
variable {P : Program} {w : World}
theorem results3_mid {fn : Func} {p q r : Tmp} {ty : TypeId} (h : fn.results = #[.tmp p, .cell q ty, .tmp r]) (tmps : Array Value) (b : Nat) (C : Array Value) (d : TypeDesc) (hq : tmps.getD q undef = .pointer (some ⟨b, 0, none⟩)) (hc : Lies w b 0 C)
    (hu : P.underlying ty = some d) (hd : d.isRow = true) (hi : (P.info? ty).map (·.size) = some C.size) : (results fn tmps).run P w = .ok (.tuple #[tmps.getD p undef, .agg C, tmps.getD r undef]) w := by
  have hq' : tmps[q]?.getD undef = .pointer (some ⟨b, 0, none⟩) := by simpa using hq
  have hl := run_loadVar_mid (P := P) w b 0 ty C.toList d hc hu hd (by simpa using hi)
  simp [results, h, hq', asAddr, hl]
theorem results2_mid {fn : Func} {q r : Tmp} {ty : TypeId} (h : fn.results = #[.cell q ty, .tmp r]) (tmps : Array Value) (b : Nat) (C : Array Value) (d : TypeDesc) (hq : tmps.getD q undef = .pointer (some ⟨b, 0, none⟩)) (hc : Lies w b 0 C)
    (hu : P.underlying ty = some d) (hd : d.isRow = true) (hi : (P.info? ty).map (·.size) = some C.size) : (results fn tmps).run P w = .ok (.tuple #[.agg C, tmps.getD r undef]) w := by
  have hq' : tmps[q]?.getD undef = .pointer (some ⟨b, 0, none⟩) := by simpa using hq
  have hl := run_loadVar_mid (P := P) w b 0 ty C.toList d hc hu hd (by simpa using hi)
  simp [results, h, hq', asAddr, hl]
theorem results1_mid {fn : Func} {q : Tmp} {ty : TypeId} (h : fn.results = #[.cell q ty]) (tmps : Array Value) (b : Nat) (C : Array Value) (d : TypeDesc) (hq : tmps.getD q undef = .pointer (some ⟨b, 0, none⟩)) (hc : Lies w b 0 C)
    (hu : P.underlying ty = some d) (hd : d.isRow = true) (hi : (P.info? ty).map (·.size) = some C.size) : (results fn tmps).run P w = .ok (.agg C) w := by
  have hq' : tmps[q]?.getD undef = .pointer (some ⟨b, 0, none⟩) := by simpa using hq
  have hl := run_loadVar_mid (P := P) w b 0 ty C.toList d hc hu hd (by simpa using hi)
  simp [results, h, hq', asAddr, hl]
/-- A block that is known whole may be stored into. -/
theorem there_block {b : Nat} {C : Array Value} {t : TypeId} (h : w.heap[b]? = some (.cells C t (0, 0))) {i n : Nat} (hn : i + n ≤ C.size) : w.there b i n := fun j hj => by
  refine ⟨?_, by simp [World.frozen?, h]⟩
  rw [cell_of_row w b (i + j) C t _ h, Array.getElem?_eq_getElem (by omega)]
  rfl
theorem heap_setCells_whole {b : Nat} {C D : Array Value} {t : TypeId} (h : w.heap[b]? = some (.cells C t (0, 0))) (hs : D.size = C.size) : (w.setCells b 0 D.toList).heap[b]? = some (.cells D t (0, 0)) := by
  rw [setCells_row h D.toList 0 (by simp; omega), setRow_heap w b C _ t _ h]
  simp only [List.take_zero, List.nil_append, Nat.zero_add, Array.length_toList, hs]
  rw [List.drop_of_length_le (by simp)]
  simp
theorem heap_setCells_ne {b k : Nat} {C : Array Value} {t : TypeId} (h : w.heap[b]? = some (.cells C t (0, 0))) {vs : List Value} {i : Nat} (hi : i + vs.length ≤ C.size) (hk : k ≠ b) : (w.setCells b i vs).heap[k]? = w.heap[k]? := by
  rw [setCells_row h vs i hi, setRow_other w b k _ hk]
theorem grown_setCells {b : Nat} {C : Array Value} {t : TypeId} (h : w.heap[b]? = some (.cells C t (0, 0))) {vs : List Value} {i : Nat} (hi : i + vs.length ≤ C.size) : w.grownBy (w.setCells b i vs) (some b) := by
  rw [setCells_row h vs i hi]
  exact ⟨rfl, rfl, rfl, by simp, fun k _ hk => setRow_other w b k _ (fun e => hk (by rw [e]))⟩
end

/-! ### a region that reads, in whatever order, ahead of its last operations -/
section
variable {P : Program} {w : World} {ops : Array Oper} {rest : List Oper} {o : Oper} {a : Act} {Q : Act → Prop}
theorem wpStill_value {v : Value} (hw : Region.wanted o (yielded ops a.tmps) = true) (hr : (execOp a.eval o).run P w = .ok (.value v) w) (h : wpStill P ops w Q rest (a.put o.dst v)) : wpStill P ops w Q (o :: rest) a := by
  unfold wpStill
  rw [if_pos hw]
  unfold Oper.still
  rw [hr, Oper.stillUpon_value]
  exact h
theorem wpStill_load (hw : Region.wanted o (yielded ops a.tmps) = true) (ty : TypeId) (x : Operand) (ho : o.op = .load ty x) (b i : Nat) (hx : a.eval x = .pointer (some ⟨b, i, none⟩)) (C : Array Value) (d : TypeDesc) (hc : Lies w b i C)
    (hu : P.underlying ty = some d) (hd : d.isRow = true) (hi : (P.info? ty).map (·.size) = some C.size) (h : wpStill P ops w Q rest (a.put o.dst (.agg C))) : wpStill P ops w Q (o :: rest) a := by
  refine wpStill_value hw ?_ h
  unfold execOp
  simp only [ho, hx, Instr.loadAt, Instr.sureAddr, Sem.run_bind, Sem.run_pure, Result.andThen_ok, run_loadVar_mid w b i ty C.toList d hc hu hd (by simpa using hi), Array.toArray_toList]
theorem wpStill_build (hw : Region.wanted o (yielded ops a.tmps) = true) (t : TypeId) (parts : Array (Nat × Operand)) (ho : o.op = .build t parts) (cells : Array Value) (hf : P.built t (parts.map fun (i, x) => (i, a.eval x)).toList = some cells)
    (h : wpStill P ops w Q rest (a.put o.dst (.agg cells))) : wpStill P ops w Q (o :: rest) a := by
  refine wpStill_value hw ?_ h
  unfold execOp
  simp only [ho, Sem.run_bind, run_build w t _ cells hf, Result.andThen_ok, Sem.run_pure]
end

/-! ### rows of bytes by value -/
/-- An array of bytes, by value. -/
def bts (x : List UInt8) : Array Value := (x.map cell).toArray
abbrev idv (x : List UInt8) : Value := .agg (bts x)
theorem bts_size (x : List UInt8) : (bts x).size = x.length := by simp [bts]
theorem bts_one (x : List UInt8) : (bts x).all (·.oneCell') = true := by
  refine all_oneCell_toArray fun v hv => ?_
  obtain ⟨c, _, rfl⟩ := List.mem_map.1 hv
  rfl
theorem cell_inj {a b : UInt8} (h : cell a = cell b) : a = b := by
  have : (a.toNat : Int) = b.toNat := by
    have := h
    simp only [cell, Value.int.injEq, true_and] at this
    exact this
  exact UInt8.toNat_inj.1 (by omega)
theorem map_inj {α β : Type} {f : α → β} (hf : ∀ a b, f a = f b → a = b) : ∀ {x y : List α}, x.map f = y.map f → x = y
  | [], [], _ => rfl
  | [], _ :: _, h => by simp at h
  | _ :: _, [], h => by simp at h
  | a :: x, b :: y, h => by
    simp only [List.map_cons, List.cons.injEq] at h
    rw [hf a b h.1, map_inj hf h.2]
theorem bts_inj {x y : List UInt8} (h : bts x = bts y) : x = y := by
  have h' : x.map cell = y.map cell := by simpa [bts] using h
  exact map_inj (fun _ _ e => cell_inj e) h'
end Go.Proofs.Ytgbghjpkdbjdgaa
