/- The index: Drop. -/
import Derived.Test.YtgbghjpkdbjdgaaDd6
namespace Go.Proofs.Ytgbghjpkdbjdgaa
open Go.RowKit
open Go.Maps (Keyed)
open Go.MapKept (Stamped)
open Go.ChangeMaps (setBlock)
open Extern.Stop (cell)

theorem filter_eraseIdx {α : Type} {p : α → Bool} : ∀ {l : List α} {j : Nat} {x : α}, l[j]? = some x → p x = false → (l.eraseIdx j).filter p = l.filter p
  | [], _, _, h, _ => by simp at h
  | y :: r, 0, x, h, hp => by
    have : y = x := by simpa using h
    subst this
    simp [hp]
  | y :: r, j + 1, x, h, hp => by
    have h' : r[j]? = some x := by simpa using h
    rw [List.eraseIdx_cons_succ, List.filter_cons, List.filter_cons, filter_eraseIdx h' hp]
/-- 'delete(m, k)' of a key that has come already. -/
theorem RangeIs.drop {α β : Type} [DecidableEq α] {P : Program} {k : TypeId} {eK : α → Value} {eV : β → Value} {w : World} {r m : Nat} {l left : List (α × β)} (h : RangeIs P k eK eV w r m l left) (K : Keyed P k) (inj : ∀ x y, eK x = eK y → x = y) {t e ty : TypeId} (ht : P.underlying t = some (.map k e)) {a : α} {kl : Lit} (hkey : keyOf P k (eK a) = some kl) (hl : ∀ p ∈ left, p.1 ≠ a) :
    ∃ w', (Builtin.delete_ #[t, k] ty #[.map (some m), eK a]).run P w = .ok (.tuple #[]) w' ∧ RangeIs P k eK eV w' r m (adel l a) left ∧ w.grownBy w' (some m) ∧ w'.heap.size = w.heap.size := by
  have hap := h.map.apart
  have hM := h.map
  obtain ⟨es, clk, seen, q1, q2, q3, q4, q5, q6⟩ := h
  obtain ⟨es2, clk2, h1, h3, h2, h4, hf⟩ := hM.find K inj hkey
  rw [q2] at h1
  cases h1
  have hne : r ≠ m := by rintro rfl; rw [q1] at q2; cases q2
  have fin : ∀ o, w.grownBy (setBlock w m o) (some m) ∧ (setBlock w m o).heap.size = w.heap.size := fun o =>
    ⟨⟨rfl, rfl, rfl, by simp [setBlock], fun i _ hi => ChangeMaps.heap_setBlock_other q2 _ (fun e => hi (by rw [e]))⟩, by simp [setBlock]⟩
  have hr' : ∀ o, (setBlock w m o).heap[r]? = some (.mapIter (some m) clk seen clk) := fun o => by rw [ChangeMaps.heap_setBlock_other q2 _ hne]; exact q1
  rcases hf with ⟨f1, hn⟩ | ⟨j, e0, v0, f1, fj, fk, fv, hs, hj⟩
  · refine ⟨setBlock w m (.map es clk), ?_, ⟨es, clk, seen, hr' _, ChangeMaps.heap_setBlock_same q2 _, by rw [adel_none hn]; exact q3, q4, by rw [adel_none hn]; exact q5, q6⟩, fin _⟩
    simp [Builtin.delete_, run_underlying ht, MapKept.run_getObj_map q2, K.check w _ hkey, f1, MapKept.run_setObj_map _ q2, Result.andThen, setBlock]
  · have hjl : j < es.toList.length := (List.getElem?_eq_some_iff.1 fj).1
    have hjs : j < es.size := by simpa using hjl
    have hsub : (es.eraseIdxIfInBounds j).toList = es.toList.eraseIdx j := by
      unfold Array.eraseIdxIfInBounds
      rw [dif_pos hjs]
      simp
    have hout : (!seen.contains e0.born) = false := by
      cases hc : (!seen.contains e0.born)
      · rfl
      · exfalso
        have hmem : e0 ∈ (leftOf es seen).toList := by
          simp only [leftOf, Array.toList_filter, List.mem_filter]
          exact ⟨List.mem_of_getElem? fj, hc⟩
        have h5 : (e0.key, e0.val) ∈ (leftOf es seen).toList.map (fun e => (e.key, e.val)) := List.mem_map.2 ⟨e0, hmem, rfl⟩
        rw [q6] at h5
        obtain ⟨p, hp, e2⟩ := List.mem_map.1 h5
        simp only [Prod.mk.injEq] at e2
        exact hl p hp (inj _ _ (e2.1.trans fk))
    refine ⟨setBlock w m (.map (es.eraseIdxIfInBounds j) clk), ?_, ⟨_, _, seen, hr' _, ChangeMaps.heap_setBlock_same q2 _, ?_, MapKept.stamped_erase h3 j, ?_, ?_⟩, fin _⟩
    · simp [Builtin.delete_, run_underlying ht, MapKept.run_getObj_map q2, K.check w _ hkey, f1, MapKept.run_setObj_map _ q2, Result.andThen, setBlock]
    · rw [hsub, ChangeMaps.map_eraseIdx, h2, adel_erase hap hj, ChangeMaps.map_eraseIdx]
    · rw [adel_erase hap hj]
      intro p hp
      exact h4 p ((List.eraseIdx_sublist _ _).subset hp)
    · rw [← q6]
      congr 1
      simp only [leftOf, Array.toList_filter, hsub]
      exact filter_eraseIdx fj hout
theorem step_delete {α β : Type} [DecidableEq α] {P : Program} {w : World} {ops : Array Oper} {o : Oper} {a : Act} {K' : Act → World → Prop} {Q : Exit → Act → World → Prop} {E : Prop} (hg : o.guard = none) (m x : Operand) (t k : TypeId) (ho : o.op = .call { callee := .builtin .delete, args := #[m, x], argTypes := #[t, k] })
    (e : TypeId) (K : Keyed P k) (ht : P.underlying t = some (.map k e)) (eK : α → Value) (eV : β → Value) (inj : ∀ x y, eK x = eK y → x = y) (r b : Nat) (l left : List (α × β)) (h : RangeIs P k eK eV w r b l left)
    (hm : a.eval m = .map (some b)) (key : α) (kl : Lit) (hx : a.eval x = eK key) (hkey : keyOf P k (eK key) = some kl) (hl : ∀ p ∈ left, p.1 ≠ key)
    (hK : ∀ w', RangeIs P k eK eV w' r b (adel l key) left → w.grownBy w' (some b) → w'.heap.size = w.heap.size → K' (a.put o.dst (.tuple #[])) w') : if Region.wanted o (yielded ops a.tmps) = true then Oper.wp P o a w K' Q else E := by
  have hw : Region.wanted o (yielded ops a.tmps) = true := by simp [Region.wanted, hg]
  rw [if_pos hw]
  obtain ⟨w', hr, r1, r2, r3⟩ := h.drop K inj ht (ty := o.type) hkey hl
  unfold Oper.wp execOp
  simp only [ho, resolve, invoke, builtin, Sem.run_bind, Sem.run_pure, Result.andThen_ok, List.map_toArray, List.map_cons, List.map_nil, hm, hx, hr]
  exact hK w' r1 r2 r3
/-- A store into the last block but one. -/
theorem alloc2_set (w : World) (c c' : Array Value) (t : TypeId) (o : Obj) (hs : c.size = c'.size) : ((w.alloc (.cells c t)).alloc o).setCells w.heap.size 0 c'.toList = (w.alloc (.cells c' t)).alloc o := by
  have hb : ((w.alloc (.cells c t)).alloc o).heap[w.heap.size]? = some (.cells c t (0, 0)) := heap_up (heap_at _ _)
  rw [setCells_row hb c'.toList 0 (by simp; omega)]
  have e1 : (c.toList.take 0 ++ c'.toList ++ c.toList.drop (0 + c'.toList.length)).toArray = c' := by
    rw [List.take_zero, List.nil_append, List.drop_of_length_le (by simp; omega), List.append_nil]
  rw [e1]
  unfold World.setRow World.alloc
  cases w with
  | mk heap tape drawn os output =>
    simp only
    congr 1
    apply Array.ext
    · simp
    · intro k h1 h2
      simp only [Array.getElem_modify]
      split
      · rename_i hk
        subst hk
        simp [Array.getElem_push]
      · rename_i hk
        by_cases h3 : k < heap.size
        · simp [Array.getElem_push, h3, Nat.lt_succ_of_lt h3]
        · have h4 : ¬ k < heap.size + 1 := by omega
          simp [Array.getElem_push, h4]
theorem wpList_store_two {P : Program} {W' : World} {ops : Array Oper} {rest : List Oper} {o : Oper} {a : Act} {Q : Exit → Act → World → Prop} (hg : o.guard = none) (ty : TypeId) (x y : Operand) (ho : o.op = .store ty x y) (w : World) (c c' : Array Value) (ob : Obj) (hW : W' = (w.alloc (.cells c ty)).alloc ob) (hx : a.eval x = .pointer (some ⟨w.heap.size, 0, none⟩)) (hy : a.eval y = .agg c')
    (hi : (P.info? ty).map (·.size) = some c'.size) (hs : c.size = c'.size) (h1 : c'.all (·.oneCell') = true) (h : wpList P ops Q rest (a.put o.dst undef) ((w.alloc (.cells c' ty)).alloc ob)) : wpList P ops Q (o :: rest) a W' := by
  subst hW
  refine wpList_store_mid hg ty x y ho w.heap.size 0 c' hx hy (there_block (C := c) (t := ty) (heap_up (heap_at _ _)) (by omega)) hi h1 ?_
  rw [alloc2_set w c c' ty ob hs]
  exact h
end Go.Proofs.Ytgbghjpkdbjdgaa
