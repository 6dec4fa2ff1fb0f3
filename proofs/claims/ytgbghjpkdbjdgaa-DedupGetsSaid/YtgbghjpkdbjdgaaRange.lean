/- Ranging over a map that reads as a list: what is left to come. -/
import Derived.Test.YtgbghjpkdbjdgaaLib
import Derived.Maps.RangeWalk
import Derived.Deep.LoopGhost
namespace Go.Proofs.Ytgbghjpkdbjdgaa
open Go.Maps (Keyed)
open Go.MapKept (Stamped)
open Go.ChangeMaps (setBlock)
variable {α β : Type}

/-- Block r iterates over the map at block m, which reads as l; what is left to come is 'left'. -/
def RangeIs (P : Program) (k : TypeId) (eK : α → Value) (eV : β → Value) (w : World) (r m : Nat) (l left : List (α × β)) : Prop :=
  ∃ es clk seen, w.heap[r]? = some (.mapIter (some m) clk seen clk) ∧ w.heap[m]? = some (.map es clk) ∧ es.toList.map (fun e => (e.key, e.val)) = l.map (fun p => (eK p.1, eV p.2)) ∧ Stamped es clk ∧
    (∀ p ∈ l, ∃ kl, keyOf P k (eK p.1) = some kl) ∧ (leftOf es seen).toList.map (fun e => (e.key, e.val)) = left.map (fun p => (eK p.1, eV p.2))

section
variable {P : Program} {k : TypeId} {eK : α → Value} {eV : β → Value} {w w' : World} {r m : Nat} {l left : List (α × β)}
theorem RangeIs.map (h : RangeIs P k eK eV w r m l left) : MapIs P k eK eV w m l := by
  obtain ⟨es, clk, seen, h1, h2, h3, h4, h5, _⟩ := h
  exact ⟨es, clk, h2, h3, h4, h5⟩
theorem RangeIs.ltr (h : RangeIs P k eK eV w r m l left) : r < w.heap.size := by
  obtain ⟨es, clk, seen, h1, _⟩ := h
  exact (Array.getElem?_eq_some_iff.1 h1).1
theorem RangeIs.of_blocks (h : RangeIs P k eK eV w r m l left) (hr : w'.heap[r]? = w.heap[r]?) (hm : w'.heap[m]? = w.heap[m]?) : RangeIs P k eK eV w' r m l left := by
  obtain ⟨es, clk, seen, h1, h2, h3⟩ := h
  exact ⟨es, clk, seen, hr.trans h1, hm.trans h2, h3⟩
theorem RangeIs.alloc (h : RangeIs P k eK eV w r m l left) (o : Obj) : RangeIs P k eK eV (w.alloc o) r m l left :=
  h.of_blocks (RowKit.Below.heap_alloc _ _ _ h.ltr) (RowKit.Below.heap_alloc _ _ _ h.map.lt)
theorem RangeIs.setCell (h : RangeIs P k eK eV w r m l left) {a : Addr} (hr : a.block ≠ r) (hm : a.block ≠ m) (v : Value) : RangeIs P k eK eV (w.setCell a v) r m l left :=
  h.of_blocks (RowKit.Below.heap_setCell _ _ _ _ (fun e => hr e.symm)) (RowKit.Below.heap_setCell _ _ _ _ (fun e => hm e.symm))

theorem filter_erase {β : Type} (f : β → Nat) : ∀ (l : List β) (j : Nat) (x : β), (l.map f).Nodup → l[j]? = some x → l.filter (fun y => !(f y == f x)) = l.eraseIdx j
  | [], _, _, _, h => by simp at h
  | y :: t, 0, x, hn, h => by
    simp at h; subst h
    simp only [List.map_cons, List.nodup_cons] at hn
    simp only [List.filter_cons, beq_self_eq_true, Bool.not_true, Bool.false_eq_true, if_false, List.eraseIdx_cons_zero]
    rw [List.filter_eq_self]
    intro z hz
    have : f z ≠ f y := fun e => hn.1 (by rw [← e]; exact List.mem_map.2 ⟨z, hz, rfl⟩)
    simp [this]
  | y :: t, j + 1, x, hn, h => by
    simp only [List.map_cons, List.nodup_cons] at hn
    simp at h
    have : f y ≠ f x := fun e => hn.1 (by rw [e]; exact List.mem_map.2 ⟨x, List.mem_of_getElem? h, rfl⟩)
    simp [this, filter_erase f t j x hn.2 h]

/-- 'next': nothing is left; or one that is left comes. -/
theorem RangeIs.next (h : RangeIs P k eK eV w r m l left) (ty : TypeId) :
    (left = [] ∧ (Instr.next (.pointer (some ⟨r, 0, none⟩)) false ty).run P w = .ok (.tuple #[.bool false]) w) ∨
    ∃ j p w', left[j]? = some p ∧ (Instr.next (.pointer (some ⟨r, 0, none⟩)) false ty).run P w = .ok (.tuple #[.bool true, eK p.1, eV p.2]) w' ∧ RangeIs P k eK eV w' r m l (left.eraseIdx j) ∧ w.grownBy w' (some r) ∧ w'.heap.size = w.heap.size ∧
      (Instr.entry (.pointer (some ⟨r, 0, none⟩))).run P w' = .ok (.tuple #[eK p.1, eV p.2]) w' := by
  obtain ⟨es, clk, seen, h1, h2, h3, h4, h5, h6⟩ := h
  have hborn : ∀ x ∈ es.toList, x.born < clk := h4.1
  rcases run_next_at (P := P) w ty r m clk clk seen es clk h1 h2 hborn (Nat.le_refl _) with ⟨hz, hrun⟩ | ⟨e, he, w1, hw1, hrun⟩
  · left
    refine ⟨?_, hrun⟩
    have : (leftOf es seen).toList = [] := by
      have := Array.eq_empty_of_size_eq_zero hz; rw [this]
    rw [this] at h6
    simpa using h6.symm
  · right
    obtain ⟨j, hj⟩ := List.mem_iff_getElem?.1 he
    have hp : ((leftOf es seen).toList.map (fun e => (e.key, e.val)))[j]? = some (e.key, e.val) := by simp [hj]
    rw [h6, List.getElem?_map] at hp
    obtain ⟨p, hp1, hp2⟩ := Option.map_eq_some_iff.1 hp
    simp only [Prod.mk.injEq] at hp2
    have hb1 : w1.heap = w.heap := by rcases hw1 with rfl | rfl <;> rfl
    have hr1 : w1.heap[r]? = some (.mapIter (some m) clk seen clk) := by rw [hb1]; exact h1
    have hne : m ≠ r := by rintro rfl; rw [h1] at h2; cases h2
    have hmm : (setBlock w1 r (.mapIter (some m) clk (seen.push e.born) clk)).heap[m]? = some (.map es clk) := by
      simp only [setBlock]
      rw [Array.getElem?_setIfInBounds_ne (fun e => hne e.symm), hb1]; exact h2
    have hrr : (setBlock w1 r (.mapIter (some m) clk (seen.push e.born) clk)).heap[r]? = some (.mapIter (some m) clk (seen.push e.born) clk) := by
      have hlt : r < w1.heap.size := (Array.getElem?_eq_some_iff.1 hr1).1
      simp [setBlock, hlt]
    have hmem : e ∈ es.toList := by
      have := he; simp [leftOf] at this; simpa using this.1
    refine ⟨j, p, _, hp1, by rw [hp2.1, hp2.2]; exact hrun, ⟨es, clk, seen.push e.born, hrr, hmm, h3, h4, h5, ?_⟩, ?_, ?_, ?_⟩
    · have e1 : (leftOf es (seen.push e.born)).toList = (leftOf es seen).toList.eraseIdx j := by
        rw [← filter_erase (fun x : MapEntry => x.born) _ j e ?_ hj]
        · simp only [leftOf, Array.toList_filter, List.filter_filter]
          congr 1
          funext x
          simp only [Array.contains_push, Bool.not_or]
          rw [Bool.and_comm]
        · have : (leftOf es seen).toList.Sublist es.toList := by simp [leftOf]
          exact (this.map _).nodup h4.2.1
      rw [e1, ChangeMaps.map_eraseIdx, h6, ChangeMaps.map_eraseIdx]
    · refine ⟨?_, ?_, ?_, ?_, fun i _ hi => ?_⟩
      · rcases hw1 with rfl | rfl <;> rfl
      · rcases hw1 with rfl | rfl <;> rfl
      · rcases hw1 with rfl | rfl <;> rfl
      · simp [setBlock, hb1]
      · simp only [setBlock]
        rw [Array.getElem?_setIfInBounds_ne (fun e => hi (by rw [e])), hb1]
    · simp [setBlock, hb1]
    · rw [hp2.1, hp2.2]
      exact run_entry_at _ r m clk seen es clk e hrr hmm hmem h4.2.1

/-- 'range m'. -/
theorem MapIs.range (h : MapIs P k eK eV w m l) {t e : TypeId} (ht : P.underlying t = some (.map k e)) :
    ∃ w', (Instr.range t (.map (some m))).run P w = .ok (.pointer (some ⟨w.heap.size, 0, none⟩)) w' ∧ RangeIs P k eK eV w' w.heap.size m l l ∧ RowKit.Below w.heap.size w w' ∧ w'.heap.size = w.heap.size + 1 := by
  have hlt := h.lt
  obtain ⟨es, clk, h1, h2, h3, h4⟩ := h
  refine ⟨w.alloc (.mapIter (some m) clk #[] clk), ?_, ⟨es, clk, #[], heap_at _ _, by rw [RowKit.Below.heap_alloc _ _ _ hlt]; exact h1, h2, h3, h4, ?_⟩, below_alloc (RowKit.Below.refl _ _) _, by simp⟩
  · simp only [Instr.range, Sem.run_bind, run_underlying ht, MapKept.run_getObj_map h1, Result.andThen]; rfl
  · rw [← h2]; congr 1; simp only [leftOf, Array.toList_filter]; rw [List.filter_eq_self]; simp
end

section
variable {P : Program} (w : World) {ops : Array Oper} {rest : List Oper} {o : Oper} {a : Act} {Q : Exit → Act → World → Prop} {k : TypeId} {eK : α → Value} {eV : β → Value}
theorem wpList_range_is (hg : o.guard = none) (x : Operand) (t : TypeId) (hop : o.op = Op.range t x) (e : TypeId) (ht : P.underlying t = some (.map k e)) (m : Nat) (l : List (α × β)) (hm : a.eval x = .map (some m)) (h : MapIs P k eK eV w m l)
    (hK : ∀ w', RangeIs P k eK eV w' w.heap.size m l l → RowKit.Below w.heap.size w w' → w'.heap.size = w.heap.size + 1 → wpList P ops Q rest (a.put o.dst (.pointer (some ⟨w.heap.size, 0, none⟩))) w') :
    wpList P ops Q (o :: rest) a w := by
  refine wpList_plain hg fun K' hK' => ?_
  obtain ⟨w', hrun, r1, r2, r3⟩ := h.range ht
  unfold Oper.wp
  simp [execOp, hop, hm, hrun, Result.andThen]
  exact hK' _ _ (hK w' r1 r2 r3)
theorem wpList_next_is (hg : o.guard = none) (it : Operand) (hop : o.op = Op.next it false) (r m : Nat) (l left : List (α × β)) (hit : a.eval it = .pointer (some ⟨r, 0, none⟩)) (h : RangeIs P k eK eV w r m l left)
    (hDone : left = [] → wpList P ops Q rest (a.put o.dst (.tuple #[.bool false])) w)
    (hMore : ∀ (j : Nat) (x : α) (v : β) (w' : World), left[j]? = some (x, v) → RangeIs P k eK eV w' r m l (left.eraseIdx j) → w.grownBy w' (some r) → w'.heap.size = w.heap.size → (Instr.entry (.pointer (some ⟨r, 0, none⟩))).run P w' = .ok (.tuple #[eK x, eV v]) w' →
      wpList P ops Q rest (a.put o.dst (.tuple #[.bool true, eK x, eV v])) w') :
    wpList P ops Q (o :: rest) a w := by
  refine wpList_plain hg fun K' hK' => ?_
  unfold Oper.wp
  rcases h.next o.type with ⟨hl, hrun⟩ | ⟨j, p, w', hj, hrun, hrg, hgr, hsz, hen⟩
  · simp [execOp, hop, hit, hrun, Result.andThen]
    exact hK' _ _ (hDone hl)
  · simp [execOp, hop, hit, hrun, Result.andThen]
    exact hK' _ _ (hMore j p.1 p.2 w' hj hrg hgr hsz hen)
end
end Go.Proofs.Ytgbghjpkdbjdgaa
