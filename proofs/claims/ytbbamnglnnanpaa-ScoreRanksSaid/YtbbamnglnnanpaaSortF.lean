/- slices.SortFunc at a row of the call's own, elements of one cell. -/
import Derived.Test.YtbbamnglnnanpaaOwn
import Derived.Test.YtbbamnglnnanpaaShelf
import Derived.Sort.OwnSortedInts
namespace Go.Proofs.Ytbbamnglnnanpaa
open Go.RowKit Go.Sort Go.Shelf Go.Lib

section
variable {α : Type} [Inhabited α] (enc : α → Value)
theorem holds_of_blockE {w : World} {g : Nat} {cur : Array Value} {e : TypeId} {ss : List α} (hb : w.heap[g]? = some (.cells cur e (0, 0))) (ht : cur.toList.take ss.length = ss.map enc) : Holds enc w g 0 ss.toArray := by
  intro j hj
  have hj' : j < ss.length := by simpa using hj
  refine ⟨?_, by simp [World.frozen?, hb]⟩
  have h1 : (cur.toList.take ss.length)[j]? = (ss.map enc)[j]? := by rw [ht]
  rw [List.getElem?_take_of_lt hj'] at h1
  simp only [World.cell?, hb, Nat.zero_add]
  simp only [Option.isSome_none, Bool.false_eq_true, if_false]
  rw [← Array.getElem?_toList, h1]
  simp [hj']
theorem heap_sortedE {w : World} {g n : Nat} {os : Array Obj} {cur : Array Value} {e : TypeId} {fr : Nat × Nat} (d : Array α) (hb : w.heap[g]? = some (.cells cur e fr)) :
    (grow (putRow enc (Sort.ahead w n) g 0 d) os).heap[g]? = some (.cells (putCells enc 0 d cur) e fr) := by
  have hg : g < w.heap.size := (Array.getElem?_eq_some_iff.1 hb).1
  rw [heap_grow_old _ _ (by simpa using hg)]
  simp [putRow, mapBlock, Sort.ahead, Array.getElem?_modify, hb, onCells]
theorem grownBy_sortedE {w : World} {g n : Nat} {os : Array Obj} (d : Array α) : w.grownBy (grow (putRow enc (Sort.ahead w n) g 0 d) os) (some g) := by
  refine ⟨rfl, rfl, rfl, by simp, fun k hk hne => ?_⟩
  rw [heap_grow_old _ _ (by simpa using hk)]
  have : g ≠ k := fun e => hne (by rw [e])
  simp [putRow, mapBlock, Sort.ahead, Array.getElem?_modify, this]
theorem take_putCellsE (cur : Array Value) (ts : List α) (h : ts.length ≤ cur.size) : (putCells enc 0 ts.toArray cur).toList.take ts.length = ts.map enc := by
  apply List.ext_getElem?
  intro j
  by_cases hj : j < ts.length
  · rw [List.getElem?_take_of_lt hj, Array.getElem?_toList]
    simp [putCells, hj, show j < cur.size by omega]
  · rw [List.getElem?_take_eq_none (by omega), List.getElem?_eq_none (by simp; omega)]
theorem ownsRow_sortedE {w : World} {base g cap n : Nat} {e : TypeId} {os : Array Obj} {cur : Array Value} {ss ts : List α} (hl : ts.length = ss.length) (hbase : base ≤ g) (hb : w.heap[g]? = some (.cells cur e (0, 0)))
    (h1 : ss.length ≤ cap) (h2 : cap ≤ maxLen) (h3 : cur.size = cap * 1) :
    (grow (putRow enc (Sort.ahead w n) g 0 ts.toArray) os).ownsRow base e 1 (.slice (some ⟨g, 0, none⟩) ss.length cap) ss.length (ts.map enc) :=
  ⟨by simp [hl], .inr ⟨g, cap, _, rfl, hbase, heap_sortedE enc _ hb, h1, h2, by simp [putCells, h3], by rw [Nat.mul_one, ← hl]; exact take_putCellsE enc cur ts (by omega)⟩⟩
end
/-- A row is sorted by a function that compares: its elements then stand in the stable order. -/
theorem sortfunc_any {α : Type} [Inhabited α] (enc : α → Value) (h1 : OneCell enc) (cf : α → α → Int) (hO : SWO (ltOf cf)) (hT : ∀ x y, ltOf cf x y = false → ltOf cf y x = false → x = y) (g : Nat) (cb : Array Value)
    (eg : ∀ args w, (callFunc g args).run Try.prog w = .ok (.enter g args) w) {B : Nat} {w : World} {v : Value} {zs : List α} (hcmp : ∀ blk, v.ownBlock = some blk → CmpLays1 Try.prog g cb enc cf blk 0 zs.length w)
    (h : w.ownsRow B 3 1 v zs.length (zs.map enc)) (hs : zs.length < 4611686018427387904) :
    Calls Try.prog 36 #[v, .func (.func g) #[] cb] w fun e w' => e = .returned (.tuple #[]) ∧ w'.ownsRow B 3 1 v zs.length ((zs.mergeSort fun x y => !(ltOf cf) y x).map enc) ∧ w.grownBy w' v.ownBlock := by
  rcases h.2 with ⟨rfl, h0⟩ | ⟨b, cap, cur, rfl, hb, hg, hnc, hcm, hcs, htake⟩
  · have : zs = [] := List.eq_nil_of_length_eq_zero h0
    subst this
    have N := AnyF.slices_SortFunc_none (P := Try.prog) (ρ := Try.laysSF_ren) { Try.laysSF with } none 0 (.func (.func g) #[] cb) w
    change Calls Try.prog 36 _ _ _ at N
    exact N.mono fun e w' ⟨he, hw⟩ => ⟨he, by subst hw; simpa [List.mergeSort] using h, by subst hw; exact grown_refl _ _⟩
  · rw [Nat.mul_one] at htake
    have N := Any.slices_SortFunc_total Try.laysSF enc h1 cf hO g cb b 0 cap zs.toArray w eg (hcmp b (by simp [Value.ownBlock])) (holds_of_blockE enc hg htake) (Array.getElem?_eq_some_iff.1 hg).1 hs hT
    change Calls Try.prog 36 _ _ _ at N
    refine N.mono ?_
    rintro e w' ⟨rfl, n, os, rfl⟩
    exact ⟨rfl, ownsRow_sortedE enc (List.length_mergeSort _) hb hg hnc hcm hcs, grownBy_sortedE enc _⟩
end Go.Proofs.Ytbbamnglnnanpaa
