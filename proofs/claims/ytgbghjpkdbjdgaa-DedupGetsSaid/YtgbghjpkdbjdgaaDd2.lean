/- rising; slices.SortFunc at ids. -/
import Derived.Test.YtgbghjpkdbjdgaaDd1
import Derived.Shelf.SlSortCmp.NoneTotal
import Derived.Sort.OwnSortedInts
namespace Go.Proofs.Ytgbghjpkdbjdgaa
open Go.RowKit Go.Sort Go.Shelf Go.Lib
open Extern.Stop (cell)

/-! ### the order of rows of bytes -/
theorem cb_refl : ∀ a : List UInt8, compareBytes a a = 0
  | [] => rfl
  | x :: a => by
    have h : ¬ x < x := UInt8.lt_irrefl x
    unfold compareBytes
    rw [if_neg h, if_neg h]
    exact cb_refl a
theorem cb_eq : ∀ {a b : List UInt8}, compareBytes a b = 0 → a = b
  | [], [], _ => rfl
  | [], _ :: _, h => by simp [compareBytes] at h
  | _ :: _, [], h => by simp [compareBytes] at h
  | x :: a, y :: b, h => by
    unfold compareBytes at h
    split at h
    · simp at h
    · split at h
      · simp at h
      · rename_i h1 h2
        have : x = y := UInt8.le_antisymm (UInt8.not_lt.1 h2) (UInt8.not_lt.1 h1)
        rw [this, cb_eq h]
theorem cb_swap : ∀ a b : List UInt8, compareBytes b a = - compareBytes a b
  | [], [] => rfl
  | [], _ :: _ => rfl
  | _ :: _, [] => rfl
  | x :: a, y :: b => by
    unfold compareBytes
    by_cases h1 : x < y
    · have h2 : ¬ y < x := fun h => UInt8.lt_irrefl x (UInt8.lt_trans h1 h)
      simp [h1, h2]
    · by_cases h2 : y < x
      · simp [h1, h2]
      · simp only [h1, h2, if_false]
        exact cb_swap a b
theorem cb_trans : ∀ {a b c : List UInt8}, compareBytes a b < 0 → compareBytes b c < 0 → compareBytes a c < 0
  | [], [], _, h, _ => by simp [compareBytes] at h
  | [], _ :: _, [], _, h => by simp [compareBytes] at h
  | [], _ :: _, _ :: _, _, _ => by simp [compareBytes]
  | _ :: _, [], _, h, _ => by simp [compareBytes] at h
  | _ :: _, _ :: _, [], _, h => by simp [compareBytes] at h
  | x :: a, y :: b, z :: c, h1, h2 => by
    unfold compareBytes at h1 h2 ⊢
    by_cases hxy : x < y
    · by_cases hyz : y < z
      · simp [UInt8.lt_trans hxy hyz]
      · rw [if_neg hyz] at h2
        by_cases hzy : z < y
        · simp [hzy] at h2
        · have : y = z := UInt8.le_antisymm (UInt8.not_lt.1 hzy) (UInt8.not_lt.1 hyz)
          subst this
          simp [hxy]
    · rw [if_neg hxy] at h1
      by_cases hyx : y < x
      · simp [hyx] at h1
      · have : x = y := UInt8.le_antisymm (UInt8.not_lt.1 hyx) (UInt8.not_lt.1 hxy)
        subst this
        rw [if_neg hyx] at h1
        by_cases hxz : x < z
        · simp [hxz]
        · rw [if_neg hxz] at h2 ⊢
          by_cases hzx : z < x
          · simp [hzx] at h2
          · rw [if_neg hzx] at h2 ⊢
            exact cb_trans h1 h2
def cfId (x y : Id32) : Int := compareBytes x.1 y.1
theorem lt_id (x y : Id32) : ltOf cfId x y = decide (compareBytes x.1 y.1 < 0) := rfl
theorem swoId : SWO (ltOf cfId) where
  irrefl x := by rw [lt_id, cb_refl]; rfl
  trans x y z h1 h2 := by
    rw [lt_id] at *
    exact decide_eq_true (cb_trans (of_decide_eq_true h1) (of_decide_eq_true h2))
  ntrans x y z h1 h2 := by
    rw [lt_id] at *
    have h1 := of_decide_eq_false h1
    have h2 := of_decide_eq_false h2
    refine decide_eq_false fun h => ?_
    have s1 := cb_swap x.1 y.1
    have s2 := cb_swap y.1 z.1
    rcases Int.lt_trichotomy (compareBytes y.1 x.1) 0 with a | a | a
    · rcases Int.lt_trichotomy (compareBytes z.1 y.1) 0 with b | b | b
      · have := cb_trans b a
        have s3 := cb_swap x.1 z.1
        omega
      · rw [cb_eq b] at h; omega
      · omega
    · rw [← cb_eq a] at h; omega
    · omega
theorem totId (x y : Id32) (h1 : ltOf cfId x y = false) (h2 : ltOf cfId y x = false) : x = y := by
  rw [lt_id] at h1 h2
  have h1 := of_decide_eq_false h1
  have h2 := of_decide_eq_false h2
  have s := cb_swap x.1 y.1
  exact Subtype.ext (cb_eq (by omega))

theorem alloc2_grow (w : World) (o p : Obj) (n : Nat) : ((w.alloc o).alloc p).drewN n = grow (w.drewN n) #[o, p] := by
  have e : (w.heap.push o).push p = w.heap ++ #[o, p] := by
    apply Array.ext'
    simp
  unfold Sort.grow World.alloc World.drewN
  simp only [e]
set_option maxHeartbeats 1000000 in
theorem rising_any {w : World} {x y : List UInt8} (hx : x.length = 32) (hy : y.length = 32) :
    Calls Try.prog 29 #[idk x, idk y] w fun e w' => e = .returned (.int .i64 (compareBytes x y)) ∧ ∃ q os, w' = grow (w.drewN q) os := by
  have bx : BytesRd ((w.alloc (.cells (idCells x).toArray 31)).alloc (.cells (idCells y).toArray 31)) (some ⟨w.heap.size, 0, none⟩) x := id_rd hx (t := 31) (fz := (0, 0)) (heap_up (heap_at _ _))
  have byy : BytesRd ((w.alloc (.cells (idCells x).toArray 31)).alloc (.cells (idCells y).toArray 31)) (some ⟨w.heap.size + 1, 0, none⟩) y := id_rd hy (t := 31) (fz := (0, 0)) (by have := heap_at (w.alloc (.cells (idCells x).toArray 31)) (.cells (idCells y).toArray 31); simpa using this)
  have CM : Hid (∀ n, Calls Try.prog 45 #[.slice (some ⟨w.heap.size, 0, none⟩) 32 32, .slice (some ⟨w.heap.size + 1, 0, none⟩) 32 32] (((w.alloc (.cells (idCells x).toArray 31)).alloc (.cells (idCells y).toArray 31)).drewN n) fun e w' => e = .returned (.int .i64 (compareBytes x y)) ∧ w' = ((w.alloc (.cells (idCells x).toArray 31)).alloc (.cells (idCells y).toArray 31)).drewN n) := Lib.hid (fun n => by
    have := compare_any (bx.later (below_drewN (Below.refl _ _) n)) (byy.later (below_drewN (Below.refl _ _) n)) 32 32
    rw [hx, hy] at this
    exact this)
  clear bx byy
  go_enter Try.func29, Try.ntmps29
  go_wp2_with fail
  refine wp_region_quiet_lit (by kernel_rfl) (by kernel_rfl) ?_
  repeat go_big_quiet_step ((go_at_call 45; exact Calls.quiet_of_same (CM.out _)))
  refine wpQuiet_nil ?_
  intro _ hw9
  obtain ⟨nq, hw9⟩ := hw9
  subst hw9
  go_wp2
  go_ret
  refine ⟨rfl, nq, #[.cells (idCells x).toArray 31, .cells (idCells y).toArray 31], ?_⟩
  have e : ∀ n, ((w.alloc (.cells (idCells x).toArray 31)).alloc (.cells (idCells y).toArray 31)).drewN n = grow (w.drewN n) #[.cells (idCells x).toArray 31, .cells (idCells y).toArray 31] := fun n => alloc2_grow w _ _ n
  exact e nq

/-! ### slices.SortFunc at ids -/
section
variable {α : Type} [Inhabited α] {enc : α → List Value} {k : Nat} (hk : ∀ x, (enc x).length = k)
include hk
theorem flatK_list (d : List α) : (flatK enc k d.toArray).toList = d.flatMap enc := by
  apply List.ext_getElem?
  intro t
  by_cases ht : t < d.length * k
  · have hk0 : 0 < k := by rcases Nat.eq_zero_or_pos k with h | h; (subst h; omega); exact h
    have hq : t / k < d.length := Nat.div_lt_of_lt_mul (by rw [Nat.mul_comm]; exact ht)
    have hr : t % k < k := Nat.mod_lt _ hk0
    have e1 := flat_get enc k hk d (t / k) (t % k) hr (List.getElem?_eq_getElem hq)
    rw [Nat.mul_comm, Nat.div_add_mod] at e1
    rw [e1, List.getElem?_eq_getElem (by simpa using ht)]
    have e2 := get_flatK enc k d.toArray t (by simpa using ht)
    rw [getElem!_pos _ t (by simpa using ht)] at e2
    rw [Array.getElem_toList, e2]
    have e3 : d.toArray[t / k]! = d[t / k] := by simp [hq]
    rw [e3]
    have hr2 : t % k < (enc d[t / k]).length := by rw [hk]; exact hr
    simp [hr2]
  · rw [List.getElem?_eq_none (by simp; omega), List.getElem?_eq_none (by rw [flat_len enc k hk]; omega)]
theorem holdsK_block {w : World} {g : Nat} {cur : Array Value} {e : TypeId} {ss : List α} (hb : w.heap[g]? = some (.cells cur e (0, 0))) (ht : cur.toList.take (ss.length * k) = ss.flatMap enc) : HoldsK enc k w g 0 ss.toArray := by
  intro j hj
  have hj' : j < ss.length * k := by simpa using hj
  refine ⟨?_, by simp [World.frozen?, hb]⟩
  have h1 : (cur.toList.take (ss.length * k))[j]? = (ss.flatMap enc)[j]? := by rw [ht]
  rw [List.getElem?_take_of_lt hj', ← flatK_list hk ss] at h1
  rw [Nat.zero_add, cell_of_row w g j cur e (0, 0) hb, ← Array.getElem?_toList, h1, List.getElem?_eq_getElem (by simpa using hj), Array.getElem_toList, getElem!_pos _ j hj]
  rfl
theorem own_sortedK {w : World} {base g cap n : Nat} {e : TypeId} {os : Array Obj} {cur : Array Value} {ss ts : List α} (hl : ts.length = ss.length) (hbase : base ≤ g) (hb : w.heap[g]? = some (.cells cur e (0, 0)))
    (h1 : ss.length ≤ cap) (h2 : cap ≤ maxLen) (h3 : cur.size = cap * k) :
    (sortWorldK enc k w g 0 n ts.toArray os).ownsRow base e k (.slice (some ⟨g, 0, none⟩) ss.length cap) ts.length (ts.flatMap enc) ∧ w.grownBy (sortWorldK enc k w g 0 n ts.toArray os) (some g) := by
  have hg : g < w.heap.size := (Array.getElem?_eq_some_iff.1 hb).1
  have hheap : (sortWorldK enc k w g 0 n ts.toArray os).heap[g]? = some (.cells (putCells id 0 (flatK enc k ts.toArray) cur) e (0, 0)) := by
    unfold sortWorldK putRowK
    rw [heap_grow_old _ _ (by simpa using hg)]
    simp [putRow, mapBlock, Sort.ahead, Array.getElem?_modify, hb, onCells]
  refine ⟨⟨by rw [flat_len enc k hk], .inr ⟨g, cap, _, by rw [hl], hbase, hheap, by omega, h2, by simp [putCells, h3], ?_⟩⟩, ⟨rfl, rfl, rfl, by simp [sortWorldK, putRowK], fun i hi hne => ?_⟩⟩
  · rw [← flatK_list hk ts]
    have hs : (flatK enc k ts.toArray).size = ts.length * k := by simp
    have hc : ts.length * k ≤ cur.size := by rw [h3]; exact Nat.mul_le_mul_right _ (by omega)
    apply List.ext_getElem?
    intro j
    by_cases hj : j < ts.length * k
    · rw [List.getElem?_take_of_lt hj, Array.getElem?_toList, Array.getElem?_toList]
      simp [putCells, hj, show j < cur.size by omega]
    · rw [List.getElem?_take_eq_none (by omega), List.getElem?_eq_none (by simp; omega)]
  · unfold sortWorldK putRowK
    rw [heap_grow_old _ _ (by simpa using hi)]
    have : g ≠ i := fun e => hne (by rw [e])
    simp [putRow, mapBlock, Sort.ahead, Array.getElem?_modify, this]
end
/-- Ids, rising. -/
def sortIds (l : List Id32) : List Id32 := l.mergeSort fun x y => !(ltOf cfId) y x
theorem rising_lays (blk off size : Nat) (w : World) : CmpLays Try.prog 29 #[] encId 32 cfId blk off size w := fun _ _ _ _ x y => rising_any x.2 y.2
theorem sort_ids {B : Nat} {w : World} {v : Value} {ids : List Id32} (h : w.ownsRow B 31 32 v ids.length (ids.flatMap encId)) (hs : ids.length < 4611686018427387904) :
    Calls Try.prog 48 #[v, .func (.func 29) #[] #[]] w fun e w' => e = .returned (.tuple #[]) ∧ w'.ownsRow B 31 32 v (sortIds ids).length ((sortIds ids).flatMap encId) ∧ w.grownBy w' v.ownBlock := by
  rcases h.2 with ⟨rfl, h0⟩ | ⟨g, cap, cur, rfl, hb, hg, hnc, hcm, hcs, htake⟩
  · have : ids = [] := List.eq_nil_of_length_eq_zero h0
    subst this
    exact (AnyF.slices_SortFunc_none Try.sortIds none 0 _ w).mono fun e w' ⟨he, hw⟩ => ⟨he, by subst hw; simpa [sortIds] using h, by subst hw; exact grown_refl _ _⟩
  · have N := AnyQ.slices_SortFunc_total Try.sortIds 32 (fun _ => by kernel_rfl) (fun _ => by kernel_rfl) encId encId_len (fun x v hv => idCells_one x.1 v hv) cfId swoId 29 #[] g 0 cap ids.toArray w (fun _ _ => by kernel_rfl) (rising_lays _ _ _ _) (holdsK_block encId_len hg htake) (Array.getElem?_eq_some_iff.1 hg).1 (by simpa using hs) totId
    change Calls Try.prog 48 _ _ _ at N
    have e1 : ids.toArray.size = ids.length := by simp
    rw [e1] at N
    refine N.mono ?_
    rintro e w' ⟨rfl, n, os, rfl⟩
    have hl : (sortIds ids).length = ids.length := List.length_mergeSort _
    obtain ⟨r1, r2⟩ := own_sortedK (enc := encId) (k := 32) encId_len (base := B) (n := n) (os := os) (ts := sortIds ids) (ss := ids) hl hb hg hnc hcm hcs
    exact ⟨rfl, r1, r2⟩
end Go.Proofs.Ytgbghjpkdbjdgaa
