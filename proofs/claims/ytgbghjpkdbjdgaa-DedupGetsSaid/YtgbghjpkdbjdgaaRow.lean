/- Rows of the call's own, and worlds in which all is as it was but for blocks of a few types. -/
import Derived.Test.YtgbghjpkdbjdgaaLib
import Derived.Maps.AppendAt
import Derived.Laws.OwnMore
import Derived.Laws.CopyRow
namespace Go.Proofs.Ytgbghjpkdbjdgaa
open Go.RowKit

def objIn (T : List TypeId) : Obj → Bool
  | .cells _ t _ => T.contains t
  | _ => false
/-- Behind w all is as it was, but for blocks of the types T, which lie from A on. -/
structure Keeps (T : List TypeId) (A : Nat) (w w' : World) : Prop where
  below : Below A w w'
  old : ∀ (k : Nat) (o : Obj), w.heap[k]? = some o → objIn T o = false → w'.heap[k]? = some o
section
variable {T : List TypeId} {A : Nat} {w w1 w' : World}
theorem Keeps.refl (T : List TypeId) (A : Nat) (w : World) : Keeps T A w w := ⟨Below.refl _ _, fun _ _ h _ => h⟩
theorem Keeps.trans (h : Keeps T A w w1) (k : Keeps T A w1 w') : Keeps T A w w' := ⟨h.below.trans k.below, fun i o hi ho => k.old i o (h.old i o hi ho) ho⟩
theorem Keeps.of (h : Below w.heap.size w w') (hA : A ≤ w.heap.size) : Keeps T A w w' := ⟨h.mono hA, fun i _ hi _ => (h.block i (Array.getElem?_eq_some_iff.1 hi).1).trans hi⟩
theorem Keeps.then (h : Keeps T A w w1) (hA : A ≤ w.heap.size) (k : Below w1.heap.size w1 w') : Keeps T A w w' := h.trans (Keeps.of k (Nat.le_trans hA h.below.size))
theorem Keeps.row (h : Keeps T A w w1) {row : Option Nat} (hg : w1.grownBy w' row) (hA : A ≤ w1.heap.size) (hrow : ∀ k, row = some k → A ≤ k ∧ ∃ cs t fz, w1.heap[k]? = some (.cells cs t fz) ∧ T.contains t = true) : Keeps T A w w' := by
  refine h.trans ⟨⟨hg.os, hg.tape, hg.output, hg.size, fun i hi => hg.block i (by omega) (fun e => by have := (hrow i e.symm).1; omega)⟩, fun i o hi ho => ?_⟩
  rw [hg.block i (Array.getElem?_eq_some_iff.1 hi).1 (fun e => ?_)]
  · exact hi
  · obtain ⟨_, cs, t, fz, hc, ht⟩ := hrow i e.symm
    rw [hi] at hc; cases hc
    simp only [objIn] at ho
    rw [ht] at ho; cases ho
theorem grown_setCell (w : World) (a : Addr) (v : Value) : w.grownBy (w.setCell a v) (some a.block) :=
  ⟨rfl, rfl, rfl, by simp, fun i _ hi => RowKit.Below.heap_setCell _ _ _ _ (fun e => hi (by rw [e]))⟩
theorem Keeps.setCell (h : Keeps T A w w1) {a : Addr} {cs : Array Value} {t : TypeId} {fz : Nat × Nat} (hc : w1.heap[a.block]? = some (.cells cs t fz)) (ht : T.contains t = true) (hA : A ≤ a.block) (v : Value) : Keeps T A w (w1.setCell a v) :=
  h.row (grown_setCell w1 a v) (by have := (Array.getElem?_eq_some_iff.1 hc).1; omega) (fun k e => by cases e; exact ⟨hA, cs, t, fz, hc, ht⟩)
end

theorem own_row {w : World} {base : Nat} {e : TypeId} {size : Nat} {v : Value} {n : Nat} {xs : List Value} (h : w.ownsRow base e size v n xs) {k : Nat} (hk : v.ownBlock = some k) : base ≤ k ∧ ∃ cur, w.heap[k]? = some (.cells cur e (0, 0)) := by
  rcases h.2 with ⟨rfl, _⟩ | ⟨g, cap, cur, rfl, hb, hg, _⟩
  · simp [Value.ownBlock] at hk
  · simp [Value.ownBlock] at hk; subst hk; exact ⟨hb, cur, hg⟩
theorem own_of {w w' : World} {base : Nat} {e : TypeId} {size : Nat} {v : Value} {n : Nat} {xs : List Value} (h : w.ownsRow base e size v n xs) (hk : ∀ k cur, v.ownBlock = some k → w.heap[k]? = some (.cells cur e (0, 0)) → w'.heap[k]? = some (.cells cur e (0, 0))) : w'.ownsRow base e size v n xs := by
  refine ⟨h.1, ?_⟩
  rcases h.2 with hn | ⟨g, cap, cur, rfl, hb, hg, rest⟩
  · exact .inl hn
  · exact .inr ⟨g, cap, cur, rfl, hb, hk g cur rfl hg, rest⟩
theorem own_later {w w' : World} {base : Nat} {e : TypeId} {size : Nat} {v : Value} {n : Nat} {xs : List Value} (h : w.ownsRow base e size v n xs) (hb : Below w.heap.size w w') : w'.ownsRow base e size v n xs :=
  own_of h fun k _ _ hk => (hb.block k (Array.getElem?_eq_some_iff.1 hk).1).trans hk
theorem Keeps.own {T : List TypeId} {A : Nat} {w w' : World} (hk : Keeps T A w w') {base : Nat} {e : TypeId} {size : Nat} {v : Value} {n : Nat} {xs : List Value} (h : w.ownsRow base e size v n xs) (he : T.contains e = false) : w'.ownsRow base e size v n xs :=
  own_of h fun _ _ _ hg => hk.old _ _ hg he
theorem own_low {w : World} {base : Nat} {e : TypeId} {size : Nat} {v : Value} {n : Nat} {xs : List Value} (h : w.ownsRow base e size v n xs) {a : Addr} (ha : a.block < base) (u : Value) : (w.setCell a u).ownsRow base e size v n xs :=
  own_of h fun k _ hk hg => by rw [RowKit.Below.heap_setCell _ _ _ _ (fun e => by have := (own_row h hk).1; omega)]; exact hg
theorem own_mono {w : World} {base base' : Nat} {e : TypeId} {size : Nat} {v : Value} {n : Nat} {xs : List Value} (h : w.ownsRow base e size v n xs) (hb : base' ≤ base) : w.ownsRow base' e size v n xs := by
  refine ⟨h.1, ?_⟩
  rcases h.2 with hn | ⟨g, cap, cur, rfl, hb', rest⟩
  · exact .inl hn
  · exact .inr ⟨g, cap, cur, rfl, by omega, rest⟩
theorem own_one {w : World} {base : Nat} {e : TypeId} {size : Nat} {v : Value} {n : Nat} {xs : List Value} (h : w.ownsRow base e size v n xs) : v.oneCell' = true := by
  rcases h.2 with ⟨rfl, _⟩ | ⟨g, cap, cur, rfl, _⟩ <;> rfl
theorem own_cut {w : World} {base : Nat} {e : TypeId} {size : Nat} {g n cap : Nat} {xs : List Value} (h : w.ownsRow base e size (.slice (some ⟨g, 0, none⟩) n cap) n xs) {i : Nat} (hi : i ≤ n) : w.ownsRow base e size (.slice (some ⟨g, 0, none⟩) i cap) i (xs.take (i * size)) := by
  have hle : i * size ≤ n * size := Nat.mul_le_mul_right _ hi
  refine ⟨by rw [List.length_take, h.1]; omega, ?_⟩
  rcases h.2 with ⟨h', _⟩ | ⟨g', cap', cur, h', hb, hg, hnc, hcm, hcs, htake⟩
  · simp at h'
  · simp only [Value.slice.injEq, Option.some.injEq, Addr.mk.injEq, and_true, true_and] at h'
    obtain ⟨rfl, rfl⟩ := h'
    exact .inr ⟨g, cap, cur, rfl, hb, hg, by omega, hcm, hcs, by rw [← htake, List.take_take, Nat.min_eq_left hle]⟩

/-- 'clear' of a part of a row: what stands ahead of it stays. -/
theorem run_clear_row {P : Program} (w : World) (t e : TypeId) (z : Value) (size : Nat) (ht : P.underlying t = some (.slice e)) (hv : ∀ w, (zeroValue e).run P w = .ok z w) (hz : z.cells.size = size) (h1 : ∀ u ∈ z.cells.toList, u.oneCell' = true)
    (base g n cap : Nat) (xs : List Value) (hown : w.ownsRow base e size (.slice (some ⟨g, 0, none⟩) n cap) n xs) (i m c : Nat) (hi : i ≤ n) (hm : i + m ≤ cap) (a : Addr) (ha : 0 < m → a = ⟨g, i * size, none⟩) :
    ∃ w', (∀ ty, (Builtin.clear_ #[t] ty #[.slice (some a) m c]).run P w = .ok (.tuple #[]) w') ∧ w'.ownsRow base e size (.slice (some ⟨g, 0, none⟩) i cap) i (xs.take (i * size)) ∧ w.grownBy w' (some g) := by
  have hc := own_cut hown hi
  by_cases h0 : m = 0
  · subst h0
    exact ⟨w, fun ty => by simp [Builtin.clear_, run_underlying ht], hc, grown_refl w _⟩
  · obtain rfl := ha (by omega)
    rcases hown.2 with ⟨h', _⟩ | ⟨g', cap', cur, h', hb, hg, hnc, hcm, hcs, htake⟩
    · simp at h'
    simp only [Value.slice.injEq, Option.some.injEq, Addr.mk.injEq, and_true, true_and] at h'
    obtain ⟨rfl, rfl⟩ := h'
    obtain ⟨m, rfl⟩ : ∃ k, m = k + 1 := ⟨m - 1, by omega⟩
    have hlen : (Builtin.zeroCells z.cells (m + 1)).toList.length = (m + 1) * size := by rw [Array.length_toList, size_zeroCells, hz]
    have hone : ∀ v ∈ (Builtin.zeroCells z.cells (m + 1)).toList, v.oneCell' = true := by
      intro v hv'
      have h0 : 0 < z.cells.size := by
        rcases Nat.eq_zero_or_pos z.cells.size with e0 | e0
        · rw [hz] at e0
          have : (Builtin.zeroCells z.cells (m + 1)).toList.length = 0 := by rw [hlen, e0, Nat.mul_zero]
          rw [List.length_eq_zero_iff] at this
          rw [this] at hv'; cases hv'
        · exact e0
      simp only [Builtin.zeroCells, Array.toList_map, List.mem_map] at hv'
      obtain ⟨j, _, rfl⟩ := hv'
      rw [getElem!_pos z.cells _ (Nat.mod_lt _ h0)]
      exact h1 _ (by simp)
    have hfit : i * size + 0 + (Builtin.zeroCells z.cells (m + 1)).toList.length ≤ cur.size := by
      rw [hlen, hcs, Nat.add_zero, ← Nat.add_mul]; exact Nat.mul_le_mul_right _ hm
    have hst := run_storeCells_at P g (i * size) e (Builtin.zeroCells z.cells (m + 1)).toList 0 cur w hg hfit hone
    obtain ⟨w', hw'⟩ : ∃ w', w' = w.setRow g (cur.toList.take (i * size + 0) ++ (Builtin.zeroCells z.cells (m + 1)).toList ++ cur.toList.drop (i * size + 0 + (Builtin.zeroCells z.cells (m + 1)).toList.length)).toArray := ⟨_, rfl⟩
    rw [← hw'] at hst
    refine ⟨w', fun ty => by simp [Builtin.clear_, run_underlying ht, hv, hst], ?_⟩
    subst hw'
    refine ⟨?_, ⟨rfl, rfl, rfl, by simp, fun k _ hk => setRow_other w g k _ (fun e => hk (by rw [e]))⟩⟩
    have his : i * size ≤ cur.size := by rw [hcs]; exact Nat.mul_le_mul_right _ (by omega)
    refine ⟨hc.1, .inr ⟨g, cap, _, rfl, hb, setRow_heap w g cur _ e _ hg, by omega, hcm, ?_, ?_⟩⟩
    · simp only [List.size_toArray, List.length_append, List.length_take, List.length_drop, Array.length_toList] at hfit ⊢
      omega
    · rw [← htake, List.take_take, Nat.min_eq_left (Nat.mul_le_mul_right _ hi)]
      simp only [Nat.add_zero, List.append_assoc]
      rw [List.take_append_of_le_length (by rw [List.length_take, Array.length_toList]; omega), List.take_take, Nat.min_self]
section
variable {α : Type} (f : α → List Value) (s : Nat) (hf : ∀ a, (f a).length = s)
include hf
theorem flat_len (l : List α) : (l.flatMap f).length = l.length * s := by
  induction l with
  | nil => simp
  | cons a r ih => simp only [List.flatMap_cons, List.length_append, hf, ih, List.length_cons, Nat.add_mul]; omega
theorem flat_take (l : List α) (i : Nat) : (l.flatMap f).take (i * s) = (l.take i).flatMap f := by
  induction l generalizing i with
  | nil => simp
  | cons a r ih =>
    cases i with
    | zero => simp
    | succ i =>
      rw [List.flatMap_cons, List.take_succ_cons, List.flatMap_cons, show (i + 1) * s = (f a).length + i * s by rw [hf, Nat.add_mul]; omega, List.take_length_add_append, ih]
theorem flat_drop (l : List α) (i : Nat) : (l.flatMap f).drop (i * s) = (l.drop i).flatMap f := by
  induction l generalizing i with
  | nil => simp
  | cons a r ih =>
    cases i with
    | zero => simp
    | succ i =>
      rw [List.flatMap_cons, List.drop_succ_cons, show (i + 1) * s = (f a).length + i * s by rw [hf, Nat.add_mul]; omega, List.drop_length_add_append, ih]
theorem flat_get (l : List α) (j r : Nat) (hr : r < s) {a : α} (h : l[j]? = some a) : (l.flatMap f)[j * s + r]? = (f a)[r]? := by
  have := flat_drop f s hf l j
  rw [← List.getElem?_drop, this]
  have hl := (List.getElem?_eq_some_iff.1 h)
  rw [List.drop_eq_getElem_cons hl.1, hl.2, List.flatMap_cons, List.getElem?_append_left (by rw [hf]; exact hr)]
theorem flat_set (l : List α) (j r : Nat) (hr : r < s) {a b : α} (h : l[j]? = some a) (v : Value) (hb : f b = (f a).set r v) : (l.flatMap f).set (j * s + r) v = (l.set j b).flatMap f := by
  induction l generalizing j with
  | nil => simp at h
  | cons c t ih =>
    cases j with
    | zero =>
      simp only [List.getElem?_cons_zero, Option.some.injEq] at h
      subst h
      rw [List.set_cons_zero, List.flatMap_cons, List.flatMap_cons, hb, Nat.zero_mul, Nat.zero_add, List.set_append_left _ _ (by rw [hf]; exact hr)]
    | succ j =>
      simp only [List.getElem?_cons_succ] at h
      rw [List.set_cons_succ, List.flatMap_cons, List.flatMap_cons, List.set_append_right _ _ (by rw [hf, Nat.add_mul]; omega), hf, show (j + 1) * s + r - s = j * s + r by rw [Nat.add_mul]; omega, ih j h]
end
end Go.Proofs.Ytgbghjpkdbjdgaa
