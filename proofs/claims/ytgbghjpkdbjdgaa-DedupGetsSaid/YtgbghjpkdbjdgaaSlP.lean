/- Rows of elements of many cells, of whatever type: reading, storing one element, what slices.IndexFunc and slices.DeleteFunc do in plain words. -/
import Derived.Test.YtgbghjpkdbjdgaaAgg
import Derived.Test.YtgbghjpkdbjdgaaOwn
namespace Go.Proofs.Ytgbghjpkdbjdgaa
open Go.RowKit

section
variable {α : Type}
/-- slices.IndexFunc. -/
def idxOf (p : α → Bool) (es : List α) : Int := match es.findIdx? p with | some k => (k : Int) | none => -1
theorem idxOf_at {p : α → Bool} {es : List α} {k : Nat} {x : α} (hx : es[k]? = some x) (h : p x = true) (hb : ∀ j y, j < k → es[j]? = some y → p y = false) : idxOf p es = (k : Int) := by
  have : es.findIdx? p = some k := by
    rw [List.findIdx?_eq_some_iff_getElem]
    obtain ⟨hl, rfl⟩ := List.getElem?_eq_some_iff.1 hx
    exact ⟨hl, h, fun j hj => by rw [hb j _ hj (List.getElem?_eq_getElem (by omega))]; decide⟩
  unfold idxOf
  rw [this]
theorem idxOf_none {p : α → Bool} {es : List α} (h : ∀ x ∈ es, p x = false) : idxOf p es = -1 := by
  have : es.findIdx? p = none := by
    rw [List.findIdx?_eq_none_iff]
    exact h
  unfold idxOf
  rw [this]
theorem idxOf_cases (p : α → Bool) (es : List α) : (idxOf p es = -1 ∧ ∀ x ∈ es, p x = false) ∨ ∃ (k : Nat) (x : α), idxOf p es = (k : Int) ∧ es[k]? = some x ∧ p x = true ∧ ∀ j y, j < k → es[j]? = some y → p y = false := by
  cases h : es.findIdx? p with
  | none => exact .inl ⟨by unfold idxOf; rw [h], List.findIdx?_eq_none_iff.1 h⟩
  | some k =>
    obtain ⟨hl, h1, h2⟩ := List.findIdx?_eq_some_iff_getElem.1 h
    refine .inr ⟨k, es[k], by unfold idxOf; rw [h], List.getElem?_eq_getElem hl, h1, fun j y hj hy => ?_⟩
    obtain ⟨hj', rfl⟩ := List.getElem?_eq_some_iff.1 hy
    simpa using h2 j hj
/-- How slices.DeleteFunc's row stands: i kept ones of the first j, then whatever, then the others as they were. -/
structure KeptF (p : α → Bool) (es cs : List α) (i j : Nat) : Prop where
  len : cs.length = es.length
  lt : i < j
  low : cs.take i = (es.take j).filter fun x => !p x
  high : cs.drop j = es.drop j
theorem KeptF.start {p : α → Bool} {es : List α} {k : Nat} {x : α} (hk : es[k]? = some x) (hx : p x = true) (h : ∀ j y, j < k → es[j]? = some y → p y = false) : KeptF p es es k (k + 1) := by
  refine ⟨rfl, by omega, ?_, rfl⟩
  have e1 : es.take (k + 1) = es.take k ++ [x] := by rw [List.take_add_one, hk]; rfl
  rw [e1, List.filter_append]
  simp only [List.filter_cons, hx, List.filter_nil, Bool.not_true, Bool.false_eq_true, if_false, List.append_nil]
  rw [List.filter_eq_self.2]
  intro a ha
  obtain ⟨q, hq⟩ := List.mem_iff_getElem?.1 ha
  rw [List.getElem?_take] at hq
  split at hq
  · rw [h q a (by assumption) hq]; rfl
  · cases hq
theorem KeptF.at {p : α → Bool} {es cs : List α} {i j : Nat} (h : KeptF p es cs i j) : cs[j]? = es[j]? := by
  have := congrArg (fun l => l[0]?) h.high
  simpa using this
theorem KeptF.skip {p : α → Bool} {es cs : List α} {i j : Nat} (h : KeptF p es cs i j) {x : α} (hx : es[j]? = some x) (hp : p x = true) : KeptF p es cs i (j + 1) := by
  refine ⟨h.len, by have := h.lt; omega, ?_, ?_⟩
  · rw [List.take_add_one, hx]
    simp [List.filter_append, hp, h.low]
  · have := congrArg (List.drop 1) h.high
    simpa [List.drop_drop, Nat.add_comm] using this
theorem KeptF.keep {p : α → Bool} {es cs : List α} {i j : Nat} (h : KeptF p es cs i j) {x : α} (hx : es[j]? = some x) (hp : p x = false) : KeptF p es (cs.set i x) (i + 1) (j + 1) := by
  have hl := (List.getElem?_eq_some_iff.1 hx).1
  have hi : i < cs.length := by have := h.lt; rw [h.len]; omega
  refine ⟨by rw [List.length_set]; exact h.len, by have := h.lt; omega, ?_, ?_⟩
  · have e1 : es.take (j + 1) = es.take j ++ [x] := by rw [List.take_add_one, hx]; rfl
    rw [e1, List.filter_append, ← h.low, List.take_add_one]
    simp only [List.take_set_of_le (Nat.le_refl i), List.getElem?_set_self hi]
    simp [hp]
  · rw [List.drop_set_of_lt (by have := h.lt; omega)]
    have := congrArg (List.drop 1) h.high
    simpa [List.drop_drop, Nat.add_comm] using this
end

/-- The cells xs lie at an address (nil: there are none). -/
def RowAt (w : World) (ad : Option Addr) (xs : List Value) : Prop := ∀ j u, xs[j]? = some u → ∃ b off, ad = some ⟨b, off, none⟩ ∧ w.cell? ⟨b, off + j, none⟩ = some u
theorem RowAt.later {w w' : World} {ad : Option Addr} {xs : List Value} (h : RowAt w ad xs) (hb : Below w.heap.size w w') : RowAt w' ad xs := fun j u hj => by
  obtain ⟨b, off, h1, h2⟩ := h j u hj
  exact ⟨b, off, h1, (hb.cell (p := ⟨b, off + j, none⟩) (World.block_lt_of_cell? w _ h2)).trans h2⟩
theorem rowAt_own {w : World} {B : Nat} {e : TypeId} {size n n' c : Nat} {a : Option Addr} {xs : List Value} (h : w.ownsRow B e size (.slice a n' c) n xs) : RowAt w a xs := fun j u hj => by
  obtain ⟨g, h1, _, h2⟩ := own_at h hj
  exact ⟨g, 0, h1, by rw [Nat.zero_add]; exact h2⟩
theorem rowAt_block {w : World} {b : Nat} {C : Array Value} {t : TypeId} {fz : Nat × Nat} (h : w.heap[b]? = some (.cells C t fz)) : RowAt w (some ⟨b, 0, none⟩) C.toList := fun j u hj => ⟨b, 0, rfl, by rw [Nat.zero_add, cell_of_row w b j C t fz h]; simpa using hj⟩
section
variable {α : Type} {f : α → List Value} {s : Nat} (hf : ∀ a, (f a).length = s)
include hf
theorem rowAt_elem (h0 : 0 < s) {w : World} {ad : Option Addr} {es : List α} (h : RowAt w ad (es.flatMap f)) {i : Nat} {x : α} (hx : es[i]? = some x) : ∃ b off, ad = some ⟨b, off, none⟩ ∧ b < w.heap.size ∧ Lies w b (off + i * s) (f x).toArray := by
  have at0 : ∀ r u, (f x)[r]? = some u → ∃ b off, ad = some ⟨b, off, none⟩ ∧ w.cell? ⟨b, off + (i * s + r), none⟩ = some u := fun r u hr => by
    have hrs : r < s := by rw [← hf x]; exact (List.getElem?_eq_some_iff.1 hr).1
    exact h (i * s + r) u ((flat_get f s hf es i r hrs hx).trans hr)
  obtain ⟨b, off, hb, hc⟩ := at0 0 ((f x)[0]'(by rw [hf]; exact h0)) (List.getElem?_eq_getElem _)
  refine ⟨b, off, hb, World.block_lt_of_cell? w _ hc, fun r u hr => ?_⟩
  obtain ⟨b', off', hb', hc'⟩ := at0 r u (by simpa using hr)
  rw [hb] at hb'
  cases hb'
  rw [Nat.add_assoc]
  exact hc'
theorem own_elem (h0 : 0 < s) {w : World} {B : Nat} {e : TypeId} {n c : Nat} {a : Option Addr} {es : List α} (h : w.ownsRow B e s (.slice a n c) n (es.flatMap f)) {i : Nat} {x : α} (hx : es[i]? = some x) :
    ∃ g, a = some ⟨g, 0, none⟩ ∧ g < w.heap.size ∧ Lies w g (i * s) (f x).toArray ∧ n ≤ c := by
  obtain ⟨b, off, h1, h2, h3⟩ := rowAt_elem hf h0 (rowAt_own h) hx
  rcases h.2 with ⟨h4, _⟩ | ⟨g, cap, cur, h4, _, _, h5, _⟩
  · cases h4; cases h1
  · cases h4
    cases h1
    rw [Nat.zero_add] at h3
    exact ⟨_, rfl, h2, h3, h5⟩
theorem flat_put (es : List α) {i : Nat} (hi : i < es.length) (x : α) : (es.flatMap f).take (i * s) ++ f x ++ (es.flatMap f).drop (i * s + s) = (es.set i x).flatMap f := by
  rw [flat_take f s hf, show i * s + s = (i + 1) * s by rw [Nat.add_mul]; omega, flat_drop f s hf, List.set_eq_take_append_cons_drop, if_pos hi]
  simp [List.append_assoc]
/-- An element stored over another one of the row. -/
theorem own_put {w : World} {B : Nat} {e : TypeId} {g n c : Nat} {es : List α} (h : w.ownsRow B e s (.slice (some ⟨g, 0, none⟩) n c) n (es.flatMap f)) (hn : n = es.length) {i : Nat} (hi : i < n) (x : α) :
    (w.setCells g (i * s) (f x)).ownsRow B e s (.slice (some ⟨g, 0, none⟩) n c) n ((es.set i x).flatMap f) ∧ w.grownBy (w.setCells g (i * s) (f x)) (some g) := by
  rcases h.2 with ⟨h', _⟩ | ⟨g', cap', cur, h', hb, hg, hnc, hcm, hcs, htake⟩
  · simp at h'
  simp only [Value.slice.injEq, Option.some.injEq, Addr.mk.injEq, and_true, true_and] at h'
  obtain ⟨rfl, rfl⟩ := h'
  have his : i * s + s ≤ n * s := by rw [show i * s + s = (i + 1) * s by rw [Nat.add_mul]; omega]; exact Nat.mul_le_mul_right _ (by omega)
  have hns : n * s ≤ c * s := Nat.mul_le_mul_right _ hnc
  rw [setCells_row hg (f x) (i * s) (by rw [hf, hcs]; omega)]
  refine ⟨⟨?_, .inr ⟨g, c, _, rfl, hb, setRow_heap w g cur _ e _ hg, hnc, hcm, ?_, ?_⟩⟩, ⟨rfl, rfl, rfl, by simp, fun k _ hk => setRow_other w g k _ (fun e => hk (by rw [e]))⟩⟩
  · rw [flat_len f s hf, List.length_set, hn]
  · simp only [List.size_toArray, List.length_append, List.length_take, List.length_drop, Array.length_toList, hf, hcs]
    omega
  · rw [← flat_put hf es (by omega) x, ← htake, hf]
    simp only [List.take_append, List.length_append, List.length_take, Array.length_toList, hf, hcs, List.drop_take]
    simp only [List.take_take]
    rw [show min (n * s) (i * s) = i * s by omega, show min (i * s) (n * s) = i * s by omega, show min (i * s) (c * s) = i * s by omega]
    rw [List.take_of_length_le (l := f x) (by rw [hf]; omega)]
omit hf in
theorem own_there {w : World} {B : Nat} {e : TypeId} {g n c : Nat} {xs : List Value} (h : w.ownsRow B e s (.slice (some ⟨g, 0, none⟩) n c) n xs) {i : Nat} (hi : i < n) : w.there g (i * s) s := fun j hj => by
  have his : i * s + s ≤ n * s := by rw [show i * s + s = (i + 1) * s by rw [Nat.add_mul]; omega]; exact Nat.mul_le_mul_right _ (by omega)
  obtain ⟨u, hu⟩ : ∃ u, xs[i * s + j]? = some u := ⟨_, List.getElem?_eq_getElem (by rw [h.1]; omega)⟩
  obtain ⟨g', h1, _, h2⟩ := own_at h hu
  cases h1
  exact ⟨by rw [h2]; rfl, h.frozenAt _⟩
end
end Go.Proofs.Ytgbghjpkdbjdgaa
