/- RepairPlans in plain words: the reference's sets, order, choice and plan are what Plan and After tell. -/
import Derived.Test.YtpmkgnnpngbfmaaRp15
namespace Go.Proofs.Ytpmkgnnpngbfmaa
open Go.RowKit

/-! ### sets -/
theorem rise_ext : ∀ {a b : List Int}, a.Pairwise (· < ·) → b.Pairwise (· < ·) → (∀ x, x ∈ a ↔ x ∈ b) → a = b
  | [], [], _, _, _ => rfl
  | [], y :: s, _, _, h => absurd ((h y).2 (by simp)) (by simp)
  | x :: r, [], _, _, h => absurd ((h x).1 (by simp)) (by simp)
  | x :: r, y :: s, ha, hb, h => by
    rw [List.pairwise_cons] at ha hb
    have hxy : x = y := by
      rcases List.mem_cons.1 ((h x).1 (by simp)) with e | hx
      · exact e
      · rcases List.mem_cons.1 ((h y).2 (by simp)) with e | hy
        · exact e.symm
        · have := hb.1 x hx; have := ha.1 y hy; omega
    subst hxy
    rw [rise_ext ha.2 hb.2 fun z => ?_]
    constructor
    · intro hz
      rcases List.mem_cons.1 ((h z).1 (by simp [hz])) with e | e
      · have := ha.1 z hz; omega
      · exact e
    · intro hz
      rcases List.mem_cons.1 ((h z).2 (by simp [hz])) with e | e
      · have := hb.1 z hz; omega
      · exact e
/-- The numbers of a list, rising, each once. -/
def setOf (hs : List Int) : List Int := keysOf (hset hs)
theorem setOf_mem {hs : List Int} {x : Int} : x ∈ setOf hs ↔ x ∈ hs := keysOf_mem.trans hset_mem
theorem setOf_rise (hs : List Int) : (setOf hs).Pairwise (· < ·) := keysOf_rise (hput_apart (m := []) List.Pairwise.nil hs)
theorem setOf_len (hs : List Int) : (setOf hs).length = (hset hs).length := by unfold setOf keysOf; rw [List.length_mergeSort, List.length_map]
theorem setOf_le (hs : List Int) : (setOf hs).length ≤ hs.length := by
  rw [setOf_len]
  have h1 : (hset hs).length ≤ 0 + hs.length := hput_len [] hs
  omega
theorem setOf_nil : setOf [] = [] := List.eq_nil_of_length_eq_zero (by have := setOf_le []; simpa using this)
theorem setOf_had {hs : List Int} {x : Int} (h : x ∈ setOf hs) : setOf (hs ++ [x]) = setOf hs := by
  rw [setOf_mem] at h
  refine rise_ext (setOf_rise _) (setOf_rise _) fun y => ?_
  rw [setOf_mem, setOf_mem, List.mem_append, List.mem_singleton]
  constructor
  · rintro (h1 | rfl)
    · exact h1
    · exact h
  · exact .inl
theorem setOf_new {hs : List Int} {x : Int} (h : ¬ x ∈ setOf hs) {k : Nat} (h1 : ∀ y ∈ (setOf hs).take k, y < x) (h2 : ∀ y, (setOf hs)[k]? = some y → ¬ y < x) : setOf (hs ++ [x]) = (setOf hs).take k ++ [x] ++ (setOf hs).drop k := by
  have hr := setOf_rise hs
  have hd : ∀ y ∈ (setOf hs).drop k, x < y := by
    intro y hy
    have hne : y ≠ x := fun e => h (e ▸ List.mem_of_mem_drop hy)
    cases hk : (setOf hs)[k]? with
    | none =>
      rw [List.getElem?_eq_none_iff] at hk
      rw [List.drop_of_length_le hk] at hy
      simp at hy
    | some z =>
      have hz := h2 z hk
      obtain ⟨hkl, rfl⟩ := List.getElem?_eq_some_iff.1 hk
      rw [List.drop_eq_getElem_cons hkl] at hy
      have hp := hr.sublist (List.drop_sublist k _)
      rw [List.drop_eq_getElem_cons hkl, List.pairwise_cons] at hp
      rcases List.mem_cons.1 hy with e | e
      · omega
      · have := hp.1 y e; omega
  refine rise_ext (setOf_rise _) ?_ fun y => ?_
  · rw [List.append_assoc, List.pairwise_append]
    refine ⟨hr.sublist (List.take_sublist k _), ?_, ?_⟩
    · rw [List.singleton_append, List.pairwise_cons]
      exact ⟨hd, hr.sublist (List.drop_sublist k _)⟩
    · intro a ha b hb
      have := h1 a ha
      rcases List.mem_append.1 hb with hb | hb
      · rw [List.mem_singleton.1 hb]; exact this
      · have := hd b hb; omega
  · rw [setOf_mem, List.mem_append, List.mem_singleton, List.append_assoc, List.mem_append, List.mem_append, List.mem_singleton, ← setOf_mem (hs := hs)]
    have e := congrArg (y ∈ ·) (List.take_append_drop k (setOf hs))
    simp only [List.mem_append, eq_iff_iff] at e
    rw [← e]
    constructor
    · rintro ((h | h) | h)
      · exact .inl h
      · exact .inr (.inr h)
      · exact .inr (.inl h)
    · rintro (h | h | h)
      · exact .inl (.inl h)
      · exact .inr h
      · exact .inl (.inr h)
theorem hset_two (a b : List Int) : hput (hset a) b = hset (a ++ b) := by simp [hput]

/-! ### the order -/
theorem flatMap_same {α β : Type} {f g : α → List β} : ∀ {l : List α}, (∀ x ∈ l, f x = g x) → l.flatMap f = l.flatMap g
  | [], _ => rfl
  | a :: r, h => by rw [List.flatMap_cons, List.flatMap_cons, h a (by simp), flatMap_same fun x hx => h x (by simp [hx])]
section
variable {α : Type} (key : α → Nat)
/-- Those of level n. -/
def lev (l : List α) (n : Nat) : List α := l.filter fun x => key x == n
/-- Those of the levels below n, and of the first i those of level n. -/
def upTo (l : List α) (n i : Nat) : List α := ((List.range n).flatMap fun m => lev key l m) ++ lev key (l.take i) n
theorem upTo_zero (l : List α) : upTo key l 0 0 = [] := rfl
theorem upTo_on {l : List α} {n i : Nat} {x : α} (hx : l[i]? = some x) (hk : key x = n) : upTo key l n (i + 1) = upTo key l n i ++ [x] := by
  unfold upTo lev
  rw [List.take_add_one, hx, Option.toList_some, List.filter_append, ← List.append_assoc]
  simp [hk]
theorem upTo_off {l : List α} {n i : Nat} {x : α} (hx : l[i]? = some x) (hk : ¬ key x = n) : upTo key l n (i + 1) = upTo key l n i := by
  unfold upTo lev
  rw [List.take_add_one, hx, Option.toList_some, List.filter_append]
  simp [hk]
theorem upTo_next (l : List α) (n : Nat) : upTo key l n l.length = upTo key l (n + 1) 0 := by
  unfold upTo
  rw [List.take_length, List.take_zero, List.range_succ, List.flatMap_append]
  simp [lev]
theorem lev_snoc (l : List α) (x : α) (n : Nat) : lev key (l ++ [x]) n = lev key l n ++ (if key x = n then [x] else []) := by
  unfold lev
  rw [List.filter_append]
  by_cases h : key x = n <;> simp [h]
theorem isort_levels (l : List α) (m : Nat) (h : ∀ x ∈ l, key x < m) : isort (fun x => (key x : Int)) l = upTo key l m 0 := by
  have : ∀ n, ∀ l : List α, l.length = n → (∀ x ∈ l, key x < m) → isort (fun x => (key x : Int)) l = (List.range m).flatMap fun k => lev key l k := by
    intro n
    induction n with
    | zero => intro l h _; rw [List.eq_nil_of_length_eq_zero h]; simp [isort, lev]
    | succ n ih =>
      intro l hl hm
      have hne : l ≠ [] := by rintro rfl; simp at hl
      obtain ⟨r, x, rfl⟩ : ∃ r x, l = r ++ [x] := ⟨l.dropLast, l.getLast hne, (List.dropLast_concat_getLast hne).symm⟩
      rw [isort_snoc, ih r (by simpa using hl) (fun y hy => hm y (by simp [hy]))]
      obtain ⟨d, hd⟩ : ∃ d, m = key x + 1 + d := ⟨m - (key x + 1), by have := hm x (by simp); omega⟩
      have split : ∀ f : Nat → List α, (List.range m).flatMap f = (List.range (key x)).flatMap f ++ f (key x) ++ (List.range d).flatMap fun k => f (key x + 1 + k) := by
        intro f
        rw [hd, List.range_add, List.flatMap_append, List.range_succ, List.flatMap_append, List.flatMap_map]
        simp
      rw [split, split]
      have e1 : ((List.range (key x)).flatMap fun k => lev key (r ++ [x]) k) = (List.range (key x)).flatMap fun k => lev key r k := by
        apply flatMap_same
        intro k hk
        have := List.mem_range.1 hk
        rw [lev_snoc, if_neg (by omega), List.append_nil]
      have e2 : ((List.range d).flatMap fun k => lev key (r ++ [x]) (key x + 1 + k)) = (List.range d).flatMap fun k => lev key r (key x + 1 + k) := by
        apply flatMap_same
        intro k _
        rw [lev_snoc, if_neg (by omega), List.append_nil]
      rw [e1, e2, lev_snoc, if_pos rfl]
      have at_lev : ∀ {y : α} {k : Nat}, y ∈ lev key r k → key y = k := fun {y k} hy => by simpa using (List.mem_filter.1 hy).2
      generalize hA : ((List.range (key x)).flatMap fun k => lev key r k) = A
      generalize hB : ((List.range d).flatMap fun k => lev key r (key x + 1 + k)) = B
      have hAk : ∀ y ∈ A, key y < key x := by
        intro y hy
        rw [← hA] at hy
        obtain ⟨k, hk, hy⟩ := List.mem_flatMap.1 hy
        rw [at_lev hy]
        exact List.mem_range.1 hk
      have hBk : ∀ y ∈ B, key x < key y := by
        intro y hy
        rw [← hB] at hy
        obtain ⟨k, hk, hy⟩ := List.mem_flatMap.1 hy
        rw [at_lev hy]
        omega
      unfold insR
      simp only [List.filter_append]
      rw [List.filter_eq_self.2 (fun y hy => by have := hAk y hy; simp; omega), List.filter_eq_self.2 (fun y hy => by have := at_lev hy; simp; omega), List.filter_eq_nil_iff.2 (fun y hy => by have := hBk y hy; simp; omega)]
      rw [List.filter_eq_nil_iff.2 (fun y hy => by have := hAk y hy; simp; omega), List.filter_eq_nil_iff.2 (fun y hy => by have := at_lev hy; simp; omega), List.filter_eq_self.2 (fun y hy => by have := hBk y hy; simp; omega)]
      simp
  rw [this _ l rfl h]
  unfold upTo
  simp [lev]
end

/-! ### who gets a pack -/
/-- May it be taken? -/
def fitq (has : List Int) (size : Int) (x : Int × Int) : Bool := !decide (x.1 ∈ has) && !decide (x.2 < size)
/-- What the reference's choice is: below 0 nobody, else the place of the best. -/
def BestAt (g : List (Int × Int)) (has : List Int) (size r : Int) : Prop :=
  (r = -1 ∧ ∀ x ∈ g, fitq has size x = false) ∨ ∃ (b : Nat) (x : Int × Int), r = (b : Int) ∧ g[b]? = some x ∧ fitq has size x = true ∧ ∀ y ∈ g, fitq has size y = true → y.2 < x.2 ∨ (y.2 = x.2 ∧ x.1 ≤ y.1)
theorem BestAt.start (has : List Int) (size : Int) : BestAt [] has size (-1) := .inl ⟨rfl, by simp⟩
theorem BestAt.skip {g : List (Int × Int)} {has : List Int} {size r : Int} (h : BestAt g has size r) {x : Int × Int} (hx : fitq has size x = false) : BestAt (g ++ [x]) has size r := by
  rcases h with ⟨h1, h2⟩ | ⟨b, y, h1, h2, h3, h4⟩
  · refine .inl ⟨h1, fun z hz => ?_⟩
    rcases List.mem_append.1 hz with hz | hz
    · exact h2 z hz
    · rw [List.mem_singleton.1 hz]; exact hx
  · refine .inr ⟨b, y, h1, ?_, h3, fun z hz hf => ?_⟩
    · rw [List.getElem?_append_left (List.getElem?_eq_some_iff.1 h2).1]; exact h2
    · rcases List.mem_append.1 hz with hz | hz
      · exact h4 z hz hf
      · rw [List.mem_singleton.1 hz, hx] at hf; cases hf
theorem BestAt.take {g : List (Int × Int)} {has : List Int} {size r : Int} (h : BestAt g has size r) {x : Int × Int} (hx : fitq has size x = true) (hb : r < 0 ∨ ∃ (b : Nat) (y : Int × Int), r = (b : Int) ∧ g[b]? = some y ∧ (y.2 < x.2 ∨ (y.2 = x.2 ∧ x.1 < y.1))) {i : Nat} (hi : i = g.length) : BestAt (g ++ [x]) has size (i : Int) := by
  refine .inr ⟨i, x, rfl, by rw [hi]; simp, hx, fun z hz hf => ?_⟩
  rcases List.mem_append.1 hz with hz | hz
  · rcases h with ⟨h1, h2⟩ | ⟨b, y, h1, h2, h3, h4⟩
    · rw [h2 z hz] at hf; cases hf
    · rcases hb with hb | ⟨b', y', e1, e2, e3⟩
      · omega
      · have : b' = b := by omega
        subst this
        rw [h2] at e2
        cases e2
        have := h4 z hz hf
        omega
  · rw [List.mem_singleton.1 hz]
    exact .inr ⟨rfl, Int.le_refl _⟩
theorem BestAt.keep {g : List (Int × Int)} {has : List Int} {size : Int} {b : Nat} (h : BestAt g has size (b : Int)) {x y : Int × Int} (hy : g[b]? = some y) (hn : ¬ (y.2 < x.2 ∨ (y.2 = x.2 ∧ x.1 < y.1))) : BestAt (g ++ [x]) has size (b : Int) := by
  rcases h with ⟨h1, h2⟩ | ⟨b', y', h1, h2, h3, h4⟩
  · omega
  · have : b' = b := by omega
    subst this
    rw [hy] at h2
    cases h2
    refine .inr ⟨b', y, rfl, ?_, h3, fun z hz hf => ?_⟩
    · rw [List.getElem?_append_left (List.getElem?_eq_some_iff.1 hy).1]; exact hy
    · rcases List.mem_append.1 hz with hz | hz
      · exact h4 z hz hf
      · rw [List.mem_singleton.1 hz]; omega
theorem apart_room {g : List (Int × Int)} (h : Apart g) {x : Int × Int} (hx : x ∈ g) : roomOf g x.1 = x.2 := by
  unfold roomOf
  rw [aget_of_mem h hx]
  rfl
theorem fit_same {g : List (Int × Int)} (h : Apart g) {hs has : List Int} (hh : ∀ x, x ∈ has ↔ x ∈ hs) (size : Int) {x : Int × Int} (hx : x ∈ g) : (!nofit (hset hs) g size x.1) = fitq has size x := by
  unfold nofit fitq
  rw [apart_room h hx, hput_get]
  by_cases h1 : x.1 ∈ hs
  · simp [h1, (hh x.1).2 h1]
  · have h2 : ¬ x.1 ∈ has := fun e => h1 ((hh x.1).1 e)
    simp [h1, h2, aget]
theorem best_none {g : List (Int × Int)} (h : Apart g) {hs has : List Int} (hh : ∀ x, x ∈ has ↔ x ∈ hs) {size : Int} (hb : BestAt g has size (-1)) : fitsOf g (hset hs) size = [] := by
  have hn : ∀ x ∈ g, fitq has size x = false := by
    rcases hb with ⟨_, h2⟩ | ⟨b, y, h1, _⟩
    · exact h2
    · omega
  unfold fitsOf
  rw [List.filter_eq_nil_iff]
  intro a ha
  obtain ⟨x, hx, rfl⟩ := List.mem_map.1 ha
  rw [fit_same h hh size hx, hn x hx]
  decide
theorem best_some {g : List (Int × Int)} (h : Apart g) {hs has : List Int} (hh : ∀ x, x ∈ has ↔ x ∈ hs) {size : Int} {b : Nat} (hb : BestAt g has size (b : Int)) : ∃ x, g[b]? = some x ∧ fitq has size x = true ∧ bestOf (roomOf g) (fitsOf g (hset hs) size) = some x.1 := by
  rcases hb with ⟨h1, _⟩ | ⟨b', x, h1, h2, h3, h4⟩
  · omega
  · have : b' = b := by omega
    subst this
    refine ⟨x, h2, h3, bestOf_eq (List.Perm.refl _) ⟨?_, fun y hy => ?_⟩⟩
    · unfold fitsOf
      rw [List.mem_filter]
      exact ⟨List.mem_map.2 ⟨x, List.mem_of_getElem? h2, rfl⟩, by rw [fit_same h hh size (List.mem_of_getElem? h2), h3]⟩
    · unfold fitsOf at hy
      rw [List.mem_filter] at hy
      obtain ⟨z, hz, rfl⟩ := List.mem_map.1 hy.1
      have hf := hy.2
      rw [fit_same h hh size hz] at hf
      rw [apart_room h hz, apart_room h (List.mem_of_getElem? h2)]
      have := h4 z hz hf
      by_cases e : z.1 = x.1
      · exact .inl e
      · omega
theorem frees_is_apart (f : List (Int × Int)) : Apart (frees f) := by
  have : ∀ (l : List (Int × Int)) (m : List (Int × Int)), Apart m → Apart (l.foldl freeStep m) := by
    intro l
    induction l with
    | nil => intro m h; exact h
    | cons x r ih =>
      intro m h
      refine ih _ ?_
      unfold freeStep
      split
      · exact h
      · exact h.aput _ _
  exact this f [] List.Pairwise.nil
theorem frees_had {f : List (Int × Int)} {x : Int × Int} (h : x.1 ∈ (frees f).map Prod.fst) : frees (f ++ [x]) = frees f := by
  rw [frees_snoc]
  unfold freeStep
  rw [if_pos (mem_keys_aget.1 h)]
theorem frees_new {f : List (Int × Int)} {x : Int × Int} (h : ¬ x.1 ∈ (frees f).map Prod.fst) : frees (f ++ [x]) = frees f ++ [x] := by
  rw [frees_snoc]
  unfold freeStep
  have hn : aget (frees f) x.1 = none := by
    cases hg : aget (frees f) x.1 with
    | none => rfl
    | some v => exact absurd (mem_keys_aget.2 (by rw [hg]; rfl)) h
  rw [hn]
  simp only [Option.isSome_none, Bool.false_eq_true, if_false]
  exact aput_none _ hn
end Go.Proofs.Ytpmkgnnpngbfmaa
