/- The reference's Packs, plain. -/
import Derived.Test.YtgbghjpkdbjdgaaDe5
namespace Go.Proofs.Ytgbghjpkdbjdgaa
open Go.RowKit Go.Sort Go.Shelf Go.Lib

def RiseI (a : List Id32) : Prop := a.Pairwise fun x y => compareBytes x.1 y.1 < 0
theorem riseI_nodup {a : List Id32} (h : RiseI a) : a.Nodup := h.imp fun {x y} hxy e => by
  rw [e, cb_refl] at hxy
  omega
theorem riseI_same {a b : List Id32} (ha : RiseI a) (hb : RiseI b) (h : ∀ k, k ∈ a ↔ k ∈ b) : a = b := by
  have hp : a.Perm b := (List.perm_ext_iff_of_nodup (riseI_nodup ha) (riseI_nodup hb)).2 h
  refine hp.eq_of_pairwise ?_ ha hb
  intro x y _ _ h1 h2
  have := cb_swap x.1 y.1
  omega
theorem packs_rise (l : List Ent) : RiseI (packsOf l) := sortIds_strict (cm_apart l)
/-- Where a pack goes. -/
def posI (a : List Id32) (p : Id32) : Nat := (a.takeWhile fun x => decide (compareBytes x.1 p.1 < 0)).length
theorem posI_le (a : List Id32) (p : Id32) : posI a p ≤ a.length := (List.takeWhile_sublist _).length_le
theorem posI_yes {p : Id32} : ∀ {a : List Id32} {i : Nat} {x : Id32}, i < posI a p → a[i]? = some x → compareBytes x.1 p.1 < 0
  | [], _, _, h, _ => by simp [posI] at h
  | y :: a, i, x, h, hx => by
    unfold posI at h
    by_cases hy : compareBytes y.1 p.1 < 0
    · rw [List.takeWhile_cons_of_pos (by simpa using hy)] at h
      cases i with
      | zero => have : y = x := by simpa using hx
                rw [← this]; exact hy
      | succ i => exact posI_yes (a := a) (by unfold posI; simpa using h) (by simpa using hx)
    · rw [List.takeWhile_cons_of_neg (by simpa using hy)] at h
      simp at h
theorem posI_no {p : Id32} : ∀ {a : List Id32} {x : Id32}, a[posI a p]? = some x → ¬ compareBytes x.1 p.1 < 0
  | [], _, h => by simp at h
  | y :: a, x, h => by
    unfold posI at h
    by_cases hy : compareBytes y.1 p.1 < 0
    · rw [List.takeWhile_cons_of_pos (by simpa using hy)] at h
      exact posI_no (a := a) (by unfold posI; simpa using h)
    · rw [List.takeWhile_cons_of_neg (by simpa using hy)] at h
      have : y = x := by simpa using h
      rw [← this]
      exact hy
/-- If it is there, it stands at its place. -/
theorem posI_has {a : List Id32} {p : Id32} (ha : RiseI a) (hp : p ∈ a) : a[posI a p]? = some p := by
  obtain ⟨i, hi, e⟩ := List.mem_iff_getElem.1 hp
  have hie : a[i]? = some p := by rw [List.getElem?_eq_getElem hi, e]
  rcases Nat.lt_trichotomy i (posI a p) with h | h | h
  · have := posI_yes h hie
    rw [cb_refl] at this
    omega
  · rw [← h]; exact hie
  · have hlt : posI a p < a.length := by omega
    have hx : a[posI a p]? = some (a[posI a p]'hlt) := List.getElem?_eq_getElem hlt
    have h1 := posI_no hx
    have h2 := List.pairwise_iff_getElem.1 ha (posI a p) i hlt hi h
    rw [e] at h2
    exact absurd h2 h1
def insI (a : List Id32) (p : Id32) : List Id32 := a.take (posI a p) ++ p :: a.drop (posI a p)
theorem mem_insI {a : List Id32} {p k : Id32} : k ∈ insI a p ↔ k ∈ a ∨ k = p := by
  unfold insI
  rw [List.mem_append, List.mem_cons]
  constructor
  · rintro (h | h | h)
    · exact Or.inl (List.mem_of_mem_take h)
    · exact Or.inr h
    · exact Or.inl (List.mem_of_mem_drop h)
  · rintro (h | h)
    · rw [← List.take_append_drop (posI a p) a, List.mem_append] at h
      rcases h with h | h
      · exact Or.inl h
      · exact Or.inr (Or.inr h)
    · exact Or.inr (Or.inl h)
theorem insI_rise {a : List Id32} {p : Id32} (ha : RiseI a) (hp : p ∉ a) : RiseI (insI a p) := by
  unfold insI RiseI
  have hsplit : RiseI (a.take (posI a p) ++ a.drop (posI a p)) := by rw [List.take_append_drop]; exact ha
  rw [RiseI, List.pairwise_append] at hsplit
  obtain ⟨h1, h2, h3⟩ := hsplit
  have lo : ∀ x ∈ a.take (posI a p), compareBytes x.1 p.1 < 0 := by
    intro x hx
    obtain ⟨i, hi, e⟩ := List.mem_iff_getElem.1 hx
    rw [List.length_take] at hi
    refine posI_yes (a := a) (i := i) (by omega) ?_
    have : (a.take (posI a p))[i]? = some x := by rw [List.getElem?_eq_getElem (by rw [List.length_take]; exact hi), e]
    rw [List.getElem?_take] at this
    split at this
    · exact this
    · cases this
  have hi : ∀ x ∈ a.drop (posI a p), compareBytes p.1 x.1 < 0 := by
    intro x hx
    have hxa : x ∈ a := List.mem_of_mem_drop hx
    obtain ⟨i, hi, e⟩ := List.mem_iff_getElem.1 hx
    rw [List.length_drop] at hi
    have hlt : posI a p < a.length := by omega
    have hy : a[posI a p]? = some (a[posI a p]'hlt) := List.getElem?_eq_getElem hlt
    have n1 := posI_no hy
    have ne : ∀ z ∈ a, compareBytes z.1 p.1 ≠ 0 := fun z hz h0 => hp (by rw [← show z = p from Subtype.ext (cb_eq h0)]; exact hz)
    have s1 := cb_swap (a[posI a p]'hlt).1 p.1
    have g1 : compareBytes p.1 (a[posI a p]'hlt).1 < 0 := by
      have := ne _ (List.getElem_mem hlt)
      omega
    rw [List.getElem_drop] at e
    by_cases h0 : i = 0
    · subst h0
      have e' : a[posI a p]'hlt = x := by simpa using e
      rw [← e']
      exact g1
    · have h2' := List.pairwise_iff_getElem.1 ha (posI a p) (posI a p + i) hlt (by omega) (by omega)
      rw [e] at h2'
      exact cb_trans g1 h2'
  rw [List.pairwise_append, List.pairwise_cons]
  refine ⟨h1, ⟨hi, h2⟩, ?_⟩
  intro x hx y hy
  rcases List.mem_cons.1 hy with rfl | hy
  · exact lo x hx
  · exact h3 x hx y hy
theorem cntOf_one (k : Id32) (l : List Ent) (e : Ent) : cntOf k (l ++ [e]) = cntOf k l + if e.2.pack = k then 1 else 0 := by
  unfold cntOf
  rw [List.filter_append, List.length_append]
  by_cases h : e.2.pack = k <;> simp [h]
/-- One object more. -/
theorem packs_old {l : List Ent} {e : Ent} (h : e.2.pack ∈ packsOf l) : packsOf (l ++ [e]) = packsOf l := by
  refine riseI_same (packs_rise _) (packs_rise _) fun k => ?_
  rw [mem_packs, mem_packs, cntOf_one]
  have h1 := mem_packs.1 h
  by_cases hk : e.2.pack = k
  · rw [if_pos hk, ← hk]
    omega
  · rw [if_neg hk]
    omega
theorem packs_new {l : List Ent} {e : Ent} (h : e.2.pack ∉ packsOf l) : packsOf (l ++ [e]) = insI (packsOf l) e.2.pack := by
  refine riseI_same (packs_rise _) (insI_rise (packs_rise _) h) fun k => ?_
  rw [mem_insI, mem_packs, mem_packs, cntOf_one]
  by_cases hk : e.2.pack = k
  · rw [if_pos hk]
    simp [hk]
  · rw [if_neg hk]
    constructor
    · intro h2; exact Or.inl (by omega)
    · rintro (h2 | h2)
      · omega
      · exact absurd h2.symm hk
/-- How many each has. -/
def cntsOf (l : List Ent) : List Int := (packsOf l).map fun k => (cntOf k l : Int)
theorem cnts_old {l : List Ent} {e : Ent} (h : e.2.pack ∈ packsOf l) : cntsOf (l ++ [e]) = (cntsOf l).set (posI (packsOf l) e.2.pack) ((cntOf e.2.pack l : Int) + 1) := by
  unfold cntsOf
  rw [packs_old h]
  have hat := posI_has (packs_rise l) h
  apply List.ext_getElem?
  intro i
  rw [List.getElem?_map, List.getElem?_set]
  by_cases hi : posI (packsOf l) e.2.pack = i
  · rw [if_pos hi, ← hi, hat]
    have hl := (List.getElem?_eq_some_iff.1 hat).1
    rw [if_pos (by simpa using hl)]
    show some ((cntOf e.2.pack (l ++ [e]) : Nat) : Int) = _
    rw [cntOf_one, if_pos rfl]
    rfl
  · rw [if_neg hi, List.getElem?_map]
    cases hx : (packsOf l)[i]? with
    | none => rfl
    | some k =>
      have hne : ¬ e.2.pack = k := by
        intro e1
        rw [← e1] at hx
        exact hi ((List.getElem?_inj (List.getElem?_eq_some_iff.1 hat).1 (riseI_nodup (packs_rise l))).1 (hat.trans hx.symm))
      show some ((cntOf k (l ++ [e]) : Nat) : Int) = some ((cntOf k l : Nat) : Int)
      rw [cntOf_one, if_neg hne]
      rfl
theorem cnts_new {l : List Ent} {e : Ent} (h : e.2.pack ∉ packsOf l) : cntsOf (l ++ [e]) = (cntsOf l).take (posI (packsOf l) e.2.pack) ++ 1 :: (cntsOf l).drop (posI (packsOf l) e.2.pack) := by
  have h0 : cntOf e.2.pack l = 0 := by
    have : ¬ 0 < cntOf e.2.pack l := fun hh => h (mem_packs.2 hh)
    omega
  have hk : ∀ k ∈ packsOf l, ¬ e.2.pack = k := fun k hk e1 => h (by rw [e1]; exact hk)
  have hm : ∀ a : List Id32, (∀ k ∈ a, ¬ e.2.pack = k) → a.map (fun k => (cntOf k (l ++ [e]) : Int)) = a.map fun k => (cntOf k l : Int) := fun a ha => List.map_congr_left fun k hk2 => by
    rw [cntOf_one, if_neg (ha k hk2)]
    rfl
  unfold cntsOf
  rw [packs_new h, insI, List.map_append, List.map_cons, cntOf_one, if_pos rfl, h0, hm _ (fun k hk2 => hk k (List.mem_of_mem_take hk2)), hm _ (fun k hk2 => hk k (List.mem_of_mem_drop hk2)), List.map_take, List.map_drop]
  rfl
end Go.Proofs.Ytgbghjpkdbjdgaa
