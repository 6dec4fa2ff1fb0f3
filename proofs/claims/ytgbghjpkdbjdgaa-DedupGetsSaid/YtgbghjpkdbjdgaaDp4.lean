/- DedupPlays, plain: the reference's rows against the index's. -/
import Derived.Test.YtgbghjpkdbjdgaaDe8
namespace Go.Proofs.Ytgbghjpkdbjdgaa
open Go.RowKit Go.Sort Go.Shelf Go.Lib

theorem posE_keys (es : List Ent) (e : Ent) : posE es e = posI (es.map Prod.fst) e.1 := by
  unfold posE posI
  induction es with
  | nil => rfl
  | cons y es ih =>
    by_cases hy : compareBytes y.1.1 e.1.1 < 0
    · rw [List.map_cons, List.takeWhile_cons_of_pos (by simpa using hy), List.takeWhile_cons_of_pos (by simpa using hy), List.length_cons, List.length_cons, ih]
    · rw [List.map_cons, List.takeWhile_cons_of_neg (by simpa using hy), List.takeWhile_cons_of_neg (by simpa using hy)]
      rfl
theorem insE_keys (es : List Ent) (e : Ent) : (insE es e).map Prod.fst = insI (es.map Prod.fst) e.1 := by
  unfold insE insI
  rw [posE_keys, List.map_append, List.map_cons, List.map_take, List.map_drop]
theorem rise_keys {es : List Ent} : Rise es ↔ RiseI (es.map Prod.fst) := by
  unfold Rise RiseI
  rw [List.pairwise_map]
theorem insE_perm (es : List Ent) (e : Ent) : (insE es e).Perm (es ++ [e]) := by
  unfold insE
  refine List.perm_middle.trans ?_
  rw [List.take_append_drop]
  exact (List.perm_append_singleton e es).symm
theorem ins_row {l : List Ent} (h : Apart l) {e : Ent} (hn : aget l e.1 = none) : insE (rowOf l) e = rowOf (l ++ [e]) := by
  have hk : e.1 ∉ (rowOf l).map Prod.fst := by
    intro hh
    obtain ⟨p, hp, he⟩ := List.mem_map.1 hh
    exact (aget_none_iff l e.1).1 hn p ((row_perm h).mem_iff.1 hp) he
  have r1 : Rise (insE (rowOf l) e) := by
    rw [rise_keys, insE_keys]
    exact insI_rise (rise_keys.1 (rise_row h)) hk
  have ha : Apart (l ++ [e]) := by
    have := h.aput e.1 e.2
    rw [aput_none _ hn] at this
    exact this
  refine List.Perm.eq_of_pairwise (le := fun a b : Ent => compareBytes a.1.1 b.1.1 < 0) ?_ r1 (rise_row ha) ((insE_perm _ _).trans (((row_perm h).append_right _).trans (row_perm ha).symm))
  intro a b _ _ h1 h2
  have := cb_swap a.1.1 b.1.1
  omega
theorem filter_row {l : List Ent} (h : Apart l) (q : Ent → Bool) : (rowOf l).filter q = rowOf (l.filter q) := by
  refine List.Perm.eq_of_pairwise (le := fun a b : Ent => compareBytes a.1.1 b.1.1 < 0) ?_ (List.Pairwise.filter q (rise_row h)) (rise_row (apart_filter h q)) (((row_perm h).filter q).trans (row_perm (apart_filter h q)).symm)
  intro a b _ _ h1 h2
  have := cb_swap a.1.1 b.1.1
  omega
theorem aget_row {l : List Ent} (h : Apart l) (k : Id32) : aget (rowOf l) k = aget l k := by
  have ha := rise_apart (rise_row h)
  cases hg : aget l k with
  | some v => exact aget_of_mem ha ((row_perm h).mem_iff.2 (aget_mem hg))
  | none =>
    rw [aget_none_iff] at hg ⊢
    exact fun p hp => hg p ((row_perm h).mem_iff.1 hp)
theorem addB_row {l : List Ent} (h : Apart l) (k : Id32) (p : Pl) : addB (rowOf l) k p = addB l k p := by
  unfold addB
  rw [aget_row h]
theorem add_row {l : List Ent} (h : Apart l) (k : Id32) (p : Pl) : (if addB (rowOf l) k p then insE (rowOf l) (k, p) else rowOf l) = rowOf (addL l k p) := by
  rw [addB_row h]
  cases hb : addB l k p with
  | false => rw [addL_no hb]; rfl
  | true =>
    rw [addL_yes hb]
    have hn : aget l k = none := by
      unfold addB at hb
      simp only [Bool.and_eq_true, Bool.not_eq_true'] at hb
      cases hg : aget l k with
      | none => rfl
      | some v => rw [hg] at hb; exact absurd hb.2 (by simp)
    exact ins_row h hn
theorem filter_ok {l : List Ent} (h : PlsOk l) (q : Ent → Bool) : PlsOk (l.filter q) := fun e he => h e (List.mem_filter.1 he).1
end Go.Proofs.Ytgbghjpkdbjdgaa
