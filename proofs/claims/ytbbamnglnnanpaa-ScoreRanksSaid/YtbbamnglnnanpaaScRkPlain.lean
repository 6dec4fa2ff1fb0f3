/- ScoreRanks' plain part: the tally of eight, and how partners stand. -/
import Derived.Test.YtbbamnglnnanpaaScRank
namespace Go.Proofs.Ytbbamnglnnanpaa
open Go.RowKit Go.ChangeAt

theorem rankOf_perm (f : Int → Int) (zs : List Int) : (rankOf f zs).Perm zs := List.mergeSort_perm _ _
theorem rankOf_len (f : Int → Int) (zs : List Int) : (rankOf f zs).length = zs.length := (rankOf_perm f zs).length_eq
theorem rankOf_sorted (f : Int → Int) (zs : List Int) : (rankOf f zs).Pairwise fun a b => f b ≤ f a ∧ (f a = f b → a ≤ b) := by
  unfold rankOf
  refine (List.pairwise_mergeSort ?_ ?_ _).imp ?_
  · intro a b c h1 h2; simp only [lt_rank] at *; simp at *; omega
  · intro a b; simp only [lt_rank]; simp; omega
  · intro a b h; simp only [lt_rank] at h; simp at h; omega
theorem rankOf_next {f : Int → Int} {zs : List Int} {j : Nat} {a b : Int} (ha : (rankOf f zs)[j]? = some a) (hb : (rankOf f zs)[j + 1]? = some b) : ¬ f a < f b ∧ (f a = f b → ¬ b < a) := by
  obtain ⟨h1, rfl⟩ := List.getElem?_eq_some_iff.1 ha
  obtain ⟨h2, rfl⟩ := List.getElem?_eq_some_iff.1 hb
  have := List.pairwise_iff_getElem.1 (rankOf_sorted f zs) j (j + 1) h1 h2 (by omega)
  exact ⟨by omega, fun e => by have := this.2 e; omega⟩
/-- Of each of eight: how often the first j of r hold it, less how often the first j of z do. -/
def cnt (l : List Int) (c : Nat) : Int := (l.count (c : Int) : Nat)
def tal (r z : List Int) (j : Nat) : List Int := (List.range 8).map fun c => cnt (r.take j) c - cnt (z.take j) c
theorem tal_len (r z : List Int) (j : Nat) : (tal r z j).length = 8 := by simp [tal]
theorem tal_get (r z : List Int) (j : Nat) {c : Nat} (hc : c < 8) : (tal r z j)[c]? = some (cnt (r.take j) c - cnt (z.take j) c) := by simp [tal, hc]
theorem tal_start (r z : List Int) : tal r z 0 = [0, 0, 0, 0, 0, 0, 0, 0] := by simp [tal, cnt]; decide
theorem cnt_next {l : List Int} {j : Nat} {x : Int} (h : l[j]? = some x) (c : Nat) : cnt (l.take (j + 1)) c = cnt (l.take j) c + if x = (c : Int) then 1 else 0 := by
  unfold cnt
  rw [List.take_add_one, h]
  simp only [Option.toList_some, List.count_append, List.count_singleton]
  by_cases e : x = (c : Int) <;> simp [e]
theorem cnt_le (l : List Int) (j c : Nat) : 0 ≤ cnt (l.take j) c ∧ cnt (l.take j) c ≤ (j : Int) := by
  unfold cnt
  have h1 := List.count_le_length (a := (c : Int)) (l := l.take j)
  rw [List.length_take] at h1
  omega
theorem tal_step {r z : List Int} {j : Nat} {x y v : Int} (hx : r[j]? = some x) (hy : z[j]? = some y) {a b : Nat} (ha : x = (a : Int)) (hb : y = (b : Int)) (_h8 : a < 8) (_h9 : b < 8)
    (hv : ((tal r z j).set a (cnt (r.take j) a - cnt (z.take j) a + 1))[b]? = some v) :
    ((tal r z j).set a (cnt (r.take j) a - cnt (z.take j) a + 1)).set b (v - 1) = tal r z (j + 1) := by
  apply List.ext_getElem?
  intro c
  by_cases hc : c < 8
  · rw [tal_get r z (j + 1) hc, cnt_next hx, cnt_next hy, ha, hb]
    by_cases e2 : b = c
    · subst e2
      rw [List.getElem?_set_self (by simpa [tal_len] using hc)]
      by_cases e1 : a = b
      · subst e1
        rw [List.getElem?_set_self (by simpa [tal_len] using hc)] at hv
        cases hv
        simp
        omega
      · rw [List.getElem?_set_ne e1, tal_get r z j hc] at hv
        cases hv
        rw [if_neg (by omega), if_pos rfl]
        congr 1
        omega
    · rw [List.getElem?_set_ne e2]
      by_cases e1 : a = c
      · subst e1
        rw [List.getElem?_set_self (by simpa [tal_len] using hc), if_pos rfl, if_neg (by omega)]
        congr 1
        omega
      · rw [List.getElem?_set_ne e1, tal_get r z j hc, if_neg (by omega), if_neg (by omega)]
        simp
  · rw [List.getElem?_eq_none (by simp [tal_len]; omega), List.getElem?_eq_none (by rw [tal_len]; omega)]
theorem tal_end {r z : List Int} (h : r.Perm z) {c : Nat} (hc : c < 8) : (tal r z z.length)[c]? = some 0 := by
  rw [tal_get r z _ hc, List.take_of_length_le (by rw [h.length_eq]; omega), List.take_of_length_le (Nat.le_refl _)]
  unfold cnt
  rw [h.count_eq]
  simp
theorem aget_adel2 {l : List (Int × Int)} (hd : Apart l) (a x : Int) : aget (adel l a) x = if a = x then none else aget l x := by
  induction l with
  | nil => simp [adel, aget]
  | cons p r ih =>
    obtain ⟨k, v⟩ := p
    unfold Apart at hd
    simp only [List.map_cons, List.nodup_cons] at hd
    by_cases e : k = a
    · subst e
      simp only [adel, if_true, aget]
      by_cases ex : k = x
      · subst ex
        rw [if_pos rfl, aget_none_iff]
        intro p hp e2
        exact hd.1 (by rw [← e2]; exact List.mem_map.2 ⟨p, hp, rfl⟩)
      · rw [if_neg ex, if_neg ex]
    · simp only [adel, if_neg e, aget]
      rw [ih hd.2]
      by_cases ex : k = x
      · rw [if_pos ex, if_neg (by omega), if_pos ex]
      · rw [if_neg ex, if_neg ex]
end Go.Proofs.Ytbbamnglnnanpaa
