/- What Plan gives: the plain law behind RepairRoom. -/
import Derived.Test.YtpmkgnnpngbfmaaRf1
namespace Go.Proofs.Ytpmkgnnpngbfmaa
open Go.RowKit
open Extern.Stop (cell)

theorem roomOf_aput (l : List (Int × Int)) (a b x : Int) : roomOf (aput l a b) x = if a = x then b else roomOf l x := by
  unfold roomOf
  rw [aget_aput]
  split <;> rfl
theorem keys_same {l : List (Int × Int)} {a : Int} (h : a ∈ l.map Prod.fst) (b : Int) : (aput l a b).map Prod.fst = l.map Prod.fst := by
  rw [keys_aput, if_pos (mem_keys_aget.1 h)]
theorem fits_mem {left : List (Int × Int)} {has : List (Int × Bool)} {size w : Int} : w ∈ fitsOf left has size ↔ w ∈ left.map Prod.fst ∧ w ∉ has.map Prod.fst ∧ size ≤ roomOf left w := by
  unfold fitsOf nofit
  rw [List.mem_filter]
  constructor
  · rintro ⟨h1, h2⟩
    simp only [Bool.not_eq_true', Bool.or_eq_false_iff, decide_eq_false_iff_not] at h2
    refine ⟨h1, fun h => ?_, by omega⟩
    rw [mem_keys_aget] at h
    rw [h] at h2
    exact absurd h2.1 (by simp)
  · rintro ⟨h1, h2, h3⟩
    refine ⟨h1, ?_⟩
    have : (aget has w).isSome = false := by
      cases hb : (aget has w).isSome with
      | false => rfl
      | true => exact absurd (mem_keys_aget.2 hb) h2
    rw [this, decide_eq_false (by omega)]
    rfl
/-- What is given for a pack. -/
theorem give_gave (p : Pk) : ∀ (n : Nat) (s : Pl), ∃ gs : List Int, (give p n s).out = s.out ++ gs.map (fun w => (⟨p.id, w⟩ : Mv)) ∧ (give p n s).left.map Prod.fst = s.left.map Prod.fst ∧ gs.Nodup ∧
    (∀ g ∈ gs, g ∈ s.left.map Prod.fst ∧ g ∉ p.hs ++ s.gs) ∧ (∀ w, roomOf (give p n s).left w = roomOf s.left w - if w ∈ gs then p.size else 0) ∧ gs.length ≤ n ∧ (gs.length = n ∨ fitsOf (give p n s).left (hset (p.hs ++ (s.gs ++ gs))) p.size = [])
  | 0, s => ⟨[], by simp [give], rfl, List.nodup_nil, by simp, by simp [give], Nat.le_refl _, .inl rfl⟩
  | n + 1, s => by
    rcases bestOf_spec (roomOf s.left) (fitsOf s.left (hset (p.hs ++ s.gs)) p.size) with ⟨h0, e⟩ | ⟨who, e, hb⟩
    · have hs := give_stop h0 (n + 1)
      rw [hs]
      exact ⟨[], by simp, rfl, List.nodup_nil, by simp, by simp, by simp, .inr (by simpa using h0)⟩
    · rw [give_on e (Nat.succ_pos n), show n.succ - 1 = n from rfl]
      obtain ⟨hk, hn, hr⟩ := fits_mem.1 hb.1
      rw [hset_mem] at hn
      obtain ⟨gs, h1, h2, h3, h4, h5, h6, h7⟩ := give_gave p (n + 1 - 1) ⟨aput s.left who (roomOf s.left who - p.size), s.gs ++ [who], s.out ++ [⟨p.id, who⟩]⟩
      simp only [Nat.add_sub_cancel] at h1 h2 h4 h5 h6 h7 ⊢
      have hwg : who ∉ gs := fun h => (h4 who h).2 (by simp)
      refine ⟨who :: gs, ?_, ?_, List.nodup_cons.2 ⟨hwg, h3⟩, ?_, ?_, by simp; omega, ?_⟩
      · rw [h1]; simp
      · rw [h2, keys_same hk]
      · intro g hg
        rcases List.mem_cons.1 hg with rfl | hg
        · exact ⟨hk, hn⟩
        · obtain ⟨a1, a2⟩ := h4 g hg
          rw [keys_same hk] at a1
          exact ⟨a1, fun h => a2 (by simp only [List.mem_append] at h ⊢; rcases h with h | h; exact .inl h; exact .inr (.inl h))⟩
      · intro w
        rw [h5, roomOf_aput]
        by_cases e1 : who = w
        · subst e1
          rw [if_pos rfl, if_neg hwg, if_pos (by simp)]
          omega
        · rw [if_neg e1]
          have : w ∈ who :: gs ↔ w ∈ gs := by
            rw [List.mem_cons]
            exact ⟨fun h => h.resolve_left (fun h => e1 h.symm), .inr⟩
          by_cases e2 : w ∈ gs
          · rw [if_pos e2, if_pos (this.2 e2)]
          · rw [if_neg e2, if_neg (fun h => e2 (this.1 h))]
      · rcases h7 with h7 | h7
        · exact .inl (by simp; omega)
        · right
          have e1 : s.gs ++ [who] ++ gs = s.gs ++ who :: gs := by simp
          rw [e1] at h7
          exact h7
/-- A set's size. -/
theorem hput_new {m : List (Int × Bool)} : ∀ {gs : List Int}, gs.Nodup → (∀ g ∈ gs, g ∉ m.map Prod.fst) → (hput m gs).length = m.length + gs.length ∧ (hput m gs).map Prod.fst = m.map Prod.fst ++ gs
  | [], _, _ => by simp [hput]
  | g :: gs, hn, hd => by
    have e : aput m g true = m ++ [(g, true)] := by
      apply aput_none
      cases h : aget m g with
      | none => rfl
      | some v => exact absurd (mem_keys_aget.2 (by rw [h]; rfl)) (hd g (by simp))
    obtain ⟨h1, h2⟩ := List.nodup_cons.1 hn
    have := hput_new (m := aput m g true) h2 (fun x hx => by
      rw [e]
      simp only [List.map_append, List.mem_append, List.map_cons, List.map_nil, List.mem_singleton, not_or]
      exact ⟨hd x (by simp [hx]), fun h => h1 (h ▸ hx)⟩)
    show (hput (aput m g true) gs).length = _ ∧ (hput (aput m g true) gs).map Prod.fst = _
    rw [this.1, this.2, e]
    constructor
    · simp; omega
    · simp
theorem hset_nodup {l : List Int} (h : l.Nodup) : (hset l).length = l.length := by
  have := (hput_new (m := []) h (by simp)).1
  simpa using this
theorem hset_app {hs gs : List Int} (hn : gs.Nodup) (hd : ∀ g ∈ gs, g ∉ hs) : (hset (hs ++ gs)).length = (hset hs).length + gs.length := by
  have e : hset (hs ++ gs) = hput (hset hs) gs := by simp [hput]
  rw [e]
  exact (hput_new hn (fun g hg => by rw [hset_mem]; exact hd g hg)).1
theorem nodup_le {a b : List Int} (ha : a.Nodup) (h : ∀ x ∈ a, x ∈ b) : a.length ≤ b.length := by
  induction a generalizing b with
  | nil => simp
  | cons x r ih =>
    obtain ⟨h1, h2⟩ := List.nodup_cons.1 ha
    have hx := h x (by simp)
    have := ih (b := b.erase x) h2 (fun y hy => (List.mem_erase_of_ne (fun e : y = x => h1 (e ▸ hy))).2 (h y (by simp [hy])))
    rw [List.length_erase_of_mem hx] at this
    have : 0 < b.length := List.length_pos_of_mem hx
    simp only [List.length_cons]
    omega

/-! ### all packs -/
def movesOf (x : Pk × List Int) : List Mv := x.2.map fun w => ⟨x.1.id, w⟩
def spentG (G : List (Pk × List Int)) (w : Int) : Int := (G.map fun x => if w ∈ x.2 then x.1.size else 0).sum
def totalOf (l : List Pk) : Int := (l.map fun p => p.size).sum
theorem spent_snoc (G : List (Pk × List Int)) (x : Pk × List Int) (w : Int) : spentG (G ++ [x]) w = spentG G w + if w ∈ x.2 then x.1.size else 0 := by simp [spentG]
theorem total_snoc (l : List Pk) (p : Pk) : totalOf (l ++ [p]) = totalOf l + p.size := by simp [totalOf]
theorem spent_le {G : List (Pk × List Int)} (h : ∀ x ∈ G, 0 ≤ x.1.size) (w : Int) : 0 ≤ spentG G w ∧ spentG G w ≤ totalOf (G.map Prod.fst) := by
  induction G with
  | nil => simp [spentG, totalOf]
  | cons x r ih =>
    have h1 := ih fun y hy => h y (by simp [hy])
    have h2 := h x (by simp)
    have e1 : spentG (x :: r) w = (if w ∈ x.2 then x.1.size else 0) + spentG r w := by simp [spentG]
    have e2 : totalOf ((x :: r).map Prod.fst) = x.1.size + totalOf (r.map Prod.fst) := by simp [totalOf]
    rw [e1, e2]
    split <;> omega
def wants (k : Int) (p : Pk) : Nat := (k - ((hset p.hs).length : Int)).toNat
/-- What Plan gave each pack. -/
structure Given (k : Int) (left0 : List (Int × Int)) (ord : List Pk) (G : List (Pk × List Int)) : Prop where
  fst : G.map Prod.fst = ord
  out : (planOf k left0 ord).2 = G.flatMap movesOf
  keys : (planOf k left0 ord).1.map Prod.fst = left0.map Prod.fst
  room : ∀ w, roomOf (planOf k left0 ord).1 w = roomOf left0 w - spentG G w
  nodup : ∀ x ∈ G, x.2.Nodup
  mem : ∀ x ∈ G, ∀ g ∈ x.2, g ∈ left0.map Prod.fst ∧ g ∉ x.1.hs
  few : ∀ x ∈ G, x.2.length ≤ wants k x.1
  full : ∀ x ∈ G, x.2.length = wants k x.1 ∨ ∀ w ∈ left0.map Prod.fst, w ∈ x.1.hs ++ x.2 ∨ roomOf left0 w < totalOf ord
theorem plan_given (k : Int) (left0 : List (Int × Int)) : ∀ (n : Nat) (ord : List Pk), ord.length = n → (∀ p ∈ ord, 0 ≤ p.size) → ∃ G, Given k left0 ord G
  | 0, ord, hn, _ => by
    rw [List.eq_nil_of_length_eq_zero hn]
    exact ⟨[], rfl, rfl, rfl, by simp [planOf, spentG], by simp, by simp, by simp, by simp⟩
  | n + 1, ord, hn, hz => by
    have hne : ord ≠ [] := by rintro rfl; simp at hn
    obtain ⟨r, p, rfl⟩ : ∃ r p, ord = r ++ [p] := ⟨ord.dropLast, ord.getLast hne, (List.dropLast_concat_getLast hne).symm⟩
    obtain ⟨G, h⟩ := plan_given k left0 n r (by simpa using hn) (fun q hq => hz q (by simp [hq]))
    have hp := hz p (by simp)
    obtain ⟨gs, g1, g2, g3, g4, g5, g6, g7⟩ := give_gave p (wants k p) ⟨(planOf k left0 r).1, [], (planOf k left0 r).2⟩
    have e : planOf k left0 (r ++ [p]) = ((give p (wants k p) ⟨(planOf k left0 r).1, [], (planOf k left0 r).2⟩).left, (give p (wants k p) ⟨(planOf k left0 r).1, [], (planOf k left0 r).2⟩).out) := by
      rw [planOf_snoc]; rfl
    have hzG : ∀ x ∈ G, 0 ≤ x.1.size := fun x hx => hz x.1 (by
      have : x.1 ∈ G.map Prod.fst := List.mem_map.2 ⟨x, hx, rfl⟩
      rw [h.fst] at this
      simp [this])
    have ht := total_snoc r p
    refine ⟨G ++ [(p, gs)], ?_, ?_, ?_, ?_, ?_, ?_, ?_, ?_⟩
    · simp [h.fst]
    · rw [e, g1, h.out]
      simp [movesOf]
    · rw [e, g2, h.keys]
    · intro w
      rw [e, g5, h.room, spent_snoc]
      show _ - spentG G w - (if w ∈ gs then p.size else 0) = _ - (spentG G w + if w ∈ gs then p.size else 0)
      omega
    · intro x hx
      rcases List.mem_append.1 hx with hx | hx
      · exact h.nodup x hx
      · rw [List.mem_singleton.1 hx]; exact g3
    · intro x hx
      rcases List.mem_append.1 hx with hx | hx
      · exact h.mem x hx
      · rw [List.mem_singleton.1 hx]
        intro g hg
        obtain ⟨a1, a2⟩ := g4 g hg
        rw [h.keys] at a1
        exact ⟨a1, by simpa using a2⟩
    · intro x hx
      rcases List.mem_append.1 hx with hx | hx
      · exact h.few x hx
      · rw [List.mem_singleton.1 hx]; exact g6
    · intro x hx
      rcases List.mem_append.1 hx with hx | hx
      · rcases h.full x hx with h1 | h1
        · exact .inl h1
        · right
          intro w hw
          rcases h1 w hw with h2 | h2
          · exact .inl h2
          · right; omega
      · rw [List.mem_singleton.1 hx]
        rcases g7 with h1 | h1
        · exact .inl h1
        · right
          intro w hw
          by_cases hin : w ∈ p.hs ++ gs
          · exact .inl hin
          · right
            have hnf : w ∉ fitsOf (give p (wants k p) ⟨(planOf k left0 r).1, [], (planOf k left0 r).2⟩).left (hset (p.hs ++ ([] ++ gs))) p.size := by rw [h1]; simp
            rw [fits_mem] at hnf
            have hlt : roomOf (give p (wants k p) ⟨(planOf k left0 r).1, [], (planOf k left0 r).2⟩).left w < p.size := by
              apply Int.not_le.1
              intro hle
              apply hnf
              refine ⟨?_, ?_, hle⟩
              · rw [g2, h.keys]; exact hw
              · rw [hset_mem]; simpa using hin
            rw [g5, if_neg (fun hg => hin (by simp [hg])), h.room] at hlt
            have := (spent_le hzG w).2
            rw [h.fst] at this
            omega
end Go.Proofs.Ytpmkgnnpngbfmaa
