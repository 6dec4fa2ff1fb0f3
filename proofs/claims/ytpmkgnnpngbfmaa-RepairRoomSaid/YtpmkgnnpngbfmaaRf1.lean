/- What Plan tells first: the plain law behind RepairFirst. -/
import Derived.Test.YtpmkgnnpngbfmaaRp15
namespace Go.Proofs.Ytpmkgnnpngbfmaa
open Go.RowKit
open Extern.Stop (cell)

theorem give_out (p : Pk) : ∀ (n : Nat) (s : Pl), ∃ more, (give p n s).out = s.out ++ more ∧ ∀ x ∈ more, x.pack = p.id
  | 0, s => ⟨[], by simp [give], by simp⟩
  | n + 1, s => by
    unfold give
    cases hg : giveOne p s with
    | none => exact ⟨[], by simp, by simp⟩
    | some s' =>
      obtain ⟨more, h1, h2⟩ := give_out p n s'
      unfold giveOne at hg
      obtain ⟨who, _, rfl⟩ := Option.map_eq_some_iff.1 hg
      refine ⟨⟨p.id, who⟩ :: more, ?_, ?_⟩
      · show (give p n _).out = _
        rw [h1]
        simp
      · intro x hx
        rcases List.mem_cons.1 hx with rfl | hx
        · rfl
        · exact h2 x hx
theorem planOne_out (k : Int) (s : List (Int × Int) × List Mv) (p : Pk) : ∃ more, (planOne k s p).2 = s.2 ++ more ∧ ∀ x ∈ more, x.pack = p.id := give_out p _ ⟨s.1, [], s.2⟩
theorem planOne_none {k : Int} {s : List (Int × Int) × List Mv} {p : Pk} (h : fitsOf s.1 (hset p.hs) p.size = []) : planOne k s p = s := by
  unfold planOne
  rw [give_stop (by simpa using h)]
theorem planOne_full {k : Int} {s : List (Int × Int) × List Mv} {p : Pk} (h : k - ((hset p.hs).length : Int) ≤ 0) : planOne k s p = s := by
  unfold planOne
  rw [show (k - ((hset p.hs).length : Int)).toNat = 0 by omega]
  rfl
theorem planOne_some {k : Int} {s : List (Int × Int) × List Mv} {p : Pk} {who : Int} (hk : 0 < k - ((hset p.hs).length : Int)) (h : IsBest (roomOf s.1) (fitsOf s.1 (hset p.hs) p.size) who) : ∃ more, (planOne k s p).2 = s.2 ++ ⟨p.id, who⟩ :: more := by
  have hb := bestOf_eq (List.Perm.refl _) h
  unfold planOne
  rw [give_on (by simpa using hb) (by omega)]
  obtain ⟨more, h1, _⟩ := give_out p ((k - ((hset p.hs).length : Int)).toNat - 1) ⟨aput s.1 who (roomOf s.1 who - p.size), [] ++ [who], s.2 ++ [⟨p.id, who⟩]⟩
  refine ⟨more, ?_⟩
  show (give p _ _).out = _
  rw [h1]
  simp

/-! ### room, in the order of numbers -/
def frOf (zs : List Int) : List (Int × Int) := zs.zipIdx.map fun x => ((x.2 : Int), x.1)
theorem frOf_snoc (zs : List Int) (z : Int) : frOf (zs ++ [z]) = frOf zs ++ [((zs.length : Int), z)] := by simp [frOf, List.zipIdx_append]
theorem frOf_len (zs : List Int) : (frOf zs).length = zs.length := by simp [frOf]
theorem frOf_get {zs : List Int} {i : Nat} {z : Int} (h : zs[i]? = some z) : (frOf zs)[i]? = some ((i : Int), z) := by
  unfold frOf
  rw [List.getElem?_map, List.getElem?_zipIdx, h]
  simp
theorem frOf_mem {zs : List Int} {x : Int × Int} : x ∈ frOf zs ↔ ∃ i : Nat, zs[i]? = some x.2 ∧ x.1 = (i : Int) := by
  constructor
  · intro h
    obtain ⟨i, hi, e⟩ := List.mem_iff_getElem.1 h
    have hi' : i < zs.length := by rw [frOf_len] at hi; exact hi
    have h1 := frOf_get (List.getElem?_eq_getElem hi')
    rw [List.getElem?_eq_getElem hi, e] at h1
    cases h1
    exact ⟨i, List.getElem?_eq_getElem hi', rfl⟩
  · rintro ⟨i, h1, h2⟩
    have := List.mem_of_getElem? (frOf_get h1)
    obtain ⟨a, b⟩ := x
    simp only at h1 h2
    subst h2
    exact this
theorem frOf_apart (zs : List Int) : Apart (frOf zs) := by
  unfold Apart
  have e : (frOf zs).map Prod.fst = (List.range zs.length).map fun i : Nat => (i : Int) := by
    apply List.ext_getElem?
    intro i
    rw [List.getElem?_map, List.getElem?_map]
    by_cases h : i < zs.length
    · rw [frOf_get (List.getElem?_eq_getElem h), List.getElem?_range h]
      rfl
    · rw [List.getElem?_eq_none (by rw [frOf_len]; omega), List.getElem?_eq_none (by simp; omega)]
      rfl
  rw [e]
  exact List.Pairwise.map _ (fun a b hab => by omega) List.nodup_range
theorem frees_apart {f : List (Int × Int)} (h : Apart f) : frees f = f := by
  have : ∀ (l m : List (Int × Int)), Apart (m ++ l) → l.foldl freeStep m = m ++ l := by
    intro l
    induction l with
    | nil => intro m _; simp
    | cons x r ih =>
      intro m hm
      have hx : aget m x.1 = none := by
        rw [aget_none_iff]
        intro p hp e
        unfold Apart at hm
        rw [List.map_append, List.nodup_append] at hm
        exact hm.2.2 p.1 (List.mem_map.2 ⟨p, hp, rfl⟩) x.1 (by simp) e
      rw [List.foldl_cons]
      have e : freeStep m x = m ++ [x] := by
        unfold freeStep
        rw [hx, aput_none _ hx]
        rfl
      rw [e, ih _ (by simpa using hm)]
      simp
  exact this f [] (by simpa using h)
theorem room_fr {zs : List Int} {i : Nat} {z : Int} (h : zs[i]? = some z) : roomOf (frOf zs) (i : Int) = z := by
  unfold roomOf
  rw [aget_of_mem (frOf_apart zs) (frOf_mem.2 ⟨i, h, rfl⟩)]
  rfl
/-- The first one that has the most room. -/
structure FirstBest (zs : List Int) (k best : Nat) (v : Int) : Prop where
  at' : zs[best]? = some v
  le : ∀ i z, i < k → zs[i]? = some z → z ≤ v
  lt : ∀ i z, i < best → zs[i]? = some z → z < v
theorem best_is {zs : List Int} {best : Nat} {v size : Int} (h : FirstBest zs zs.length best v) {hs : List Int} (hh : ∀ x ∈ hs, (20 : Int) ≤ x) (hn : zs.length ≤ 20) (hv : size ≤ v) :
    IsBest (roomOf (frOf zs)) (fitsOf (frOf zs) (hset hs) size) (best : Int) := by
  have hbl := (List.getElem?_eq_some_iff.1 h.at').1
  have hno : ∀ i : Nat, i < zs.length → (aget (hset hs) (i : Int)).isSome = false := fun i hi => by
    rw [hput_get, if_neg (fun hx => by have := hh _ hx; omega)]
    rfl
  refine ⟨?_, ?_⟩
  · unfold fitsOf
    rw [List.mem_filter]
    refine ⟨List.mem_map.2 ⟨((best : Int), v), frOf_mem.2 ⟨best, h.at', rfl⟩, rfl⟩, ?_⟩
    unfold nofit
    rw [hno best hbl, room_fr h.at', decide_eq_false (by omega)]
    rfl
  · intro y hy
    unfold fitsOf at hy
    rw [List.mem_filter] at hy
    obtain ⟨⟨a, z⟩, hx, rfl⟩ := List.mem_map.1 hy.1
    obtain ⟨i, hi, rfl⟩ := frOf_mem.1 hx
    simp only at hi ⊢
    rw [room_fr hi, room_fr h.at']
    have hil := (List.getElem?_eq_some_iff.1 hi).1
    have h1 := h.le i z hil hi
    by_cases e : i = best
    · left; rw [e]
    · by_cases e2 : z < v
      · exact .inr (.inl e2)
      · have : ¬ i < best := fun hlt => e2 (h.lt i z hlt hi)
        exact .inr (.inr ⟨by omega, by omega⟩)
theorem none_fits {zs : List Int} {best : Nat} {v size : Int} (h : FirstBest zs zs.length best v) {has : List (Int × Bool)} (hv : v < size) : fitsOf (frOf zs) has size = [] := by
  unfold fitsOf
  rw [List.filter_eq_nil_iff]
  intro y hy
  obtain ⟨⟨a, z⟩, hx, rfl⟩ := List.mem_map.1 hy
  obtain ⟨i, hi, rfl⟩ := frOf_mem.1 hx
  simp only at hi ⊢
  have h1 := h.le i z (List.getElem?_eq_some_iff.1 hi).1 hi
  unfold nofit
  rw [room_fr hi, decide_eq_true (by omega : z < size)]
  simp
/-! ### the three packs -/
abbrev f1 (H : Nat) : Pk := ⟨idOne 1, 5, [100, 101], some ⟨H, 0, none⟩, 2⟩
abbrev f2 (H : Nat) (a : Int) : Pk := ⟨idOne 2, a + 1, [100], some ⟨H + 1, 0, none⟩, 1⟩
abbrev f3 (H : Nat) (b : Int) : Pk := ⟨idOne 3, b + 1, [102], some ⟨H + 1 + 1, 0, none⟩, 1⟩
theorem f1_key (H : Nat) : keyOfPk (f1 H) = 2 := by kernel_rfl
theorem f2_key (H : Nat) (a : Int) : keyOfPk (f2 H a) = 1 := by kernel_rfl
theorem f3_key (H : Nat) (b : Int) : keyOfPk (f3 H b) = 1 := by kernel_rfl
theorem f1_full (H : Nat) : (2 : Int) - ((hset (f1 H).hs).length : Int) ≤ 0 := of_decide_eq_true (by kernel_rfl)
theorem f2_wants (H : Nat) (a : Int) : 0 < (2 : Int) - ((hset (f2 H a).hs).length : Int) := of_decide_eq_true (by kernel_rfl)
theorem three_sorted (H : Nat) (a b : Int) : isort keyOfPk [f1 H, f2 H a, f3 H b] = [f2 H a, f3 H b, f1 H] := by
  unfold isort
  simp only [List.foldl_cons, List.foldl_nil, insR, List.filter_nil, List.nil_append, List.filter_cons, f1_key, f2_key, f3_key]
  rfl
theorem first_no {zs : List Int} {best H : Nat} {v a b : Int} (h : FirstBest zs zs.length best v) (hv : v < a + 1) :
    (planOf 2 (frees (frOf zs)) (isort keyOfPk [f1 H, f2 H a, f3 H b])).2 = [] ∨ ∃ x r, (planOf 2 (frees (frOf zs)) (isort keyOfPk [f1 H, f2 H a, f3 H b])).2 = x :: r ∧ x.pack = idOne 3 := by
  rw [three_sorted, frees_apart (frOf_apart zs)]
  show (planOne 2 (planOne 2 (planOne 2 (frOf zs, []) (f2 H a)) (f3 H b)) (f1 H)).2 = [] ∨ ∃ x r, (planOne 2 (planOne 2 (planOne 2 (frOf zs, []) (f2 H a)) (f3 H b)) (f1 H)).2 = x :: r ∧ x.pack = idOne 3
  rw [planOne_full (p := f1 H) (f1_full H), show planOne 2 (frOf zs, []) (f2 H a) = (frOf zs, []) from planOne_none (none_fits (has := hset [100]) h hv)]
  obtain ⟨more, h1, h2⟩ := planOne_out 2 (frOf zs, []) (f3 H b)
  rw [h1]
  cases more with
  | nil => exact .inl rfl
  | cons x r => exact .inr ⟨x, r, rfl, h2 x (by simp)⟩
theorem first_yes {zs : List Int} {best H : Nat} {v a b : Int} (h : FirstBest zs zs.length best v) (hn : zs.length ≤ 20) (hv : a + 1 ≤ v) :
    ∃ r, (planOf 2 (frees (frOf zs)) (isort keyOfPk [f1 H, f2 H a, f3 H b])).2 = ⟨idOne 2, (best : Int)⟩ :: r := by
  rw [three_sorted, frees_apart (frOf_apart zs)]
  show ∃ r, (planOne 2 (planOne 2 (planOne 2 (frOf zs, []) (f2 H a)) (f3 H b)) (f1 H)).2 = _
  rw [planOne_full (p := f1 H) (f1_full H)]
  obtain ⟨m1, e1⟩ := planOne_some (k := 2) (s := (frOf zs, [])) (p := f2 H a) (f2_wants H a) (best_is (hs := [100]) h (by simp) hn hv)
  obtain ⟨m2, e2, _⟩ := planOne_out 2 (planOne 2 (frOf zs, []) (f2 H a)) (f3 H b)
  rw [e2, e1]
  exact ⟨_, rfl⟩
end Go.Proofs.Ytpmkgnnpngbfmaa
