/- The document's list and the book's map tell the same. -/
import Derived.Test.YtbbamnglnnanpaaScPlain2
namespace Go.Proofs.Ytbbamnglnnanpaa
open Go.RowKit

/-- The list rises, and has just what the map has. -/
structure Sim (l : List (Int × Int)) (m : List Pt) : Prop where
  up : m.Pairwise fun a b => a.f0 < b.f0
  same : ∀ who v, (⟨who, v⟩ : Pt) ∈ m ↔ aget l who = some v
theorem Sim.start : Sim [] [] := ⟨List.Pairwise.nil, by simp [aget]⟩
theorem ptsM_none {m : List Pt} {who : Int} (h : ∀ p ∈ m, p.f0 ≠ who) : ptsM m who = 0 := by
  induction m with
  | nil => rfl
  | cons p r ih =>
    simp only [ptsM]
    rw [if_neg (h p List.mem_cons_self)]
    exact ih fun p hp => h p (List.mem_cons_of_mem _ hp)
theorem ptsM_some {m : List Pt} (hu : m.Pairwise fun a b => a.f0 < b.f0) {p : Pt} (hp : p ∈ m) : ptsM m p.f0 = p.f1 := by
  induction m with
  | nil => cases hp
  | cons q r ih =>
    rw [List.pairwise_cons] at hu
    simp only [ptsM]
    rcases List.mem_cons.1 hp with rfl | hp
    · rw [if_pos rfl]
    · rw [if_neg (by have := hu.1 p hp; omega)]
      exact ih hu.2 hp
theorem Sim.pts {l : List (Int × Int)} {m : List Pt} (h : Sim l m) (who : Int) : ptsM m who = Go.Proofs.Ytbbamnglnnanpaa.pts l who := by
  unfold Go.Proofs.Ytbbamnglnnanpaa.pts
  cases hl : aget l who with
  | none =>
    refine ptsM_none fun p hp e => ?_
    subst e
    have := (h.same p.f0 p.f1).1 hp
    rw [hl] at this; cases this
  | some v => exact ptsM_some h.up ((h.same who v).2 hl)
theorem Sim.ptsF {l : List (Int × Int)} {m : List Pt} (h : Sim l m) : ptsM m = Go.Proofs.Ytbbamnglnnanpaa.pts l := funext h.pts
theorem aget_adel {l : List (Int × Int)} (hd : Apart l) (a x : Int) : aget (adel l a) x = if a = x then none else aget l x := by
  induction l with
  | nil => simp [adel, aget]
  | cons p r ih =>
    obtain ⟨k, v⟩ := p
    unfold Apart at hd
    simp only [List.map_cons, List.nodup_cons] at hd
    by_cases e : k = a
    · subst e
      simp only [adel, if_true, aget]
      by_cases ex : k = x
      · subst ex
        rw [if_pos rfl, aget_none_iff]
        intro p hp e2
        exact hd.1 (by rw [← e2]; exact List.mem_map.2 ⟨p, hp, rfl⟩)
      · rw [if_neg ex, if_neg ex]
    · simp only [adel, if_neg e, aget]
      rw [ih hd.2]
      by_cases ex : k = x
      · rw [if_pos ex, if_neg (by omega), if_pos ex]
      · rw [if_neg ex, if_neg ex]
theorem mem_less {m : List Pt} {who : Int} {p : Pt} : p ∈ lessM m who ↔ p ∈ m ∧ p.f0 ≠ who := by simp [lessM]
theorem Sim.less {l : List (Int × Int)} {m : List Pt} (h : Sim l m) (hd : Apart l) (who : Int) : Sim (adel l who) (lessM m who) := by
  refine ⟨h.up.filter _, fun x v => ?_⟩
  rw [mem_less, aget_adel hd, h.same]
  by_cases e : who = x
  · subst e; simp
  · rw [if_neg e]; simp; intro _; exact fun e' => e e'.symm
theorem mem_put {m : List Pt} {who v : Int} {p : Pt} : p ∈ putM m who v ↔ p = ⟨who, v⟩ ∨ p ∈ m := by
  unfold putM
  have : p ∈ m ↔ p ∈ m.takeWhile (fun p => decide (p.f0 < who)) ∨ p ∈ m.dropWhile (fun p => decide (p.f0 < who)) := by
    rw [← List.mem_append, List.takeWhile_append_dropWhile]
  rw [this]
  simp only [List.mem_append, List.mem_singleton]
  constructor
  · rintro ((h | h) | h) <;> simp [h]
  · rintro (h | h | h) <;> simp [h]
theorem drop_over {m : List Pt} (hu : m.Pairwise fun a b => a.f0 < b.f0) {who : Int} (hne : ∀ p ∈ m, p.f0 ≠ who) : ∀ p ∈ m.dropWhile (fun p => decide (p.f0 < who)), who < p.f0 := by
  induction m with
  | nil => simp
  | cons q r ih =>
    rw [List.pairwise_cons] at hu
    have hq := hne q List.mem_cons_self
    by_cases h : q.f0 < who
    · rw [List.dropWhile_cons_of_pos (by simpa using h)]
      exact ih hu.2 fun p hp => hne p (List.mem_cons_of_mem _ hp)
    · rw [List.dropWhile_cons_of_neg (by simpa using h)]
      intro p hp
      rcases List.mem_cons.1 hp with rfl | hp
      · omega
      · have := hu.1 p hp; omega
theorem take_under {m : List Pt} {who : Int} : ∀ p ∈ m.takeWhile (fun p => decide (p.f0 < who)), p.f0 < who := by
  induction m with
  | nil => simp
  | cons q r ih =>
    by_cases h : q.f0 < who
    · rw [List.takeWhile_cons_of_pos (by simpa using h)]
      intro p hp
      rcases List.mem_cons.1 hp with rfl | hp
      · exact h
      · exact ih p hp
    · rw [List.takeWhile_cons_of_neg (by simpa using h)]; simp
theorem put_up {m : List Pt} (hu : m.Pairwise fun a b => a.f0 < b.f0) {who : Int} (hne : ∀ p ∈ m, p.f0 ≠ who) (v : Int) : (putM m who v).Pairwise fun a b => a.f0 < b.f0 := by
  have h1 := hu.sublist (List.takeWhile_sublist fun p : Pt => decide (p.f0 < who))
  have h2 := hu.sublist (List.dropWhile_sublist fun p : Pt => decide (p.f0 < who))
  have h3 := drop_over hu hne
  have h4 := take_under (m := m) (who := who)
  unfold putM
  rw [List.append_assoc]
  refine List.pairwise_append.2 ⟨h1, ?_, ?_⟩
  · rw [List.singleton_append, List.pairwise_cons]
    exact ⟨fun p hp => h3 p hp, h2⟩
  · intro a ha b hb
    have := h4 a ha
    rcases List.mem_append.1 hb with hb | hb
    · simp at hb; subst hb; exact this
    · have := h3 b hb; omega
theorem Sim.more {l : List (Int × Int)} {m : List Pt} (h : Sim l m) (who d : Int) : Sim (changeDo l who d) (moreM m who d) := by
  unfold changeDo moreM
  rw [h.pts]
  generalize withDo (Go.Proofs.Ytbbamnglnnanpaa.pts l who) d = v
  refine ⟨put_up (h.up.filter _) (fun p hp => (mem_less.1 hp).2) v, fun x u => ?_⟩
  rw [mem_put, mem_less, aget_aput, h.same]
  by_cases e : who = x
  · subst e
    simp only [if_true, Option.some.injEq]
    constructor
    · rintro (h1 | h1)
      · cases h1; rfl
      · exact absurd rfl h1.2
    · rintro rfl; exact .inl rfl
  · rw [if_neg e]
    constructor
    · rintro (h1 | h1)
      · cases h1; exact absurd rfl e
      · exact h1.1
    · intro h1; exact .inr ⟨h1, fun e' => e e'.symm⟩
theorem moreM_len (m : List Pt) (who d : Int) : (moreM m who d).length ≤ m.length + 1 := by
  unfold moreM putM
  have h := lessM_len m who
  have h2 : ((lessM m who).takeWhile (fun p => decide (p.f0 < who))).length + ((lessM m who).dropWhile (fun p => decide (p.f0 < who))).length = (lessM m who).length := by
    rw [← List.length_append, List.takeWhile_append_dropWhile]
  simp only [List.length_append, List.length_cons, List.length_nil]
  omega
theorem mem_outOf {l : List (Int × Int)} (hd : Apart l) {x : Int} : x ∈ outOf l ↔ aget l x = some (-20) := by
  unfold outOf
  constructor
  · intro h
    obtain ⟨p, hp, rfl⟩ := List.mem_map.1 h
    obtain ⟨h1, h2⟩ := List.mem_filter.1 hp
    obtain ⟨k, v⟩ := p
    simp at h2
    subst h2
    exact aget_of_mem hd h1
  · intro h
    exact List.mem_map.2 ⟨(x, -20), List.mem_filter.2 ⟨aget_mem h, by simp⟩, rfl⟩
theorem Sim.out {l : List (Int × Int)} {m : List Pt} (h : Sim l m) (hd : Apart l) : outM m = outs l := by
  have hup : (outM m).Pairwise (· < ·) := by
    unfold outM
    rw [List.pairwise_map]
    exact h.up.filter _
  have hnd : (outOf l).Nodup := by
    unfold outOf
    exact (List.Sublist.map _ List.filter_sublist).nodup hd
  have hperm : (outM m).Perm (outOf l) := by
    refine (List.perm_ext_iff_of_nodup (hup.imp fun h => by omega) hnd).2 fun x => ?_
    rw [mem_outOf hd, ← h.same]
    unfold outM
    constructor
    · intro hx
      obtain ⟨p, hp, rfl⟩ := List.mem_map.1 hx
      obtain ⟨h1, h2⟩ := List.mem_filter.1 hp
      obtain ⟨k, v⟩ := p
      simp at h2
      subst h2
      exact h1
    · intro hx
      exact List.mem_map.2 ⟨_, List.mem_filter.2 ⟨hx, by simp⟩, rfl⟩
  have tr : ∀ a b c : Int, leI a b = true → leI b c = true → leI a c = true := fun a b c h1 h2 => by simp only [leI, decide_eq_true_eq] at *; omega
  have tt : ∀ a b : Int, (leI a b || leI b a) = true := fun a b => by simp only [leI, Bool.or_eq_true, decide_eq_true_eq]; omega
  unfold outs
  refine List.Perm.eq_of_pairwise (le := fun a b => leI a b = true) (fun a b _ _ h1 h2 => ?_) (hup.imp fun h => by simp only [leI, decide_eq_true_eq]; omega) (List.pairwise_mergeSort tr tt _) (hperm.trans (List.mergeSort_perm _ _).symm)
  simp only [leI, decide_eq_true_eq] at h1 h2
  omega
theorem keep_le (f : Int → Int) (x y : Int) : (!(ltOf (rankCf f) y x)) = keepQ f y x := by
  rw [lt_rank]
  unfold keepQ
  by_cases h : f y < f x ∨ (f x = f y ∧ x ≤ y)
  · rw [decide_eq_true h, decide_eq_false (by omega)]; rfl
  · rw [decide_eq_false h, decide_eq_true (by omega)]; rfl
theorem insR_perm (f : Int → Int) (acc : List Int) (z : Int) : (insR f acc z).Perm (z :: acc) := by
  unfold insR
  rw [List.append_assoc, List.singleton_append]
  refine List.perm_middle.trans ?_
  rw [List.takeWhile_append_dropWhile]
theorem fold_perm (f : Int → Int) : ∀ (zs acc : List Int), (zs.foldl (insR f) acc).Perm (acc ++ zs)
  | [], acc => by simp
  | z :: r, acc => by
    rw [List.foldl_cons]
    exact (fold_perm f r _).trans (((insR_perm f acc z).append_right r).trans List.perm_middle.symm)
theorem keep_true {f : Int → Int} {z y : Int} : keepQ f z y = true ↔ f z < f y ∨ (f y = f z ∧ y ≤ z) := by simp [keepQ]
theorem take_keep (f : Int → Int) (z : Int) (acc : List Int) : ∀ y ∈ acc.takeWhile (keepQ f z), keepQ f z y = true := by
  induction acc with
  | nil => simp
  | cons q r ih =>
    by_cases h : keepQ f z q = true
    · rw [List.takeWhile_cons_of_pos h]
      intro p hp
      rcases List.mem_cons.1 hp with rfl | hp
      · exact h
      · exact ih p hp
    · rw [List.takeWhile_cons_of_neg h]; simp
theorem drop_keep (f : Int → Int) (z : Int) {acc : List Int} (hs : acc.Pairwise fun a b => keepQ f b a = true) : ∀ y ∈ acc.dropWhile (keepQ f z), keepQ f y z = true := by
  induction acc with
  | nil => simp
  | cons q r ih =>
    rw [List.pairwise_cons] at hs
    by_cases h : keepQ f z q = true
    · rw [List.dropWhile_cons_of_pos h]
      exact ih hs.2
    · rw [List.dropWhile_cons_of_neg h]
      have hq : keepQ f q z = true := by rw [keep_true] at h ⊢; omega
      intro p hp
      rcases List.mem_cons.1 hp with rfl | hp
      · exact hq
      · have := hs.1 p hp; rw [keep_true] at *; omega
theorem insR_sorted (f : Int → Int) (z : Int) {acc : List Int} (hs : acc.Pairwise fun a b => keepQ f b a = true) : (insR f acc z).Pairwise fun a b => keepQ f b a = true := by
  have h1 := hs.sublist (List.takeWhile_sublist (keepQ f z))
  have h2 := hs.sublist (List.dropWhile_sublist (keepQ f z))
  have h3 := drop_keep f z hs
  have h4 := take_keep f z acc
  unfold insR
  rw [List.append_assoc]
  refine List.pairwise_append.2 ⟨h1, ?_, ?_⟩
  · rw [List.singleton_append, List.pairwise_cons]
    exact ⟨fun p hp => h3 p hp, h2⟩
  · intro a ha b hb
    have := h4 a ha
    rcases List.mem_append.1 hb with hb | hb
    · simp at hb; subst hb; exact this
    · have := h3 b hb; rw [keep_true] at *; omega
theorem fold_sorted (f : Int → Int) : ∀ (zs acc : List Int), (acc.Pairwise fun a b => keepQ f b a = true) → (zs.foldl (insR f) acc).Pairwise fun a b => keepQ f b a = true
  | [], _, h => h
  | z :: r, acc, h => by rw [List.foldl_cons]; exact fold_sorted f r _ (insR_sorted f z h)
theorem rank_eq (f : Int → Int) (zs : List Int) : rankM f zs = rankOf f zs := by
  unfold rankM rankOf
  simp only [keep_le]
  refine List.Perm.eq_of_pairwise (le := fun a b => keepQ f b a = true) (fun a b _ _ h1 h2 => ?_) (fold_sorted f zs [] List.Pairwise.nil) (List.pairwise_mergeSort (fun a b c h1 h2 => ?_) (fun a b => ?_) zs) ((fold_perm f zs []).trans (List.mergeSort_perm _ _).symm)
  · rw [keep_true] at *; omega
  · rw [keep_true] at *; omega
  · rw [Bool.or_eq_true, keep_true, keep_true]; omega
end Go.Proofs.Ytbbamnglnnanpaa
