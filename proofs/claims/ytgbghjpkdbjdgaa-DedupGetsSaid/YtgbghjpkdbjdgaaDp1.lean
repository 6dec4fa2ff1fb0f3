/- Dedup, plain: an index's bytes, put and got. -/
import Derived.Test.YtgbghjpkdbjdgaaDd16
namespace Go.Proofs.Ytgbghjpkdbjdgaa
open Go.RowKit Go.Sort Go.Shelf Go.Lib

theorem idOf_short {zs : List UInt8} {er : Int} (h : er ≠ 0 ∨ zs.length < 32) : idOf zs er = (zid, zs, if er = 0 then 10 else er) := by
  unfold idOf
  rw [dif_neg (by omega)]
theorem idOf_full {zs : List UInt8} (h : 32 ≤ zs.length) : idOf zs 0 = (⟨zs.take 32, by rw [List.length_take]; omega⟩, zs.drop 32, 0) := by
  unfold idOf
  rw [dif_pos ⟨rfl, h⟩]
theorem idOf_app (x : Id32) (r : List UInt8) : idOf (x.1 ++ r) 0 = (x, r, 0) := by
  have hx := x.2
  rw [idOf_full (by rw [List.length_append]; omega)]
  have e1 : (x.1 ++ r).take 32 = x.1 := by rw [List.take_append_of_le_length (by omega), List.take_of_length_le (by omega)]
  have e2 : (x.1 ++ r).drop 32 = r := by rw [List.drop_append_of_le_length (by omega), List.drop_of_length_le (by omega), List.nil_append]
  simp only [e1, e2]
/-- How far Get came. -/
structure GS where
  fine : Bool
  last : Id32
  m : List (Id32 × Pl)
  zs : List UInt8
  er : Int
def stepG (i : Nat) (s : GS) : GS :=
  ⟨s.fine && !(decide (0 < i) && decide (0 ≤ compareBytes s.last.1 (idOf s.zs s.er).1.1) || decide (1023 < (uintOf (idOf (idOf s.zs s.er).2.1 (idOf s.zs s.er).2.2).2.1 (idOf (idOf s.zs s.er).2.1 (idOf s.zs s.er).2.2).2.2).1)),
    (idOf s.zs s.er).1,
    aput s.m (idOf s.zs s.er).1 ⟨(idOf (idOf s.zs s.er).2.1 (idOf s.zs s.er).2.2).1, ((uintOf (idOf (idOf s.zs s.er).2.1 (idOf s.zs s.er).2.2).2.1 (idOf (idOf s.zs s.er).2.1 (idOf s.zs s.er).2.2).2.2).1 % 65536 : Nat)⟩,
    (uintOf (idOf (idOf s.zs s.er).2.1 (idOf s.zs s.er).2.2).2.1 (idOf (idOf s.zs s.er).2.1 (idOf s.zs s.er).2.2).2.2).2.1,
    (uintOf (idOf (idOf s.zs s.er).2.1 (idOf s.zs s.er).2.2).2.1 (idOf (idOf s.zs s.er).2.1 (idOf s.zs s.er).2.2).2.2).2.2⟩
/-- .. so many rounds. -/
def getN (n : Nat) : Nat → Nat → GS → GS
  | 0, _, s => s
  | f + 1, i, s => if i < n ∧ s.er = 0 then getN n f (i + 1) (stepG i s) else s
def getAll (bs : List UInt8) : GS := getN (uintOf bs 0).1 (bs.length + 1) 0 ⟨true, zid, [], (uintOf bs 0).2.1, (uintOf bs 0).2.2⟩
/-- What Get says. -/
def getErr (s : GS) : Int := if endOf s.zs s.er = 0 then (if s.fine then 0 else 11) else endOf s.zs s.er
/-- An object's bytes. -/
def entB (e : Id32 × Pl) : List UInt8 := e.1.1 ++ (e.2.pack.1 ++ putU e.2.n.toNat)
/-- All objects, rising. -/
def rowOf (l : List (Id32 × Pl)) : List (Id32 × Pl) := (sortIds (l.map Prod.fst)).map fun k => (k, (aget l k).getD zpl)
def putOf (l : List (Id32 × Pl)) : List UInt8 := putU l.length ++ (rowOf l).flatMap entB
def PlsOk (l : List (Id32 × Pl)) : Prop := ∀ e ∈ l, 0 ≤ e.2.n ∧ e.2.n ≤ 1023

theorem sortIds_rise (a : List Id32) : (sortIds a).Pairwise fun x y => compareBytes x.1 y.1 ≤ 0 := by
  have t : ∀ x y z : Id32, (!(ltOf cfId) y x) = true → (!(ltOf cfId) z y) = true → (!(ltOf cfId) z x) = true := fun x y z h1 h2 => by
    have a1 : ltOf cfId y x = false := by simpa using h1
    have a2 : ltOf cfId z y = false := by simpa using h2
    rw [swoId.ntrans z y x a2 a1]
    rfl
  have c : ∀ x y : Id32, ((!(ltOf cfId) y x) || (!(ltOf cfId) x y)) = true := fun x y => by
    cases h1 : ltOf cfId y x
    · rfl
    · cases h2 : ltOf cfId x y
      · rfl
      · have := swoId.trans _ _ _ h1 h2
        rw [swoId.irrefl] at this
        cases this
  refine (List.pairwise_mergeSort t c a).imp ?_
  intro x y h
  have h1 : ltOf cfId y x = false := by simpa using h
  rw [lt_id] at h1
  have := of_decide_eq_false h1
  have := cb_swap y.1 x.1
  omega
theorem sortIds_len (a : List Id32) : (sortIds a).length = a.length := List.length_mergeSort _
theorem sortIds_same (a : List Id32) : (sortIds a).Perm a := List.mergeSort_perm a _
theorem sortIds_strict {a : List Id32} (h : a.Nodup) : (sortIds a).Pairwise fun x y => compareBytes x.1 y.1 < 0 := by
  have hn : (sortIds a).Nodup := (sortIds_same a).nodup_iff.2 h
  refine (sortIds_rise a).imp₂ ?_ hn
  intro x y h1 h2
  rcases Int.lt_or_eq_of_le h1 with h | h
  · exact h
  · exact absurd (Subtype.ext (cb_eq h)) h2
/-- A row of objects, rising. -/
def Rise (es : List (Id32 × Pl)) : Prop := es.Pairwise fun a b => compareBytes a.1.1 b.1.1 < 0
theorem rise_row {l : List (Id32 × Pl)} (h : Apart l) : Rise (rowOf l) := by
  unfold Rise rowOf
  rw [List.pairwise_map]
  exact sortIds_strict h
theorem row_len (l : List (Id32 × Pl)) : (rowOf l).length = l.length := by
  unfold rowOf
  rw [List.length_map, sortIds_len, List.length_map]
theorem row_keys (l : List (Id32 × Pl)) : (rowOf l).map Prod.fst = sortIds (l.map Prod.fst) := by
  unfold rowOf
  rw [List.map_map]
  exact List.map_id _
theorem row_perm {l : List (Id32 × Pl)} (h : Apart l) : (rowOf l).Perm l := by
  have h1 := (sortIds_same (l.map Prod.fst)).map fun k => (k, (aget l k).getD zpl)
  refine h1.trans ?_
  rw [List.map_map]
  have e : l.map ((fun k => (k, (aget l k).getD zpl)) ∘ Prod.fst) = l := by
    conv => rhs; rw [← List.map_id l]
    refine List.map_congr_left fun p hp => ?_
    obtain ⟨k, v⟩ := p
    show (k, (aget l k).getD zpl) = (k, v)
    rw [aget_of_mem h hp]
    rfl
  rw [e]
theorem row_ok {l : List (Id32 × Pl)} (h : Apart l) (ho : PlsOk l) : PlsOk (rowOf l) := fun e he => ho e ((row_perm h).mem_iff.1 he)
theorem rise_apart {es : List (Id32 × Pl)} (h : Rise es) : Apart es := by
  unfold Apart List.Nodup
  rw [List.pairwise_map]
  refine h.imp ?_
  intro a b hab e
  rw [e, cb_refl] at hab
  omega
theorem row_rise {es : List (Id32 × Pl)} (h : Rise es) : rowOf es = es := by
  refine List.Perm.eq_of_pairwise (le := fun a b : Id32 × Pl => compareBytes a.1.1 b.1.1 < 0) ?_ (rise_row (rise_apart h)) h (row_perm (rise_apart h))
  intro a b _ _ h1 h2
  have := cb_swap a.1.1 b.1.1
  omega
theorem putU_small_or (n : Nat) (h : n ≤ 1023) : (putU n).length = if n < 128 then 1 else 2 := by
  by_cases hn : n < 128
  · rw [putU_small hn, if_pos hn]; rfl
  · rw [putU_big hn, if_neg hn, putU_small (by omega)]; rfl
theorem stepG_put {e : Id32 × Pl} (he : 0 ≤ e.2.n ∧ e.2.n ≤ 1023) (r : List UInt8) (i : Nat) (s : GS) (hs : s.zs = entB e ++ r) (h0 : s.er = 0) (hl : 0 < i → compareBytes s.last.1 e.1.1 < 0) :
    stepG i s = ⟨s.fine, e.1, aput s.m e.1 e.2, r, 0⟩ := by
  obtain ⟨h1, h2⟩ := he
  unfold stepG
  rw [hs, h0]
  have e1 : entB e ++ r = e.1.1 ++ (e.2.pack.1 ++ (putU e.2.n.toNat ++ r)) := by simp [entB, List.append_assoc]
  rw [e1, idOf_app]
  simp only
  rw [idOf_app]
  simp only
  have e2 : uintOf (putU e.2.n.toNat ++ r) 0 = (e.2.n.toNat, r, 0) := by
    unfold uintOf
    rw [if_pos rfl, getU_put r e.2.n.toNat e.2.n.toNat 0 0 (Nat.le_refl _) (by omega) (by omega) (by omega)]
    simp
  rw [e2]
  simp only
  have f1 : decide (1023 < e.2.n.toNat) = false := decide_eq_false (by omega)
  have f2 : (decide (0 < i) && decide (0 ≤ compareBytes s.last.1 e.1.1)) = false := by
    by_cases hi : 0 < i
    · rw [decide_eq_false (show ¬ 0 ≤ compareBytes s.last.1 e.1.1 by have := hl hi; omega)]; simp
    · simp [hi]
  have f3 : (⟨e.2.pack, ((e.2.n.toNat % 65536 : Nat) : Int)⟩ : Pl) = e.2 := by
    have : ((e.2.n.toNat % 65536 : Nat) : Int) = e.2.n := by omega
    rw [this]
  rw [f1, f2, f3]
  simp
theorem getN_put (n : Nat) (r : List UInt8) : ∀ (es : List (Id32 × Pl)) (f i : Nat) (s : GS), Rise es → PlsOk es → s.zs = es.flatMap entB ++ r → s.er = 0 → (0 < i → ∀ e ∈ es, compareBytes s.last.1 e.1.1 < 0) → (∀ e ∈ es, aget s.m e.1 = none) → n = i + es.length → es.length < f →
    ∃ last, getN n f i s = ⟨s.fine, last, s.m ++ es, r, 0⟩
  | [], f, i, s, hr, ho, hz, h0, hl, hm, hn, hf => by
    refine ⟨s.last, ?_⟩
    cases f with
    | zero => exact absurd hf (by simp)
    | succ f =>
      have : ¬ (i < n ∧ s.er = 0) := by simp at hn; omega
      rw [getN, if_neg this]
      cases s
      simp_all
  | e :: es, f, i, s, hr, ho, hz, h0, hl, hm, hn, hf => by
    cases f with
    | zero => simp at hf
    | succ f =>
      obtain ⟨hr1, hr2⟩ := List.pairwise_cons.1 hr
      have hz' : s.zs = entB e ++ (es.flatMap entB ++ r) := by rw [hz]; simp [List.append_assoc]
      have st := stepG_put (ho e (by simp)) (es.flatMap entB ++ r) i s hz' h0 (fun h => hl h e (by simp))
      rw [List.length_cons] at hn hf
      rw [getN, if_pos ⟨by omega, h0⟩, st]
      have hnone := hm e (by simp)
      rw [aput_none _ hnone]
      obtain ⟨last, h⟩ := getN_put n r es f (i + 1) ⟨s.fine, e.1, s.m ++ [(e.1, e.2)], es.flatMap entB ++ r, 0⟩ hr2 (fun x hx => ho x (by simp [hx])) rfl rfl (fun _ x hx => hr1 x hx) (fun x hx => by
        have h1 := hm x (by simp [hx])
        rw [aget_none_iff] at h1 ⊢
        intro p hp
        rcases List.mem_append.1 hp with hp | hp
        · exact h1 p hp
        · simp only [List.mem_singleton] at hp
          subst hp
          intro heq
          have := hr1 x hx
          rw [show e.1 = x.1 from heq, cb_refl] at this
          omega) (by omega) (by omega)
      refine ⟨last, ?_⟩
      rw [h]
      simp
theorem getAll_put {es : List (Id32 × Pl)} (hr : Rise es) (ho : PlsOk es) (hl : es.length < 1000000) : ∃ last, getAll (putU es.length ++ es.flatMap entB) = ⟨true, last, es, [], 0⟩ := by
  unfold getAll
  have e : uintOf (putU es.length ++ es.flatMap entB) 0 = (es.length, es.flatMap entB, 0) := by
    unfold uintOf
    rw [if_pos rfl, getU_put _ es.length es.length 0 0 (Nat.le_refl _) (by omega) (by omega) (by omega)]
    simp
  rw [e]
  have le : ∀ es : List (Id32 × Pl), es.length ≤ (es.flatMap entB).length := by
    intro es
    induction es with
    | nil => simp
    | cons e es ih =>
      have := e.1.2
      rw [List.flatMap_cons, List.length_append, List.length_cons, entB, List.length_append]
      omega
  have := le es
  obtain ⟨last, h⟩ := getN_put es.length [] es ((putU es.length ++ es.flatMap entB).length + 1) 0 ⟨true, zid, [], es.flatMap entB, 0⟩ hr ho (by simp) rfl (by omega) (fun _ _ => rfl) (by simp) (by rw [List.length_append]; omega)
  exact ⟨last, by simpa using h⟩
theorem get_put {l : List (Id32 × Pl)} (h : Apart l) (ho : PlsOk l) (hl : l.length < 1000000) : getErr (getAll (putOf l)) = 0 ∧ (getAll (putOf l)).m = rowOf l := by
  obtain ⟨last, e⟩ := getAll_put (rise_row h) (row_ok h ho) (by rw [row_len]; exact hl)
  rw [row_len] at e
  unfold putOf
  rw [e]
  exact ⟨rfl, rfl⟩
theorem getN_bad (n f i : Nat) (s : GS) (h : s.er ≠ 0) : getN n f i s = s := by
  cases f with
  | zero => rfl
  | succ f => rw [getN, if_neg (fun hh => h hh.2)]
theorem uintOf_bad (zs : List UInt8) {er : Int} (h : er ≠ 0) : uintOf zs er = (0, zs, er) := by unfold uintOf; rw [if_neg h]
theorem step_cut {e : Id32 × Pl} (he : 0 ≤ e.2.n ∧ e.2.n ≤ 1023) (j i : Nat) (s : GS) (hj : j < (entB e).length) (hs : s.zs = (entB e).take j) (h0 : s.er = 0) : (stepG i s).er = 10 := by
  have l1 := e.1.2
  have l2 := e.2.pack.2
  unfold stepG
  simp only
  rw [hs, h0]
  by_cases h1 : j < 32
  · have a1 : idOf ((entB e).take j) 0 = (zid, (entB e).take j, 10) := idOf_short (Or.inr (by rw [List.length_take]; omega))
    rw [a1]
    have a2 : idOf ((entB e).take j) 10 = (zid, (entB e).take j, 10) := idOf_short (Or.inl (by decide))
    simp only
    rw [a2]
    simp only
    rw [uintOf_bad _ (by decide)]
  · have e1 : (entB e).take j = e.1.1 ++ (e.2.pack.1 ++ putU e.2.n.toNat).take (j - 32) := by
      unfold entB
      rw [List.take_append, List.take_of_length_le (by omega), l1]
    rw [e1, idOf_app]
    simp only
    by_cases h2 : j - 32 < 32
    · rw [idOf_short (Or.inr (by rw [List.length_take]; omega))]
      simp only
      rw [uintOf_bad _ (by decide)]
      rfl
    · have e2 : (e.2.pack.1 ++ putU e.2.n.toNat).take (j - 32) = e.2.pack.1 ++ (putU e.2.n.toNat).take (j - 32 - 32) := by
        rw [List.take_append, List.take_of_length_le (by omega), l2]
      rw [e2, idOf_app]
      simp only
      unfold uintOf
      rw [if_pos rfl, getU_cut e.2.n.toNat e.2.n.toNat 0 0 _ (Nat.le_refl _) (by omega) (by omega) (by omega)]
      unfold entB at hj
      rw [List.length_append, List.length_append] at hj
      omega
theorem getN_cut (n : Nat) : ∀ (es : List (Id32 × Pl)) (f i j : Nat) (s : GS), PlsOk es → j < (es.flatMap entB).length → s.zs = (es.flatMap entB).take j → s.er = 0 → i + es.length ≤ n → j < f → (getN n f i s).er = 10
  | [], f, i, j, s, ho, hj, hz, h0, hn, hf => by simp at hj
  | e :: es, f, i, j, s, ho, hj, hz, h0, hn, hf => by
    cases f with
    | zero => omega
    | succ f =>
      rw [List.length_cons] at hn
      rw [List.flatMap_cons] at hj hz
      rw [getN, if_pos ⟨by omega, h0⟩]
      by_cases h1 : j < (entB e).length
      · have st := step_cut (ho e (by simp)) j i s h1 (by rw [hz, List.take_append_of_le_length (by omega)]) h0
        rw [getN_bad _ _ _ _ (by rw [st]; decide)]
        exact st
      · have hz' : s.zs = entB e ++ (es.flatMap entB).take (j - (entB e).length) := by
          rw [hz, List.take_append, List.take_of_length_le (by omega)]
        rw [List.length_append] at hj
        have l0 : 1 ≤ (entB e).length := by
          have := e.1.2
          rw [entB, List.length_append]
          omega
        have l1 := e.1.2
        have l2 := e.2.pack.2
        obtain ⟨h3, h4⟩ := ho e (by simp)
        have q : ∃ g la m, stepG i s = ⟨g, la, m, (es.flatMap entB).take (j - (entB e).length), 0⟩ := by
          unfold stepG
          rw [hz', h0]
          have e1 : entB e ++ (es.flatMap entB).take (j - (entB e).length) = e.1.1 ++ (e.2.pack.1 ++ (putU e.2.n.toNat ++ (es.flatMap entB).take (j - (entB e).length))) := by simp [entB, List.append_assoc]
          rw [e1, idOf_app]
          simp only
          rw [idOf_app]
          simp only
          have e2 : uintOf (putU e.2.n.toNat ++ (es.flatMap entB).take (j - (entB e).length)) 0 = (e.2.n.toNat, (es.flatMap entB).take (j - (entB e).length), 0) := by
            unfold uintOf
            rw [if_pos rfl, getU_put _ e.2.n.toNat e.2.n.toNat 0 0 (Nat.le_refl _) (by omega) (by omega) (by omega)]
            simp
          rw [e2]
          exact ⟨_, _, _, rfl⟩
        obtain ⟨g, la, m, q⟩ := q
        rw [q]
        exact getN_cut n es f (i + 1) (j - (entB e).length) _ (fun x hx => ho x (by simp [hx])) (by omega) rfl rfl (by omega) (by omega)
theorem get_cut {es : List (Id32 × Pl)} (ho : PlsOk es) (hl : es.length < 1000000) {j : Nat} (hj : j < (putU es.length ++ es.flatMap entB).length) : getErr (getAll ((putU es.length ++ es.flatMap entB).take j)) = 10 := by
  have key : (getAll ((putU es.length ++ es.flatMap entB).take j)).er = 10 := by
    unfold getAll
    by_cases h1 : j < (putU es.length).length
    · rw [List.take_append_of_le_length (by omega)]
      have e : uintOf ((putU es.length).take j) 0 = (0, [], 10) := by
        unfold uintOf
        rw [if_pos rfl]
        exact getU_cut es.length es.length 0 0 j (Nat.le_refl _) (by omega) (by omega) (by omega) h1
      rw [e, getN_bad _ _ _ _ (by simp)]
    · rw [List.take_append, List.take_of_length_le (by omega)]
      have e : uintOf (putU es.length ++ (es.flatMap entB).take (j - (putU es.length).length)) 0 = (es.length, (es.flatMap entB).take (j - (putU es.length).length), 0) := by
        unfold uintOf
        rw [if_pos rfl, getU_put _ es.length es.length 0 0 (Nat.le_refl _) (by omega) (by omega) (by omega)]
        simp
      rw [e]
      rw [List.length_append] at hj
      exact getN_cut es.length es _ 0 (j - (putU es.length).length) _ ho (by omega) rfl rfl (by omega) (by
        rw [List.length_append, List.length_take]
        omega)
  unfold getErr
  have : endOf (getAll ((putU es.length ++ es.flatMap entB).take j)).zs (getAll ((putU es.length ++ es.flatMap entB).take j)).er = 10 := by
    rw [key]
    rfl
  rw [this]
  rfl
theorem getU_val : ∀ (zs : List UInt8) (i acc : Nat), (getU i acc zs).2.2 = 0 ∨ (getU i acc zs).1 = 0
  | [], _, _ => Or.inr rfl
  | z :: zs, i, acc => by
    rw [getU]
    split
    · exact Or.inr rfl
    · split
      · exact Or.inl rfl
      · exact getU_val zs _ _
theorem getU_len : ∀ (zs : List UInt8) (i acc : Nat), (getU i acc zs).2.1.length ≤ zs.length
  | [], _, _ => Nat.le_refl _
  | z :: zs, i, acc => by
    rw [getU]
    split
    · exact Nat.le_succ _
    · split
      · exact Nat.le_succ _
      · exact Nat.le_succ_of_le (getU_len zs _ _)
theorem uintOf_lt (zs : List UInt8) (er : Int) : (uintOf zs er).1 < 18446744073709551616 := by
  unfold uintOf
  split
  · rcases getU_val zs 0 0 with h | h
    · obtain ⟨m, h1, _, _, h4⟩ := getU_back zs 0 0 (getU 0 0 zs).1 (getU 0 0 zs).2.1 (by omega) (by
        rw [← h])
      have e9 : 2 * 128 ^ (9 - 0) = 18446744073709551616 := by decide
      rw [e9] at h4
      omega
    · rw [h]; decide
  · exact Nat.zero_lt_succ _
theorem uintOf_len (zs : List UInt8) (er : Int) : (uintOf zs er).2.1.length ≤ zs.length := by
  unfold uintOf
  split
  · exact getU_len _ _ _
  · exact Nat.le_refl _
theorem idOf_er {zs : List UInt8} {er : Int} (h : (idOf zs er).2.2 = 0) : er = 0 ∧ 32 ≤ zs.length ∧ (idOf zs er).2.1.length + 32 = zs.length := by
  by_cases hh : er = 0 ∧ 32 ≤ zs.length
  · refine ⟨hh.1, hh.2, ?_⟩
    obtain ⟨rfl, h2⟩ := hh
    rw [idOf_full h2]
    simp only [List.length_drop]
    omega
  · rw [idOf_short (by omega)] at h
    simp only at h
    split at h
    · exact absurd h (by decide)
    · exact absurd h (by assumption)
theorem uintOf_er {zs : List UInt8} {er : Int} (h : (uintOf zs er).2.2 = 0) : er = 0 := by
  by_cases he : er = 0
  · exact he
  · rw [uintOf_bad _ he] at h
    exact h
theorem stepG_len {i : Nat} {s : GS} (h : (stepG i s).er = 0) : (stepG i s).zs.length < s.zs.length := by
  have h1 := uintOf_er h
  obtain ⟨h2, h3, h4⟩ := idOf_er h1
  obtain ⟨h5, h6, h7⟩ := idOf_er h2
  have h8 := uintOf_len (idOf (idOf s.zs s.er).2.1 (idOf s.zs s.er).2.2).2.1 (idOf (idOf s.zs s.er).2.1 (idOf s.zs s.er).2.2).2.2
  show (uintOf _ _).2.1.length < _
  omega
theorem m_step (k : Nat) : k &&& 65535 = k % 65536 := Nat.and_two_pow_sub_one_eq_mod k 16
end Go.Proofs.Ytgbghjpkdbjdgaa
