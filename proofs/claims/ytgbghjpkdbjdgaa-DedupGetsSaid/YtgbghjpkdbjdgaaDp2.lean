/- DedupDrops, plain: which objects stand, how many in each pack. -/
import Derived.Test.YtgbghjpkdbjdgaaDd23
namespace Go.Proofs.Ytgbghjpkdbjdgaa
open Go.RowKit Go.Sort Go.Shelf Go.Lib

/-- Which pack object j is put into. -/
def kk (ps : List Int) (j : Nat) : Nat := (ps.getD j 0).toNat % 4
theorem kk_lt (ps : List Int) (j : Nat) : kk ps j < 4 := Nat.mod_lt _ (by decide)
def pkn (k : Nat) : Id32 := idb (UInt8.ofNat k)
theorem pkn_inj {a b : Nat} (ha : a < 4) (hb : b < 4) (h : pkn a = pkn b) : a = b := by
  have h1 : (pkn a).1 = (pkn b).1 := by rw [h]
  have h2 : UInt8.ofNat a = UInt8.ofNat b := by
    have := congrArg (fun l : List UInt8 => l[0]?) h1
    simpa [pkn, idb] using this
  have h3 := congrArg UInt8.toNat h2
  rw [byte_nat (by omega), byte_nat (by omega)] at h3
  exact h3
def entK (l : List Id32) (ps : List Int) (j : Nat) : Id32 × Pl := (l.getD j default, ⟨pkn (kk ps j), (j : Int)⟩)
def cnK (ps : List Int) (ins : List Nat) (k : Nat) : Nat := (ins.filter fun j => kk ps j == k).length
theorem cnt_ent (l : List Id32) (ps : List Int) {k : Nat} (hk : k < 4) : ∀ ins : List Nat, cntOf (pkn k) (ins.map (entK l ps)) = cnK ps ins k
  | [] => rfl
  | j :: ins => by
    have ih := cnt_ent l ps hk ins
    unfold cntOf cnK at ih ⊢
    rw [List.map_cons, List.filter_cons, List.filter_cons]
    by_cases h : kk ps j = k
    · have h1 : (entK l ps j).2.pack = pkn k := by rw [← h]; rfl
      simp [h1, h, ih]
    · have h1 : ¬ (entK l ps j).2.pack = pkn k := fun e => h (pkn_inj (kk_lt _ _) hk e)
      simp [h1, h, ih]
/-- The tally. -/
def talK (ps : List Int) (ins : List Nat) : List Int := [(cnK ps ins 0 : Int), (cnK ps ins 1 : Int), (cnK ps ins 2 : Int), (cnK ps ins 3 : Int)]
theorem tal_get {ps : List Int} {ins : List Nat} {k : Nat} (hk : k < 4) : (talK ps ins)[k]? = some (cnK ps ins k : Int) := by
  rcases k with _ | _ | _ | _ | k
  · rfl
  · rfl
  · rfl
  · rfl
  · omega
theorem cnK_snoc (ps : List Int) (ins : List Nat) (i k : Nat) : cnK ps (ins ++ [i]) k = cnK ps ins k + if kk ps i = k then 1 else 0 := by
  unfold cnK
  rw [List.filter_append, List.length_append]
  by_cases h : kk ps i = k <;> simp [h]
theorem tal_put (ps : List Int) (ins : List Nat) (i : Nat) : talK ps (ins ++ [i]) = (talK ps ins).set (kk ps i) ((cnK ps ins (kk ps i) : Int) + 1) := by
  have h := kk_lt ps i
  unfold talK
  simp only [cnK_snoc]
  generalize kk ps i = q at h ⊢
  rcases q with _ | _ | _ | _ | q
  · simp
  · simp
  · simp
  · simp
  · omega
theorem cnK_le (ps : List Int) (ins : List Nat) (k : Nat) : cnK ps ins k ≤ ins.length := List.length_filter_le _ _
theorem ents_ok (l : List Id32) (ps : List Int) {ins : List Nat} (h : ∀ j ∈ ins, j ≤ 1023) : PlsOk (ins.map (entK l ps)) := by
  intro e he
  obtain ⟨j, hj, rfl⟩ := List.mem_map.1 he
  have := h j hj
  show (0 : Int) ≤ (j : Int) ∧ (j : Int) ≤ 1023
  omega
/-- A pack of the index is one of the four. -/
theorem pack_four {l : List Id32} {ps : List Int} {ins : List Nat} {p : Id32} (h : p ∈ packsOf (ins.map (entK l ps))) : ∃ k, k < 4 ∧ p = pkn k ∧ 0 < cnK ps ins k := by
  have h1 := mem_packs.1 h
  have h2 : ∃ e ∈ ins.map (entK l ps), e.2.pack = p := by
    unfold cntOf at h1
    obtain ⟨e, he⟩ := List.exists_mem_of_length_pos h1
    rw [List.mem_filter] at he
    exact ⟨e, he.1, by simpa using he.2⟩
  obtain ⟨e, he, hp⟩ := h2
  obtain ⟨j, _, rfl⟩ := List.mem_map.1 he
  refine ⟨kk ps j, kk_lt _ _, hp.symm, ?_⟩
  rw [← cnt_ent l ps (kk_lt ps j)]
  have : pkn (kk ps j) = p := hp
  rw [this]
  exact h1
def restK (l : List (Id32 × Pl)) (d : Nat) : List (Id32 × Pl) := l.filter fun e => !decide (e.2.pack = pkn d)
theorem rest_cnt (l : List (Id32 × Pl)) (d : Nat) : cntOf (pkn d) (restK l d) = 0 := by
  unfold cntOf restK
  rw [List.filter_filter]
  rw [List.length_eq_zero_iff, List.filter_eq_nil_iff]
  intro e _
  simp
theorem filter_split {α : Type} (p : α → Bool) : ∀ l : List α, (l.filter p).length + (l.filter fun x => !p x).length = l.length
  | [] => rfl
  | a :: l => by
    have := filter_split p l
    rw [List.filter_cons, List.filter_cons]
    cases p a <;> simp <;> omega
theorem rest_len (l : List Id32) (ps : List Int) (ins : List Nat) {d : Nat} (hd : d < 4) : (restK (ins.map (entK l ps)) d).length + cnK ps ins d = ins.length := by
  have h := filter_split (fun e : Id32 × Pl => decide (e.2.pack = pkn d)) (ins.map (entK l ps))
  have h2 := cnt_ent l ps hd ins
  unfold cntOf at h2
  unfold restK
  rw [List.length_map] at h
  omega
theorem rest_rest (l : List (Id32 × Pl)) (d : Nat) : (restK l d).filter (fun e => !decide (e.2.pack = pkn d)) = restK l d := by
  unfold restK
  rw [List.filter_filter]
  congr 1
  funext e
  simp
/-- What is found behind it. -/
theorem rest_get {l : List Id32} {ps : List Int} {ins : List Nat} (hap : Apart (ins.map (entK l ps))) {d j : Nat} (hd : d < 4) (hj : j ∈ ins) :
    aget (restK (ins.map (entK l ps)) d) (l.getD j default) = if kk ps j = d then none else some ⟨pkn (kk ps j), (j : Int)⟩ := by
  have hm : entK l ps j ∈ ins.map (entK l ps) := List.mem_map.2 ⟨j, hj, rfl⟩
  have hg : aget (ins.map (entK l ps)) (l.getD j default) = some ⟨pkn (kk ps j), (j : Int)⟩ := aget_of_mem hap hm
  by_cases h : kk ps j = d
  · rw [if_pos h, aget_none_iff]
    intro p hp hk
    unfold restK at hp
    rw [List.mem_filter] at hp
    have h1 := aget_of_mem hap (show (p.1, p.2) ∈ ins.map (entK l ps) from hp.1)
    rw [hk, hg] at h1
    have h2 := Option.some.inj h1
    have h3 := hp.2
    rw [← h2, h] at h3
    simp at h3
  · rw [if_neg h]
    refine aget_of_mem (apart_filter hap _) ?_
    unfold restK
    rw [List.mem_filter]
    refine ⟨hm, ?_⟩
    have : ¬ pkn (kk ps j) = pkn d := fun e => h (pkn_inj (kk_lt _ _) hd e)
    simp [this]
theorem pkn_zero (k : Nat) : (pkn k).1[0]? = some (UInt8.ofNat k) := rfl
end Go.Proofs.Ytgbghjpkdbjdgaa
