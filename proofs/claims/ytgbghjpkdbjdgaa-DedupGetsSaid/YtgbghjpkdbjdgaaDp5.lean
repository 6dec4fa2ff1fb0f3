/- DedupGets, plain: what the reference gets is what the index holds; put again it is the bytes. -/
import Derived.Test.YtgbghjpkdbjdgaaDp4
namespace Go.Proofs.Ytgbghjpkdbjdgaa
open Go.RowKit Go.Sort Go.Shelf Go.Lib

theorem idOf_back {zs : List UInt8} {er : Int} (h : (idOf zs er).2.2 = 0) : zs = (idOf zs er).1.1 ++ (idOf zs er).2.1 := by
  obtain ⟨h1, h2, _⟩ := idOf_er h
  subst h1
  rw [idOf_full h2]
  exact (List.take_append_drop 32 zs).symm
theorem uintOf_back {zs : List UInt8} {er : Int} (h : (uintOf zs er).2.2 = 0) : zs = putU (uintOf zs er).1 ++ (uintOf zs er).2.1 := by
  have he := uintOf_er h
  subst he
  unfold uintOf at h ⊢
  rw [if_pos rfl] at h ⊢
  obtain ⟨m, h1, h2, _, _⟩ := getU_back zs 0 0 (getU 0 0 zs).1 (getU 0 0 zs).2.1 (by omega) (by rw [← h])
  have e : (getU 0 0 zs).1 = m := by rw [h1]; simp
  rw [e]
  exact h2
/-- What holds of a round's state, as long as all is fine. -/
def InvG (bs : List UInt8) (n i : Nat) (s : GS) : Prop :=
  i ≤ n ∧ (s.fine = true → s.m.length = i ∧ Rise s.m ∧ PlsOk s.m ∧ (∀ e ∈ s.m, compareBytes e.1.1 s.last.1 ≤ 0) ∧ (s.er = 0 → bs = putU n ++ (s.m.flatMap entB ++ s.zs)))
theorem cb_le_lt {a b c : List UInt8} (h1 : compareBytes a b ≤ 0) (h2 : compareBytes b c < 0) : compareBytes a c < 0 := by
  rcases Int.lt_or_eq_of_le h1 with h | h
  · exact cb_trans h h2
  · rw [cb_eq h]; exact h2
/-- What a round's object is. -/
def entG (s : GS) : Ent := ((idOf s.zs s.er).1, ⟨(idOf (idOf s.zs s.er).2.1 (idOf s.zs s.er).2.2).1, (if 1023 < (uintOf (idOf (idOf s.zs s.er).2.1 (idOf s.zs s.er).2.2).2.1 (idOf (idOf s.zs s.er).2.1 (idOf s.zs s.er).2.2).2.2).1 then 0 else (uintOf (idOf (idOf s.zs s.er).2.1 (idOf s.zs s.er).2.2).2.1 (idOf (idOf s.zs s.er).2.1 (idOf s.zs s.er).2.2).2.2).1 : Nat)⟩)
theorem fine_step {bs : List UInt8} {n i : Nat} {s : GS} (h : InvG bs n i s) (hf : (stepG i s).fine = true) :
    s.fine = true ∧ (stepG i s).m = s.m ++ [entG s] ∧ (∀ e ∈ s.m, compareBytes e.1.1 (entG s).1.1 < 0) ∧ ((entG s).2.n = ((uintOf (idOf (idOf s.zs s.er).2.1 (idOf s.zs s.er).2.2).2.1 (idOf (idOf s.zs s.er).2.1 (idOf s.zs s.er).2.2).2.2).1 : Nat) ∧ (uintOf (idOf (idOf s.zs s.er).2.1 (idOf s.zs s.er).2.2).2.1 (idOf (idOf s.zs s.er).2.1 (idOf s.zs s.er).2.2).2.2).1 ≤ 1023) := by
  unfold stepG at hf ⊢
  unfold entG
  generalize idOf s.zs s.er = A at hf ⊢
  generalize idOf A.2.1 A.2.2 = B at hf ⊢
  generalize uintOf B.2.1 B.2.2 = K at hf ⊢
  simp only [Bool.and_eq_true, Bool.not_eq_true', Bool.or_eq_false_iff, Bool.and_eq_false_iff, decide_eq_false_iff_not] at hf
  obtain ⟨h1, h2, h3⟩ := hf
  obtain ⟨h4, h5, h6, h7, h8⟩ := h.2 h1
  have hlt : ∀ e ∈ s.m, compareBytes e.1.1 A.1.1 < 0 := by
    intro e he
    have hi : 0 < i := by
      rw [← h4]
      exact List.length_pos_of_mem he
    rcases h2 with h2 | h2
    · exact absurd hi h2
    · exact cb_le_lt (h7 e he) (by omega)
  refine ⟨h1, ?_, hlt, ?_, by omega⟩
  · simp only
    rw [aput_none]
    · rw [if_neg h3, Nat.mod_eq_of_lt (by omega)]
    · rw [aget_none_iff]
      intro p hp heq
      have := hlt p hp
      rw [heq, cb_refl] at this
      omega
  · simp only
    rw [if_neg h3]
theorem inv_step {bs : List UInt8} {n i : Nat} {s : GS} (h : InvG bs n i s) (hi : i < n) (h0 : s.er = 0) : InvG bs n (i + 1) (stepG i s) := by
  refine ⟨by omega, fun hf => ?_⟩
  obtain ⟨f1, f2, f3, f4, f5⟩ := fine_step h hf
  obtain ⟨h4, h5, h6, h7, h8⟩ := h.2 f1
  have hl : (stepG i s).last = (entG s).1 := rfl
  rw [f2, hl]
  refine ⟨by rw [List.length_append, h4]; rfl, ?_, ?_, ?_, ?_⟩
  · unfold Rise
    rw [List.pairwise_append]
    refine ⟨h5, List.pairwise_singleton _ _, fun x hx y hy => ?_⟩
    rw [List.mem_singleton.1 hy]
    exact f3 x hx
  · intro e he
    rcases List.mem_append.1 he with he | he
    · exact h6 e he
    · rw [List.mem_singleton.1 he, f4]
      omega
  · intro e he
    rcases List.mem_append.1 he with he | he
    · exact Int.le_of_lt (f3 e he)
    · rw [List.mem_singleton.1 he, cb_refl]
      exact Int.le_refl _
  · intro her
    have her' : (uintOf (idOf (idOf s.zs s.er).2.1 (idOf s.zs s.er).2.2).2.1 (idOf (idOf s.zs s.er).2.1 (idOf s.zs s.er).2.2).2.2).2.2 = 0 := her
    have k1 := uintOf_back her'
    have b0 := uintOf_er her'
    have b1 := idOf_back b0
    obtain ⟨a0, _, _⟩ := idOf_er b0
    have a1 := idOf_back a0
    have e0 : s.zs = entB (entG s) ++ (stepG i s).zs := by
      unfold entB
      rw [f4]
      have e1 : ((uintOf (idOf (idOf s.zs s.er).2.1 (idOf s.zs s.er).2.2).2.1 (idOf (idOf s.zs s.er).2.1 (idOf s.zs s.er).2.2).2.2).1 : Int).toNat = (uintOf (idOf (idOf s.zs s.er).2.1 (idOf s.zs s.er).2.2).2.1 (idOf (idOf s.zs s.er).2.1 (idOf s.zs s.er).2.2).2.2).1 := Int.toNat_natCast _
      rw [e1]
      rw [List.append_assoc, List.append_assoc]
      refine a1.trans (congrArg _ (b1.trans (congrArg _ ?_)))
      exact k1
    rw [h8 h0, List.flatMap_append, List.append_assoc]
    congr 2
    rw [e0]
    simp
theorem getN_end {bs : List UInt8} {n : Nat} : ∀ (f i : Nat) (s : GS), (s.er = 0 → s.zs.length < f) → InvG bs n i s → ∃ j, InvG bs n j (getN n f i s) ∧ ¬ (j < n ∧ (getN n f i s).er = 0) ∧ j ≤ i + f
  | 0, i, s, hf, h => ⟨i, h, fun hh => absurd (hf hh.2) (Nat.not_lt_zero _), Nat.le_refl _⟩
  | f + 1, i, s, hf, h => by
    rw [getN]
    by_cases hc : i < n ∧ s.er = 0
    · rw [if_pos hc]
      obtain ⟨j, h1, h2, h3⟩ := getN_end f (i + 1) (stepG i s) (fun hh => by
        have := stepG_len hh
        have := hf hc.2
        omega) (inv_step h hc.1 hc.2)
      exact ⟨j, h1, h2, by omega⟩
    · rw [if_neg hc]
      exact ⟨i, h, hc, by omega⟩
theorem inv_zero (bs : List UInt8) : InvG bs (uintOf bs 0).1 0 ⟨true, zid, [], (uintOf bs 0).2.1, (uintOf bs 0).2.2⟩ :=
  ⟨Nat.zero_le _, fun _ => ⟨rfl, List.Pairwise.nil, fun e he => absurd he (by simp), fun e he => absurd he (by simp), fun h => uintOf_back h⟩⟩
theorem getErr_fine {s : GS} (h : getErr s = 0) : s.fine = true ∧ s.er = 0 ∧ s.zs = [] := by
  unfold getErr at h
  split at h
  · rename_i h1
    unfold endOf at h1
    split at h1
    · rename_i h2
      split at h1
      · rename_i h3
        refine ⟨?_, h2, List.eq_nil_of_length_eq_zero h3⟩
        cases hf : s.fine
        · rw [hf] at h; exact absurd h (by decide)
        · rfl
      · exact absurd h1 (by decide)
    · rename_i h2; exact absurd h1 h2
  · rename_i h1; exact absurd h h1
/-- Bytes that are got are an index's. -/
theorem get_fine {bs : List UInt8} (h : getErr (getAll bs) = 0) : Rise (getAll bs).m ∧ PlsOk (getAll bs).m ∧ (getAll bs).m.length ≤ bs.length + 1 ∧ putOf (getAll bs).m = bs := by
  obtain ⟨hf, he, hz⟩ := getErr_fine h
  obtain ⟨j, h1, h2, h3⟩ := getN_end (bs := bs) (n := (uintOf bs 0).1) (bs.length + 1) 0 ⟨true, zid, [], (uintOf bs 0).2.1, (uintOf bs 0).2.2⟩ (fun _ => Nat.lt_succ_of_le (uintOf_len bs 0)) (inv_zero bs)
  have hG : getN (uintOf bs 0).1 (bs.length + 1) 0 ⟨true, zid, [], (uintOf bs 0).2.1, (uintOf bs 0).2.2⟩ = getAll bs := rfl
  rw [hG] at h1 h2
  obtain ⟨h4, h5⟩ := h1
  obtain ⟨h6, h7, h8, _, h9⟩ := h5 hf
  have hj : j = (uintOf bs 0).1 := by omega
  have h10 := h9 he
  rw [hz, List.append_nil] at h10
  refine ⟨h7, h8, by omega, ?_⟩
  unfold putOf
  rw [row_rise h7, h6, hj]
  exact h10.symm
end Go.Proofs.Ytgbghjpkdbjdgaa
