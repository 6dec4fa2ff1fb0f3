/- The accounts of the law QuotaAll: plain. -/
import Derived.Test.YtoinlhjdmkeaeaaOne
import Derived.Test.YtoinlhjdmkeaeaaTotalW
import Derived.Test.YtoinlhjdmkeaeaaFrame
namespace Go.Proofs.Ytoinlhjdmkeaeaa
open Go.RowKit
theorem bookDo_last {F : Acc → Int → Acc × Int} {pre : List (Int × Acc)} {k : Int} {a a' : Acc} {n : Int} (hp : aget pre k = none) (h : F a n = (a', 0)) : bookDo F (pre ++ [(k, a)]) k n = (pre ++ [(k, a')], 0) := by
  have e1 : aget (pre ++ [(k, a)]) k = some a := by
    induction pre with
    | nil => simp [aget]
    | cons p r ih => obtain ⟨x, y⟩ := p; by_cases e : x = k <;> simp_all [aget]
  have e2 : ∀ v, aput (pre ++ [(k, a)]) k v = pre ++ [(k, v)] := by
    intro v
    clear e1
    induction pre with
    | nil => simp [aput]
    | cons p r ih => obtain ⟨x, y⟩ := p; by_cases e : x = k <;> simp_all [aget, aput]
  unfold bookDo
  rw [e1]; dsimp only; rw [h]; dsimp only; rw [if_pos rfl, e2]
theorem bookDo_last_no {F : Acc → Int → Acc × Int} {pre : List (Int × Acc)} {k : Int} {a a' : Acc} {n e : Int} (hp : aget pre k = none) (h : F a n = (a', e)) (he : e ≠ 0) : bookDo F (pre ++ [(k, a)]) k n = (pre ++ [(k, a)], e) := by
  have e1 : aget (pre ++ [(k, a)]) k = some a := by
    induction pre with
    | nil => simp [aget]
    | cons p r ih => obtain ⟨x, y⟩ := p; by_cases e : x = k <;> simp_all [aget]
  unfold bookDo
  rw [e1]; dsimp only; rw [h]; dsimp only; rw [if_neg he]

def qacc (x y : Int) : Acc := ⟨x, 0, if y ≤ x then y else 0⟩
def accs (xs ys : List Int) (i : Nat) : List (Int × Acc) := (List.range i).map fun (j : Nat) => ((j : Int), qacc (xs.getD j 0) (ys.getD j 0))
theorem accs_succ (xs ys : List Int) (i : Nat) : accs xs ys (i + 1) = accs xs ys i ++ [((i : Int), qacc (xs.getD i 0) (ys.getD i 0))] := by
  simp [accs, List.range_succ]
theorem accs_none (xs ys : List Int) (i : Nat) : aget (accs xs ys i) (i : Int) = none := by
  rw [aget_none_iff]
  intro p hp
  simp only [accs, List.mem_map, List.mem_range] at hp
  obtain ⟨j, hj, rfl⟩ := hp
  simp; omega
theorem accs_some (xs ys : List Int) {i j : Nat} (h : j < i) : aget (accs xs ys i) (j : Int) = some (qacc (xs.getD j 0) (ys.getD j 0)) := by
  induction i with
  | zero => omega
  | succ i ih =>
    rw [accs_succ]
    by_cases e : j = i
    · subst e
      have := accs_none xs ys j
      generalize accs xs ys j = l at this
      induction l with
      | nil => simp [aget]
      | cons p r ih' => obtain ⟨x, y⟩ := p; by_cases e : x = (j : Int) <;> simp_all [aget]
    · have ih := ih (by omega)
      generalize accs xs ys i = l at ih
      induction l with
      | nil => simp [aget] at ih
      | cons p r ih' => obtain ⟨x, y⟩ := p; by_cases e : x = (j : Int) <;> simp_all [aget]

def sumG (xs : List Int) (i : Nat) : Int := ((List.range i).map fun j => xs.getD j 0).sum
def sumU (xs ys : List Int) (i : Nat) : Int := ((List.range i).map fun j => if ys.getD j 0 ≤ xs.getD j 0 then ys.getD j 0 else 0).sum
theorem sumG_succ (xs : List Int) (i : Nat) : sumG xs (i + 1) = sumG xs i + xs.getD i 0 := by simp [sumG, List.range_succ]
theorem sumU_succ (xs ys : List Int) (i : Nat) : sumU xs ys (i + 1) = sumU xs ys i + if ys.getD i 0 ≤ xs.getD i 0 then ys.getD i 0 else 0 := by simp [sumU, List.range_succ]
theorem tot_append (f : Acc → Int) (a b : List (Int × Acc)) : tot f (a ++ b) = tot f a + tot f b := by
  induction a with
  | nil => simp [tot]
  | cons p r ih => simp only [List.cons_append, tot, ih]; omega
theorem tot_accs (xs ys : List Int) (i : Nat) : tot Acc.g (accs xs ys i) = sumG xs i ∧ tot Acc.r (accs xs ys i) = 0 ∧ tot Acc.u (accs xs ys i) = sumU xs ys i := by
  induction i with
  | zero => simp [accs, tot, sumG, sumU]
  | succ i ih =>
    rw [accs_succ, sumG_succ, sumU_succ, tot_append, tot_append, tot_append, ih.1, ih.2.1, ih.2.2]
    simp [tot, qacc]
/-- A number of 32 bits. -/
def In32 (zs : List Int) : Prop := ∀ j, 0 ≤ zs.getD j 0 ∧ zs.getD j 0 ≤ 4294967295
theorem sumG_bd {xs : List Int} (h : In32 xs) (i : Nat) : 0 ≤ sumG xs i ∧ sumG xs i ≤ 4294967295 * i := by
  induction i with
  | zero => simp [sumG]
  | succ i ih => have := h i; rw [sumG_succ]; omega
theorem sumU_bd {xs ys : List Int} (_h : In32 xs) (h' : In32 ys) (i : Nat) : 0 ≤ sumU xs ys i ∧ sumU xs ys i ≤ 4294967295 * i := by
  induction i with
  | zero => simp [sumU]
  | succ i ih => have := h' i; rw [sumU_succ]; split <;> omega
theorem in32 {zs : List Int} (h : ∀ n ∈ zs, (Lit.int .u32 n).wf = true) : In32 zs := by
  intro j
  by_cases hj : j < zs.length
  · have hm : zs.getD j 0 ∈ zs := by rw [List.getD_eq_getElem?_getD, List.getElem?_eq_getElem hj]; simp
    have := bounds_u32 (h _ hm)
    omega
  · rw [List.getD_eq_getElem?_getD, List.getElem?_eq_none (by omega)]; simp
theorem accs_ok {xs ys : List Int} (h : In32 xs) (h' : In32 ys) (i : Nat) : ∀ p ∈ accs xs ys i, p.2.ok := by
  intro p hp
  simp only [accs, List.mem_map, List.mem_range] at hp
  obtain ⟨j, hj, rfl⟩ := hp
  have := h j; have := h' j
  constructor <;> simp only [qacc] <;> (try split) <;> omega
theorem accs_total {xs ys : List Int} (h : In32 xs) (h' : In32 ys) {i : Nat} (hi : i ≤ 64) : totalDo (accs xs ys i) = (⟨sumG xs i, 0, sumU xs ys i⟩, 0) := by
  obtain ⟨t1, t2, t3⟩ := tot_accs xs ys i
  have := sumG_bd h i; have := sumU_bd h h' i
  unfold totalDo
  rw [t1, t2, t3, if_pos (by omega)]
theorem grant_last {pre : List (Int × Acc)} {k n : Int} (hp : aget pre k = none) (h0 : 0 ≤ k) (h1 : k < 64) (hn : 0 ≤ n) : grantDo pre k n = (pre ++ [(k, ⟨n, 0, 0⟩)], 0) := by
  unfold grantDo
  rw [if_neg (by omega), if_pos hp, aput_none _ hp]
  exact bookDo_last hp (by unfold Acc.grant; exact if_neg (by show ¬ n < IntKind.u64.wrap (0 + 0); rw [u64_wrap (by omega) (by omega)]; omega))
theorem reserve_last {pre : List (Int × Acc)} {k x y : Int} (hp : aget pre k = none) (hx : x ≤ 4294967295) (hy : 0 ≤ y) (h : y ≤ x) : bookDo Acc.reserve (pre ++ [(k, ⟨x, 0, 0⟩)]) k y = (pre ++ [(k, ⟨x, y, 0⟩)], 0) := by
  refine bookDo_last hp ?_
  unfold Acc.reserve
  rw [left_is (by omega) (by omega) (by omega) (by omega), if_neg (by omega), Int.zero_add, u64_wrap (by omega) (by omega)]
theorem reserve_last_no {pre : List (Int × Acc)} {k x y : Int} (hp : aget pre k = none) (hx0 : 0 ≤ x) (hx : x ≤ 4294967295) (h : x < y) : bookDo Acc.reserve (pre ++ [(k, ⟨x, 0, 0⟩)]) k y = (pre ++ [(k, ⟨x, 0, 0⟩)], 34) := by
  refine bookDo_last_no (a' := ⟨x, 0, 0⟩) hp ?_ (by decide)
  unfold Acc.reserve
  rw [left_is (by omega) (by omega) (by omega) (by omega), if_pos (by omega)]
theorem use_last {pre : List (Int × Acc)} {k x y : Int} (hp : aget pre k = none) (hy0 : 0 ≤ y) (hy : y ≤ 4294967295) : bookDo Acc.use (pre ++ [(k, ⟨x, y, 0⟩)]) k y = (pre ++ [(k, ⟨x, 0, y⟩)], 0) := by
  refine bookDo_last hp ?_
  unfold Acc.use
  rw [if_neg (by dsimp only; omega)]
  dsimp only
  rw [Int.sub_self, Int.zero_add, u64_wrap (n := 0) (by omega) (by omega), u64_wrap (by omega) (by omega)]
theorem accs_yes {xs ys : List Int} {i : Nat} (h : ys.getD i 0 ≤ xs.getD i 0) : accs xs ys i ++ [((i : Int), ⟨xs.getD i 0, 0, ys.getD i 0⟩)] = accs xs ys (i + 1) := by
  rw [accs_succ, qacc, if_pos h]
theorem accs_no {xs ys : List Int} {i : Nat} (h : ¬ ys.getD i 0 ≤ xs.getD i 0) : accs xs ys i ++ [((i : Int), ⟨xs.getD i 0, 0, 0⟩)] = accs xs ys (i + 1) := by
  rw [accs_succ, qacc, if_neg h]
theorem sums_le {xs ys : List Int} (h : In32 xs) (h' : In32 ys) {i : Nat} (hi : i ≤ 64) : (0 ≤ sumG xs i ∧ sumG xs i ≤ 274877906880) ∧ 0 ≤ sumU xs ys i ∧ sumU xs ys i ≤ 274877906880 := by
  have := sumG_bd h i; have := sumU_bd h h' i
  omega
theorem wf_i64w {k : Int} (h0 : 0 ≤ k) (h1 : k ≤ 9223372036854775807) : (Lit.int .i64 k).wf = true := by
  simp [Lit.wf, IntKind.min, IntKind.max, IntKind.signed, IntKind.bits]; omega
end Go.Proofs.Ytoinlhjdmkeaeaa
