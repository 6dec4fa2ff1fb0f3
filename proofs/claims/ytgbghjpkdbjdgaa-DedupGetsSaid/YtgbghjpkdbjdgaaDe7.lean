/- Slices cut, as one operation each, without parting the walk. -/
import Derived.Test.YtgbghjpkdbjdgaaDe6
namespace Go.Proofs.Ytgbghjpkdbjdgaa
open Go.RowKit
open Extern.Stop (cell)

/-- The address of 'x[i:]'. -/
def cutAt (a : Option Addr) (i c s : Nat) : Option Addr := if c = i then a else a.map (·.add (i * s))
theorem wpList_cut_lo {P : Program} {w : World} {ops : Array Oper} {rest : List Oper} {o : Oper} {ac : Act} {Q : Exit → Act → World → Prop} (hg : o.guard = none) (t : TypeId) (x k : Operand) (ho : o.op = .slice t x (some k) none none) (ht : P.underlying t = some (.slice (P.elem t))) (s : Nat) (hsz : (sizeOf (P.elem t)).run P w = .ok s w)
    (a : Option Addr) (n c : Nat) (hx : ac.eval x = .slice a n c) (i : Nat) (hk : ac.eval k = .int .i64 (i : Int)) (hi : i ≤ n)
    (h : wpList P ops Q rest (ac.put o.dst (.slice (cutAt a i c s) (n - i) (c - i))) w) : wpList P ops Q (o :: rest) ac w := by
  refine wpList_plain hg fun K hK => ?_
  unfold Oper.wp execOp
  have hr : (Instr.sliceAt t (.slice a n c) (some (.int .i64 (i : Int))) none none).run P w = .ok (.slice (cutAt a i c s) (n - i) (c - i)) w := by
    rw [run_sliceAt_slice w t _ _ _ _ ht, run_slice_l w t a n c ht .i64 (i : Int) (Int.natCast_nonneg _) (by omega), hsz]
    simp [Result.andThen, sliced, cutAt]
  simp only [ho, hx, Option.map, hk, Sem.run_bind, hr, Result.andThen_ok, Sem.run_pure]
  exact hK _ _ h
theorem wpList_cut_hi {P : Program} {w : World} {ops : Array Oper} {rest : List Oper} {o : Oper} {ac : Act} {Q : Exit → Act → World → Prop} (hg : o.guard = none) (t : TypeId) (x k : Operand) (ho : o.op = .slice t x none (some k) none) (ht : P.underlying t = some (.slice (P.elem t))) (s : Nat) (hsz : (sizeOf (P.elem t)).run P w = .ok s w)
    (a : Option Addr) (n c : Nat) (hx : ac.eval x = .slice a n c) (i : Nat) (hk : ac.eval k = .int .i64 (i : Int)) (hi : i ≤ c)
    (h : wpList P ops Q rest (ac.put o.dst (.slice (cutAt a 0 c s) i c)) w) : wpList P ops Q (o :: rest) ac w := by
  refine wpList_plain hg fun K hK => ?_
  unfold Oper.wp execOp
  have hr : (Instr.sliceAt t (.slice a n c) none (some (.int .i64 (i : Int))) none).run P w = .ok (.slice (cutAt a 0 c s) i c) w := by
    rw [run_sliceAt_slice w t _ _ _ _ ht, run_slice_h w t a n c ht .i64 (i : Int) (Int.natCast_nonneg _) (by omega), hsz]
    simp [Result.andThen, sliced, cutAt]
  simp only [ho, hx, Option.map, hk, Sem.run_bind, hr, Result.andThen_ok, Sem.run_pure]
  exact hK _ _ h
theorem add_add' (b o k : Nat) (j : Nat) : ((⟨b, o, none⟩ : Addr).add k).add j = ⟨b, o + k + j, none⟩ := by
  have e : ∀ o k, (⟨b, o, none⟩ : Addr).add k = ⟨b, o + k, none⟩ := fun o k => by
    unfold Addr.add
    split
    · rename_i h0
      rw [h0, Nat.add_zero]
    · rfl
  rw [e, e]
section
variable {α : Type} {f : α → List Value} {s : Nat} (hf : ∀ a, (f a).length = s)
include hf
/-- What a cut of an own row is. -/
theorem own_cut_lo {w : World} {B : Nat} {e : TypeId} {a : Option Addr} {n c : Nat} {xs : List α} (h : w.ownsRow B e s (.slice a n c) n (xs.flatMap f)) (hn : n = xs.length) {i : Nat} (hi : i ≤ n) :
    (cutAt a i c s = none → n - i = 0 ∧ c - i = 0) ∧ (∀ ad, cutAt a i c s = some ad → ∀ (j : Nat) (u : Value), ((xs.drop i).flatMap f)[j]? = some u → w.cell? (ad.add j) = some u) ∧ ((xs.drop i).flatMap f).length = (n - i) * s := by
  have hnc := own_room h
  refine ⟨fun h0 => ?_, fun ad h0 j u hj => ?_, by rw [flat_len f s hf, List.length_drop, hn]⟩
  · unfold cutAt at h0
    split at h0
    · omega
    · cases a with
      | some x => simp at h0
      | none =>
        rcases h.2 with ⟨h1, h2⟩ | ⟨g, _, _, h1, _⟩
        · cases h1
          omega
        · cases h1
  · rw [← flat_drop f s hf, List.getElem?_drop] at hj
    obtain ⟨g, rfl, _, hc⟩ := own_at h hj
    unfold cutAt at h0
    split at h0
    · rename_i hci
      have hl := (List.getElem?_eq_some_iff.1 hj).1
      rw [flat_len f s hf] at hl
      have : xs.length * s ≤ i * s := Nat.mul_le_mul_right _ (by omega)
      omega
    · cases h0
      rw [add_add', Nat.zero_add]
      exact hc
theorem own_cut_hi {w : World} {B : Nat} {e : TypeId} {a : Option Addr} {n c : Nat} {xs : List α} (h : w.ownsRow B e s (.slice a n c) n (xs.flatMap f)) (hn : n = xs.length) {i : Nat} (hi : i ≤ n) :
    (cutAt a 0 c s = none → i = 0 ∧ c = 0) ∧ (∀ ad, cutAt a 0 c s = some ad → ∀ (j : Nat) (u : Value), ((xs.take i).flatMap f)[j]? = some u → w.cell? (ad.add j) = some u) ∧ ((xs.take i).flatMap f).length = i * s := by
  have hnc := own_room h
  refine ⟨fun h0 => ?_, fun ad h0 j u hj => ?_, by rw [flat_len f s hf, List.length_take, Nat.min_eq_left (by omega)]⟩
  · unfold cutAt at h0
    cases a with
    | some x => split at h0 <;> simp at h0
    | none =>
      rcases h.2 with ⟨h1, h2⟩ | ⟨g, _, _, h1, _⟩
      · cases h1
        omega
      · cases h1
  · rw [← flat_take f s hf, List.getElem?_take] at hj
    split at hj
    · obtain ⟨g, rfl, _, hc⟩ := own_at h hj
      unfold cutAt at h0
      split at h0
      · cases h0
        have := add_add' g 0 0 j
        have e0 : (⟨g, 0, none⟩ : Addr).add 0 = ⟨g, 0, none⟩ := rfl
        rw [e0] at this
        rw [this]
        simpa using hc
      · cases h0
        rw [add_add']
        simpa using hc
    · cases hj
end
end Go.Proofs.Ytgbghjpkdbjdgaa
