/- Places that are a function of the object; bytes as a string; steps of a drawn region. -/
import Derived.Test.YtgbghjpkdbjdgaaDedBytes
import Derived.Laws.BytesString
namespace Go.Proofs.Ytgbghjpkdbjdgaa
open Go.RowKit Go.ChangeShapes Go.WideShapes
open Extern.Stop (cell)

/-- An index of just these objects, each at its place. -/
structure SetIs (f : Id32 → Pl) (l : List (Id32 × Pl)) (A : List Id32) : Prop where
  apart : Apart l
  val : ∀ e ∈ l, e.2 = f e.1
  mem : ∀ k, (aget l k).isSome = true ↔ k ∈ A
theorem SetIs.nil (f : Id32 → Pl) : SetIs f [] [] := ⟨by simp [Apart], by simp, by simp [aget]⟩
theorem addB_ok {l : List (Id32 × Pl)} {a : Id32} {p : Pl} (h0 : 0 ≤ p.n) (h1 : p.n ≤ 1023) : addB l a p = !(aget l a).isSome := by
  unfold addB
  rw [decide_eq_true h0, decide_eq_true h1]
  rfl
theorem SetIs.add {f : Id32 → Pl} {l : List (Id32 × Pl)} {A : List Id32} (h : SetIs f l A) (a : Id32) (h0 : 0 ≤ (f a).n) (h1 : (f a).n ≤ 1023) : SetIs f (addL l a (f a)) (A ++ [a]) := by
  have hb := addB_ok (l := l) (a := a) h0 h1
  cases hg : (aget l a).isSome with
  | true =>
    rw [hg] at hb
    rw [addL_no hb]
    refine ⟨h.apart, h.val, fun k => ?_⟩
    rw [h.mem, List.mem_append, List.mem_singleton]
    constructor
    · exact Or.inl
    · rintro (hk | rfl)
      · exact hk
      · exact (h.mem k).1 hg
  | false =>
    rw [hg] at hb
    replace hb : addB l a (f a) = true := hb
    have e1 : addL l a (f a) = aput l a (f a) := by unfold addL; rw [if_pos hb]
    have e2 := addL_yes hb
    refine ⟨by rw [e1]; exact h.apart.aput _ _, ?_, fun k => ?_⟩
    · rw [e2]
      intro e he
      rcases List.mem_append.1 he with he | he
      · exact h.val e he
      · simp only [List.mem_singleton] at he
        rw [he]
    · rw [e1, aget_aput, List.mem_append, List.mem_singleton]
      by_cases hk : a = k
      · rw [if_pos hk]
        simp [hk]
      · rw [if_neg hk, h.mem]
        constructor
        · exact Or.inl
        · rintro (hk2 | hk2)
          · exact hk2
          · exact absurd hk2.symm hk
theorem SetIs.same {f : Id32 → Pl} {l l' : List (Id32 × Pl)} {A A' : List Id32} (h : SetIs f l A) (h' : SetIs f l' A') (hA : ∀ k, k ∈ A ↔ k ∈ A') : putOf l = putOf l' := by
  have hp : (l.map Prod.fst).Perm (l'.map Prod.fst) := (List.perm_ext_iff_of_nodup h.apart h'.apart).2 fun k => by
    rw [mem_keys, mem_keys, h.mem, h'.mem, hA]
  have hl : l.length = l'.length := by have := hp.length_eq; simpa using this
  have hv : ∀ {m : List (Id32 × Pl)} {B : List Id32}, SetIs f m B → rowOf m = (sortIds (m.map Prod.fst)).map fun k => (k, f k) := fun {m B} hm => by
    unfold rowOf
    refine List.map_congr_left fun k hk => ?_
    have hk2 : k ∈ m.map Prod.fst := (sortIds_same _).mem_iff.1 hk
    obtain ⟨v, hg⟩ := Option.isSome_iff_exists.1 (mem_keys.1 hk2)
    rw [hg]
    show (k, v) = _
    rw [← hm.val _ (aget_mem hg)]
  unfold putOf
  rw [hl, hv h, hv h', sortIds_perm hp]
theorem addL_len (l : List (Id32 × Pl)) (a : Id32) (p : Pl) : (addL l a p).length ≤ l.length + 1 := by
  unfold addL
  split
  · exact length_aput _ _ _
  · exact Nat.le_succ _
/-- Turned, all are met. -/
theorem turn_all {m t : Nat} {j : Nat} (hj : j < m) : ∃ i, i < m ∧ (i + t) % m = j := by
  have hr : t % m < m := Nat.mod_lt _ (by omega)
  have key : ∀ a, (a + t) % m = (a + t % m) % m := fun a => by rw [Nat.add_mod, Nat.add_mod a (t % m), Nat.mod_mod]
  by_cases h : t % m ≤ j
  · refine ⟨j - t % m, by omega, ?_⟩
    rw [key, show j - t % m + t % m = j by omega, Nat.mod_eq_of_lt hj]
  · refine ⟨j + m - t % m, by omega, ?_⟩
    rw [key, show j + m - t % m + t % m = j + m by omega, Nat.add_mod_right, Nat.mod_eq_of_lt hj]
def turned (l : List Id32) (t : Nat) (n : Nat) : List Id32 := (List.range n).filterMap fun i => l[(i + t) % l.length]?
theorem turned_succ {l : List Id32} {t i : Nat} {b : Id32} (h : l[(i + t) % l.length]? = some b) : turned l t (i + 1) = turned l t i ++ [b] := by
  unfold turned
  rw [List.range_succ, List.filterMap_append]
  simp [h]
theorem turned_all (l : List Id32) (t : Nat) (k : Id32) : k ∈ l ↔ k ∈ turned l t l.length := by
  unfold turned
  rw [List.mem_filterMap]
  constructor
  · intro h
    obtain ⟨j, hj, e⟩ := List.mem_iff_getElem.1 h
    obtain ⟨i, hi, hij⟩ := turn_all (t := t) hj
    refine ⟨i, List.mem_range.2 hi, ?_⟩
    rw [hij, List.getElem?_eq_getElem hj, e]
  · rintro ⟨i, _, h⟩
    exact List.mem_of_getElem? h
theorem conv_bytes {w : World} {a : Option Addr} {zs : List UInt8} (h : BytesRd w a zs) (c : Nat) : (convert 49 9 (.slice a zs.length c)).run Try.prog w = .ok (.string ⟨zs.toArray⟩) w := by
  cases a with
  | none =>
    have := rd_none h
    subst this
    rw [run_convert_bytes_string w _ _ 5 none _ c Try.underlying49 Try.underlying5 Try.underlying9]
    rfl
  | some ad =>
    exact run_convert_bytes_back w 49 9 5 ad c zs Try.underlying49 Try.underlying5 Try.underlying9 (fun j hj => by
      obtain ⟨b, off, h1, _, h2⟩ := h j zs[j] (List.getElem?_eq_getElem hj)
      cases h1
      rw [Addr.add_lit]; exact h2)
theorem step_convert {P : Program} {w : World} {ops : Array Oper} {o : Oper} {a : Act} {K : Act → World → Prop} {Q : Exit → Act → World → Prop} {E : Prop} (hg : o.guard = none) (s d : TypeId) (x : Operand) (ho : o.op = .convert s d x) (xv v : Value) (hx : a.eval x = xv) (hr : (convert s d xv).run P w = .ok v w)
    (h : K (a.put o.dst v) w) : if Region.wanted o (yielded ops a.tmps) = true then Oper.wp P o a w K Q else E := by
  have hw : Region.wanted o (yielded ops a.tmps) = true := by simp [Region.wanted, hg]
  rw [if_pos hw]
  unfold Oper.wp execOp
  simp only [ho, hx, Sem.run_bind, hr, Result.andThen_ok, Sem.run_pure]
  exact h
theorem id_at {w : World} {b : Nat} {x : Id32} {t : TypeId} {fz : Nat × Nat} (h : w.heap[b]? = some (.cells (encId x).toArray t fz)) {j : Nat} {z : UInt8} (hz : x.1[j]? = some z) : w.cell? ⟨b, j, none⟩ = some (cell z) := by
  rw [cell_of_row w b j _ t fz h, List.getElem?_toArray, encId, idCells_of x.2, List.getElem?_map, hz]
  rfl
end Go.Proofs.Ytgbghjpkdbjdgaa
