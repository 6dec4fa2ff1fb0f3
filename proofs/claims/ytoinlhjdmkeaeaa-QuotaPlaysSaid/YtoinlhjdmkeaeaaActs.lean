/- A slice of acts that came in: three numbers each. -/
import Derived.Test.YtoinlhjdmkeaeaaFrame
import Derived.Deep.Slices
import Derived.Deep.Fields
import Derived.ChangeSame
namespace Go.Proofs.Ytoinlhjdmkeaeaa
open Go.ChangeShapes Go.WideShapes Go.ChangeAt Go.RowKit Go.Deep

section
variable {H : Type} {enc : TypeId × Value → H} {P : Program} {w : World} {base : Nat} {spare : Nat → Bool} {held : Bool}
theorem open_slice_fields {t e : TypeId} {fs : Array Field} {fuel : Nat} {cs : List Value} {x : DataW H × List MemPlace} (ht : P.underlying t = some (.slice e)) (he : P.underlying e = some (.struct fs))
    (hone : oneCellFields P fs = true) (hC : P.cellsOf e = fs.size) (h : DataW.trod enc P w base spare held fuel t cs = some x) :
    (cs = [.slice none 0 0]) ∨
    ∃ (a : Addr) (len cap m : Nat), cs = [.slice (some a) len cap] ∧ len ≤ cap ∧ cap ≤ maxLen ∧ m = (if spare a.block then cap else len) ∧
      ∀ i, i < m → ∃ (n : Nat), ∀ (j : Nat) (f : Field), fs[j]? = some f → ∃ (v : Value) (y : DataW H × List MemPlace), w.cell? (a.add (i * fs.size + j)) = some v ∧ DataW.trod enc P w base spare held n f.type [v] = some y := by
  rcases open_slice ht h with h0 | ⟨a, len, cap, m, n, D, Pl, hcs, hb, hl, hm, hmm, hx, hi⟩
  · exact .inl h0.1
  · refine .inr ⟨a, len, cap, m, hcs, hl, hm, hmm, fun i him => ?_⟩
    obtain ⟨cs', hc, ht'⟩ := hi i him
    rw [hC] at hc
    obtain ⟨ys, n', hn', hy, hlen, hyl, hf⟩ := DataW.trod_struct he ht'
    obtain ⟨_, hcl, hat⟩ := World.cells?_some hc
    refine ⟨n', fun j f hj => ?_⟩
    obtain ⟨ho, hk⟩ := hone_of hone j f hj
    have hjl : j < fs.size := (Array.getElem?_eq_some_iff.1 hj).1
    have hcell := hat j hjl
    have hv : cs'[j]? = some (cs'[j]'(by omega)) := List.getElem?_eq_getElem (by omega)
    have h1 := hf j f hj
    rw [ho, hk] at h1
    have hone' : (cs'.drop j).take 1 = [cs'[j]'(by omega)] := by
      rw [List.drop_eq_getElem_cons (by omega)]
      rfl
    rw [hone'] at h1
    have hys : ys[j]? = some (ys[j]'(by omega)) := List.getElem?_eq_getElem (by omega)
    refine ⟨_, _, ?_, h1.trans hys⟩
    rw [← Go.Deep.add_add, hcell, hv]
end

structure Act3 where
  kind : Int
  who : Int
  n : Int
structure Act3.ok (a : Act3) : Prop where
  kind : (Lit.int .i64 a.kind).wf = true
  who : (Lit.int .i64 a.who).wf = true
  n : (Lit.int .u64 a.n).wf = true
/-- The acts in their cells. -/
def ActsAt (w : World) (ad : Option Addr) (xs : List Act3) : Prop :=
  ∀ j x, xs[j]? = some x → ∃ b off, ad = some ⟨b, off, none⟩ ∧ b < w.heap.size ∧ w.cell? ⟨b, off + j * 3, none⟩ = some (.int .i64 x.kind) ∧ w.cell? ⟨b, off + j * 3 + 1, none⟩ = some (.int .i64 x.who) ∧ w.cell? ⟨b, off + j * 3 + 2, none⟩ = some (.int .u64 x.n)
theorem ActsAt.at {w w' : World} {ad : Option Addr} {xs : List Act3} (h : ActsAt w ad xs) (hb : Below w.heap.size w w') {j : Nat} {x : Act3} (hj : xs[j]? = some x) :
    ∃ b off, ad = some ⟨b, off, none⟩ ∧ b < w.heap.size ∧ w'.cell? ⟨b, off + j * 3, none⟩ = some (.int .i64 x.kind) ∧ w'.cell? ⟨b, off + j * 3 + 1, none⟩ = some (.int .i64 x.who) ∧ w'.cell? ⟨b, off + j * 3 + 2, none⟩ = some (.int .u64 x.n) := by
  obtain ⟨b, off, h1, h2, h3, h4, h5⟩ := h j x hj
  exact ⟨b, off, h1, h2, (hb.cell (p := ⟨b, off + j * 3, none⟩) h2).trans h3, (hb.cell (p := ⟨b, off + j * 3 + 1, none⟩) h2).trans h4, (hb.cell (p := ⟨b, off + j * 3 + 2, none⟩) h2).trans h5⟩

theorem acts_of {H : Type} {enc : TypeId × Value → H} {W : World} {base : Nat} {v : Value} {d : DataW H} {ps : List MemPlace}
    (hv : Value.okWide Try.prog W .any base 39 v) (h : DataW.Trod enc Try.prog W 0 (fun _ => true) true 39 v d ps) :
    ∃ ad xs cap, v = .slice ad xs.length cap ∧ ActsAt W ad xs ∧ (∀ x ∈ xs, x.ok) ∧ xs.length ≤ maxLen := by
  obtain ⟨a0, len, cap, rfl⟩ := okWide_slice Try.underlying39 hv
  obtain ⟨fuel, hf⟩ := h
  rcases open_slice_fields Try.underlying39 Try.underlying44 (by kernel_rfl) (by kernel_rfl) hf with hcs | ⟨a, len', cap', m, hcs, hl, hm, hmm, hi⟩
  · simp only [Value.cells, List.cons.injEq, and_true] at hcs
    cases hcs
    exact ⟨none, [], 0, rfl, fun j x hj => by simp at hj, by simp, by simp⟩
  · simp only [Value.cells, List.cons.injEq, and_true] at hcs
    cases hcs
    simp only [if_true] at hmm
    have each : ∀ i, i < len → ∃ x : Act3, x.ok ∧ W.cell? (a.add (i * 3 + 0)) = some (.int .i64 x.kind) ∧ W.cell? (a.add (i * 3 + 1)) = some (.int .i64 x.who) ∧ W.cell? (a.add (i * 3 + 2)) = some (.int .u64 x.n) := by
      intro i hil
      obtain ⟨n, hf⟩ := hi i (by omega)
      obtain ⟨v0, y0, c0, t0⟩ := hf 0 _ rfl
      obtain ⟨v1, y1, c1, t1⟩ := hf 1 _ rfl
      obtain ⟨v2, y2, c2, t2⟩ := hf 2 _ rfl
      obtain ⟨k, e0, _, w0⟩ := DataW.trod_int Try.underlying3 t0
      obtain ⟨q, e1, _, w1⟩ := DataW.trod_int Try.underlying3 t1
      obtain ⟨u, e2, _, w2⟩ := DataW.trod_int Try.underlying22 t2
      simp only [List.cons.injEq, and_true] at e0 e1 e2
      subst e0 e1 e2
      exact ⟨⟨k, q, u⟩, ⟨w0, w1, w2⟩, c0, c1, c2⟩
    obtain ⟨xs, hxl, hxs⟩ := list_of (Q := fun i (x : Act3) => x.ok ∧ W.cell? (a.add (i * 3 + 0)) = some (.int .i64 x.kind) ∧ W.cell? (a.add (i * 3 + 1)) = some (.int .i64 x.who) ∧ W.cell? (a.add (i * 3 + 2)) = some (.int .u64 x.n)) len each
    refine ⟨some a, xs, cap, by rw [hxl], ?_, ?_, by omega⟩
    · intro j x hj
      obtain ⟨_, c0, c1, c2⟩ := hxs j x hj
      obtain ⟨b, off, spot⟩ := a
      have hspot : spot = none := by
        have hlt := (List.getElem?_eq_some_iff.1 hj).1
        obtain ⟨x0, hx0⟩ : ∃ x0, xs[0]? = some x0 := ⟨xs[0]'(by omega), List.getElem?_eq_getElem (by omega)⟩
        obtain ⟨_, c0, _⟩ := hxs 0 x0 hx0
        simpa [Addr.add] using World.cell?_spot c0
      subst hspot
      rw [Go.WideShapes.add_plain] at c0 c1 c2
      exact ⟨b, off, rfl, w_some.lt ⟨_, c0⟩, by simpa using c0, by simpa [Nat.add_assoc] using c1, by simpa [Nat.add_assoc] using c2⟩
    · intro x hx
      obtain ⟨j, hj⟩ := List.mem_iff_getElem?.1 hx
      exact (hxs j x hj).1
end Go.Proofs.Ytoinlhjdmkeaeaa
