/- A slice of acts that came in: a kind and a number. -/
import Derived.Test.YtbbamnglnnanpaaRead
import Derived.Test.YtbbamnglnnanpaaScAw
namespace Go.Proofs.Ytbbamnglnnanpaa
open Go.ChangeShapes Go.WideShapes Go.ChangeAt Go.RowKit Go.Deep

structure ActS where
  kind : Int
  who : Int
def ActS.ok (x : ActS) : Prop := (-9223372036854775808 ≤ x.kind ∧ x.kind ≤ 9223372036854775807) ∧ (Lit.int .i64 x.who).wf = true
/-- The acts in their cells. -/
def ActsAt (w : World) (ad : Option Addr) (xs : List ActS) : Prop :=
  ∀ j x, xs[j]? = some x → ∃ b off, ad = some ⟨b, off, none⟩ ∧ b < w.heap.size ∧ w.cell? ⟨b, off + j * 2, none⟩ = some (.int .i64 x.kind) ∧ w.cell? ⟨b, off + j * 2 + 1, none⟩ = some (.int .i64 x.who) ∧ x.ok
theorem ActsAt.at {w w' : World} {ad : Option Addr} {xs : List ActS} (h : ActsAt w ad xs) (hb : Below w.heap.size w w') {j : Nat} {x : ActS} (hj : xs[j]? = some x) :
    ∃ b off, ad = some ⟨b, off, none⟩ ∧ b < w.heap.size ∧ (w'.cell? ⟨b, off + j * 2, none⟩ = some (.int .i64 x.kind) ∧ w'.cell? ⟨b, off + j * 2 + 1, none⟩ = some (.int .i64 x.who)) ∧ x.ok := by
  obtain ⟨b, off, h1, h2, h3, h4, h9⟩ := h j x hj
  have q := fun r => hb.cell (p := ⟨b, r, none⟩) h2
  exact ⟨b, off, h1, h2, ⟨(q _).trans h3, (q _).trans h4⟩, h9⟩
set_option maxRecDepth 100000 in
theorem act_of {w : World} {cs : List Value} (h : RD Try.prog w 33 cs) : ∃ x : ActS, cs = [.int .i64 x.kind, .int .i64 x.who] ∧ x.ok := by
  obtain ⟨hl, hf⟩ := h.struct Try.underlying33
  have hl2 : cs.length = 2 := hl.trans (by kernel_rfl)
  match cs, hl2 with
  | [c0, c1], _ =>
    have f0 : RD Try.prog w 3 [c0] := hf 0 _ rfl
    have f1 : RD Try.prog w 3 [c1] := hf 1 _ rfl
    obtain ⟨k, hk, hw⟩ := f0.int Try.underlying3
    obtain ⟨i, hi, hw1⟩ := f1.int Try.underlying3
    cases hk; cases hi
    exact ⟨⟨k, i⟩, rfl, by simpa [Lit.wf, IntKind.min, IntKind.max, IntKind.signed, IntKind.bits] using hw, hw1⟩
theorem acts_of {H : Type} {enc : TypeId × Value → H} {W : World} {base : Nat} {v : Value} {d : DataW H} {ps : List MemPlace}
    (hv : Value.okWide Try.prog W .any base 30 v) (h : DataW.Trod enc Try.prog W 0 (fun _ => true) true 30 v d ps) :
    ∃ ad xs cap, v = .slice ad xs.length cap ∧ ActsAt W ad xs ∧ (∀ x ∈ xs, x.ok) ∧ xs.length ≤ maxLen := by
  obtain ⟨a0, len, cap, rfl⟩ := okWide_slice Try.underlying30 hv
  rcases (RD.of h).slice Try.underlying30 with hcs | ⟨a, len', cap', hcs, hl, hm, hi⟩
  · simp only [Value.cells, List.cons.injEq, and_true] at hcs
    cases hcs
    exact ⟨none, [], 0, rfl, fun j x hj => by simp at hj, by simp, by simp⟩
  · simp only [Value.cells, List.cons.injEq, and_true] at hcs
    cases hcs
    have c5 : Try.prog.cellsOf 33 = 2 := by kernel_rfl
    have each : ∀ i, i < len → ∃ x : ActS, (W.cell? (a.add (i * 2 + 0)) = some (.int .i64 x.kind) ∧ W.cell? (a.add (i * 2 + 1)) = some (.int .i64 x.who)) ∧ x.ok := by
      intro i hil
      obtain ⟨cs, hcl, hat, hr⟩ := hi i hil
      obtain ⟨x, rfl, hw⟩ := act_of hr
      rw [c5] at hat
      exact ⟨x, ⟨hat 0 (by decide), hat 1 (by decide)⟩, hw⟩
    obtain ⟨xs, hxl, hxs⟩ := list_of (Q := fun i (x : ActS) => (W.cell? (a.add (i * 2 + 0)) = some (.int .i64 x.kind) ∧ W.cell? (a.add (i * 2 + 1)) = some (.int .i64 x.who)) ∧ x.ok) len each
    refine ⟨some a, xs, cap, by rw [hxl], ?_, fun x hx => ?_, by omega⟩
    · intro j x hj
      obtain ⟨⟨c0, c1⟩, hw⟩ := hxs j x hj
      obtain ⟨b, off, spot⟩ := a
      have hspot : spot = none := by
        have hlt := (List.getElem?_eq_some_iff.1 hj).1
        obtain ⟨x0, hx0⟩ : ∃ x0, xs[0]? = some x0 := ⟨xs[0]'(by omega), List.getElem?_eq_getElem (by omega)⟩
        obtain ⟨⟨c0, _⟩, _⟩ := hxs 0 x0 hx0
        simpa [Addr.add] using World.cell?_spot c0
      subst hspot
      rw [Go.WideShapes.add_plain] at c0 c1
      exact ⟨b, off, rfl, w_some.lt ⟨_, c0⟩, by simpa using c0, by simpa [Nat.add_assoc] using c1, hw⟩
    · obtain ⟨j, hj⟩ := List.mem_iff_getElem?.1 hx
      exact (hxs j x hj).2
end Go.Proofs.Ytbbamnglnnanpaa
