/- A slice of acts that came in: a kind, a message, a number. -/
import Derived.Test.YtoinlhjdmkeaeabRead
import Derived.Test.YtoinlhjdmkeaeabBagAw
namespace Go.Proofs.Ytoinlhjdmkeaeab
open Go.ChangeShapes Go.WideShapes Go.ChangeAt Go.RowKit Go.Deep

structure Act5 where
  kind : Int
  f : Int
  t : Int
  bv : Value
  l : List UInt8
  i : Int
/-- The acts in their cells. -/
def ActsAt (w : World) (ad : Option Addr) (xs : List Act5) : Prop :=
  ∀ j x, xs[j]? = some x → ∃ b off, ad = some ⟨b, off, none⟩ ∧ b < w.heap.size ∧ w.cell? ⟨b, off + j * 5, none⟩ = some (.int .i64 x.kind) ∧ w.cell? ⟨b, off + j * 5 + 1, none⟩ = some (.int .i64 x.f) ∧ w.cell? ⟨b, off + j * 5 + 2, none⟩ = some (.int .i64 x.t) ∧ w.cell? ⟨b, off + j * 5 + 3, none⟩ = some x.bv ∧ w.cell? ⟨b, off + j * 5 + 4, none⟩ = some (.int .i64 x.i) ∧ BytesAt w x.bv (ints x.l) ∧ (-9223372036854775808 ≤ x.kind ∧ x.kind ≤ 9223372036854775807)
theorem ActsAt.at {w w' : World} {ad : Option Addr} {xs : List Act5} (h : ActsAt w ad xs) (hb : Below w.heap.size w w') {j : Nat} {x : Act5} (hj : xs[j]? = some x) :
    ∃ b off, ad = some ⟨b, off, none⟩ ∧ b < w.heap.size ∧ (w'.cell? ⟨b, off + j * 5, none⟩ = some (.int .i64 x.kind) ∧ w'.cell? ⟨b, off + j * 5 + 1, none⟩ = some (.int .i64 x.f) ∧ w'.cell? ⟨b, off + j * 5 + 2, none⟩ = some (.int .i64 x.t) ∧ w'.cell? ⟨b, off + j * 5 + 3, none⟩ = some x.bv ∧ w'.cell? ⟨b, off + j * 5 + 4, none⟩ = some (.int .i64 x.i)) ∧ BytesAt w' x.bv (ints x.l) ∧ (-9223372036854775808 ≤ x.kind ∧ x.kind ≤ 9223372036854775807) := by
  obtain ⟨b, off, h1, h2, h3, h4, h5, h6, h7, h8, h9⟩ := h j x hj
  have q := fun r => hb.cell (p := ⟨b, r, none⟩) h2
  exact ⟨b, off, h1, h2, ⟨(q _).trans h3, (q _).trans h4, (q _).trans h5, (q _).trans h6, (q _).trans h7⟩, h8.later hb, h9⟩

theorem RD.bytesAt {w : World} {cs : List Value} (h : RD Try.prog w 29 cs) : ∃ v l, cs = [v] ∧ BytesAt w v (ints l) := by
  obtain ⟨ad, l, cap, rfl, h1, _, _, h2⟩ := h.bytes Try.underlying29 Try.underlying5 (by kernel_rfl)
  refine ⟨_, l, rfl, ad, cap, by simp, fun x hx hn => h1 x hx (fun e => hn (by rw [e]; rfl)), fun j x hj => ?_⟩
  unfold ints at hj
  rw [List.getElem?_map] at hj
  obtain ⟨b, hb, rfl⟩ := Option.map_eq_some_iff.1 hj
  exact h2 j b hb
theorem act_of {w : World} {cs : List Value} (h : RD Try.prog w 33 cs) : ∃ x : Act5, cs = [.int .i64 x.kind, .int .i64 x.f, .int .i64 x.t, x.bv, .int .i64 x.i] ∧ BytesAt w x.bv (ints x.l) ∧ (-9223372036854775808 ≤ x.kind ∧ x.kind ≤ 9223372036854775807) := by
  obtain ⟨hl, hf⟩ := h.struct Try.underlying33
  have hl5 : cs.length = 5 := hl.trans (by kernel_rfl)
  match cs, hl5 with
  | [c0, c1, c2, c3, c4], _ =>
    have f0 : RD Try.prog w 3 [c0] := hf 0 _ rfl
    have f1 : RD Try.prog w 31 [c1, c2, c3] := hf 1 _ rfl
    have f2 : RD Try.prog w 3 [c4] := hf 2 _ rfl
    obtain ⟨_, hg⟩ := f1.struct Try.underlying31
    have g0 : RD Try.prog w 3 [c1] := hg 0 _ rfl
    have g1 : RD Try.prog w 3 [c2] := hg 1 _ rfl
    have g2 : RD Try.prog w 29 [c3] := hg 2 _ rfl
    obtain ⟨k, hk, hw⟩ := f0.int Try.underlying3
    obtain ⟨i, hi, _⟩ := f2.int Try.underlying3
    obtain ⟨f, hff, _⟩ := g0.int Try.underlying3
    obtain ⟨t, htt, _⟩ := g1.int Try.underlying3
    obtain ⟨v, l, hv, hb⟩ := g2.bytesAt
    cases hk; cases hi; cases hff; cases htt; cases hv
    exact ⟨⟨k, f, t, c3, l, i⟩, rfl, hb, by simpa [Lit.wf, IntKind.min, IntKind.max, IntKind.signed, IntKind.bits] using hw⟩
theorem acts_of {H : Type} {enc : TypeId × Value → H} {W : World} {base : Nat} {v : Value} {d : DataW H} {ps : List MemPlace}
    (hv : Value.okWide Try.prog W .any base 22 v) (h : DataW.Trod enc Try.prog W 0 (fun _ => true) true 22 v d ps) :
    ∃ ad xs cap, v = .slice ad xs.length cap ∧ ActsAt W ad xs ∧ True ∧ xs.length ≤ maxLen := by
  obtain ⟨a0, len, cap, rfl⟩ := okWide_slice Try.underlying22 hv
  rcases (RD.of h).slice Try.underlying22 with hcs | ⟨a, len', cap', hcs, hl, hm, hi⟩
  · simp only [Value.cells, List.cons.injEq, and_true] at hcs
    cases hcs
    exact ⟨none, [], 0, rfl, fun j x hj => by simp at hj, trivial, by simp⟩
  · simp only [Value.cells, List.cons.injEq, and_true] at hcs
    cases hcs
    have c5 : Try.prog.cellsOf 33 = 5 := by kernel_rfl
    have each : ∀ i, i < len → ∃ x : Act5, (W.cell? (a.add (i * 5 + 0)) = some (.int .i64 x.kind) ∧ W.cell? (a.add (i * 5 + 1)) = some (.int .i64 x.f) ∧ W.cell? (a.add (i * 5 + 2)) = some (.int .i64 x.t) ∧ W.cell? (a.add (i * 5 + 3)) = some x.bv ∧ W.cell? (a.add (i * 5 + 4)) = some (.int .i64 x.i)) ∧ BytesAt W x.bv (ints x.l) ∧ (-9223372036854775808 ≤ x.kind ∧ x.kind ≤ 9223372036854775807) := by
      intro i hil
      obtain ⟨cs, hcl, hat, hr⟩ := hi i hil
      obtain ⟨x, rfl, hb, hw⟩ := act_of hr
      rw [c5] at hat
      exact ⟨x, ⟨hat 0 (by decide), hat 1 (by decide), hat 2 (by decide), hat 3 (by decide), hat 4 (by decide)⟩, hb, hw⟩
    obtain ⟨xs, hxl, hxs⟩ := list_of (Q := fun i (x : Act5) => (W.cell? (a.add (i * 5 + 0)) = some (.int .i64 x.kind) ∧ W.cell? (a.add (i * 5 + 1)) = some (.int .i64 x.f) ∧ W.cell? (a.add (i * 5 + 2)) = some (.int .i64 x.t) ∧ W.cell? (a.add (i * 5 + 3)) = some x.bv ∧ W.cell? (a.add (i * 5 + 4)) = some (.int .i64 x.i)) ∧ BytesAt W x.bv (ints x.l) ∧ (-9223372036854775808 ≤ x.kind ∧ x.kind ≤ 9223372036854775807)) len each
    refine ⟨some a, xs, cap, by rw [hxl], ?_, trivial, by omega⟩
    intro j x hj
    obtain ⟨⟨c0, c1, c2, c3, c4⟩, hb, hw⟩ := hxs j x hj
    obtain ⟨b, off, spot⟩ := a
    have hspot : spot = none := by
      have hlt := (List.getElem?_eq_some_iff.1 hj).1
      obtain ⟨x0, hx0⟩ : ∃ x0, xs[0]? = some x0 := ⟨xs[0]'(by omega), List.getElem?_eq_getElem (by omega)⟩
      obtain ⟨⟨c0, _⟩, _⟩ := hxs 0 x0 hx0
      simpa [Addr.add] using World.cell?_spot c0
    subst hspot
    rw [Go.WideShapes.add_plain] at c0 c1 c2 c3 c4
    exact ⟨b, off, rfl, w_some.lt ⟨_, c0⟩, by simpa using c0, by simpa [Nat.add_assoc] using c1, by simpa [Nat.add_assoc] using c2, by simpa [Nat.add_assoc] using c3, by simpa [Nat.add_assoc] using c4, hb, hw⟩
end Go.Proofs.Ytoinlhjdmkeaeab
