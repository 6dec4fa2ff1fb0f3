/- What came in, read off its cells: integers, strings, bytes, structs, arrays, slices of whatever reads. -/
import Derived.Test.YtgbghjpkdbjdgaaFrame
import Derived.Deep.Slices
import Derived.Deep.Fields
import Derived.ChangeSame
import Derived.OpenShut
namespace Go.Proofs.Ytgbghjpkdbjdgaa
open Go.ChangeShapes Go.WideShapes Go.ChangeAt Go.RowKit Go.Deep

/-- The cells read as a value of the type. -/
def RD (P : Program) (w : World) (t : TypeId) (cs : List Value) : Prop :=
  ∃ (H : Type) (enc : TypeId × Value → H) (n : Nat) (x : DataW H × List MemPlace), DataW.trod enc P w 0 (fun _ => true) true n t cs = some x
section
variable {P : Program} {w : World} {t e : TypeId} {cs : List Value}
theorem RD.of {H : Type} {enc : TypeId × Value → H} {v : Value} {d : DataW H} {ps : List MemPlace} (h : DataW.Trod enc P w 0 (fun _ => true) true t v d ps) : RD P w t v.cells.toList := by
  obtain ⟨n, h⟩ := h
  exact ⟨H, enc, n, _, h⟩
theorem RD.int {k : IntKind} (h : RD P w t cs) (ht : P.underlying t = some (.int k)) : ∃ n, cs = [.int k n] ∧ (Lit.int k n).wf = true := by
  obtain ⟨H, enc, n, x, h⟩ := h
  obtain ⟨z, h1, _, h2⟩ := DataW.trod_int ht h
  exact ⟨z, h1, h2⟩
theorem RD.bool (h : RD P w t cs) (ht : P.underlying t = some .bool) : ∃ b, cs = [.bool b] := by
  obtain ⟨H, enc, n, x, h⟩ := h
  obtain ⟨z, h1, _⟩ := DataW.trod_bool ht h
  exact ⟨z, h1⟩
theorem RD.string (h : RD P w t cs) (ht : P.underlying t = some .string) : ∃ s : ByteArray, cs = [.string s] ∧ s.size ≤ maxLen := by
  obtain ⟨H, enc, n, x, h⟩ := h
  obtain ⟨z, h1, _, h2⟩ := DataW.trod_string ht h
  exact ⟨z, h1, h2⟩
theorem RD.struct {fs : Array Field} (h : RD P w t cs) (ht : P.underlying t = some (.struct fs)) : cs.length = P.cellsOf t ∧ ∀ (i : Nat) (f : Field), fs[i]? = some f → RD P w f.type ((cs.drop f.offset).take (P.cellsOf f.type)) := by
  obtain ⟨H, enc, n, x, h⟩ := h
  obtain ⟨xs, m, _, _, h1, h2, h3⟩ := DataW.trod_struct ht h
  refine ⟨h1, fun i f hi => ?_⟩
  have hlt := (Array.getElem?_eq_some_iff.1 hi).1
  exact ⟨H, enc, m, xs[i]'(by omega), (h3 i f hi).trans (List.getElem?_eq_getElem _)⟩
theorem RD.slice (h : RD P w t cs) (ht : P.underlying t = some (.slice e)) : cs = [.slice none 0 0] ∨
    ∃ (a : Addr) (len cap : Nat), cs = [.slice (some a) len cap] ∧ len ≤ cap ∧ cap ≤ maxLen ∧ ∀ i, i < len → ∃ cs', cs'.length = P.cellsOf e ∧ (∀ j, j < P.cellsOf e → w.cell? (a.add (i * P.cellsOf e + j)) = cs'[j]?) ∧ RD P w e cs' := by
  obtain ⟨H, enc, n, x, h⟩ := h
  rcases open_slice ht h with h0 | ⟨a, len, cap, m, n', D, Pl, hcs, hb, hl, hm, hmm, hx, hi⟩
  · exact .inl h0.1
  · refine .inr ⟨a, len, cap, hcs, hl, hm, fun i hil => ?_⟩
    obtain ⟨cs', hc, ht'⟩ := hi i (by simp only [if_true] at hmm; omega)
    obtain ⟨_, hcl, hat⟩ := World.cells?_some hc
    refine ⟨cs', hcl, fun j hj => ?_, H, enc, n', _, ht'⟩
    rw [← hat j hj, Go.Deep.add_add]
theorem RD.bytes (h : RD P w t cs) (ht : P.underlying t = some (.slice e)) (he : P.underlying e = some (.int .u8)) (hc : P.cellsOf e = 1) : ∃ (ad : Option Addr) (l : List UInt8) (cap : Nat), cs = [.slice ad l.length cap] ∧ (∀ x, ad = some x → l ≠ [] → x.spot = none) ∧ l.length ≤ cap ∧ cap ≤ maxLen ∧
    ∀ j b, l[j]? = some b → ∃ bl off, ad = some ⟨bl, off, none⟩ ∧ w.cell? ⟨bl, off + j, none⟩ = some (.int .u8 (b.toNat : Int)) := by
  rcases h.slice ht with rfl | ⟨a, len, cap, rfl, hl, hm, hi⟩
  · exact ⟨none, [], 0, rfl, by simp, by simp, by simp, by simp⟩
  · have each : ∀ i, i < len → ∃ b : UInt8, w.cell? (a.add i) = some (.int .u8 (b.toNat : Int)) := fun i hil => by
      obtain ⟨cs', hl', hat, hr⟩ := hi i hil
      rw [hc] at hl' hat
      obtain ⟨z, rfl, hz⟩ := hr.int he
      have hz' : 0 ≤ z ∧ z ≤ 255 := by simpa [Lit.wf, IntKind.min, IntKind.max, IntKind.signed, IntKind.bits] using hz
      refine ⟨UInt8.ofNat z.toNat, ?_⟩
      have h0 := hat 0 (by omega)
      rw [Nat.mul_one, Nat.add_zero] at h0
      rw [h0]
      simp only [List.getElem?_cons_zero, UInt8.toNat_ofNat']
      congr 2
      omega
    obtain ⟨l, hll, hlx⟩ := list_of (Q := fun i (b : UInt8) => w.cell? (a.add i) = some (.int .u8 (b.toNat : Int))) len each
    obtain ⟨bl, off, spot⟩ := a
    by_cases h0 : len = 0
    · have hnil : l = [] := List.eq_nil_of_length_eq_zero (by omega)
      subst hnil
      subst h0
      exact ⟨some ⟨bl, off, spot⟩, [], cap, rfl, by simp, by simp, hm, by simp⟩
    · obtain ⟨b0, hb0⟩ : ∃ b0, l[0]? = some b0 := ⟨l[0]'(by omega), List.getElem?_eq_getElem _⟩
      have hc0 := hlx 0 b0 hb0
      have hspot : spot = none := by simpa [Addr.add] using World.cell?_spot hc0
      subst hspot
      refine ⟨some ⟨bl, off, none⟩, l, cap, by rw [hll], by simp, by omega, hm, fun j b hj => ⟨bl, off, rfl, ?_⟩⟩
      have := hlx j b hj
      rw [Go.WideShapes.add_plain] at this
      exact this
end
end Go.Proofs.Ytgbghjpkdbjdgaa
