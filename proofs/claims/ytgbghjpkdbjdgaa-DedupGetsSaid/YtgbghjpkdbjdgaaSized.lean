/- What came in, read off its cells, and how many bytes each slice of it may take. -/
import Derived.Test.YtgbghjpkdbjdgaaRead
import Derived.Test.YtgbghjpkdbjdgaaSlP
import Derived.SizedLaws
namespace Go.Proofs.Ytgbghjpkdbjdgaa
open Go.ChangeShapes Go.WideShapes Go.ChangeAt Go.RowKit Go.Deep

/-- The cells read as a value of the type, and nothing in it is larger than may be. -/
def RZ (P : Program) (w : World) (t : TypeId) (cs : List Value) : Prop :=
  ∃ (H : Type) (enc : TypeId × Value → H) (n : Nat) (x : DataW H × List MemPlace), DataW.trod enc P w 0 (fun _ => true) true n t cs = some x ∧ ∀ m ∈ x.1.weights P t, m ≤ 140737488351232
theorem weights_mem_all {H : Type} {P : Program} {e : TypeId} : ∀ {ds : List (DataW H)} {d : DataW H}, d ∈ ds → ∀ m ∈ d.weights P e, m ∈ DataW.weightsAll P e ds
  | [], _, h, _, _ => by simp at h
  | d0 :: ds, d, h, m, hm => by
    simp only [DataW.weightsAll, List.mem_append]
    rcases List.mem_cons.1 h with rfl | h
    · exact .inl hm
    · exact .inr (weights_mem_all h m hm)
section
variable {P : Program} {w : World} {t e : TypeId} {cs : List Value}
theorem RZ.of {H : Type} {enc : TypeId × Value → H} {v : Value} {d : DataW H} {ps : List MemPlace} (h : DataW.Trod enc P w 0 (fun _ => true) true t v d ps) {ts : List TypeId} {ds : List (DataW H)} (hz : (DataW.weightsEach P ts ds).all (· ≤ reachBytes) = true)
    {j : Nat} (ht : ts[j]? = some t) (hd : ds[j]? = some d) : RZ P w t v.cells.toList := by
  obtain ⟨n, h⟩ := h
  refine ⟨H, enc, n, _, h, fun m hm => ?_⟩
  have := List.all_eq_true.1 hz _ (DataW.weights_mem_each ht hd m hm)
  have h2 : m ≤ reachBytes := of_decide_eq_true this
  exact h2
theorem RZ.rd (h : RZ P w t cs) : RD P w t cs := by
  obtain ⟨H, enc, n, x, h, _⟩ := h
  exact ⟨H, enc, n, x, h⟩
theorem RZ.int {k : IntKind} (h : RZ P w t cs) (ht : P.underlying t = some (.int k)) : ∃ n, cs = [.int k n] ∧ (Lit.int k n).wf = true := h.rd.int ht
theorem RZ.struct {fs : Array Field} (h : RZ P w t cs) (ht : P.underlying t = some (.struct fs)) : cs.length = P.cellsOf t ∧ ∀ (i : Nat) (f : Field), fs[i]? = some f → RZ P w f.type ((cs.drop f.offset).take (P.cellsOf f.type)) := by
  obtain ⟨H, enc, n, x, h, hw⟩ := h
  obtain ⟨xs, m, _, hx, h1, h2, h3⟩ := DataW.trod_struct ht h
  refine ⟨h1, fun i f hi => ?_⟩
  have hlt := (Array.getElem?_eq_some_iff.1 hi).1
  have hxi : xs[i]? = some (xs[i]'(by omega)) := List.getElem?_eq_getElem _
  refine ⟨H, enc, m, xs[i]'(by omega), (h3 i f hi).trans hxi, fun q hq => hw q ?_⟩
  rw [hx]
  simp only [DataW.weights, ht]
  exact DataW.weights_mem_each (j := i) (t := f.type) (by simp [hi]) (by rw [List.getElem?_map, hxi]; rfl) q hq
theorem RZ.array {n : Nat} (h : RZ P w t cs) (ht : P.underlying t = some (.array n e)) : cs.length = P.cellsOf t ∧ ∀ i, i < n → RZ P w e ((cs.drop (i * P.cellsOf e)).take (P.cellsOf e)) := by
  obtain ⟨H, enc, k, x, h, hw⟩ := h
  obtain ⟨xs, m, _, hx, h1, h2, h3⟩ := DataW.trod_array ht h
  refine ⟨h1, fun i hi => ?_⟩
  have hxi : xs[i]? = some (xs[i]'(by omega)) := List.getElem?_eq_getElem _
  refine ⟨H, enc, m, xs[i]'(by omega), (h3 i hi).trans hxi, fun q hq => hw q ?_⟩
  rw [hx]
  simp only [DataW.weights, ht]
  exact weights_mem_all (List.mem_map.2 ⟨_, List.mem_of_getElem? hxi, rfl⟩) q hq
theorem RZ.slice (h : RZ P w t cs) (ht : P.underlying t = some (.slice e)) : cs = [.slice none 0 0] ∨
    ∃ (a : Addr) (len cap : Nat), cs = [.slice (some a) len cap] ∧ len ≤ cap ∧ cap ≤ maxLen ∧ cap * P.bytesOf e ≤ 140737488351232 ∧ ∀ i, i < len → ∃ cs', cs'.length = P.cellsOf e ∧ (∀ j, j < P.cellsOf e → w.cell? (a.add (i * P.cellsOf e + j)) = cs'[j]?) ∧ RZ P w e cs' := by
  obtain ⟨H, enc, n, x, h, hw⟩ := h
  rcases open_slice ht h with h0 | ⟨a, len, cap, m, n', D, Pl, hcs, hb, hl, hm, hmm, hx, hi⟩
  · exact .inl h0.1
  · simp only [if_true] at hmm
    have hb : cap * P.bytesOf e ≤ 140737488351232 := hw _ (by
      rw [hx]
      simp only [DataW.weights, ht, List.length_map, List.length_range, List.mem_cons]
      left
      congr 1
      omega)
    refine .inr ⟨a, len, cap, hcs, hl, hm, hb, fun i hil => ?_⟩
    obtain ⟨cs', hc, ht'⟩ := hi i (by omega)
    obtain ⟨_, hcl, hat⟩ := World.cells?_some hc
    refine ⟨cs', hcl, fun j hj => ?_, H, enc, n', _, ht', fun q hq => hw q ?_⟩
    · rw [← hat j hj, Go.Deep.add_add]
    · rw [hx]
      simp only [DataW.weights, ht, List.mem_cons, List.mem_append]
      exact .inr (.inl (weights_mem_all (List.mem_map.2 ⟨i, List.mem_range.2 hil, rfl⟩) q hq))
/-- A slice whose elements read. -/
theorem RZ.rows {α : Type} {f : α → List Value} {s : Nat} {Q : α → Prop} (hf : ∀ x, (f x).length = s) (hs : P.cellsOf e = s) (h0 : 0 < s) (h : RZ P w t cs) (ht : P.underlying t = some (.slice e)) (hq : ∀ cs', RZ P w e cs' → ∃ x, cs' = f x ∧ Q x) :
    ∃ (ad : Option Addr) (l : List α) (cap : Nat), cs = [.slice ad l.length cap] ∧ RowAt w ad (l.flatMap f) ∧ (∀ x ∈ l, Q x) ∧ l.length ≤ cap ∧ cap ≤ maxLen ∧ cap * P.bytesOf e ≤ 140737488351232 ∧ (ad = none → cap = 0) := by
  rcases h.slice ht with rfl | ⟨a, len, cap, rfl, hl, hm, hb, hi⟩
  · exact ⟨none, [], 0, rfl, fun j u hj => by simp at hj, by simp, by simp, by simp, by simp, fun _ => rfl⟩
  · rw [hs] at hi
    have each : ∀ i, i < len → ∃ x : α, Q x ∧ ∀ j, j < s → w.cell? (a.add (i * s + j)) = (f x)[j]? := fun i hil => by
      obtain ⟨cs', hl', hat, hr⟩ := hi i hil
      obtain ⟨x, rfl, hx⟩ := hq cs' hr
      exact ⟨x, hx, hat⟩
    obtain ⟨l, hll, hlx⟩ := list_of (Q := fun i (x : α) => Q x ∧ ∀ j, j < s → w.cell? (a.add (i * s + j)) = (f x)[j]?) len each
    refine ⟨some a, l, cap, by rw [hll], fun j u hj => ?_, fun x hx => ?_, by omega, hm, hb, fun h => by cases h⟩
    · have hjl := (List.getElem?_eq_some_iff.1 hj).1
      rw [flat_len f s hf] at hjl
      have hd : j / s < l.length := Nat.div_lt_of_lt_mul (by rw [Nat.mul_comm]; exact hjl)
      have hr : j % s < s := Nat.mod_lt _ h0
      have he : j = j / s * s + j % s := by rw [Nat.mul_comm]; exact (Nat.div_add_mod _ _).symm
      have hx : l[j / s]? = some (l[j / s]'hd) := List.getElem?_eq_getElem _
      have hc := (hlx _ _ hx).2 (j % s) hr
      rw [he, flat_get f s hf l (j / s) (j % s) hr hx] at hj
      rw [hj] at hc
      obtain ⟨b, off, spot⟩ := a
      have hspot : spot = none := by
        have hx0 : l[0]? = some (l[0]'(Nat.lt_of_le_of_lt (Nat.zero_le _) hd)) := List.getElem?_eq_getElem _
        have hc0 := (hlx 0 _ hx0).2 0 h0
        rw [List.getElem?_eq_getElem (by rw [hf]; exact h0), Nat.zero_mul] at hc0
        simpa [Addr.add] using World.cell?_spot hc0
      subst hspot
      refine ⟨b, off, rfl, ?_⟩
      rw [Go.WideShapes.add_plain, ← he] at hc
      exact hc
    · obtain ⟨i, hi', rfl⟩ := List.mem_iff_getElem.1 hx
      exact (hlx i _ (List.getElem?_eq_getElem hi')).1
theorem rows_of {α : Type} {f : α → List Value} {s : Nat} {Q : α → Prop} {base : Nat} {v : Value} (hf : ∀ x, (f x).length = s) (hs : P.cellsOf e = s) (h0 : 0 < s) (ht : P.underlying t = some (.slice e)) (hq : ∀ cs', RZ P w e cs' → ∃ x, cs' = f x ∧ Q x)
    (hv : Value.okWide P w .any base t v) (h : RZ P w t v.cells.toList) :
    ∃ (ad : Option Addr) (l : List α) (cap : Nat), v = .slice ad l.length cap ∧ RowAt w ad (l.flatMap f) ∧ (∀ x ∈ l, Q x) ∧ l.length ≤ cap ∧ cap ≤ maxLen ∧ cap * P.bytesOf e ≤ 140737488351232 ∧ (ad = none → cap = 0) := by
  obtain ⟨a0, len, cap, rfl⟩ := okWide_slice ht hv
  obtain ⟨ad, l, c, e1, r⟩ := RZ.rows hf hs h0 h ht hq
  simp only [Value.cells, List.cons.injEq, and_true] at e1
  exact ⟨ad, l, c, e1, r⟩
/-- A slice of integers. -/
theorem RZ.ints {k : IntKind} (h : RZ P w t cs) (ht : P.underlying t = some (.slice e)) (he : P.underlying e = some (.int k)) (hc : P.cellsOf e = 1) :
    ∃ (ad : Option Addr) (l : List Int) (cap : Nat), cs = [.slice ad l.length cap] ∧ RowAt w ad (l.map (Value.int k)) ∧ (∀ x ∈ l, (Lit.int k x).wf = true) ∧ l.length ≤ cap ∧ cap ≤ maxLen ∧ cap * P.bytesOf e ≤ 140737488351232 ∧ (ad = none → cap = 0) := by
  have := RZ.rows (f := fun x : Int => [Value.int k x]) (s := 1) (Q := fun x => (Lit.int k x).wf = true) (fun _ => rfl) hc (by decide) h ht (fun cs' hr => by
    obtain ⟨n, h1, h2⟩ := hr.int he
    exact ⟨n, h1, h2⟩)
  have e1 : ∀ l : List Int, (l.flatMap fun x : Int => [Value.int k x]) = l.map (Value.int k) := fun l => by
    induction l with
    | nil => rfl
    | cons x r ih => rw [List.flatMap_cons, ih]; rfl
  simp only [e1] at this
  exact this
end
end Go.Proofs.Ytgbghjpkdbjdgaa
