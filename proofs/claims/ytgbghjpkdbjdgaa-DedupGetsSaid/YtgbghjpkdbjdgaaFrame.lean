/- The frame of a law's row: what was there before the call reads behind it as it read, and the answer is true. -/
import Derived.Test.YtgbghjpkdbjdgaaRows
import Derived.WalkKit
import Derived.ProofKit
import Derived.OpenShut
namespace Go.Proofs.Ytgbghjpkdbjdgaa
open Go.ChangeShapes Go.WideShapes Go.ChangeAt Go.RowKit

theorem own : ownKnob Try.prog.godebug = none := by kernel_rfl
theorem laidOut : laidOutB Try.prog = true := by kernel_rfl

def w_some (w : World) (a : Addr) : Prop := ∃ v, w.cell? a = some v
theorem w_some.lt {w : World} {a : Addr} (h : w_some w a) : a.block < w.heap.size := by
  obtain ⟨v, h⟩ := h
  unfold World.cell? at h
  cases hb : w.heap[a.block]? with
  | none => rw [hb] at h; cases h
  | some o => exact (Array.getElem?_eq_some_iff.1 hb).1
section
variable {H : Type} {enc : TypeId × Value → H} {P : Program} {W W' : World}
theorem trodAll_below (hl : laidOutB P = true) (hb : Below W.heap.size W W') : ∀ {ts : List TypeId} {vs : List Value} {ds : List (DataW H)} {ps : List MemPlace}, (∀ t ∈ ts, P.readableRec t = true ∧ t < P.types.size) →
    DataW.TrodAll enc P W 0 (fun _ => true) true ts vs ds ps → (∀ x ∈ ps, x.block < W.heap.size) → DataW.TrodAll enc P W' 0 (fun b => decide (b < W.heap.size)) true ts vs ds ps
  | [], vs, ds, ps, _, h, _ => by
    cases vs <;> cases ds <;> simp_all [DataW.TrodAll]
  | t :: ts, vs, ds, ps, hts, h, hp => by
    obtain ⟨v, vs', d, ds', p, q, rfl, rfl, rfl, h1, h2⟩ := trodAll_cons h
    have ht := hts t (by simp)
    exact trodAll_cons_mk (Below.trod hl ht.1 ht.2 h1 hb (fun x hx => hp x (List.mem_append_left _ hx))) (trodAll_below hl hb (fun t ht => hts t (by simp [ht])) h2 (fun x hx => hp x (List.mem_append_right _ hx)))

theorem law_post {fn : Func} {s : ChangeSpec} {args : Array Value} {ds gs : List (DataW H)} {before : List MemPlace} {tb : TypeId} {row : Bool}
    (hl : laidOutB P = true) (hts : (fn.params.toList.all fun t => P.readableRec t && decide (t < P.types.size)) = true) (hvars : s.vars = []) (hres : fn.resultTypes = #[tb]) (htb : P.underlying tb = some .bool)
    (hs : s.fn H (ds ++ []) = { results := [.lit (.bool true)], args := ds }) (hW : DataW.Whole enc P fn.params.toList s.vars row W args.toList ds gs before) (hb : Below W.heap.size W W') :
    s.post enc P fn row true false false W args (.bool true) W' := by
  have hlt := hW.lt
  have hW0 := hW
  obtain ⟨p, q, hA, hV, rfl, hz, hn⟩ := hW
  rw [hvars] at hV
  obtain ⟨rfl, rfl⟩ := trodVars_none hV
  simp only [List.append_nil] at hlt hW0
  have hA' := trodAll_below hl hb (fun t ht => by have := List.all_eq_true.1 hts t ht; simpa using this) hA hlt
  refine ⟨ds, [], p, [], p, [], hW0, ?_, ?_, ?_, Below.frame hb _, fun h => by cases h⟩
  · rw [hs, hres]
    exact trodAll_mk1 (shut_bool htb true)
  · rw [hs]; exact hA'
  · rw [hs, hvars]; rfl
end

theorem list_of {α : Type} {Q : Nat → α → Prop} : ∀ (n : Nat), (∀ i, i < n → ∃ x, Q i x) → ∃ xs : List α, xs.length = n ∧ ∀ i x, xs[i]? = some x → Q i x
  | 0, _ => ⟨[], rfl, by simp⟩
  | n + 1, h => by
    obtain ⟨xs, hl, hx⟩ := list_of n (fun i hi => h i (by omega))
    obtain ⟨y, hy⟩ := h n (by omega)
    refine ⟨xs ++ [y], by simp [hl], fun i x hi => ?_⟩
    by_cases e : i < xs.length
    · rw [List.getElem?_append_left e] at hi; exact hx i x hi
    · have hlt := (List.getElem?_eq_some_iff.1 hi).1
      simp at hlt
      have : i = xs.length := by omega
      subst this
      simp at hi
      subst hi; rw [hl]; exact hy
/-- A slice of integers of one kind that came in: it reads as zs. -/
def IntsAt (w : World) (k : IntKind) (ad : Option Addr) (zs : List Int) : Prop :=
  ∀ j, j < zs.length → ∃ b off, ad = some ⟨b, off, none⟩ ∧ b < w.heap.size ∧ w.cell? ⟨b, off + j, none⟩ = some (.int k (zs.getD j 0))
theorem ints_of {H : Type} {enc : TypeId × Value → H} {P : Program} {W : World} {base : Nat} {t e : TypeId} {k : IntKind} {v : Value} {d : DataW H} {ps : List MemPlace} (ht : P.underlying t = some (.slice e)) (he : P.underlying e = some (.int k)) (hc : P.cellsOf e = 1)
    (hv : Value.okWide P W .any base t v) (h : DataW.Trod enc P W 0 (fun _ => true) true t v d ps) :
    ∃ ad zs cap, v = .slice ad zs.length cap ∧ IntsAt W k ad zs ∧ (∀ n ∈ zs, (Lit.int k n).wf = true) ∧ zs.length ≤ maxLen := by
  obtain ⟨a0, len, cap, rfl⟩ := okWide_slice ht hv
  obtain ⟨fuel, hf⟩ := h
  rcases open_ints ht he hc hf with ⟨hcs, hx⟩ | ⟨a, len', cap', zs, hcs, _, hl, hm, hz, hx, hcell, hwz⟩
  · simp only [Value.cells, List.cons.injEq, and_true] at hcs
    cases hcs
    exact ⟨none, [], 0, rfl, fun j hj => by simp at hj, by simp, by simp⟩
  · simp only [Value.cells, List.cons.injEq, and_true] at hcs
    cases hcs
    simp only [if_true] at hz
    have hlen : (zs.take len).length = len := by simp; omega
    refine ⟨some a, zs.take len, cap, by rw [hlen], ?_, fun n hn => hwz n (List.mem_of_mem_take hn), by omega⟩
    intro j hj
    rw [hlen] at hj
    obtain ⟨b, off, rfl, hc'⟩ := ints_at hcell (by omega)
    have hcj := hc' j (by omega)
    refine ⟨b, off, rfl, ?_, ?_⟩
    · have : w_some W ⟨b, off + j, none⟩ := ⟨_, hcj⟩
      exact this.lt
    · rw [hcj]; congr 2; simp [List.getD_eq_getElem?_getD, hj]
theorem IntsAt.at {w w' : World} {k : IntKind} {ad : Option Addr} {zs : List Int} (h : IntsAt w k ad zs) (hb : Below w.heap.size w w') {j : Nat} (hj : j < zs.length) :
    ∃ b off, ad = some ⟨b, off, none⟩ ∧ b < w.heap.size ∧ w'.cell? ⟨b, off + j, none⟩ = some (.int k (zs.getD j 0)) := by
  obtain ⟨b, off, h1, h2, h3⟩ := h j hj
  exact ⟨b, off, h1, h2, (hb.cell (p := ⟨b, off + j, none⟩) h2).trans h3⟩
end Go.Proofs.Ytgbghjpkdbjdgaa
