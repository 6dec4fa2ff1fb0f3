/- RepairRoom: packs behind the moves. -/
import Derived.Test.YtpmkgnnpngbfmaaRm5
namespace Go.Proofs.Ytpmkgnnpngbfmaa
open Go.RowKit
open Extern.Stop (cell)

theorem lack_le {k : Int} (h0 : 0 ≤ k) (h5 : k ≤ 5) : ∀ l : List Pk, 0 ≤ lackOf k l ∧ lackOf k l ≤ 5 * l.length
  | [] => by simp [lackOf]
  | p :: l => by
    have := lack_le h0 h5 l
    have e : lackOf k (p :: l) = max (k - ((hset p.hs).length : Int)) 0 + lackOf k l := by simp [lackOf]
    rw [e, List.length_cons]
    have : (0 : Int) ≤ ((hset p.hs).length : Int) := Int.natCast_nonneg _
    omega
theorem mv_len {zs : List Int} {all m : Nat} {tight : Bool} {K : Nat} {ps : List Pk} {mv : List Mv} (h : MvFacts zs all m tight K ps mv) (hK : K ≤ 5) (hm : ps.length ≤ 10) : mv.length ≤ 50 := by
  have h1 := (h.lack ((afts mv ps ps.length).map fun x => (⟨x.1, x.2.1, x.2.2, none, 0⟩ : Pk)) (by
    rw [List.map_map]
    exact (List.map_congr_left fun _ _ => rfl).trans (List.map_id _))).1
  have h2 := (lack_le (k := (K : Int)) (by omega) (by omega) ((afts mv ps ps.length).map fun x => (⟨x.1, x.2.1, x.2.2, none, 0⟩ : Pk))).1
  have h3 := (lack_le (k := (K : Int)) (by omega) (by omega) ps).2
  omega
theorem after_ok {w : World} {B : Nat} {ps qs : List Pk} {mv : List Mv} (hqs : qs.map says = afts mv ps ps.length) (hH : ∀ q ∈ qs, HsOwn B w q) (hp : ∀ p ∈ ps, p.id.length = 32 ∧ p.hs.length ≤ 1000 - 50 ∧ ∀ x ∈ p.hs, (Lit.int .i64 x).wf = true)
    (hm : mv.length ≤ 50) (hmo : ∀ x ∈ mv, MvOk x) : ∀ q ∈ qs, PkOk w q := fun q hq => by
  obtain ⟨i, hi⟩ := List.mem_iff_getElem?.1 hq
  have hlen : qs.length = ps.length := by have := congrArg List.length hqs; simpa [afts_len] using this
  have hil : i < ps.length := by rw [← hlen]; exact (List.getElem?_eq_some_iff.1 hi).1
  have h1 : (qs.map says)[i]? = some (aft mv ps i) := by rw [hqs, afts_get hil]
  rw [List.getElem?_map, hi] at h1
  have h2 := Option.some.inj h1
  obtain ⟨p, hpi⟩ : ∃ p, ps[i]? = some p := ⟨ps[i]'hil, List.getElem?_eq_getElem _⟩
  have hd : ps.getD i default = p := by rw [List.getD_eq_getElem?_getD, hpi]; rfl
  unfold says aft at h2
  rw [hd] at h2
  simp only [Prod.mk.injEq] at h2
  obtain ⟨e1, _, e3⟩ := h2
  obtain ⟨p1, p2, p3⟩ := hp p (List.mem_of_getElem? hpi)
  refine ⟨by rw [e1]; exact p1, IntsIs.rd (hH q hq), ?_, ?_⟩
  · rw [e3, keysOf_len]
    have := behind_len mv (aget (seenIds (ps.take i)) p.id).isSome p
    omega
  · rw [e3]
    intro x hx
    rw [keysOf_mem, behind_mem] at hx
    rcases hx with hx | ⟨_, hx⟩
    · exact p3 x hx
    · obtain ⟨y, hy, rfl⟩ := List.mem_map.1 hx
      exact (hmo y (List.mem_filter.1 hy).1).wf
theorem mv_ok {zs : List Int} {all m : Nat} {tight : Bool} {K : Nat} {ps : List Pk} {mv : List Mv} (h : MvFacts zs all m tight K ps mv) (ha : all ≤ 12) : ∀ x ∈ mv, MvOk x := fun x hx => by
  obtain ⟨i, w, p, _, _, h1, h2, h3, _⟩ := h.each x hx
  refine ⟨by rw [h1]; exact idOne_len _, ?_⟩
  rw [h3]
  simp [Lit.wf, IntKind.min, IntKind.max, IntKind.signed, IntKind.bits]
  omega
end Go.Proofs.Ytpmkgnnpngbfmaa
