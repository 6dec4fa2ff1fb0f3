/- More of rows of the call's own. -/
import Derived.Test.YtgbghjpkdbjdgaaRow2
namespace Go.Proofs.Ytgbghjpkdbjdgaa
open Go.RowKit

theorem own_slice {w : World} {base : Nat} {e : TypeId} {size : Nat} {v : Value} {n : Nat} {xs : List Value} (h : w.ownsRow base e size v n xs) : ∃ x c, v = .slice x n c := by
  rcases h.2 with ⟨rfl, h0⟩ | ⟨_, _, _, rfl, _⟩
  · exact ⟨_, _, by rw [h0]⟩
  · exact ⟨_, _, rfl⟩
theorem own_at {w : World} {B : Nat} {e : TypeId} {size n n' c : Nat} {a : Option Addr} {xs : List Value} (h : w.ownsRow B e size (.slice a n' c) n xs) {k : Nat} {u : Value} (hk : xs[k]? = some u) : ∃ g, a = some ⟨g, 0, none⟩ ∧ g < w.heap.size ∧ w.cell? ⟨g, k, none⟩ = some u := by
  have hkl := (List.getElem?_eq_some_iff.1 hk).1
  rcases h.2 with ⟨h1, h2⟩ | ⟨g, cap, cur, h1, hb, hg, _⟩
  · have := h.1
    rw [h2, Nat.zero_mul] at this
    omega
  · cases h1
    exact ⟨g, rfl, (Array.getElem?_eq_some_iff.1 hg).1, (h.cellAt k (by rw [← h.1]; exact hkl)).trans hk⟩
end Go.Proofs.Ytgbghjpkdbjdgaa
