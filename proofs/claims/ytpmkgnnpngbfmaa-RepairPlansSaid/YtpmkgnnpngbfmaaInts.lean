/- Rows of integers of the call's own; slices.Sort. -/
import Derived.Test.YtpmkgnnpngbfmaaRow2
import Derived.Test.YtpmkgnnpngbfmaaShelf
import Derived.Sort.OwnSortedInts
import Derived.Lib.SlKeysI
import Derived.Test.YtpmkgnnpngbfmaaOwn
namespace Go.Proofs.Ytpmkgnnpngbfmaa
open Go.RowKit

abbrev IntsIs (B : Nat) (w : World) (v : Value) (xs : List Int) : Prop := w.ownsRow B 3 1 v xs.length (xs.map (Value.int .i64))
theorem info_int : (Try.prog.info? 3).map (fun i => (i.zero, i.size, i.bytes)) = some (some (.int .i64 0), 1, 8) := by kernel_rfl
theorem sort_ints {B : Nat} {w : World} {v : Value} {zs : List Int} (h : IntsIs B w v zs) (hs : zs.length < 4611686018427387904) :
    Calls Try.prog 40 #[v] w fun e w' => e = .returned (.tuple #[]) ∧ IntsIs B w' v (zs.mergeSort leI) ∧ w.grownBy w' v.ownBlock := by
  rcases h.2 with ⟨rfl, h0⟩ | ⟨g, cap, cur, rfl, hb, hg, hnc, hcm, hcs, htake⟩
  · have : zs = [] := List.eq_nil_of_length_eq_zero h0
    subst this
    exact (Try.slices_Sort_int_none none 0 w).mono fun e w' ⟨he, hw⟩ => ⟨he, by subst hw; simpa [List.mergeSort] using h, by subst hw; exact grown_refl _ _⟩
  · rw [Nat.mul_one] at htake
    refine (Try.slices_Sort_int g 0 cap zs w (holds_of_blockI hg htake) (Array.getElem?_eq_some_iff.1 hg).1 hs).mono ?_
    rintro e w' ⟨rfl, n, os, rfl⟩
    refine ⟨rfl, ?_, ?_⟩
    · have := ownsRow_sortedI (w := w) (base := B) (n := n) (os := os) (ss := zs) (ts := zs.mergeSort leI) (List.length_mergeSort _) hb hg hnc hcm hcs
      show World.ownsRow _ _ _ _ _ (zs.mergeSort leI).length _
      rw [List.length_mergeSort]
      exact this
    · exact grownBy_sortedI _
theorem sort_nil (w : World) : Calls Try.prog 40 #[.slice none 0 0] w fun e w' => e = .returned (.tuple #[]) ∧ w' = w := Try.slices_Sort_int_none none 0 w
/-- A slice of integers that can be read, wherever it lies. -/
def IntsRd (w : World) (a : Option Addr) (zs : List Int) : Prop := ∀ (j : Nat) (z : Int), zs[j]? = some z → ∃ b off, a = some ⟨b, off, none⟩ ∧ b < w.heap.size ∧ w.cell? ⟨b, off + j, none⟩ = some (.int .i64 z)
theorem IntsIs.rd {B : Nat} {w : World} {a : Option Addr} {n c : Nat} {zs : List Int} (h : IntsIs B w (.slice a n c) zs) : IntsRd w a zs := fun j z hj => by
  obtain ⟨g, h1, h2, h3⟩ := own_at h (k := j) (by rw [List.getElem?_map, hj]; rfl)
  exact ⟨g, 0, h1, h2, by rw [Nat.zero_add]; exact h3⟩
theorem IntsRd.later {w w' : World} {a : Option Addr} {zs : List Int} (h : IntsRd w a zs) (hb : Below w.heap.size w w') : IntsRd w' a zs := fun j z hj => by
  obtain ⟨b, off, h1, h2, h3⟩ := h j z hj
  exact ⟨b, off, h1, Nat.lt_of_lt_of_le h2 hb.size, (hb.cell (p := ⟨b, off + j, none⟩) h2).trans h3⟩
theorem intsRd_block {w : World} {b : Nat} {l : List Int} {t : TypeId} (h : w.heap[b]? = some (.cells (l.map (Value.int .i64)).toArray t (0, 0))) : IntsRd w (some ⟨b, 0, none⟩) l := fun j z hj => ⟨b, 0, rfl, (Array.getElem?_eq_some_iff.1 h).1, by simp [World.cell?, h, hj]⟩
end Go.Proofs.Ytpmkgnnpngbfmaa
