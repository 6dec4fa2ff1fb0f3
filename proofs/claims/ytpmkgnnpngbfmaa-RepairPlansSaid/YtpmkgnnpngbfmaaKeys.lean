/- slices.Sorted(maps.Keys(m)), slices.Collect(maps.Keys(m)), at maps keyed by ints. (The shelf must be laid with SlLaysZI n7, n6, n8 as keysB, keysU, sortedI, collectI.) -/
import Derived.Test.YtpmkgnnpngbfmaaRp1
namespace Go.Proofs.Ytpmkgnnpngbfmaa
open Go.RowKit Go.Shelf Go.Sort
open Go.WideElems (Fit rg)

theorem sorts_int (m : Nat) : AnyZI.SortsIn Try.prog Try.sortedI_ren Fence.wide m :=
  ⟨fun blk off cap ss W hH hblk hsz => callsIn_wide.2 (Try.slices_Sort_int blk off cap ss W hH hblk hsz), fun p cap W => callsIn_wide.2 (Try.slices_Sort_int_none p cap W)⟩

def vint : Value → Int
  | .int _ x => x
  | _ => 0
/-- A map keyed by ints, as the shelf's contracts want it. -/
theorem MapIs.owns {β : Type} {eV : β → Value} {w : World} {b : Nat} {l : List (Int × β)} (h : MapIs Try.prog 3 ikey eV w b l) (hl : l.length ≤ maxLen) :
    ∃ D : DataW Unit, w.ownsMap Try.prog 3 (fun _ => some (.nil, [])) b l.length D ∧ (intKeys D).Perm (l.map Prod.fst) ∧ Maps.size D = l.length := by
  obtain ⟨es, clk, h1, h2, h3, h4⟩ := h
  have hlen : es.size = l.length := by have := congrArg List.length h2; simpa using this
  have hrd : ∀ e ∈ es.toList, ∃ x : Int, e.key = ikey x ∧ WideElems.rd (H := Unit) Try.prog 3 (fun _ => some (.nil, [])) e = some (.int .i64 x, .nil) := by
    intro e he
    have hm : (e.key, e.val) ∈ es.toList.map (fun e => (e.key, e.val)) := List.mem_map.2 ⟨e, he, rfl⟩
    rw [h2] at hm
    obtain ⟨p, hp, e2⟩ := List.mem_map.1 hm
    simp only [Prod.mk.injEq] at e2
    obtain ⟨kl, hkl⟩ := h4 p hp
    obtain ⟨x, hx1, hx2, _⟩ := Maps.keyOf_int_inv Try.underlying3 hkl
    refine ⟨x, e2.1.symm.trans hx1, ?_⟩
    unfold WideElems.rd
    rw [← e2.1, hkl, hx2]
    rfl
  refine ⟨_, ⟨es, clk, h1, ⟨by omega, h3, fun x hx => by obtain ⟨y, _, hy⟩ := hrd x hx; exact ⟨_, hy⟩⟩, by omega, rfl⟩, ?_, ?_⟩
  · refine ((WideShapes.sorted_perm (es.toList.map (rg Try.prog 3 fun _ => some (.nil, [])))).map fun p => Go.intOf p.1).trans ?_
    have : (es.toList.map (rg (H := Unit) Try.prog 3 fun _ => some (.nil, []))).map (fun p => Go.intOf p.1) = l.map Prod.fst := by
      have k1 : ∀ e ∈ es.toList, Go.intOf (rg (H := Unit) Try.prog 3 (fun _ => some (.nil, [])) e).1 = vint e.key := by
        intro e he
        obtain ⟨x, hx, hy⟩ := hrd e he
        unfold rg
        rw [hy, hx]
        rfl
      rw [List.map_map]
      have k2 : es.toList.map ((fun p => Go.intOf p.1) ∘ rg (H := Unit) Try.prog 3 (fun _ => some (.nil, []))) = (es.toList.map (fun e => (e.key, e.val))).map (fun q => vint q.1) := by
        rw [List.map_map]
        exact List.map_congr_left fun e he => by simpa using k1 e he
      rw [k2, h2, List.map_map]
      rfl
    rw [this]
  · show ((es.toList.map _).foldr DataW.insert []).length = _
    rw [(WideShapes.sorted_perm _).length_eq]
    simpa using hlen

theorem merge_perm {a b : List Int} (h : a.Perm b) : a.mergeSort leI = b.mergeSort leI := by
  have t : ∀ x y z : Int, leI x y = true → leI y z = true → leI x z = true := fun x y z h1 h2 => by simp [leI] at *; omega
  have c : ∀ x y : Int, (leI x y || leI y x) = true := fun x y => by simp [leI]; omega
  refine ((List.mergeSort_perm a leI).trans (h.trans (List.mergeSort_perm b leI).symm)).eq_of_pairwise ?_ (List.pairwise_mergeSort t c a) (List.pairwise_mergeSort t c b)
  intro x y _ _ h1 h2
  simp [leI] at h1 h2
  omega
theorem keys_bool (mb : Option Nat) (W : World) : Calls Try.prog 33 #[.map mb] W fun e w' => e = .returned (.func (.func 41) #[] #[.pointer (some ⟨W.heap.size, 0, none⟩)]) ∧ w' = W.alloc (.cells #[.map mb] 65) :=
  (callsIn_wide (n := 6)).1 (AnyZI.keys_in Try.keysB Fence.wide 6 trivial rfl mb W)
theorem gives_bool {β : Type} {eV : β → Value} {w : World} {Bm b : Nat} {l : List (Int × β)} (hBm : Bm < w.heap.size) (hc : w.cell? ⟨Bm, 0, none⟩ = some (.map (some b))) (hm : MapIs Try.prog 3 ikey eV w b l) (hl : l.length ≤ 1000000) :
    SeqGives Fence.wide 2 Try.prog 41 #[.pointer (some ⟨Bm, 0, none⟩)] encZ (fun ss => ss.Perm (l.map Prod.fst)) l.length w := by
  obtain ⟨D, h1, h2, h3⟩ := hm.owns (Nat.le_trans hl (by decide))
  have := AnyZI.keys_gives (ρ := Try.keysB_ren) { Try.keysB with } Fence.wide 2 trivial rfl (by omega) Bm b l.length D w hBm hc h1
  rw [h3] at this
  intro l' J W hW hA hY h0
  exact (this l' J W hW hA hY h0).mono fun e w' ⟨a1, ss, a2, a3⟩ => ⟨a1, ss, a2.trans h2, a3⟩
theorem keys_u64 (mb : Option Nat) (W : World) : Calls Try.prog 24 #[.map mb] W fun e w' => e = .returned (.func (.func 38) #[] #[.pointer (some ⟨W.heap.size, 0, none⟩)]) ∧ w' = W.alloc (.cells #[.map mb] 60) :=
  (callsIn_wide (n := 6)).1 (AnyZI.keys_in Try.keysU Fence.wide 6 trivial rfl mb W)
theorem gives_u64 {β : Type} {eV : β → Value} {w : World} {Bm b : Nat} {l : List (Int × β)} (hBm : Bm < w.heap.size) (hc : w.cell? ⟨Bm, 0, none⟩ = some (.map (some b))) (hm : MapIs Try.prog 3 ikey eV w b l) (hl : l.length ≤ 1000000) :
    SeqGives Fence.wide 2 Try.prog 38 #[.pointer (some ⟨Bm, 0, none⟩)] encZ (fun ss => ss.Perm (l.map Prod.fst)) l.length w := by
  obtain ⟨D, h1, h2, h3⟩ := hm.owns (Nat.le_trans hl (by decide))
  have := AnyZI.keys_gives (ρ := Try.keysU_ren) { Try.keysU with } Fence.wide 2 trivial rfl (by omega) Bm b l.length D w hBm hc h1
  rw [h3] at this
  intro l' J W hW hA hY h0
  exact (this l' J W hW hA hY h0).mono fun e w' ⟨a1, ss, a2, a3⟩ => ⟨a1, ss, a2.trans h2, a3⟩
theorem sorted_bool {β : Type} {eV : β → Value} {w : World} {Bm b : Nat} {l : List (Int × β)} (hBm : Bm < w.heap.size) (hc : w.cell? ⟨Bm, 0, none⟩ = some (.map (some b))) (hm : MapIs Try.prog 3 ikey eV w b l) (hl : l.length ≤ 1000000) :
    Calls Try.prog 32 #[.func (.func 41) #[] #[.pointer (some ⟨Bm, 0, none⟩)]] w fun e w' => ∃ v, e = .returned v ∧ IntsIs w.heap.size w' v ((l.map Prod.fst).mergeSort leI) ∧ Below w.heap.size w w' := by
  have hN : l.length ≤ maxLen := Nat.le_trans hl (by decide)
  refine (callsIn_wide (n := 5)).1 ((AnyZI.sorted_in Try.sortedI Fence.wide 5 trivial trivial trivial trivial rfl (by omega) (sorts_int _) (fun _ _ => by kernel_rfl) 41 #[.pointer (some ⟨Bm, 0, none⟩)] trivial (fun _ _ => by kernel_rfl) _ _ hN (by omega) _ (gives_bool hBm hc hm hl)).mono ?_)
  rintro e w' ⟨v, ss, he, hp, hrow, _, hb⟩
  refine ⟨v, he, ?_, hb⟩
  have hlen : ss.length = ((l.map Prod.fst).mergeSort leI).length := by rw [List.length_mergeSort, hp.length_eq]
  rw [hlen] at hrow
  rw [← merge_perm hp] at hrow ⊢
  exact hrow
theorem collect_u64 {β : Type} {eV : β → Value} {w : World} {Bm b : Nat} {l : List (Int × β)} (hBm : Bm < w.heap.size) (hc : w.cell? ⟨Bm, 0, none⟩ = some (.map (some b))) (hm : MapIs Try.prog 3 ikey eV w b l) (hl : l.length ≤ 1000000) :
    Calls Try.prog 23 #[.func (.func 38) #[] #[.pointer (some ⟨Bm, 0, none⟩)]] w fun e w' => ∃ v ss, e = .returned v ∧ ss.Perm (l.map Prod.fst) ∧ IntsIs w.heap.size w' v ss ∧ Below w.heap.size w w' := by
  have hN : l.length ≤ maxLen := Nat.le_trans hl (by decide)
  refine (callsIn_wide (n := 4)).1 ((AnyZI.collect_in Try.collectI Fence.wide 4 trivial trivial rfl (by omega) 38 #[.pointer (some ⟨Bm, 0, none⟩)] trivial (fun _ _ => by kernel_rfl) _ _ hN (by omega) _ (gives_u64 hBm hc hm hl)).mono ?_)
  rintro e w' ⟨v, ss, he, hp, hrow, _, hb⟩
  exact ⟨v, ss, he, hp, hrow, hb⟩
end Go.Proofs.Ytpmkgnnpngbfmaa
