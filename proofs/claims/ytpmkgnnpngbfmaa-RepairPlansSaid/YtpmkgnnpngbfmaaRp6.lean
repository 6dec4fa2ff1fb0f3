/- slices.MinFunc, slices.Clone, as Plan uses them; what partners have room for at first. -/
import Derived.Test.YtpmkgnnpngbfmaaRp5
import Derived.Test.YtpmkgnnpngbfmaaStep
import Derived.Sort.OwnSortedInts
import Derived.Lib.SliceRun
namespace Go.Proofs.Ytpmkgnnpngbfmaa
open Go.RowKit Go.Sort Go.Shelf Go.Lib
open Extern.Stop (cell)

section
variable {α : Type} [Inhabited α] (enc : α → Value)
theorem holds_of_blockE {w : World} {g : Nat} {cur : Array Value} {e : TypeId} {ss : List α} (hb : w.heap[g]? = some (.cells cur e (0, 0))) (ht : cur.toList.take ss.length = ss.map enc) : Holds enc w g 0 ss.toArray := by
  intro j hj
  have hj' : j < ss.length := by simpa using hj
  refine ⟨?_, by simp [World.frozen?, hb]⟩
  have h1 : (cur.toList.take ss.length)[j]? = (ss.map enc)[j]? := by rw [ht]
  rw [List.getElem?_take_of_lt hj'] at h1
  simp only [World.cell?, hb, Nat.zero_add]
  simp only [Option.isSome_none, Bool.false_eq_true, if_false]
  rw [← Array.getElem?_toList, h1]
  simp [hj']
theorem heap_sortedE {w : World} {g n : Nat} {os : Array Obj} {cur : Array Value} {e : TypeId} {fr : Nat × Nat} (d : Array α) (hb : w.heap[g]? = some (.cells cur e fr)) :
    (grow (putRow enc (Sort.ahead w n) g 0 d) os).heap[g]? = some (.cells (putCells enc 0 d cur) e fr) := by
  have hg : g < w.heap.size := (Array.getElem?_eq_some_iff.1 hb).1
  rw [heap_grow_old _ _ (by simpa using hg)]
  simp [putRow, mapBlock, Sort.ahead, Array.getElem?_modify, hb, onCells]
theorem grownBy_sortedE {w : World} {g n : Nat} {os : Array Obj} (d : Array α) : w.grownBy (grow (putRow enc (Sort.ahead w n) g 0 d) os) (some g) := by
  refine ⟨rfl, rfl, rfl, by simp, fun k hk hne => ?_⟩
  rw [heap_grow_old _ _ (by simpa using hk)]
  have : g ≠ k := fun e => hne (by rw [e])
  simp [putRow, mapBlock, Sort.ahead, Array.getElem?_modify, this]
end

theorem ints64 : ∀ {zs : List Int}, (∀ x ∈ zs, (Lit.int .i64 x).wf = true) → ∃ ys : List I64, ys.map Subtype.val = zs
  | [], _ => ⟨[], rfl⟩
  | x :: r, h => by
    obtain ⟨ys, hy⟩ := ints64 (zs := r) fun y hy => h y (by simp [hy])
    exact ⟨⟨x, h x (by simp)⟩ :: ys, by simp [hy]⟩
theorem min_any {B : Nat} {w : World} {v : Value} {zs : List Int} (h : IntsIs B w v zs) (hne : zs ≠ []) (hl : zs.length ≤ 1000000) (hwf : ∀ x ∈ zs, (Lit.int .i64 x).wf = true) {Bl L : Nat} {left : List (Int × Int)}
    (h2 : w.heap[Bl]? = some (.cells #[.map (some L)] 60 (0, 0))) (hL : LeftIs w L left) :
    Calls Try.prog 26 #[v, .func (.func 27) #[] #[.pointer (some ⟨Bl, 0, none⟩)]] w fun e w' => ∃ who, e = .returned (.int .i64 who) ∧ IsBest (roomOf left) zs who ∧ w.grownBy w' v.ownBlock := by
  obtain ⟨ys, hys⟩ := ints64 hwf
  have hyl : ys.length = zs.length := by rw [← hys]; simp
  have hpos : 0 < zs.length := List.length_pos_iff.2 hne
  rcases h.2 with ⟨rfl, h0⟩ | ⟨b, cap, cur, rfl, hb, hg, hnc, hcm, hcs, htake⟩
  · exact absurd (List.eq_nil_of_length_eq_zero h0) hne
  · rw [Nat.mul_one] at htake
    have htk : cur.toList.take ys.length = ys.map enc64 := by
      rw [hyl, htake, ← hys, List.map_map]
      rfl
    have hbl : Bl ≠ b := fun e => by subst e; rw [h2] at hg; simp at hg
    have hLb : L ≠ b := fun e => by
      obtain ⟨es, clk, h4, _⟩ := hL
      subst e
      rw [h4] at hg
      cases hg
    have hcmp : CmpLays1 Try.prog 27 #[.pointer (some ⟨Bl, 0, none⟩)] enc64 (cf64 (roomOf left)) b 0 ys.toArray.size w := fun m os dk _ x y => by
      have hgb : w.grownBy (sortWorld enc64 w b 0 m dk os) (some b) := grownBy_sortedE enc64 dk
      exact best_cmp ((hgb.block Bl (Array.getElem?_eq_some_iff.1 h2).1 (fun e => hbl (Option.some.inj e))).trans h2) (hL.of_block (hgb.block L hL.lt (fun e => hLb (Option.some.inj e)))) x.2 y.2
    have N := Any.slices_MinFunc Try.minI enc64 (fun _ => rfl) (cf64 (roomOf left)) 27 #[.pointer (some ⟨Bl, 0, none⟩)] b 0 cap ys.toArray w (fun _ _ => by kernel_rfl) hcmp (holds_of_blockE enc64 hg htk) (Array.getElem?_eq_some_iff.1 hg).1 (by simp; omega) (by simp; omega)
    change Calls Try.prog 26 _ _ _ at N
    have hsz : ys.toArray.size = zs.length := by simpa using hyl
    rw [hsz] at N
    refine N.mono ?_
    rintro e w' ⟨rfl, n, os, rfl⟩
    obtain ⟨⟨k, hk, ek⟩, hall⟩ := pick_best (roomOf left) ys.toArray (zs.length - 1) (by rw [hsz]; omega)
    have at_ : ∀ k, k < zs.length → zs[k]? = some (ys.toArray[k]!).1 := fun k hk => by
      rw [← hys, List.getElem?_map]
      simp [show k < ys.length by omega]
    refine ⟨_, rfl, ⟨?_, fun y hy => ?_⟩, grownBy_sortedE enc64 _⟩
    · have := at_ k (by omega)
      rw [← ek] at this
      exact List.mem_of_getElem? this
    · obtain ⟨q, hq⟩ := List.mem_iff_getElem?.1 hy
      have hql : q < zs.length := (List.getElem?_eq_some_iff.1 hq).1
      have e2 := at_ q hql
      rw [hq] at e2
      have := hall q (by omega)
      rw [← Option.some.inj e2] at this
      exact this
set_option maxHeartbeats 1000000 in
set_option maxRecDepth 100000 in
theorem clone_pk {w : World} {ad : Option Addr} {c : Nat} {es : List Pk} (hrow : RowAt w ad (es.flatMap pcells)) (hfew : es.length ≤ 1000000) (hnil : ad = none → c = 0) :
    Calls Try.prog 17 #[.slice ad es.length c] w fun e w' => ∃ v', e = .returned v' ∧ w'.ownsRow w.heap.size 46 34 v' es.length (es.flatMap pcells) ∧ Below w.heap.size w w' := by
  cases ad with
  | none =>
    have h0 : es = [] := by
      cases es with
      | nil => rfl
      | cons x r =>
        obtain ⟨b, off, h, _⟩ := rowAt_elem pcells_len (by decide) hrow (i := 0) (x := x) rfl
        cases h
    subst h0
    rw [hnil rfl]
    have ql := fun (w : World) => Lib.run_eql_slice_nil (P := Try.prog) w 22 _ none 0 0 0 0 Try.underlying22
    clear hrow hnil
    go_enter Try.func17, Try.ntmps17
    go_wp2
    go_ret
    exact ⟨_, rfl, World.ownsRow_nil _ _ _ _, Below.refl _ _⟩
  | some a =>
    have ql := fun (w : World) => Lib.run_eql_slice_nil (P := Try.prog) w 22 _ (some a) es.length c 0 0 Try.underlying22
    obtain ⟨n, hn⟩ : ∃ n, n = es.length := ⟨_, rfl⟩
    have HN := Lib.hid hn
    rw [← hn] at hfew ql ⊢
    have R := Lib.hid hrow
    obtain ⟨i0, hi, hz0, hz1, hz2⟩ := info_parts info_pk
    clear hrow hn hnil
    go_enter Try.func17, Try.ntmps17
    go_wp2_with (at_builtin; refine wpList_append_own _ rfl (.tmp 5) (.tmp 6) 22 rfl w.heap.size 46 i0 _ 34 64 Try.underlying22 hi hz0 hz1 hz2 ?p1 (by decide) _ 0 [] rfl ?p2 a n c (es.flatMap pcells) rfl ?p3 ?p4 ?p5 ?p6 ?p7 ?p8 ?_)
    case p1 => simp [Value.cells, pcells_len]
    case p2 => exact own_empty _ _ _
    case p3 => rw [flat_len pcells 34 pcells_len, HN.out]
    case p4 =>
      intro j u hj
      obtain ⟨b, off, h1, h2⟩ := R.out j u hj
      cases h1
      rw [Addr.add_mid]
      exact (below_alloc (Below.refl _ _) _).cell (p := ⟨b, off + j, none⟩) (World.block_lt_of_cell? w _ h2) |>.trans h2
    case p5 => intro u hu; obtain ⟨x, _, hu⟩ := List.mem_flatMap.1 hu; exact pcells_one x u hu
    case p6 => unfold maxLen; omega
    case p7 => omega
    case p8 => simp
    intro v' w' hown hg hat
    have O := Lib.hid hown
    have B' : Below w.heap.size w w' := (below_alloc (Below.refl _ _) _).grown hg (by simp) (fun k hk => by simp [Value.ownBlock] at hk; omega)
    have BB := Lib.hid B'
    clear hown hg hat B'
    go_wp2
    go_ret
    refine ⟨_, rfl, ?_, BB.out⟩
    have := O.out
    simpa [HN.out] using this

/-- What partners have room for: of those that are told more than once what is told first. -/
def freeStep (m : List (Int × Int)) (x : Int × Int) : List (Int × Int) := if (aget m x.1).isSome then m else aput m x.1 x.2
def frees (f : List (Int × Int)) : List (Int × Int) := f.foldl freeStep []
theorem frees_snoc (f : List (Int × Int)) (x : Int × Int) : frees (f ++ [x]) = freeStep (frees f) x := by simp [frees]
theorem freeStep_len (m : List (Int × Int)) (x : Int × Int) : (freeStep m x).length ≤ m.length + 1 := by
  unfold freeStep
  have := length_aput m x.1 x.2
  split <;> omega
theorem frees_len (f : List (Int × Int)) : (frees f).length ≤ f.length := by
  have : ∀ (l : List (Int × Int)) (m : List (Int × Int)), (l.foldl freeStep m).length ≤ m.length + l.length := by
    intro l
    induction l with
    | nil => intro m; exact Nat.le_refl _
    | cons x r ih =>
      intro m
      have h1 := ih (freeStep m x)
      have h2 := freeStep_len m x
      rw [List.foldl_cons, List.length_cons]
      omega
  have h := this f []
  rw [List.length_nil, Nat.zero_add] at h
  exact h
def fcells (x : Int × Int) : List Value := [.int .i64 x.1, .int .u64 x.2]
theorem fcells_len (x : Int × Int) : (fcells x).length = 2 := rfl
theorem fcells_one (x : Int × Int) : ∀ u ∈ fcells x, u.oneCell' = true := by
  intro u hu
  simp only [fcells, List.mem_cons, List.not_mem_nil, or_false] at hu
  rcases hu with rfl | rfl <;> rfl
theorem size_free : (Try.prog.info? 51).map (·.size) = some 2 := by kernel_rfl
end Go.Proofs.Ytpmkgnnpngbfmaa
