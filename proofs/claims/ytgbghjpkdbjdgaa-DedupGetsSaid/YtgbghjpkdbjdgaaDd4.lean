/- slices.SortedFunc(maps.Keys(m), rising); Ids. -/
import Derived.Test.YtgbghjpkdbjdgaaDd3
import Derived.RangeFuncNested
namespace Go.Proofs.Ytgbghjpkdbjdgaa
open Go.RowKit Go.Shelf Go.Sort Go.Lib
open Extern.Stop (cell)
attribute [local go_sem] Oper.semAt_some

theorem info_id : (Try.prog.info? 31).map (fun i => (i.zero, i.size, i.bytes)) = some (some (.agg (idCells []).toArray), 32, 32) := by kernel_rfl
/-- The loop's variable lies in a block of its own. -/
def LoopVar (B : Nat) (fv : Value) (x : Id32) (a' : Act) (W : World) : Prop :=
  ∃ V, a' = { tmps := #[.slice none 0 0, fv, .pointer (some ⟨B, 0, none⟩), undef, .slice none 0 0, .pointer (some ⟨V, 0, none⟩), fv, keyI x, undef, undef, undef, undef, undef], defers := [] } ∧ W.heap[V]? = some (.cells (encId x).toArray 31 (0, 0))
theorem loopVar_own (B B' : Nat) (fv : Value) (x : Id32) (a' : Act) : OwnFrom B' (fun (_ : Unit) W => LoopVar B fv x a' W) := by
  rintro _ W W' row ⟨V, rfl, hV⟩ hg hr
  refine ⟨V, rfl, (hg.block V (Array.getElem?_eq_some_iff.1 hV).1 (fun e => ?_)).trans hV⟩
  obtain ⟨_, o, ho, hc⟩ := hr V e.symm
  rw [hV] at ho
  cases ho
  cases hc
theorem news_id (w : World) (x : Id32) : ∀ (j : Nat) (u : Value), (encId x)[j]? = some u → (w.alloc (.cells (encId x).toArray 31)).cell? ((⟨w.heap.size, 0, none⟩ : Addr).add j) = some u := fun j u h =>
  World.news_of_block (w := w.alloc _) (heap_at w _) j u (by simpa using h)
set_option maxRecDepth 100000 in
set_option maxHeartbeats 2000000 in
theorem appendSeq_ids (F : Fence) (n : Nat) (h3 : F.fn 52) {gf : Nat} (h5 : F.fn gf) (hro : F.round = none) (hn : 3 ≤ n) {lb : Array Value} (eg : ∀ args w, (callFunc gf args).run Try.prog w = .ok (.enter gf args) w) (S : List Id32 → Prop) (N : Nat) (hN : N ≤ 1000000) (w : World)
    (hst : ∀ W, Below w.heap.size w W → SeqStopsK F (n - 1) Try.prog gf lb (fun x : Id32 => #[keyI x]) KeepsWalks S (fun _ => True) N W) :
    CallsIn F n Try.prog 52 #[.slice none 0 0, .func (.func gf) #[] lb] w fun e W' => ∃ v ys, e = .returned v ∧ S ys ∧ W'.ownsRow w.heap.size 31 32 v ys.length (ys.flatMap encId) ∧ Below w.heap.size w W' := by
  have h1 : 1 ≤ n := by omega
  obtain ⟨i0, hi, hz0, hz1, hz2⟩ := info_parts info_id
  refine callsIn_of_wp_marks Try.func52 rfl h3 ?_ hro
  simp only [Try.ntmps52, List.size_toArray, List.length_cons, List.length_nil, Nat.reduceAdd, Nat.reduceSub, Array.replicate_succ, Array.replicate_zero, List.push_toArray, List.append_toArray, List.nil_append, List.cons_append]
  gi_wp2
  have bO := Boxed.new w 55 (.slice none 0 0)
  have hB0 : Below w.heap.size w (w.alloc (.cells #[.slice none 0 0] 55)) := (Below.refl _ w).alloc (Nat.le_refl _) _
  have hIown : OwnFrom (w.alloc (.cells #[.slice none 0 0] 55)).heap.size (fun (pre : List Id32) W => (∃ v, Boxed W w.heap.size 55 v ∧ W.ownsRow w.heap.size 31 32 v pre.length (pre.flatMap encId) ∧ True) ∧ Below w.heap.size w W) :=
    OwnFrom.and (Own.from (holdsRow_own w.heap.size w.heap.size 55 31 32 (fun pre : List Id32 => pre.length) (fun pre => pre.flatMap encId) (fun _ _ => True)) _) (ownFrom_below (Nat.le_refl _) (by simp))
  refine wpIn_rangeFunc_ownH hro h1 (gf := gf) (lb := lb) rfl h5 eg (hst _ hB0) walksK_t (fun W l o o' hl h hc hw => walksK_b (w := w.alloc (.cells #[.slice none 0 0] 55)) W l o o' hl h hc hw) (Below.refl _ _) (fun _ => rfl)
    (fun pre W => (∃ v, Boxed W w.heap.size 55 v ∧ W.ownsRow w.heap.size 31 32 v pre.length (pre.flatMap encId) ∧ True) ∧ Below w.heap.size w W)
    (fun _ _ _ => False) hIown (fun _ _ _ _ _ hs _ _ => hs)
    ⟨⟨_, bO, World.ownsRow_nil _ _ _ _, trivial⟩, hB0⟩
    (LoopVar w.heap.size (.func (.func gf) #[] lb)) (fun x a' => loopVar_own _ _ _ x a') ?assign ?body ?done ?stop
  case assign =>
    intro l pre x W K hI hK
    gi_wp2_with (first | (refine wpListIn_store_new rfl 31 (.tmp 5) (.tmp 7) rfl _ (encId x).toArray rfl rfl (sizei x.1) (by simp [encId_len]) (all_oneCell_toArray (encId_one x)) ?_) | gi_in)
    exact hK _ _ ((KeepsOthers.alloc W _).from _) (KeepsWalks.alloc W _) (hIown.alloc _ hI) ⟨W.heap.size, rfl, heap_at _ _⟩
  case body =>
    rintro l pre x a' W _ _ ⟨⟨v, hv, hrow, _⟩, hB⟩ ⟨V, rfl, hV⟩ hlt
    have hcv := hv.cell
    have hzc : (Value.agg (idCells []).toArray).cells.size = 32 := by simp [Value.cells, idCells_len]
    gi_wp2_with (first
      | (refine wpListIn_load_agg rfl 31 (.tmp 5) rfl V 0 rfl (encId x).toArray _ (lies_block hV) Try.underlying31 rfl (sizei x.1) ?_)
      | (refine wpListIn_row_one rfl 55 31 (.tmp 9) rfl (encId x).toArray rfl 32 i0 _ Try.underlying55 hi hz0 hz1 (by decide) (by simp [encId_len]) (by decide) ?_)
      | (gi_at_builtin; refine wpListIn_append_own _ rfl _ _ 55 rfl w.heap.size 31 i0 (.agg (idCells []).toArray) 32 32 Try.underlying55 hi hz0 hz1 hz2 hzc (by decide) _ _ _ rfl (hrow.alloc _) ⟨W.heap.size, 0, none⟩ 1 1 (encId x) rfl (by rw [encId_len]) (news_id W x) (encId_one x) (by unfold maxLen; omega) (by omega) (by have := hB.size; simp; omega) ?_; intro v' w1 hown' hgrow _; obtain ⟨g', cap', rfl⟩ := ownsRow_succ hown'; obtain ⟨hv1, hv2, hr2, hk2, hb2⟩ := hv.appended (by decide) hrow hB.size (Nat.le_refl _) hown' hgrow; have hc1 := hv1.cell; have hf1 := hv1.frozen))
    have hkw : KeepsWalks W (w1.setCell ⟨w.heap.size, 0, none⟩ (.slice (some ⟨g', 0, none⟩) (pre.length + 1) cap')) := ⟨hk2.size, fun k o h ho => hk2.same k o h (by cases o <;> first | rfl | cases ho)⟩
    have hr3 : (w1.setCell ⟨w.heap.size, 0, none⟩ (.slice (some ⟨g', 0, none⟩) (pre.length + 1) cap')).ownsRow w.heap.size 31 32 (.slice (some ⟨g', 0, none⟩) (pre.length + 1) cap') (pre ++ [x]).length ((pre ++ [x]).flatMap encId) := by
      rw [List.length_append, List.flatMap_append]
      simpa using hr2
    first | exact ⟨hk2.from _, hkw, ⟨_, hv2, hr3⟩, hB.trans hb2⟩ | exact ⟨hk2.from _, hkw, ⟨_, hv2, hr3, trivial⟩, hB.trans hb2⟩
  case done =>
    rintro D ys W hD hS ⟨⟨v, hv, hrow, _⟩, hB⟩ hK
    have hcv := hv.cell
    gi_wp2
    refine ⟨by simp, .inl ⟨_, _, rfl, run_takeDeferred hK, ?_⟩⟩
    exact ⟨_, results_tmp rfl _ _ _, v, ys, rfl, hS, ownsRow_putObj hrow _ hK rfl, hB.trans (belowK_b (w := w) (Nat.le_refl _) W D _ _ (by simp at hD; omega) hK rfl rfl)⟩
  case stop =>
    rintro D c pre W _ _ h _
    exact h.elim
theorem collect_ids {gf : Nat} {lb : Array Value} (eg : ∀ args w, (callFunc gf args).run Try.prog w = .ok (.enter gf args) w) (S : List Id32 → Prop) (N : Nat) (hN : N ≤ 1000000) (w : World)
    (hst : ∀ W, Below w.heap.size w W → SeqStopsK Fence.wide 2 Try.prog gf lb (fun x : Id32 => #[keyI x]) KeepsWalks S (fun _ => True) N W) :
    Calls Try.prog 47 #[.func (.func gf) #[] lb] w fun e W' => ∃ v ys, e = .returned v ∧ S ys ∧ W'.ownsRow w.heap.size 31 32 v ys.length (ys.flatMap encId) ∧ Below w.heap.size w W' := by
  have C := Lib.hid (callsIn_wide.1 (appendSeq_ids Fence.wide 3 trivial trivial rfl (by omega) eg S N hN w hst))
  clear hst
  go_enter Try.func47, Try.ntmps47
  go_wp2_with fail
  refine C.out.mono ?_
  rintro e w' ⟨v, ys, rfl, hS, h1, h2⟩
  have H1 := Lib.hid h1
  have H2 := Lib.hid h2
  have HS := Lib.hid hS
  clear h1 h2 hS
  go_wp2
  go_ret
  exact ⟨v, ys, rfl, HS.out, H1.out, H2.out⟩
/-- Sorted, whatever the order in which they came. -/
theorem sortIds_perm {a b : List Id32} (h : a.Perm b) : sortIds a = sortIds b := by
  have t : ∀ x y z : Id32, (!(ltOf cfId) y x) = true → (!(ltOf cfId) z y) = true → (!(ltOf cfId) z x) = true := fun x y z h1 h2 => by
    have a1 : ltOf cfId y x = false := by simpa using h1
    have a2 : ltOf cfId z y = false := by simpa using h2
    rw [swoId.ntrans z y x a2 a1]
    rfl
  have c : ∀ x y : Id32, ((!(ltOf cfId) y x) || (!(ltOf cfId) x y)) = true := fun x y => by
    cases h1 : ltOf cfId y x
    · rfl
    · cases h2 : ltOf cfId x y
      · rfl
      · have := swoId.trans _ _ _ h1 h2
        rw [swoId.irrefl] at this
        cases this
  unfold sortIds
  refine ((List.mergeSort_perm a _).trans (h.trans (List.mergeSort_perm b _).symm)).eq_of_pairwise ?_ (List.pairwise_mergeSort t c a) (List.pairwise_mergeSort t c b)
  intro x y _ _ h1 h2
  exact totId x y (by simpa using h2) (by simpa using h1)
theorem sorted_ids {gf : Nat} {lb : Array Value} (eg : ∀ args w, (callFunc gf args).run Try.prog w = .ok (.enter gf args) w) (ks : List Id32) (N : Nat) (hN : N ≤ 1000000) (hks : ks.length ≤ 1000000) (w : World)
    (hst : ∀ W, Below w.heap.size w W → SeqStopsK Fence.wide 2 Try.prog gf lb (fun x : Id32 => #[keyI x]) KeepsWalks (fun ys => ys.Perm ks) (fun _ => True) N W) :
    Calls Try.prog 38 #[.func (.func gf) #[] lb, .func (.func 29) #[] #[]] w fun e W' => ∃ v, e = .returned v ∧ W'.ownsRow w.heap.size 31 32 v (sortIds ks).length ((sortIds ks).flatMap encId) ∧ Below w.heap.size w W' := by
  have C := Lib.hid (collect_ids eg _ N hN w hst)
  clear hst
  go_enter Try.func38, Try.ntmps38
  go_wp2_with fail
  refine C.out.mono ?_
  rintro e w1 ⟨v, ys, rfl, hS, h1, h2⟩
  have SO := Lib.hid (sort_ids h1 (by rw [hS.length_eq]; omega))
  have H1 := Lib.hid h1
  have H2 := Lib.hid h2
  have PE := Lib.hid (sortIds_perm hS)
  clear h1 h2 hS C
  go_wp2_with fail
  refine SO.out.mono ?_
  rintro e w2 ⟨rfl, h3, g3⟩
  have H3 := Lib.hid h3
  have B3 := Lib.hid (H2.out.grown g3 H2.out.size (fun k hk => (own_row H1.out hk).1))
  clear h3 g3 SO
  go_wp2
  go_ret
  exact ⟨v, rfl, by rw [← PE.out]; exact H3.out, B3.out⟩
theorem sorted_pl {β : Type} {eV : β → Value} {w : World} {Bm m : Nat} {ml : List (Id32 × β)} (hBm : Bm < w.heap.size) (hc : w.cell? ⟨Bm, 0, none⟩ = some (.map (some m))) (hm : IdMap eV w m ml) (hl : ml.length ≤ 1000000) :
    Calls Try.prog 38 #[.func (.func 50) #[] #[.pointer (some ⟨Bm, 0, none⟩)], .func (.func 29) #[] #[]] w fun e W' => ∃ v, e = .returned v ∧ W'.ownsRow w.heap.size 31 32 v (sortIds (ml.map Prod.fst)).length ((sortIds (ml.map Prod.fst)).flatMap encId) ∧ Below w.heap.size w W' :=
  sorted_ids (fun _ _ => by kernel_rfl) (ml.map Prod.fst) ml.length hl (by simpa using hl) w (fun W hW => stops_pl Fence.wide 2 trivial rfl (by omega) Bm m ml W (Nat.lt_of_lt_of_le hBm hW.size) ((hW.cell (p := ⟨Bm, 0, none⟩) hBm).trans hc) (hm.of_block (hW.block m hm.lt)))
theorem sorted_int {β : Type} {eV : β → Value} {w : World} {Bm m : Nat} {ml : List (Id32 × β)} (hBm : Bm < w.heap.size) (hc : w.cell? ⟨Bm, 0, none⟩ = some (.map (some m))) (hm : IdMap eV w m ml) (hl : ml.length ≤ 1000000) :
    Calls Try.prog 38 #[.func (.func 49) #[] #[.pointer (some ⟨Bm, 0, none⟩)], .func (.func 29) #[] #[]] w fun e W' => ∃ v, e = .returned v ∧ W'.ownsRow w.heap.size 31 32 v (sortIds (ml.map Prod.fst)).length ((sortIds (ml.map Prod.fst)).flatMap encId) ∧ Below w.heap.size w W' :=
  sorted_ids (fun _ _ => by kernel_rfl) (ml.map Prod.fst) ml.length hl (by simpa using hl) w (fun W hW => stops_int Fence.wide 2 trivial rfl (by omega) Bm m ml W (Nat.lt_of_lt_of_le hBm hW.size) ((hW.cell (p := ⟨Bm, 0, none⟩) hBm).trans hc) (hm.of_block (hW.block m hm.lt)))
end Go.Proofs.Ytgbghjpkdbjdgaa
