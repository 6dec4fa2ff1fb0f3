/- maps.Keys at ids, collected and sorted. -/
import Derived.Test.YtgbghjpkdbjdgaaDd2
import Derived.Test.YtgbghjpkdbjdgaaOwn
import Derived.RangeFuncBox
import Derived.RangeFuncLeaves
import Derived.RangeFuncFrom
import Derived.RangeFuncKeeps
import Derived.Maps.AppendAt
import Derived.Shelf.Abstract
import Derived.WalkKit
import Derived.OwnWalkIn
import Derived.TacticsInMore
import Derived.LoopNIn
import Derived.LoopIn
import Derived.Great.BuildSlice
import Derived.Shelf.AbstractIn
import Derived.Sort.MapsRangeIn
import Derived.RegionIn
import Derived.Sort.LoopGhostIn
namespace Go.Proofs.Ytgbghjpkdbjdgaa
open Go.RowKit Go.Shelf Go.Sort
open Extern.Stop (cell)
attribute [local go_sem] Oper.semAt_some

theorem erase_perm {α : Type} : ∀ {l : List α} {j : Nat} {x : α}, l[j]? = some x → l.Perm (x :: l.eraseIdx j)
  | [], _, _, h => by simp at h
  | y :: r, 0, x, h => by
    have : y = x := by simpa using h
    rw [this]
    exact List.Perm.refl _
  | y :: r, j + 1, x, h => by
    have h' : r[j]? = some x := by simpa using h
    rw [List.eraseIdx_cons_succ]
    exact ((erase_perm h').cons y).trans (List.Perm.swap x y _)
theorem grown_of_below {w w' : World} (h : Below w.heap.size w w') : w.grownBy w' none := ⟨h.os, h.tape, h.output, h.size, fun i hi _ => h.block i hi⟩
section
variable {α β : Type} {F : Fence} {n : Nat} {P : Program} {k : TypeId} {eK : α → Value} {eV : β → Value} {ops : Array Oper} {rest : List Oper} {o : Oper} {a : Act} {w : World} {Q : Exit → Act → World → Prop}
theorem wpListIn_range_is (hg : o.guard = none) (x : Operand) (t : TypeId) (hop : o.op = Op.range t x) (e : TypeId) (ht : P.underlying t = some (.map k e)) (m : Nat) (l : List (α × β)) (hm : a.eval x = .map (some m)) (h : MapIs P k eK eV w m l)
    (hK : ∀ w', RangeIs P k eK eV w' w.heap.size m l l → w.grownBy w' none → w'.heap.size = w.heap.size + 1 → wpListIn F n P ops Q rest (a.put o.dst (.pointer (some ⟨w.heap.size, 0, none⟩))) w') :
    wpListIn F n P ops Q (o :: rest) a w := by
  refine wpListIn_plain hg fun K' hK' => ?_
  obtain ⟨w', hrun, r1, r2, r3⟩ := h.range ht
  unfold Oper.wpIn
  refine ⟨by simp [Oper.about, hop], ?_⟩
  rw [Oper.semAt_plain F _ _ (by rw [hop]; intro c hc'; cases hc')]
  simp [execOp, hop, hm, hrun, Result.andThen]
  exact hK' _ _ (hK w' r1 (grown_of_below r2) r3)
theorem wpListIn_next_is (hg : o.guard = none) (it : Operand) (hop : o.op = Op.next it false) (r m : Nat) (l left : List (α × β)) (hit : a.eval it = .pointer (some ⟨r, 0, none⟩)) (h : RangeIs P k eK eV w r m l left)
    (hDone : left = [] → wpListIn F n P ops Q rest (a.put o.dst (.tuple #[.bool false])) w)
    (hMore : ∀ (j : Nat) (x : α) (v : β) (w' : World), left[j]? = some (x, v) → RangeIs P k eK eV w' r m l (left.eraseIdx j) → w.grownBy w' (some r) → w'.heap.size = w.heap.size → (Instr.entry (.pointer (some ⟨r, 0, none⟩))).run P w' = .ok (.tuple #[eK x, eV v]) w' →
      wpListIn F n P ops Q rest (a.put o.dst (.tuple #[.bool true, eK x, eV v])) w') :
    wpListIn F n P ops Q (o :: rest) a w := by
  refine wpListIn_plain hg fun K' hK' => ?_
  unfold Oper.wpIn
  refine ⟨by simp [Oper.about, hop], ?_⟩
  rw [Oper.semAt_plain F _ _ (by rw [hop]; intro c hc'; cases hc')]
  rcases h.next o.type with ⟨hl, hrun⟩ | ⟨j, p, w', hj, hrun, hrg, hgr, hsz, hen⟩
  · simp [execOp, hop, hit, hrun, Result.andThen]
    exact hK' _ _ (hDone hl)
  · simp [execOp, hop, hit, hrun, Result.andThen]
    exact hK' _ _ (hMore j p.1 p.2 w' hj hrg hgr hsz hen)
theorem wpListIn_load_agg (hg : o.guard = none) (ty : TypeId) (x : Operand) (ho : o.op = .load ty x) (b i : Nat) (hx : a.eval x = .pointer (some ⟨b, i, none⟩)) (C : Array Value) (d : TypeDesc) (hc : Lies w b i C)
    (hu : P.underlying ty = some d) (hd : d.isRow = true) (hi : (P.info? ty).map (·.size) = some C.size) (h : wpListIn F n P ops Q rest (a.put o.dst (.agg C)) w) : wpListIn F n P ops Q (o :: rest) a w := by
  refine wpListIn_plain hg fun K' hK' => ?_
  unfold Oper.wpIn
  refine ⟨by simp [Oper.about, ho], ?_⟩
  rw [Oper.semAt_plain F _ _ (by rw [ho]; intro c hc'; cases hc')]
  unfold execOp
  simp only [ho, hx, Instr.loadAt, Instr.sureAddr, Sem.run_bind, Sem.run_pure, Result.andThen_ok, run_loadVar_mid w b i ty C.toList d hc hu hd (by simpa using hi), Array.toArray_toList]
  exact hK' _ _ h
theorem wpListIn_store_new (hg : o.guard = none) (ty : TypeId) (x y : Operand) (ho : o.op = .store ty x y) (c c' : Array Value) (hx : a.eval x = .pointer (some ⟨w.heap.size, 0, none⟩)) (hy : a.eval y = .agg c')
    (hi : (P.info? ty).map (·.size) = some c'.size) (hs : c.size = c'.size) (h1 : c'.all (·.oneCell') = true) (h : wpListIn F n P ops Q rest (a.put o.dst undef) (w.alloc (.cells c' ty))) : wpListIn F n P ops Q (o :: rest) a (w.alloc (.cells c ty)) := by
  refine wpListIn_plain hg fun K' hK' => ?_
  unfold Oper.wpIn
  refine ⟨by simp [Oper.about, ho], ?_⟩
  rw [Oper.semAt_plain F _ _ (by rw [ho]; intro c hc'; cases hc')]
  unfold execOp
  simp only [ho, hx, hy, run_storeAt_new w ty c c' hi hs h1, Sem.run_bind, Result.andThen_ok, Sem.run_pure]
  exact hK' _ _ h
theorem wpListIn_row_one (hg : o.guard = none) (t e : TypeId) (x : Operand) (ho : o.op = .buildSlice t 1 #[(0, x)]) (C : Array Value) (hx : a.eval x = .agg C) (S : Nat) (ie : TypeInfo) (z : Value) (hu : P.underlying t = some (.slice e)) (hie : P.info? e = some ie) (hz : ie.zero = some z) (hS : ie.size = S) (h0 : 0 < S) (hC : C.size = S) (hsm : S ≤ 16777216)
    (h : wpListIn F n P ops Q rest (a.put o.dst (.slice (some ⟨w.heap.size, 0, none⟩) 1 1)) (w.alloc (.cells C e))) : wpListIn F n P ops Q (o :: rest) a w := by
  refine wpListIn_plain hg fun K' hK' => ?_
  unfold Oper.wpIn
  refine ⟨by simp [Oper.about, ho], ?_⟩
  rw [Oper.semAt_plain F _ _ (by rw [ho]; intro c hc'; cases hc')]
  have h1 := Great.fill_whole h0 [Value.agg C] ((Array.range (1 * S)).map (z.cells[· % z.cells.size]!)) (fun v hv => by rw [List.mem_singleton.1 hv]; exact hC) (by simp)
  have e1 : (([Value.agg C] : List Value).flatMap fun v => v.cells.toList).toArray = C := by simp [Value.cells]
  rw [e1] at h1
  have hr := run_buildSlice (P := P) w t e 1 #[(0, .agg C)] C ie z hu hie hz (by rw [hS]; omega) (by rw [hS]; omega) (by rw [hS]; simpa using h1)
  have hpe : (#[(0, x)] : Array (Nat × Operand)).map (fun (i, y) => (i, a.eval y)) = #[(0, .agg C)] := by simp [hx]
  unfold execOp
  simp only [ho, hpe, Sem.run_bind, hr, Result.andThen_ok]
  exact hK' _ _ h
end
theorem RangeIs.of_walks {α β : Type} {P : Program} {k : TypeId} {eK : α → Value} {eV : β → Value} {w w' : World} {r m : Nat} {l left : List (α × β)} (h : RangeIs P k eK eV w r m l left) (hk : KeepsWalks w w') : RangeIs P k eK eV w' r m l left := by
  obtain ⟨es, clk, seen, h1, h2, rest⟩ := h
  exact ⟨es, clk, seen, hk.same r _ h1 rfl, hk.same m _ h2 rfl, rest⟩
abbrev IdMap {β : Type} (eV : β → Value) (w : World) (m : Nat) (l : List (Id32 × β)) : Prop := MapIs Try.prog 31 keyI eV w m l
set_option maxRecDepth 100000 in
set_option maxHeartbeats 2000000 in
theorem keys1_pl {β : Type} {eV : β → Value} (F : Fence) (n : Nat) (h7 : F.fn 50) (hro : F.round = none) (_hn : 1 ≤ n) (l Bm m : Nat) (ml : List (Id32 × β)) (J Jx : List Id32 → World → Prop)
    (hY : ∀ pre x W, J pre W → pre.length < ml.length → YieldAt F (n - 1) Try.prog l #[keyI x] W fun e W' =>
      (e = .returned (.bool true) ∧ J (pre ++ [x]) W' ∧ KeepsWalks W W') ∨ (e = .returned (.bool false) ∧ Jx (pre ++ [x]) W'))
    (W : World) (hJ : AbidesFrom W.heap.size J) (hBm : W.cell? ⟨Bm, 0, none⟩ = some (.map (some m))) (hmap : IdMap eV W m ml) (h0 : J [] W) :
    CallsIn F n Try.prog 50 #[.func (.yield l) #[] #[], .pointer (some ⟨Bm, 0, none⟩)] W fun e W' => (∃ v, e = .returned v) ∧
      ((∃ ys, ys.Perm (ml.map Prod.fst) ∧ J ys W') ∨ (∃ pre, True ∧ Jx pre W')) := by
  refine callsIn_of_wp Try.func50 rfl h7 ?_ hro
  simp only [Try.ntmps50, List.size_toArray, List.length_cons, List.length_nil, Nat.reduceAdd, Nat.reduceSub, Array.replicate_succ, Array.replicate_zero, List.push_toArray, List.append_toArray, List.nil_append, List.cons_append]
  gi_wp2_with (first
    | (gi_at_range; refine wpListIn_range_is rfl _ 64 rfl 37 Try.underlying64 m ml rfl hmap ?_; intro w0 hrg0 hg0 hs0)
    | gi_in)
  go_frame
  gi_loopg [3] (ml.length + 1) (fun k _ wr => ∃ (left : List (Id32 × β)) (ss : List Id32), k = left.length + 1 ∧ RangeIs Try.prog 31 keyI eV wr W.heap.size m ml left ∧ (ss ++ left.map Prod.fst).Perm (ml.map Prod.fst) ∧ J ss wr)
  case atStart => exact ⟨ml, [], rfl, hrg0, by simp, hJ [] W w0 none h0 hg0 (fun r e => by cases e)⟩
  case round =>
    obtain ⟨left, ss, hk, hrg, hpm, hJs⟩ := hrel
    have HK := Lib.hid hk
    have PM := Lib.hid hpm
    clear hk hpm hmap hrg0 hg0 hs0 h0 hBm
    gi_wp2_with (first
      | (gi_at_next; refine wpListIn_next_is rfl _ rfl W.heap.size m ml left rfl hrg ?_ ?_)
      | gi_in)
    · intro hl
      subst hl
      gi_wp2
      go_end0
      exact ⟨⟨_, rfl⟩, .inl ⟨ss, by simpa using PM.out, hJs⟩⟩
    · intro j x0 hx0 v w2 hj hrg2 hg2 hs2 hen
      obtain ⟨x, hx⟩ : ∃ x : Id32, x = ⟨x0, hx0⟩ := ⟨_, rfl⟩
      rw [← hx] at hj hen ⊢
      clear hx hx0
      have hJ2 : J ss w2 := hJ ss wr w2 (some W.heap.size) hJs hg2 (fun r e => by
        cases e
        obtain ⟨es, clk, seen, h1, _⟩ := hrg
        exact ⟨Nat.le_refl _, _, h1, rfl⟩)
      have hlen : ss.length < ml.length := by
        have h1 := PM.out.length_eq
        have h2 := (List.getElem?_eq_some_iff.1 hj).1
        simp only [List.length_append, List.length_map] at h1
        omega
      have PM2 : Hid (((ss ++ [x]) ++ (left.eraseIdx j).map Prod.fst).Perm (ml.map Prod.fst)) := Lib.hid (by
        refine List.Perm.trans ?_ PM.out
        rw [List.append_assoc]
        refine List.Perm.append_left _ ?_
        exact ((erase_perm hj).map Prod.fst).symm)
      have hJ3 : J ss (w2.alloc (.cells (encId x).toArray 31)) := hJ ss w2 _ none hJ2 (World.grownBy_alloc _ _ none) (fun r e => by cases e)
      obtain ⟨fn, tmps, assign, body, hy, hR⟩ := hY ss x _ hJ3 hlen
      have LE : Hid ((left.eraseIdx j).length + 1 < left.length + 1) := Lib.hid (by
        have := (List.getElem?_eq_some_iff.1 hj).1
        rw [List.length_eraseIdx, if_pos this]
        omega)
      clear hj hs2 hJ2 hJ3 hrg
      gi_wp2_with (first | (refine wpListIn_store_new rfl 31 (.tmp 3) (.tmp 9) rfl _ (encId x).toArray rfl rfl (sizei x.1) (by simp [encId_len]) (all_oneCell_toArray (encId_one x)) ?_) | (refine wpListIn_load_agg rfl 31 (.tmp 3) rfl w2.heap.size 0 rfl (encId x).toArray _ (lies_block (heap_at _ _)) Try.underlying31 rfl (sizei x.1) ?_) | gi_in)
      refine hR.mono ?_
      rintro e W3 (⟨rfl, hJ4, hk3⟩ | ⟨rfl, hJx⟩)
      · have hrg3 := (hrg2.alloc (.cells (encId x).toArray 31)).of_walks hk3
        have RG := Lib.hid hrg3
        have J4 := Lib.hid hJ4
        clear hrg2 hrg3 hJ4 hk3 hen hy hR
        gi_wp2
        go_roundg ((left.eraseIdx j).length + 1)
        case measure => rw [HK.out]; exact LE.out
        case rel => exact ⟨_, ss ++ [x], rfl, RG.out, PM2.out, J4.out⟩
      · clear hen hy hR
        gi_wp2
        refine bodyPost_ret (results_none rfl _ _ _) rfl ?_
        exact ⟨⟨_, rfl⟩, .inr ⟨_, trivial, hJx⟩⟩
/-- maps.Keys(m): the map is boxed; the function value captures the box. -/
theorem keysOf_pl (mb : Option Nat) (w : World) :
    Calls Try.prog 40 #[.map mb] w fun e w' => e = .returned (.func (.func 50) #[] #[.pointer (some ⟨w.heap.size, 0, none⟩)]) ∧ w' = w.alloc (.cells #[.map mb] 64) := by
  go_enter Try.func40, Try.ntmps40
  go_wp2
  go_ret
  exact ⟨rfl, rfl⟩
theorem stops_pl {β : Type} {eV : β → Value} (F : Fence) (n : Nat) (h7 : F.fn 50) (hro : F.round = none) (hn : 1 ≤ n) (Bm m : Nat) (ml : List (Id32 × β)) (w : World) (hBs : Bm < w.heap.size)
    (hc : w.cell? ⟨Bm, 0, none⟩ = some (.map (some m))) (hm : IdMap eV w m ml) :
    SeqStopsK F n Try.prog 50 #[.pointer (some ⟨Bm, 0, none⟩)] (fun x : Id32 => #[keyI x]) KeepsWalks (fun ys => ys.Perm (ml.map Prod.fst)) (fun _ => True) ml.length w := fun l J Jx W hW hJ _ hY h0 =>
  keys1_pl F n h7 hro hn l Bm m ml J Jx hY W hJ ((hW.cell (p := ⟨Bm, 0, none⟩) hBs).trans hc) (hm.of_block (hW.block m hm.lt)) h0
set_option maxRecDepth 100000 in
set_option maxHeartbeats 2000000 in
theorem keys1_int {β : Type} {eV : β → Value} (F : Fence) (n : Nat) (h7 : F.fn 49) (hro : F.round = none) (_hn : 1 ≤ n) (l Bm m : Nat) (ml : List (Id32 × β)) (J Jx : List Id32 → World → Prop)
    (hY : ∀ pre x W, J pre W → pre.length < ml.length → YieldAt F (n - 1) Try.prog l #[keyI x] W fun e W' =>
      (e = .returned (.bool true) ∧ J (pre ++ [x]) W' ∧ KeepsWalks W W') ∨ (e = .returned (.bool false) ∧ Jx (pre ++ [x]) W'))
    (W : World) (hJ : AbidesFrom W.heap.size J) (hBm : W.cell? ⟨Bm, 0, none⟩ = some (.map (some m))) (hmap : IdMap eV W m ml) (h0 : J [] W) :
    CallsIn F n Try.prog 49 #[.func (.yield l) #[] #[], .pointer (some ⟨Bm, 0, none⟩)] W fun e W' => (∃ v, e = .returned v) ∧
      ((∃ ys, ys.Perm (ml.map Prod.fst) ∧ J ys W') ∨ (∃ pre, True ∧ Jx pre W')) := by
  refine callsIn_of_wp Try.func49 rfl h7 ?_ hro
  simp only [Try.ntmps49, List.size_toArray, List.length_cons, List.length_nil, Nat.reduceAdd, Nat.reduceSub, Array.replicate_succ, Array.replicate_zero, List.push_toArray, List.append_toArray, List.nil_append, List.cons_append]
  gi_wp2_with (first
    | (gi_at_range; refine wpListIn_range_is rfl _ 88 rfl 3 Try.underlying88 m ml rfl hmap ?_; intro w0 hrg0 hg0 hs0)
    | gi_in)
  go_frame
  gi_loopg [3] (ml.length + 1) (fun k _ wr => ∃ (left : List (Id32 × β)) (ss : List Id32), k = left.length + 1 ∧ RangeIs Try.prog 31 keyI eV wr W.heap.size m ml left ∧ (ss ++ left.map Prod.fst).Perm (ml.map Prod.fst) ∧ J ss wr)
  case atStart => exact ⟨ml, [], rfl, hrg0, by simp, hJ [] W w0 none h0 hg0 (fun r e => by cases e)⟩
  case round =>
    obtain ⟨left, ss, hk, hrg, hpm, hJs⟩ := hrel
    have HK := Lib.hid hk
    have PM := Lib.hid hpm
    clear hk hpm hmap hrg0 hg0 hs0 h0 hBm
    gi_wp2_with (first
      | (gi_at_next; refine wpListIn_next_is rfl _ rfl W.heap.size m ml left rfl hrg ?_ ?_)
      | gi_in)
    · intro hl
      subst hl
      gi_wp2
      go_end0
      exact ⟨⟨_, rfl⟩, .inl ⟨ss, by simpa using PM.out, hJs⟩⟩
    · intro j x0 hx0 v w2 hj hrg2 hg2 hs2 hen
      obtain ⟨x, hx⟩ : ∃ x : Id32, x = ⟨x0, hx0⟩ := ⟨_, rfl⟩
      rw [← hx] at hj hen ⊢
      clear hx hx0
      have hJ2 : J ss w2 := hJ ss wr w2 (some W.heap.size) hJs hg2 (fun r e => by
        cases e
        obtain ⟨es, clk, seen, h1, _⟩ := hrg
        exact ⟨Nat.le_refl _, _, h1, rfl⟩)
      have hlen : ss.length < ml.length := by
        have h1 := PM.out.length_eq
        have h2 := (List.getElem?_eq_some_iff.1 hj).1
        simp only [List.length_append, List.length_map] at h1
        omega
      have PM2 : Hid (((ss ++ [x]) ++ (left.eraseIdx j).map Prod.fst).Perm (ml.map Prod.fst)) := Lib.hid (by
        refine List.Perm.trans ?_ PM.out
        rw [List.append_assoc]
        refine List.Perm.append_left _ ?_
        exact ((erase_perm hj).map Prod.fst).symm)
      have hJ3 : J ss (w2.alloc (.cells (encId x).toArray 31)) := hJ ss w2 _ none hJ2 (World.grownBy_alloc _ _ none) (fun r e => by cases e)
      obtain ⟨fn, tmps, assign, body, hy, hR⟩ := hY ss x _ hJ3 hlen
      have LE : Hid ((left.eraseIdx j).length + 1 < left.length + 1) := Lib.hid (by
        have := (List.getElem?_eq_some_iff.1 hj).1
        rw [List.length_eraseIdx, if_pos this]
        omega)
      clear hj hs2 hJ2 hJ3 hrg
      gi_wp2_with (first | (refine wpListIn_store_new rfl 31 (.tmp 3) (.tmp 9) rfl _ (encId x).toArray rfl rfl (sizei x.1) (by simp [encId_len]) (all_oneCell_toArray (encId_one x)) ?_) | (refine wpListIn_load_agg rfl 31 (.tmp 3) rfl w2.heap.size 0 rfl (encId x).toArray _ (lies_block (heap_at _ _)) Try.underlying31 rfl (sizei x.1) ?_) | gi_in)
      refine hR.mono ?_
      rintro e W3 (⟨rfl, hJ4, hk3⟩ | ⟨rfl, hJx⟩)
      · have hrg3 := (hrg2.alloc (.cells (encId x).toArray 31)).of_walks hk3
        have RG := Lib.hid hrg3
        have J4 := Lib.hid hJ4
        clear hrg2 hrg3 hJ4 hk3 hen hy hR
        gi_wp2
        go_roundg ((left.eraseIdx j).length + 1)
        case measure => rw [HK.out]; exact LE.out
        case rel => exact ⟨_, ss ++ [x], rfl, RG.out, PM2.out, J4.out⟩
      · clear hen hy hR
        gi_wp2
        refine bodyPost_ret (results_none rfl _ _ _) rfl ?_
        exact ⟨⟨_, rfl⟩, .inr ⟨_, trivial, hJx⟩⟩
/-- maps.Keys(m): the map is boxed; the function value captures the box. -/
theorem keysOf_int (mb : Option Nat) (w : World) :
    Calls Try.prog 39 #[.map mb] w fun e w' => e = .returned (.func (.func 49) #[] #[.pointer (some ⟨w.heap.size, 0, none⟩)]) ∧ w' = w.alloc (.cells #[.map mb] 88) := by
  go_enter Try.func39, Try.ntmps39
  go_wp2
  go_ret
  exact ⟨rfl, rfl⟩
theorem stops_int {β : Type} {eV : β → Value} (F : Fence) (n : Nat) (h7 : F.fn 49) (hro : F.round = none) (hn : 1 ≤ n) (Bm m : Nat) (ml : List (Id32 × β)) (w : World) (hBs : Bm < w.heap.size)
    (hc : w.cell? ⟨Bm, 0, none⟩ = some (.map (some m))) (hm : IdMap eV w m ml) :
    SeqStopsK F n Try.prog 49 #[.pointer (some ⟨Bm, 0, none⟩)] (fun x : Id32 => #[keyI x]) KeepsWalks (fun ys => ys.Perm (ml.map Prod.fst)) (fun _ => True) ml.length w := fun l J Jx W hW hJ _ hY h0 =>
  keys1_int F n h7 hro hn l Bm m ml J Jx hY W hJ ((hW.cell (p := ⟨Bm, 0, none⟩) hBs).trans hc) (hm.of_block (hW.block m hm.lt)) h0
end Go.Proofs.Ytgbghjpkdbjdgaa
