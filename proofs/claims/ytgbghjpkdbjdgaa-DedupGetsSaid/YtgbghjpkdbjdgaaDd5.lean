/- The index: New, Add, Find, Ids. -/
import Derived.Test.YtgbghjpkdbjdgaaDd4
import Derived.StillTailTactics
namespace Go.Proofs.Ytgbghjpkdbjdgaa
open Go.RowKit
open Extern.Stop (cell)

/-- An index at x whose map lies at M reads as l. -/
structure IxIs (w : World) (x M : Nat) (l : List (Id32 × Pl)) : Prop where
  box : w.heap[x]? = some (.cells #[.map (some M)] 66 (0, 0))
  map : IdMap plv w M l
section
variable {w w' : World} {x M : Nat} {l : List (Id32 × Pl)}
theorem IxIs.ne (h : IxIs w x M l) : x ≠ M := by
  rintro rfl
  obtain ⟨es, clk, h1, _⟩ := h.map
  have := h.box
  rw [h1] at this
  cases this
theorem IxIs.later (h : IxIs w x M l) (hb : Below w.heap.size w w') : IxIs w' x M l :=
  ⟨(hb.block x (Array.getElem?_eq_some_iff.1 h.box).1).trans h.box, h.map.of_block (hb.block M h.map.lt)⟩
theorem IxIs.turn (h : IxIs w x M l) {l' : List (Id32 × Pl)} (hg : w.grownBy w' (some M)) (hm : IdMap plv w' M l') : IxIs w' x M l' :=
  ⟨(hg.block x (Array.getElem?_eq_some_iff.1 h.box).1 (fun e => h.ne (Option.some.inj e))).trans h.box, hm⟩
end
theorem wpStill_lookup {P : Program} {w : World} {ops : Array Oper} {rest : List Oper} {o : Oper} {a : Act} {Q : Act → Prop} (hw : Region.wanted o (yielded ops a.tmps) = true) (t : TypeId) (m x : Operand) (c : Bool) (ho : o.op = .lookup t m x c) (mv xv v : Value) (hm : a.eval m = mv) (hx : a.eval x = xv) (hr : (Instr.lookup t mv xv c).run P w = .ok v w)
    (h : wpStill P ops w Q rest (a.put o.dst v)) : wpStill P ops w Q (o :: rest) a := by
  refine wpStill_value hw ?_ h
  unfold execOp
  simp only [ho, hm, hx, Sem.run_bind, hr, Result.andThen_ok, Sem.run_pure]
theorem yieldsIf_lookup {P : Program} {ops : Array Oper} {S : World → Prop} {op : Oper} {a : Act} (hw : Region.wanted op (yielded ops a.tmps) = true) (t : TypeId) (m x : Operand) (c : Bool) (ho : op.op = .lookup t m x c) (mv xv v : Value) (hm : a.eval m = mv) (hx : a.eval x = xv) (hr : ∀ w, S w → (Instr.lookup t mv xv c).run P w = .ok v w) : YieldsIf P ops S op v a :=
  .inl ⟨hw, fun w hw' => by
    unfold execOp
    simp only [ho, hm, hx, Sem.run_bind, hr w hw', Result.andThen_ok, Sem.run_pure]⟩
theorem step_store_new {P : Program} {W' : World} {ops : Array Oper} {o : Oper} {a : Act} {K : Act → World → Prop} {Q : Exit → Act → World → Prop} {E : Prop} (hg : o.guard = none) (ty : TypeId) (x y : Operand) (ho : o.op = .store ty x y) (w : World) (c c' : Array Value) (hW : W' = w.alloc (.cells c ty)) (hx : a.eval x = .pointer (some ⟨w.heap.size, 0, none⟩)) (hy : a.eval y = .agg c')
    (hi : (P.info? ty).map (·.size) = some c'.size) (hs : c.size = c'.size) (h1 : c'.all (·.oneCell') = true) (h : K (a.put o.dst undef) (w.alloc (.cells c' ty))) : if Region.wanted o (yielded ops a.tmps) = true then Oper.wp P o a W' K Q else E := by
  subst hW
  have hw : Region.wanted o (yielded ops a.tmps) = true := by simp [Region.wanted, hg]
  rw [if_pos hw]
  exact wp_store_new ty x y ho c c' hx hy hi hs h1 h
theorem step_mapput {α β : Type} [DecidableEq α] {P : Program} {w : World} {ops : Array Oper} {o : Oper} {a : Act} {K' : Act → World → Prop} {Q : Exit → Act → World → Prop} {E : Prop} (hg : o.guard = none) (m x v : Operand) (t : TypeId) (hop : o.op = Op.mapUpdate t m x v)
    (k e : TypeId) (K : Maps.Keyed P k) (ht : P.underlying t = some (.map k e)) (eK : α → Value) (eV : β → Value) (inj : ∀ x y, eK x = eK y → x = y) (b : Nat) (l : List (α × β)) (h : MapIs P k eK eV w b l)
    (hm : a.eval m = .map (some b)) (key : α) (val : β) (kl : Lit) (hx : a.eval x = eK key) (hv : a.eval v = eV val) (hkey : keyOf P k (eK key) = some kl)
    (hK : ∀ w', MapIs P k eK eV w' b (aput l key val) → w.grownBy w' (some b) → w'.heap.size = w.heap.size → K' (a.put o.dst undef) w') : if Region.wanted o (yielded ops a.tmps) = true then Oper.wp P o a w K' Q else E := by
  have hw : Region.wanted o (yielded ops a.tmps) = true := by simp [Region.wanted, hg]
  rw [if_pos hw]
  obtain ⟨w', hrun, r1, r2, r3⟩ := h.store K inj ht val hkey
  unfold Oper.wp
  simp [execOp, hop, hm, hx, hv, hrun, Result.andThen]
  exact hK w' r1 r2 r3
theorem idmap_below {β : Type} {eV : β → Value} {w w' : World} {M : Nat} {l : List (Id32 × β)} (h : IdMap eV w M l) (hb : Below w.heap.size w w') : IdMap eV w' M l := h.of_block (hb.block M h.lt)
def zid : Id32 := ⟨List.replicate 32 0, by simp⟩
def zpl : Pl := ⟨zid, 0⟩
theorem lies_range {w : World} {b i : Nat} {l : List Value} (h : Lies w b i l.toArray) : w.rangeAt b i l := fun j v hj => h j v (by simpa using hj)
theorem zero_pl (w : World) : (zeroValue 37).run Try.prog w = .ok (plv zpl) w := by kernel_rfl
theorem look_pl {w : World} {M : Nat} {l : List (Id32 × Pl)} (h : IdMap plv w M l) (id : Id32) :
    (Instr.lookup 64 (.map (some M)) (keyI id) true).run Try.prog w = .ok (.tuple #[plv ((aget l id).getD zpl), .bool (aget l id).isSome]) w := by
  obtain ⟨kl, hkl⟩ := keyI_ok id
  cases hg : aget l id with
  | none => exact h.look_none keyed_id keyI_inj Try.underlying64 (zero_pl w) true hkl hg
  | some v => exact h.look_some keyed_id keyI_inj Try.underlying64 true hkl hg
set_option maxHeartbeats 1000000 in
theorem new_any (w : World) : Calls Try.prog 9 #[] w fun e w' => ∃ x M, e = .returned (.pointer (some ⟨x, 0, none⟩)) ∧ IxIs w' x M [] ∧ w.heap.size ≤ x ∧ w.heap.size ≤ M ∧ Below w.heap.size w w' := by
  have hmm := @run_makeMap Try.prog
  go_enter Try.func9, Try.ntmps9
  go_wp2
  go_ret
  refine ⟨w.heap.size + 1, w.heap.size, rfl, ⟨?_, (MapIs.made w Try.prog 31 keyI plv).alloc _⟩, Nat.le_succ _, Nat.le_refl _, below_alloc (below_alloc (Below.refl _ _) _) _⟩
  have := heap_at (w.alloc (.map #[] 0)) (.cells #[.map (some w.heap.size)] 66)
  simpa using this
/-- May it be added? -/
def addB (l : List (Id32 × Pl)) (id : Id32) (p : Pl) : Bool := decide (0 ≤ p.n) && decide (p.n ≤ 1023) && !(aget l id).isSome
/-- What it holds behind Add. -/
def addL (l : List (Id32 × Pl)) (id : Id32) (p : Pl) : List (Id32 × Pl) := if addB l id p then aput l id p else l
theorem pl_n {w : World} {b : Nat} {p : Pl} {t : TypeId} {fz : Nat × Nat} (h : w.heap[b]? = some (.cells (plcells p).toArray t fz)) : w.cell? ⟨b, 32, none⟩ = some (.int .i64 p.n) := by
  rw [cell_of_row w b 32 _ t fz h]
  simp [plcells, encId_len]
theorem pl_pack {w : World} {b : Nat} {p : Pl} {t : TypeId} {fz : Nat × Nat} (h : w.heap[b]? = some (.cells (plcells p).toArray t fz)) : Lies w b 0 (encId p.pack).toArray :=
  lies_part h (fun j v hj => by
    rw [Nat.zero_add]
    have hl := (Array.getElem?_eq_some_iff.1 hj).1
    have hj' : (encId p.pack)[j]? = some v := by simpa using hj
    simp only [plcells, List.getElem?_toArray]
    rw [List.getElem?_append_left (by simpa using hl)]
    exact hj')
set_option linter.unusedSimpArgs false in
set_option maxRecDepth 100000 in
set_option maxHeartbeats 4000000 in
theorem add_any {w : World} {x M : Nat} {l : List (Id32 × Pl)} (h : IxIs w x M l) (id : Id32) (p : Pl) :
    Calls Try.prog 13 #[.pointer (some ⟨x, 0, none⟩), keyI id, plv p] w fun e w' => e = .returned (.bool (addB l id p)) ∧ IxIs w' x M (addL l id p) ∧ w.grownBy w' (some M) := by
  have HX := Lib.hid h
  obtain ⟨I, hI⟩ : ∃ I, I = w.heap.size := ⟨_, rfl⟩
  obtain ⟨W, hW⟩ : ∃ W, W = (w.alloc (.cells (encId id).toArray 31)).alloc (.cells (plcells p).toArray 37) := ⟨_, rfl⟩
  have e1 : W.heap[I]? = some (.cells (encId id).toArray 31 (0, 0)) := by rw [hW, hI]; exact heap_up (heap_at _ _)
  have e2 : W.heap[I + 1]? = some (.cells (plcells p).toArray 37 (0, 0)) := by
    rw [hW, hI]
    have := heap_at (w.alloc (.cells (encId id).toArray 31)) (.cells (plcells p).toArray 37)
    simpa using this
  have b0 : Below w.heap.size w W := by rw [hW]; exact below_alloc (below_alloc (Below.refl _ _) _) _
  have hx := h.later b0
  obtain ⟨y0, y1⟩ := blk1 hx.box
  have cn := pl_n e2
  have L1 := Lib.hid (lies_block e1)
  have L2 := Lib.hid (lies_block e2)
  have HW := Lib.hid hx
  have LK := Lib.hid (look_pl hx.map id)
  have G0 := Lib.hid (grown_of_below b0)
  obtain ⟨n, hn⟩ : ∃ n, n = p.n := ⟨_, rfl⟩
  rw [← hn] at cn
  have NN := Lib.hid hn
  have WW := Lib.hid hW
  have II := Lib.hid hI
  have no : addB l id p = false → ∀ w', Below W.heap.size W w' → IxIs w' x M (addL l id p) ∧ w.grownBy w' (some M) := fun hb w' e => by
    have e2 := b0.trans (e.mono b0.size)
    unfold addL
    rw [hb]
    exact ⟨hx.later e, ⟨e2.os, e2.tape, e2.output, e2.size, fun i hi _ => e2.block i hi⟩⟩
  have NO := Lib.hid no
  clear e1 e2 b0 hx hn hI no hW
  go_enter Try.func13, Try.ntmps13
  go_upto_region 1 with fail
  rw [← II.out, ← WW.out]
  by_cases h0 : n < 0
  · have AB : Hid (addB l id p = false) := Lib.hid (by unfold addB; rw [← NN.out, decide_eq_false (by omega)]; rfl)
    have NO2 := Lib.hid (NO.out AB.out W (Below.refl _ _))
    clear NO
    go_wp2
    go_ret
    exact ⟨by first | (rw [AB.out]; done) | simp [AB.out], NO2.out⟩
  by_cases h1 : 1023 < n
  · have AB : Hid (addB l id p = false) := Lib.hid (by unfold addB; rw [← NN.out, decide_eq_false (show ¬ n ≤ 1023 by omega)]; simp)
    have NO2 := Lib.hid (NO.out AB.out W (Below.refl _ _))
    clear NO
    go_wp2
    go_ret
    exact ⟨by first | (rw [AB.out]; done) | simp [AB.out], NO2.out⟩
  obtain ⟨hb, hhb⟩ : ∃ hb, hb = (aget l id).isSome := ⟨_, rfl⟩
  have AB : Hid (addB l id p = !hb) := Lib.hid (by unfold addB; rw [← NN.out, decide_eq_true (show 0 ≤ n by omega), decide_eq_true (show n ≤ 1023 by omega), hhb]; rfl)
  obtain ⟨q, hq⟩ : ∃ q : Pl, q = (aget l id).getD zpl := ⟨_, rfl⟩
  have HHB := Lib.hid hhb
  have QQ := Lib.hid hq
  clear hhb hq LK
  have Y0 := Lib.hid y0
  have LKA : Hid (∀ w', Below W.heap.size W w' → (Instr.lookup 64 (.map (some M)) (keyI id) true).run Try.prog w' = .ok (.tuple #[plv q, .bool hb]) w') := Lib.hid (fun w' hw => by
    have := look_pl (idmap_below HW.out.map hw) id
    rw [← QQ.out, ← HHB.out] at this
    exact this)
  go_wp2_with fail
  refine wp_region_held_drew (S := fun w' => Below W.heap.size W w') (by kernel_rfl) (below_drew (Below.refl _ _)) (fun hHeld => ?_)
  refine wpAnyH_take (i := 0) (v := ?_) rfl (by kernel_rfl) (by kernel_rfl) (by kernel_rfl) (fun _ _ _ h => h) (Or.inl ⟨by kernel_rfl, ?_⟩) (by assumption) ?_
  rotate_left
  · (intro w hSw; (have q9 := cell_below Y0.out hSw; go_simp; try with_reducible rfl))
  try simp only [Act.put, List.getElem_toArray, List.getElem_cons_succ, List.getElem_cons_zero, List.setIfInBounds_toArray, List.set_cons_zero, List.set_cons_succ]
  refine wpAnyH_take (i := 1) (v := ?_) rfl (by kernel_rfl) (by kernel_rfl) (by kernel_rfl) (fun _ _ _ h => h) (Or.inl ⟨by kernel_rfl, ?_⟩) (by assumption) ?_
  rotate_left
  · (intro w hSw; (have q9 := cell_below Y0.out hSw; go_simp; try with_reducible rfl))
  try simp only [Act.put, List.getElem_toArray, List.getElem_cons_succ, List.getElem_cons_zero, List.setIfInBounds_toArray, List.set_cons_zero, List.set_cons_succ]
  refine wpAnyH_take (i := 2) (v := ?_) rfl (by kernel_rfl) (by kernel_rfl) (by kernel_rfl) (fun _ _ _ h => h) (Or.inl ⟨by kernel_rfl, ?_⟩) (by assumption) ?_
  rotate_left
  · (intro w hSw; (have q9 := cell_below Y0.out hSw; go_simp; try with_reducible rfl))
  try simp only [Act.put, List.getElem_toArray, List.getElem_cons_succ, List.getElem_cons_zero, List.setIfInBounds_toArray, List.set_cons_zero, List.set_cons_succ]
  refine wpAnyH_take (i := 3) (v := ?_) rfl (by kernel_rfl) (by kernel_rfl) (by kernel_rfl) (fun _ _ _ h => h) (Or.inl ⟨by kernel_rfl, ?_⟩) (by assumption) ?_
  rotate_left
  · (intro w hSw; (have q9 := cell_below Y0.out hSw; go_simp; try with_reducible rfl))
  try simp only [Act.put, List.getElem_toArray, List.getElem_cons_succ, List.getElem_cons_zero, List.setIfInBounds_toArray, List.set_cons_zero, List.set_cons_succ]
  refine' wpAnyH_take (i := 4) (v := _) rfl (by kernel_rfl) (by kernel_rfl) (by kernel_rfl) (fun _ _ _ h => h) (yieldsIf_load_mid (by kernel_rfl) _ _ rfl _ _ rfl (encId id) _ ?hS4 Try.underlying31 rfl (by rw [size_id, encId_len])) (by assumption) ?rest4
  case hS4 => exact fun w' hw => rangeAt_below (lies_range L1.out) hw
  case rest4 =>
  try simp only [Act.put, List.getElem_toArray, List.getElem_cons_succ, List.getElem_cons_zero, List.setIfInBounds_toArray, List.set_cons_zero, List.set_cons_succ]
  refine' wpAnyH_take (i := 5) (v := _) rfl (by kernel_rfl) (by kernel_rfl) (by kernel_rfl) (fun _ _ _ h => h) (yieldsIf_lookup (by kernel_rfl) 64 (.tmp 25) (.tmp 26) true rfl (.map (some M)) (keyI id) (.tuple #[plv q, .bool hb]) rfl rfl LKA.out) (by assumption) ?_
  try simp only [Act.put, List.getElem_toArray, List.getElem_cons_succ, List.getElem_cons_zero, List.setIfInBounds_toArray, List.set_cons_zero, List.set_cons_succ]
  refine wpAnyH_take (i := 6) (v := ?_) rfl (by kernel_rfl) (by kernel_rfl) (by kernel_rfl) (fun _ _ _ h => h) (Or.inl ⟨by kernel_rfl, ?_⟩) (by assumption) ?_
  rotate_left
  · (intro w hSw; (go_simp; try with_reducible rfl))
  try simp only [Act.put, List.getElem_toArray, List.getElem_cons_succ, List.getElem_cons_zero, List.setIfInBounds_toArray, List.set_cons_zero, List.set_cons_succ]
  refine wpAnyH_take (i := 7) (v := ?_) rfl (by kernel_rfl) (by kernel_rfl) (by kernel_rfl) (fun _ _ _ h => h) (Or.inl ⟨by kernel_rfl, ?_⟩) (by assumption) ?_
  rotate_left
  · (intro w hSw; (go_simp; try with_reducible rfl))
  try simp only [Act.put, List.getElem_toArray, List.getElem_cons_succ, List.getElem_cons_zero, List.setIfInBounds_toArray, List.set_cons_zero, List.set_cons_succ]
  refine wpAnyH_take (i := 8) (v := ?_) rfl (by kernel_rfl) (by kernel_rfl) (by kernel_rfl) (fun _ _ _ h => h) (Or.inl ⟨by kernel_rfl, ?_⟩) (by assumption) ?_
  rotate_left
  · (intro w hSw; (go_simp; try with_reducible rfl))
  try simp only [Act.put, List.getElem_toArray, List.getElem_cons_succ, List.getElem_cons_zero, List.setIfInBounds_toArray, List.set_cons_zero, List.set_cons_succ]
  refine wpAnyH_ready (rs := [9]) (by kernel_rfl) (by simp) (AllReadyH.cons rfl (fun K hK => ?_) AllReadyH.nil)
  go_simp
  refine hK.out _ _ (below_alloc hHeld _) (fun hH => ?_)
  clear hHeld hK
  try simp only [Act.put, List.getElem_toArray, List.getElem_cons_succ, List.getElem_cons_zero, List.setIfInBounds_toArray, List.set_cons_zero, List.set_cons_succ]
  refine wpAnyH_ready (rs := [10]) (by kernel_rfl) (by simp) (AllReadyH.cons rfl (fun K hK => ?_) AllReadyH.nil)
  refine step_store_new rfl 37 (.tmp 7) (.tmp 28) rfl W.drew _ (plcells q).toArray rfl rfl rfl (sizepl q) (by simp [plcells_len]) (all_oneCell_toArray (plcells_one q)) ?_
  have B9 : Below W.heap.size W (W.drew.alloc (.cells (plcells q).toArray 37)) := below_alloc (below_drew (Below.refl _ _)) _
  refine hK.out _ _ B9 (fun hHeld => ?_)
  clear hH hK
  try simp only [Act.put, List.getElem_toArray, List.getElem_cons_succ, List.getElem_cons_zero, List.setIfInBounds_toArray, List.set_cons_zero, List.set_cons_succ]
  refine wpAnyH_ready (rs := [11]) (by kernel_rfl) (by simp) (AllReadyH.cons rfl (fun K hK => ?_) AllReadyH.nil)
  go_simp
  refine hK.out _ _ B9 (fun hH => ?_)
  clear hHeld hK hH
  try simp only [Act.put, List.getElem_toArray, List.getElem_cons_succ, List.getElem_cons_zero, List.setIfInBounds_toArray, List.set_cons_zero, List.set_cons_succ]
  refine wpAnyH_done (by kernel_rfl) ?_ _
  have BB := Lib.hid B9
  clear B9
  cases hb
  · obtain ⟨kl, hkl⟩ := keyI_ok id
    have KL := Lib.hid hkl
    clear hkl
    go_wp2_with fail
    refine wp_named fun w9 hw9 => ?_
    have B9 : Below W.heap.size W w9 := by rw [hw9]; exact BB.out
    have X9 := Lib.hid (HW.out.later B9)
    have yx := cell_below Y0.out B9
    have LI := Lib.hid (rangeAt_below (lies_range L1.out) B9)
    have LP := Lib.hid (rangeAt_below (lies_range L2.out) B9)
    have G9 : Hid (w.grownBy w9 none) := Lib.hid (grown_trans G0.out (by have := grown_of_below B9; exact ⟨this.os, this.tape, this.output, this.size, fun i hi hr => this.block i hi hr⟩))
    clear hw9 B9 BB
    have YX := Lib.hid yx
    clear yx y0 y1 cn
    have hMI : M < I := by rw [II.out]; exact HX.out.map.lt
    have hxM := HX.out.ne
    refine wp_region_held_drew (S := fun w' => w'.cell? ⟨x, 0, none⟩ = some (.map (some M)) ∧ w'.rangeAt I 0 (encId id) ∧ w'.rangeAt (I + 1) 0 (plcells p)) (by kernel_rfl) ⟨(show w9.drew.cell? _ = _ from YX.out), (show w9.drew.rangeAt _ _ _ from LI.out), (show w9.drew.rangeAt _ _ _ from LP.out)⟩ (fun hHeld => ?_)
    refine wpAnyH_take (i := 0) (v := ?_) rfl (by kernel_rfl) (by kernel_rfl) (by kernel_rfl) (fun _ _ _ h => h) (Or.inl ⟨by kernel_rfl, ?_⟩) (by assumption) ?_
    rotate_left
    · (intro w hSw; (have q9 := hSw.1; go_simp; try with_reducible rfl))
    try simp only [Act.put, List.getElem_toArray, List.getElem_cons_succ, List.getElem_cons_zero, List.setIfInBounds_toArray, List.set_cons_zero, List.set_cons_succ]
    refine wpAnyH_take (i := 1) (v := ?_) rfl (by kernel_rfl) (by kernel_rfl) (by kernel_rfl) (fun _ _ _ h => h) (Or.inl ⟨by kernel_rfl, ?_⟩) (by assumption) ?_
    rotate_left
    · (intro w hSw; (have q9 := hSw.1; go_simp; try with_reducible rfl))
    try simp only [Act.put, List.getElem_toArray, List.getElem_cons_succ, List.getElem_cons_zero, List.setIfInBounds_toArray, List.set_cons_zero, List.set_cons_succ]
    refine wpAnyH_take (i := 2) (v := ?_) rfl (by kernel_rfl) (by kernel_rfl) (by kernel_rfl) (fun _ _ _ h => h) (Or.inl ⟨by kernel_rfl, ?_⟩) (by assumption) ?_
    rotate_left
    · (intro w hSw; (have q9 := hSw.1; go_simp; try with_reducible rfl))
    try simp only [Act.put, List.getElem_toArray, List.getElem_cons_succ, List.getElem_cons_zero, List.setIfInBounds_toArray, List.set_cons_zero, List.set_cons_succ]
    refine wpAnyH_take (i := 3) (v := ?_) rfl (by kernel_rfl) (by kernel_rfl) (by kernel_rfl) (fun _ _ _ h => h) (Or.inl ⟨by kernel_rfl, ?_⟩) (by assumption) ?_
    rotate_left
    · (intro w hSw; (have q9 := hSw.1; go_simp; try with_reducible rfl))
    try simp only [Act.put, List.getElem_toArray, List.getElem_cons_succ, List.getElem_cons_zero, List.setIfInBounds_toArray, List.set_cons_zero, List.set_cons_succ]
    refine' wpAnyH_take (i := 4) (v := _) rfl (by kernel_rfl) (by kernel_rfl) (by kernel_rfl) (fun _ _ _ h => h) (yieldsIf_load_mid (by kernel_rfl) _ _ rfl _ _ rfl (encId id) _ ?hS4 Try.underlying31 rfl (by rw [size_id, encId_len])) (by assumption) ?rest4
    case hS4 => exact fun w' hw => hw.2.1
    case rest4 =>
    try simp only [Act.put, List.getElem_toArray, List.getElem_cons_succ, List.getElem_cons_zero, List.setIfInBounds_toArray, List.set_cons_zero, List.set_cons_succ]
    refine' wpAnyH_take (i := 5) (v := _) rfl (by kernel_rfl) (by kernel_rfl) (by kernel_rfl) (fun _ _ _ h => h) (yieldsIf_load_mid (by kernel_rfl) _ _ rfl _ _ rfl (plcells p) _ ?hS5 Try.underlying37 rfl (by rw [size_pl, plcells_len])) (by assumption) ?rest5
    case hS5 => exact fun w' hw => hw.2.2
    case rest5 =>
    try simp only [Act.put, List.getElem_toArray, List.getElem_cons_succ, List.getElem_cons_zero, List.setIfInBounds_toArray, List.set_cons_zero, List.set_cons_succ]
    refine wpAnyH_ready (rs := [6]) (by kernel_rfl) (by simp) (AllReadyH.cons rfl (fun K hK => ?_) AllReadyH.nil)
    refine step_mapput rfl (.tmp 34) (.tmp 35) (.tmp 36) 64 rfl 31 37 keyed_id Try.underlying64 keyI plv keyI_inj M l X9.out.map.drew rfl id p kl rfl rfl KL.out ?_
    intro w10 hm10 hg10 hs10
    have X10 := Lib.hid (IxIs.turn (w := w9.drew) (l := l) (x := x) ⟨X9.out.box, X9.out.map⟩ hg10 hm10)
    have G10 : Hid (w.grownBy w10 (some M)) := Lib.hid (by
      have g1 := G9.out
      exact ⟨hg10.os.trans g1.os, hg10.tape.trans g1.tape, hg10.output.trans g1.output, Nat.le_trans g1.size hg10.size, fun i hi hr => (hg10.block i (Nat.lt_of_lt_of_le hi g1.size) hr).trans (g1.block i hi (by simp))⟩)
    refine hK.out _ _ ⟨(blk1 X10.out.box).1, rangeAt_grown (w := w9.drew) LI.out hg10 (by simp; omega), rangeAt_grown (w := w9.drew) LP.out hg10 (by simp; omega)⟩ (fun hH => ?_)
    clear hHeld hK hH hm10 hg10 hs10
    try simp only [Act.put, List.getElem_toArray, List.getElem_cons_succ, List.getElem_cons_zero, List.setIfInBounds_toArray, List.set_cons_zero, List.set_cons_succ]
    refine wpAnyH_done (by kernel_rfl) ?_ _
    go_wp2
    go_ret
    exact ⟨by first | (rw [AB.out]; rfl) | simp [AB.out], by unfold addL; rw [AB.out]; exact X10.out, G10.out⟩
  · have NO2 := Lib.hid (NO.out AB.out _ BB.out)
    clear NO
    go_wp2
    go_ret
    exact ⟨by rw [AB.out]; rfl, NO2.out⟩
end Go.Proofs.Ytgbghjpkdbjdgaa
