/- Packs and room as the reference has them: modelOf, walked. -/
import Derived.Test.YtpmkgnnpngbfmaaRq3
namespace Go.Proofs.Ytpmkgnnpngbfmaa
open Go.RowKit
open Extern.Stop (cell)

section
variable {P : Program} {ops : Array Oper} {rest : List Oper} {o : Oper} {a : Act} {w : World} {Q : Exit → Act → World → Prop}
theorem wpList_build_of (hg : o.guard = none) (t : TypeId) (parts : Array (Nat × Operand)) (ho : o.op = .build t parts) (l : List (Nat × Value)) (hp : (parts.map fun (i, x) => (i, a.eval x)).toList = l) (cells : Array Value) (hb : P.built t l = some cells)
    (h : wpList P ops Q rest (a.put o.dst (.agg cells)) w) : wpList P ops Q (o :: rest) a w := wpList_build_eq hg t parts ho cells (by rw [hp]; exact hb) h
theorem wpList_row_one (hg : o.guard = none) (t e : TypeId) (x : Operand) (ho : o.op = .buildSlice t 1 #[(0, x)]) (C : Array Value) (hx : a.eval x = .agg C) (S : Nat) (ie : TypeInfo) (z : Value) (hu : P.underlying t = some (.slice e)) (hie : P.info? e = some ie) (hz : ie.zero = some z) (hS : ie.size = S) (h0 : 0 < S) (hC : C.size = S) (hsm : S ≤ 16777216)
    (h : wpList P ops Q rest (a.put o.dst (.slice (some ⟨w.heap.size, 0, none⟩) 1 1)) (w.alloc (.cells C e))) : wpList P ops Q (o :: rest) a w := by
  refine wpList_rows hg t e 1 #[(0, x)] ho [.agg C] S ie z hu hie hz hS h0 rfl (by decide) (by omega) (by simp [Value.cells, hC]) (by simp [hx]) ?_
  have e1 : (([Value.agg C] : List Value).flatMap fun v => v.cells.toList).toArray = C := by simp [Value.cells]
  rw [e1]
  exact h
end
theorem info_rp : (Try.prog.info? 47).map (fun i => (i.zero, i.size, i.bytes)) = some (some (.agg (pcells ⟨[], 0, [], none, 0⟩).toArray), 34, 64) := by kernel_rfl
theorem info_rf : (Try.prog.info? 59).map (fun i => (i.zero, i.size, i.bytes)) = some (some (.agg (fcells (0, 0)).toArray), 2, 16) := by kernel_rfl
theorem info_rm : (Try.prog.info? 40).map (fun i => (i.zero, i.size, i.bytes)) = some (some (.agg (mcells ⟨[], 0⟩).toArray), 33, 40) := by kernel_rfl
theorem built_rp (id : List UInt8) (s : Int) (ad : Option Addr) (n c : Nat) (hs : List Int) (hn : n = hs.length) : Try.prog.built 47 [(0, .agg (idCells id).toArray), (1, .int .u64 s), (2, .slice ad n c)] = some (pcells ⟨id, s, hs, ad, c⟩).toArray := by
  subst hn
  obtain ⟨c0, c1, c2, c3, c4, c5, c6, c7, c8, c9, c10, c11, c12, c13, c14, c15, c16, c17, c18, c19, c20, c21, c22, c23, c24, c25, c26, c27, c28, c29, c30, c31, h⟩ := list32 (idCells_len id)
  unfold pcells
  simp only [h]
  kernel_rfl
theorem built_rm (pack : List UInt8) (to : Int) : Try.prog.built 40 [(0, .agg (idCells pack).toArray), (1, .int .i64 to)] = some (mcells ⟨pack, to⟩).toArray := by
  obtain ⟨c0, c1, c2, c3, c4, c5, c6, c7, c8, c9, c10, c11, c12, c13, c14, c15, c16, c17, c18, c19, c20, c21, c22, c23, c24, c25, c26, c27, c28, c29, c30, c31, h⟩ := list32 (idCells_len pack)
  unfold mcells
  rw [h]
  kernel_rfl
theorem wpStill_build_by {P : Program} {w : World} {ops : Array Oper} {rest : List Oper} {o : Oper} {a : Act} {Q : Act → Prop} (hw : Region.wanted o (yielded ops a.tmps) = true) (t : TypeId) (parts : Array (Nat × Operand)) (ho : o.op = .build t parts) (l : List (Nat × Value)) (hp : (parts.map fun (i, x) => (i, a.eval x)).toList = l) (cells : Array Value) (hb : P.built t l = some cells)
    (h : wpStill P ops w Q rest (a.put o.dst (.agg cells))) : wpStill P ops w Q (o :: rest) a := wpStill_build hw t parts ho cells (by rw [hp]; exact hb) h
theorem yieldsIf_build {P : Program} {ops : Array Oper} {S : World → Prop} {op : Oper} {a : Act} (hw : Region.wanted op (yielded ops a.tmps) = true) (t : TypeId) (parts : Array (Nat × Operand)) (ho : op.op = .build t parts) (l : List (Nat × Value)) (hp : (parts.map fun (i, x) => (i, a.eval x)).toList = l) (cells : Array Value) (hb : P.built t l = some cells) : YieldsIf P ops S op (.agg cells) a :=
  .inl ⟨hw, fun w _ => by
    unfold execOp
    simp only [ho, Sem.run_bind, run_build w t _ cells (by rw [hp]; exact hb), Result.andThen_ok, Sem.run_pure]⟩
theorem step_row_one {P : Program} {w : World} {ops : Array Oper} {o : Oper} {a : Act} {K : Act → World → Prop} {Q : Exit → Act → World → Prop} {E : Prop} (hg : o.guard = none) (t e : TypeId) (x : Operand) (ho : o.op = .buildSlice t 1 #[(0, x)]) (C : Array Value) (hx : a.eval x = .agg C) (S : Nat) (ie : TypeInfo) (z : Value) (hu : P.underlying t = some (.slice e)) (hie : P.info? e = some ie) (hz : ie.zero = some z) (hS : ie.size = S) (h0 : 0 < S) (hC : C.size = S) (hsm : S ≤ 16777216)
    (h : K (a.put o.dst (.slice (some ⟨w.heap.size, 0, none⟩) 1 1)) (w.alloc (.cells C e))) : if Region.wanted o (yielded ops a.tmps) = true then Oper.wp P o a w K Q else E := by
  have hw : Region.wanted o (yielded ops a.tmps) = true := by simp [Region.wanted, hg]
  rw [if_pos hw]
  refine wp_buildSlice t e 1 #[(0, x)] ho C ie z hu hie hz (by rw [hS]; omega) (by rw [hS]; omega) ?_ h
  have h1 := Great.fill_whole h0 [Value.agg C] ((Array.range (1 * S)).map (z.cells[· % z.cells.size]!)) (fun v hv => by rw [List.mem_singleton.1 hv]; exact hC) (by simp)
  have e1 : (([Value.agg C] : List Value).flatMap fun v => v.cells.toList).toArray = C := by simp [Value.cells]
  rw [e1] at h1
  rw [hS]
  simpa [hx] using h1
abbrev RpRow (B : Nat) (w : World) (v : Value) (l : List Pk) : Prop := w.ownsRow B 47 34 v l.length (l.flatMap pcells)
abbrev RfRow (B : Nat) (w : World) (v : Value) (l : List (Int × Int)) : Prop := w.ownsRow B 59 2 v l.length (l.flatMap fcells)
abbrev RmRow (B : Nat) (w : World) (v : Value) (l : List Mv) : Prop := w.ownsRow B 40 33 v l.length (l.flatMap mcells)
theorem row_snoc {α : Type} {f : α → List Value} {w : World} {B : Nat} {e : TypeId} {s n : Nat} {v : Value} {l : List α} {x : α} (hn : n = l.length) (h : w.ownsRow B e s v (n + 1) (l.flatMap f ++ f x)) : w.ownsRow B e s v (l ++ [x]).length ((l ++ [x]).flatMap f) := by
  rw [List.length_append, List.flatMap_append, ← hn]
  simpa using h
set_option linter.unusedSimpArgs false in
set_option maxRecDepth 100000 in
set_option maxHeartbeats 4000000 in
theorem model_any {w : World} {ad adf : Option Addr} {c cf : Nat} {l : List Pk} {f : List (Int × Int)} (hrow : RowAt w ad (l.flatMap pcells)) (hfew : l.length ≤ 1000) (hrf : RowAt w adf (f.flatMap fcells)) (hff : f.length ≤ 1000) :
    Calls Try.prog 9 #[.slice ad l.length c, .slice adf f.length cf] w fun e w' => ∃ v vf, e = .returned (.tuple #[v, vf]) ∧ RpRow w.heap.size w' v l ∧ RfRow w.heap.size w' vf f ∧ Below w.heap.size w w' := by
  have R := Lib.hid hrow
  have RF := Lib.hid hrf
  obtain ⟨n, hn⟩ : ∃ n, n = l.length := ⟨_, rfl⟩
  obtain ⟨m, hm⟩ : ∃ m, m = f.length := ⟨_, rfl⟩
  have HN := Lib.hid hn
  have HM := Lib.hid hm
  rw [← hn] at hfew ⊢
  rw [← hm] at hff ⊢
  clear hrow hrf hn hm
  go_enter Try.func9, Try.ntmps9
  go_wp2_with fail
  go_loopg [6, 7] n (fun k s6 s7 wr => ∃ j : Nat, j ≤ n ∧ k = n - j ∧ s7 = .int .i64 j ∧ RpRow w.heap.size wr s6 (l.take j) ∧ Below w.heap.size w wr)
  case atStart => exact ⟨0, Nat.zero_le _, rfl, rfl, ⟨rfl, .inl ⟨rfl, rfl⟩⟩, Below.refl _ _⟩
  case round =>
    obtain ⟨j, hj, hk, rfl, hP, hB⟩ := hrel
    have HK := Lib.hid hk
    have PP := Lib.hid hP
    have BB := Lib.hid hB
    clear hk hP hB
    by_cases hlt : j < n
    · obtain ⟨p, hp⟩ : ∃ p, l[j]? = some p := ⟨l[j]'(by rw [← HN.out]; exact hlt), List.getElem?_eq_getElem _⟩
      obtain ⟨b, off, rfl, hbl, hl'⟩ := rowAt_elem pcells_len (by decide) R.out hp
      obtain ⟨lid, c32, c33⟩ := pk_lies hl'
      have clos : ∀ w' : World, Below w.heap.size w w' → w'.cell? ⟨b, off + j * 34 + 32, none⟩ = some (.int .u64 p.size) ∧ w'.cell? ⟨b, off + j * 34 + 33, none⟩ = some (.slice p.ad p.hs.length p.cap) := fun w' hw => ⟨cell_below c32 hw, cell_below c33 hw⟩
      have TK : Hid (l.take (j + 1) = l.take j ++ [p]) := Lib.hid (by rw [List.take_add_one, hp]; rfl)
      have TL : Hid (j = (l.take j).length) := Lib.hid (by rw [List.length_take, ← HN.out]; omega)
      have LID : Hid (w.rangeAt b (off + j * 34) (idCells p.id)) := Lib.hid lid
      have j0 : (0 : Int) ≤ (j : Int) := Int.natCast_nonneg _
      have j1 : (j : Int) < (n : Int) := by omega
      obtain ⟨i0, hi, hz0, hz1, hz2⟩ := info_parts info_rp
      have PW := Lib.hid (⟨hi, hz0, hz1, hz2⟩ : Try.prog.info? 47 = some i0 ∧ i0.zero = some (.agg (pcells ⟨[], 0, [], none, 0⟩).toArray) ∧ i0.size = 34 ∧ i0.bytes = 64)
      clear hp hl' lid c32 c33 hi hz0 hz1 hz2
      have ba := below_alloc (Below.refl wr.drew.heap.size wr.drew) (.cells (pcells p).toArray 47)
      have OWN : Hid ((wr.drew.alloc (.cells (pcells p).toArray 47)).ownsRow w.heap.size 47 34 u6 j ((l.take j).flatMap pcells)) := Lib.hid (by have := own_later (own_later PP.out (below_drew (Below.refl _ _))) ba; rw [← TL.out] at this; exact this)
      have NEWS := Lib.hid (news_made wr.drew (pcells p) 47)
      have BA := Lib.hid ((BB.out.trans (below_drew (Below.refl w.heap.size wr))).trans (ba.mono (by have := BB.out.size; exact this)))
      have BS : Hid (w.heap.size ≤ (wr.drew.alloc (.cells (pcells p).toArray 47)).heap.size) := Lib.hid BA.out.size
      clear ba
      have CL := Lib.hid clos
      go_wp2_with fail
      refine wp_region_held_drew (S := fun w' => Below w.heap.size w w') (by kernel_rfl) (BB.out.trans (below_drew (Below.refl _ _))) (fun hHeld => ?_)
      refine wpAnyH_take (i := 0) (v := ?_) rfl (by kernel_rfl) (by kernel_rfl) (by kernel_rfl) (fun _ _ _ h => h) (Or.inl ⟨by kernel_rfl, ?_⟩) (by assumption) ?_
      rotate_left
      · (intro w hSw; (go_simp; try with_reducible rfl))
      try simp only [Act.put, List.getElem_toArray, List.getElem_cons_succ, List.getElem_cons_zero, List.setIfInBounds_toArray, List.set_cons_zero, List.set_cons_succ]
      refine wpAnyH_take (i := 1) (v := ?_) rfl (by kernel_rfl) (by kernel_rfl) (by kernel_rfl) (fun _ _ _ h => h) (Or.inl ⟨by kernel_rfl, ?_⟩) (by assumption) ?_
      rotate_left
      · (intro w hSw; (go_simp; try with_reducible rfl))
      try simp only [Act.put, List.getElem_toArray, List.getElem_cons_succ, List.getElem_cons_zero, List.setIfInBounds_toArray, List.set_cons_zero, List.set_cons_succ]
      refine wpAnyH_take (i := 2) (v := ?_) rfl (by kernel_rfl) (by kernel_rfl) (by kernel_rfl) (fun _ _ _ h => h) (Or.inl ⟨by kernel_rfl, ?_⟩) (by assumption) ?_
      rotate_left
      · (intro w hSw; (go_simp; try with_reducible rfl))
      try simp only [Act.put, List.getElem_toArray, List.getElem_cons_succ, List.getElem_cons_zero, List.setIfInBounds_toArray, List.set_cons_zero, List.set_cons_succ]
      refine wpAnyH_take (i := 3) (v := ?_) rfl (by kernel_rfl) (by kernel_rfl) (by kernel_rfl) (fun _ _ _ h => h) (Or.inl ⟨by kernel_rfl, ?_⟩) (by assumption) ?_
      rotate_left
      · (intro w hSw; (go_simp; try with_reducible rfl))
      try simp only [Act.put, List.getElem_toArray, List.getElem_cons_succ, List.getElem_cons_zero, List.setIfInBounds_toArray, List.set_cons_zero, List.set_cons_succ]
      refine wpAnyH_take (i := 4) (v := ?_) rfl (by kernel_rfl) (by kernel_rfl) (by kernel_rfl) (fun _ _ _ h => h) (Or.inl ⟨by kernel_rfl, ?_⟩) (by assumption) ?_
      rotate_left
      · (intro w hSw; (go_simp; try with_reducible rfl))
      try simp only [Act.put, List.getElem_toArray, List.getElem_cons_succ, List.getElem_cons_zero, List.setIfInBounds_toArray, List.set_cons_zero, List.set_cons_succ]
      refine' wpAnyH_take (i := 5) (v := _) rfl (by kernel_rfl) (by kernel_rfl) (by kernel_rfl) (fun _ _ _ h => h) (yieldsIf_load_mid (by kernel_rfl) _ _ rfl _ _ rfl (idCells p.id) _ ?hS5 Try.underlying37 rfl (by rw [size_id, idCells_len])) (by assumption) ?rest5
      case hS5 => exact fun w' hw => rangeAt_below LID.out hw
      case rest5 =>
      try simp only [Act.put, List.getElem_toArray, List.getElem_cons_succ, List.getElem_cons_zero, List.setIfInBounds_toArray, List.set_cons_zero, List.set_cons_succ]
      refine wpAnyH_take (i := 6) (v := ?_) rfl (by kernel_rfl) (by kernel_rfl) (by kernel_rfl) (fun _ _ _ h => h) (Or.inl ⟨by kernel_rfl, ?_⟩) (by assumption) ?_
      rotate_left
      · (intro w hSw; (obtain ⟨_, _⟩ := CL.out w hSw; go_simp; try with_reducible rfl))
      try simp only [Act.put, List.getElem_toArray, List.getElem_cons_succ, List.getElem_cons_zero, List.setIfInBounds_toArray, List.set_cons_zero, List.set_cons_succ]
      refine wpAnyH_take (i := 7) (v := ?_) rfl (by kernel_rfl) (by kernel_rfl) (by kernel_rfl) (fun _ _ _ h => h) (Or.inl ⟨by kernel_rfl, ?_⟩) (by assumption) ?_
      rotate_left
      · (intro w hSw; (obtain ⟨_, _⟩ := CL.out w hSw; go_simp; try with_reducible rfl))
      try simp only [Act.put, List.getElem_toArray, List.getElem_cons_succ, List.getElem_cons_zero, List.setIfInBounds_toArray, List.set_cons_zero, List.set_cons_succ]
      refine wpAnyH_take (i := 8) (v := ?_) rfl (by kernel_rfl) (by kernel_rfl) (by kernel_rfl) (fun _ _ _ h => h) (Or.inl ⟨by kernel_rfl, ?_⟩) (by assumption) ?_
      rotate_left
      · (intro w hSw; (obtain ⟨_, _⟩ := CL.out w hSw; go_simp; try with_reducible rfl))
      try simp only [Act.put, List.getElem_toArray, List.getElem_cons_succ, List.getElem_cons_zero, List.setIfInBounds_toArray, List.set_cons_zero, List.set_cons_succ]
      refine wpAnyH_take (i := 9) (v := ?_) rfl (by kernel_rfl) (by kernel_rfl) (by kernel_rfl) (fun _ _ _ h => h) (Or.inl ⟨by kernel_rfl, ?_⟩) (by assumption) ?_
      rotate_left
      · (intro w hSw; (obtain ⟨_, _⟩ := CL.out w hSw; go_simp; try with_reducible rfl))
      try simp only [Act.put, List.getElem_toArray, List.getElem_cons_succ, List.getElem_cons_zero, List.setIfInBounds_toArray, List.set_cons_zero, List.set_cons_succ]
      refine wpAnyH_take (i := 10) (v := ?_) rfl (by kernel_rfl) (by kernel_rfl) (by kernel_rfl) (fun _ _ _ h => h) (Or.inl ⟨by kernel_rfl, ?_⟩) (by assumption) ?_
      rotate_left
      · (intro w hSw; (obtain ⟨_, _⟩ := CL.out w hSw; go_simp; try with_reducible rfl))
      try simp only [Act.put, List.getElem_toArray, List.getElem_cons_succ, List.getElem_cons_zero, List.setIfInBounds_toArray, List.set_cons_zero, List.set_cons_succ]
      refine wpAnyH_take (i := 11) (v := ?_) rfl (by kernel_rfl) (by kernel_rfl) (by kernel_rfl) (fun _ _ _ h => h) (Or.inl ⟨by kernel_rfl, ?_⟩) (by assumption) ?_
      rotate_left
      · (intro w hSw; (obtain ⟨_, _⟩ := CL.out w hSw; go_simp; try with_reducible rfl))
      try simp only [Act.put, List.getElem_toArray, List.getElem_cons_succ, List.getElem_cons_zero, List.setIfInBounds_toArray, List.set_cons_zero, List.set_cons_succ]
      refine wpAnyH_take (i := 12) (v := ?_) rfl (by kernel_rfl) (by kernel_rfl) (by kernel_rfl) (fun _ _ _ h => h) (Or.inl ⟨by kernel_rfl, ?_⟩) (by assumption) ?_
      rotate_left
      · (intro w hSw; (obtain ⟨_, _⟩ := CL.out w hSw; go_simp; try with_reducible rfl))
      try simp only [Act.put, List.getElem_toArray, List.getElem_cons_succ, List.getElem_cons_zero, List.setIfInBounds_toArray, List.set_cons_zero, List.set_cons_succ]
      refine wpAnyH_take (i := 13) (v := ?_) rfl (by kernel_rfl) (by kernel_rfl) (by kernel_rfl) (fun _ _ _ h => h) (Or.inl ⟨by kernel_rfl, ?_⟩) (by assumption) ?_
      rotate_left
      · (intro w hSw; (obtain ⟨_, _⟩ := CL.out w hSw; go_simp; try with_reducible rfl))
      try simp only [Act.put, List.getElem_toArray, List.getElem_cons_succ, List.getElem_cons_zero, List.setIfInBounds_toArray, List.set_cons_zero, List.set_cons_succ]
      refine wpAnyH_take (i := 14) (v := ?_) rfl (by kernel_rfl) (by kernel_rfl) (by kernel_rfl) (fun _ _ _ h => h) (Or.inl ⟨by kernel_rfl, ?_⟩) (by assumption) ?_
      rotate_left
      · (intro w hSw; (obtain ⟨_, _⟩ := CL.out w hSw; go_simp; try with_reducible rfl))
      try simp only [Act.put, List.getElem_toArray, List.getElem_cons_succ, List.getElem_cons_zero, List.setIfInBounds_toArray, List.set_cons_zero, List.set_cons_succ]
      refine wpAnyH_take (i := 15) (v := ?_) rfl (by kernel_rfl) (by kernel_rfl) (by kernel_rfl) (fun _ _ _ h => h) (Or.inl ⟨by kernel_rfl, ?_⟩) (by assumption) ?_
      rotate_left
      · (intro w hSw; (obtain ⟨_, _⟩ := CL.out w hSw; go_simp; try with_reducible rfl))
      try simp only [Act.put, List.getElem_toArray, List.getElem_cons_succ, List.getElem_cons_zero, List.setIfInBounds_toArray, List.set_cons_zero, List.set_cons_succ]
      refine' wpAnyH_take (i := 16) (v := _) rfl (by kernel_rfl) (by kernel_rfl) (by kernel_rfl) (fun _ _ _ h => h) (yieldsIf_build (by kernel_rfl) 47 _ rfl [(0, .agg (idCells p.id).toArray), (1, .int .u64 p.size), (2, .slice p.ad p.hs.length p.cap)] (by kernel_rfl) (pcells p).toArray (built_rp p.id p.size p.ad p.hs.length p.cap p.hs rfl)) (by assumption) ?_
      try simp only [Act.put, List.getElem_toArray, List.getElem_cons_succ, List.getElem_cons_zero, List.setIfInBounds_toArray, List.set_cons_zero, List.set_cons_succ]
      refine wpAnyH_ready (rs := [17]) (by kernel_rfl) (by simp) (AllReadyH.cons rfl (fun K hK => ?_) AllReadyH.nil)
      refine step_row_one rfl 26 47 (.tmp 32) rfl (pcells p).toArray rfl 34 i0 _ Try.underlying26 PW.out.1 PW.out.2.1 PW.out.2.2.1 (by decide) (by simp [pcells_len]) (by decide) ?_
      refine hK.out _ _ BA.out (fun hH => ?_)
      clear hHeld hK
      try simp only [Act.put, List.getElem_toArray, List.getElem_cons_succ, List.getElem_cons_zero, List.setIfInBounds_toArray, List.set_cons_zero, List.set_cons_succ]
      refine wpAnyH_ready (rs := [18]) (by kernel_rfl) (by simp) (AllReadyH.cons rfl (fun K hK => ?_) AllReadyH.nil)
      refine step_append_any rfl (.tmp 16) (.tmp 33) 26 rfl w.heap.size 47 i0 _ 34 64 Try.underlying26 PW.out.1 PW.out.2.1 PW.out.2.2.1 PW.out.2.2.2 (by simp [Value.cells, pcells_len]) (by decide) u6 j ((l.take j).flatMap pcells) rfl OWN.out ⟨wr.drew.heap.size, 0, none⟩ 1 1 (pcells p) rfl (by rw [pcells_len]) NEWS.out (pcells_one _) (by unfold maxLen; omega) (by omega) BS.out ?_
      intro v2 w2 hown hg hat
      have B2' := BA.out.grown hg BS.out (fun k hk => (own_row OWN.out hk).1)
      refine hK.out _ _ B2' (fun hHeld => ?_)
      clear hH hK
      try simp only [Act.put, List.getElem_toArray, List.getElem_cons_succ, List.getElem_cons_zero, List.setIfInBounds_toArray, List.set_cons_zero, List.set_cons_succ]
      refine wpAnyH_ready (rs := [19]) (by kernel_rfl) (by simp) (AllReadyH.cons rfl (fun K hK => ?_) AllReadyH.nil)
      go_simp
      refine hK.out _ _ B2' (fun hH => ?_)
      clear hHeld hK hH
      try simp only [Act.put, List.getElem_toArray, List.getElem_cons_succ, List.getElem_cons_zero, List.setIfInBounds_toArray, List.set_cons_zero, List.set_cons_succ]
      refine wpAnyH_done (by kernel_rfl) ?_ _
      go_wp2_with fail
      clear hat
      have P2 : Hid (RpRow w.heap.size w2 v2 (l.take (j + 1))) := Lib.hid (by rw [TK.out]; exact row_snoc TL.out hown)
      have B2 := Lib.hid (BA.out.grown hg BS.out (fun k hk => (own_row OWN.out hk).1))
      clear hown hg
      go_roundg (n - (j + 1))
      case measure => rw [HK.out]; omega
      case rel => exact ⟨j + 1, by omega, rfl, by go_num, P2.out, B2.out⟩
    · obtain rfl : j = n := by omega
      have PE : Hid (RpRow w.heap.size wr u6 l) := Lib.hid (by have := PP.out; rw [HN.out, List.take_length] at this; exact this)
      have WB := Lib.hid BB.out.size
      clear hlt PP
      obtain ⟨wo, rfl⟩ : ∃ wo : World, wo = wr := ⟨_, rfl⟩
      go_wp2_with fail
      go_loopg [8, 9] m (fun k s8 s9 wr => ∃ j : Nat, j ≤ m ∧ k = m - j ∧ s9 = .int .i64 j ∧ RfRow wo.heap.size wr s8 (f.take j) ∧ Below wo.heap.size wo wr)
      case atStart => exact ⟨0, Nat.zero_le _, rfl, rfl, ⟨rfl, .inl ⟨rfl, rfl⟩⟩, Below.refl _ _⟩
      case round =>
        obtain ⟨i, hi, hk, rfl, hF, hB⟩ := hrel
        have HKI := Lib.hid hk
        have FF := Lib.hid hF
        have BI := Lib.hid hB
        clear hk hF hB
        by_cases hlt : i < m
        · obtain ⟨x, hx⟩ : ∃ x, f[i]? = some x := ⟨f[i]'(by rw [← HM.out]; exact hlt), List.getElem?_eq_getElem _⟩
          have BBI := Lib.hid (BB.out.trans (BI.out.mono BB.out.size))
          obtain ⟨b, off, rfl, hbl, hl'⟩ := rowAt_elem fcells_len (by decide) (RF.out.later BB.out) hx
          obtain ⟨c0, c1⟩ := fr_cells hl'
          have clos : ∀ w' : World, Below wo.heap.size wo w' → w'.cell? ⟨b, off + i * 2, none⟩ = some (.int .i64 x.1) ∧ w'.cell? ⟨b, off + i * 2 + 1, none⟩ = some (.int .u64 x.2) := fun w' hw => ⟨cell_below c0 hw, cell_below c1 hw⟩
          have TK : Hid (f.take (i + 1) = f.take i ++ [x]) := Lib.hid (by rw [List.take_add_one, hx]; rfl)
          have TL : Hid (i = (f.take i).length) := Lib.hid (by rw [List.length_take, ← HM.out]; omega)
          have i0' : (0 : Int) ≤ (i : Int) := Int.natCast_nonneg _
          have i1 : (i : Int) < (m : Int) := by omega
          obtain ⟨i0, hi', hz0, hz1, hz2⟩ := info_parts info_rf
          have PW := Lib.hid (⟨hi', hz0, hz1, hz2⟩ : Try.prog.info? 59 = some i0 ∧ i0.zero = some (.agg (fcells (0, 0)).toArray) ∧ i0.size = 2 ∧ i0.bytes = 16)
          clear hx hl' c0 c1 hi' hz0 hz1 hz2
          have CL := Lib.hid clos
          clear clos
          have ba := below_alloc (Below.refl wr.drew.heap.size wr.drew) (.cells (fcells x).toArray 59)
          have OWN : Hid ((wr.drew.alloc (.cells (fcells x).toArray 59)).ownsRow wo.heap.size 59 2 u8 i ((f.take i).flatMap fcells)) := Lib.hid (by have := own_later (own_later FF.out (below_drew (Below.refl _ _))) ba; rw [← TL.out] at this; exact this)
          have NEWS := Lib.hid (news_made wr.drew (fcells x) 59)
          have BA := Lib.hid ((BI.out.trans (below_drew (Below.refl wo.heap.size wr))).trans (ba.mono (by have := BI.out.size; exact this)))
          have BS : Hid (wo.heap.size ≤ (wr.drew.alloc (.cells (fcells x).toArray 59)).heap.size) := Lib.hid BA.out.size
          clear ba
          go_wp2_with fail
          refine wp_region_held_drew (S := fun w' => Below wo.heap.size wo w') (by kernel_rfl) (BI.out.trans (below_drew (Below.refl _ _))) (fun hHeld => ?_)
          refine wpAnyH_take (i := 0) (v := ?_) rfl (by kernel_rfl) (by kernel_rfl) (by kernel_rfl) (fun _ _ _ h => h) (Or.inl ⟨by kernel_rfl, ?_⟩) (by assumption) ?_
          rotate_left
          · (intro w hSw; (obtain ⟨_, _⟩ := CL.out w hSw; go_simp; try with_reducible rfl))
          try simp only [Act.put, List.getElem_toArray, List.getElem_cons_succ, List.getElem_cons_zero, List.setIfInBounds_toArray, List.set_cons_zero, List.set_cons_succ]
          refine wpAnyH_take (i := 1) (v := ?_) rfl (by kernel_rfl) (by kernel_rfl) (by kernel_rfl) (fun _ _ _ h => h) (Or.inl ⟨by kernel_rfl, ?_⟩) (by assumption) ?_
          rotate_left
          · (intro w hSw; (obtain ⟨_, _⟩ := CL.out w hSw; go_simp; try with_reducible rfl))
          try simp only [Act.put, List.getElem_toArray, List.getElem_cons_succ, List.getElem_cons_zero, List.setIfInBounds_toArray, List.set_cons_zero, List.set_cons_succ]
          refine wpAnyH_take (i := 2) (v := ?_) rfl (by kernel_rfl) (by kernel_rfl) (by kernel_rfl) (fun _ _ _ h => h) (Or.inl ⟨by kernel_rfl, ?_⟩) (by assumption) ?_
          rotate_left
          · (intro w hSw; (obtain ⟨_, _⟩ := CL.out w hSw; go_simp; try with_reducible rfl))
          try simp only [Act.put, List.getElem_toArray, List.getElem_cons_succ, List.getElem_cons_zero, List.setIfInBounds_toArray, List.set_cons_zero, List.set_cons_succ]
          refine wpAnyH_take (i := 3) (v := ?_) rfl (by kernel_rfl) (by kernel_rfl) (by kernel_rfl) (fun _ _ _ h => h) (Or.inl ⟨by kernel_rfl, ?_⟩) (by assumption) ?_
          rotate_left
          · (intro w hSw; (obtain ⟨_, _⟩ := CL.out w hSw; go_simp; try with_reducible rfl))
          try simp only [Act.put, List.getElem_toArray, List.getElem_cons_succ, List.getElem_cons_zero, List.setIfInBounds_toArray, List.set_cons_zero, List.set_cons_succ]
          refine wpAnyH_take (i := 4) (v := ?_) rfl (by kernel_rfl) (by kernel_rfl) (by kernel_rfl) (fun _ _ _ h => h) (Or.inl ⟨by kernel_rfl, ?_⟩) (by assumption) ?_
          rotate_left
          · (intro w hSw; (obtain ⟨_, _⟩ := CL.out w hSw; go_simp; try with_reducible rfl))
          try simp only [Act.put, List.getElem_toArray, List.getElem_cons_succ, List.getElem_cons_zero, List.setIfInBounds_toArray, List.set_cons_zero, List.set_cons_succ]
          refine wpAnyH_take (i := 5) (v := ?_) rfl (by kernel_rfl) (by kernel_rfl) (by kernel_rfl) (fun _ _ _ h => h) (Or.inl ⟨by kernel_rfl, ?_⟩) (by assumption) ?_
          rotate_left
          · (intro w hSw; (obtain ⟨_, _⟩ := CL.out w hSw; go_simp; try with_reducible rfl))
          try simp only [Act.put, List.getElem_toArray, List.getElem_cons_succ, List.getElem_cons_zero, List.setIfInBounds_toArray, List.set_cons_zero, List.set_cons_succ]
          refine wpAnyH_take (i := 6) (v := ?_) rfl (by kernel_rfl) (by kernel_rfl) (by kernel_rfl) (fun _ _ _ h => h) (Or.inl ⟨by kernel_rfl, ?_⟩) (by assumption) ?_
          rotate_left
          · (intro w hSw; (obtain ⟨_, _⟩ := CL.out w hSw; go_simp; try with_reducible rfl))
          try simp only [Act.put, List.getElem_toArray, List.getElem_cons_succ, List.getElem_cons_zero, List.setIfInBounds_toArray, List.set_cons_zero, List.set_cons_succ]
          refine wpAnyH_take (i := 7) (v := ?_) rfl (by kernel_rfl) (by kernel_rfl) (by kernel_rfl) (fun _ _ _ h => h) (Or.inl ⟨by kernel_rfl, ?_⟩) (by assumption) ?_
          rotate_left
          · (intro w hSw; (obtain ⟨_, _⟩ := CL.out w hSw; go_simp; try with_reducible rfl))
          try simp only [Act.put, List.getElem_toArray, List.getElem_cons_succ, List.getElem_cons_zero, List.setIfInBounds_toArray, List.set_cons_zero, List.set_cons_succ]
          refine wpAnyH_take (i := 8) (v := ?_) rfl (by kernel_rfl) (by kernel_rfl) (by kernel_rfl) (fun _ _ _ h => h) (Or.inl ⟨by kernel_rfl, ?_⟩) (by assumption) ?_
          rotate_left
          · (intro w hSw; (obtain ⟨_, _⟩ := CL.out w hSw; go_simp; try with_reducible rfl))
          try simp only [Act.put, List.getElem_toArray, List.getElem_cons_succ, List.getElem_cons_zero, List.setIfInBounds_toArray, List.set_cons_zero, List.set_cons_succ]
          refine wpAnyH_take (i := 9) (v := ?_) rfl (by kernel_rfl) (by kernel_rfl) (by kernel_rfl) (fun _ _ _ h => h) (Or.inl ⟨by kernel_rfl, ?_⟩) (by assumption) ?_
          rotate_left
          · (intro w hSw; (obtain ⟨_, _⟩ := CL.out w hSw; go_simp; try with_reducible rfl))
          try simp only [Act.put, List.getElem_toArray, List.getElem_cons_succ, List.getElem_cons_zero, List.setIfInBounds_toArray, List.set_cons_zero, List.set_cons_succ]
          refine wpAnyH_take (i := 10) (v := ?_) rfl (by kernel_rfl) (by kernel_rfl) (by kernel_rfl) (fun _ _ _ h => h) (Or.inl ⟨by kernel_rfl, ?_⟩) (by assumption) ?_
          rotate_left
          · (intro w hSw; (obtain ⟨_, _⟩ := CL.out w hSw; go_simp; try with_reducible rfl))
          try simp only [Act.put, List.getElem_toArray, List.getElem_cons_succ, List.getElem_cons_zero, List.setIfInBounds_toArray, List.set_cons_zero, List.set_cons_succ]
          refine' wpAnyH_take (i := 11) (v := _) rfl (by kernel_rfl) (by kernel_rfl) (by kernel_rfl) (fun _ _ _ h => h) (yieldsIf_build (by kernel_rfl) 59 _ rfl [(0, .int .i64 x.1), (1, .int .u64 x.2)] (by kernel_rfl) (fcells x).toArray (by kernel_rfl)) (by assumption) ?_
          try simp only [Act.put, List.getElem_toArray, List.getElem_cons_succ, List.getElem_cons_zero, List.setIfInBounds_toArray, List.set_cons_zero, List.set_cons_succ]
          refine wpAnyH_ready (rs := [12]) (by kernel_rfl) (by simp) (AllReadyH.cons rfl (fun K hK => ?_) AllReadyH.nil)
          refine step_row_one rfl 27 59 (.tmp 52) rfl (fcells x).toArray rfl 2 i0 _ Try.underlying27 PW.out.1 PW.out.2.1 PW.out.2.2.1 (by decide) (by simp [fcells_len]) (by decide) ?_
          refine hK.out _ _ BA.out (fun hH => ?_)
          clear hHeld hK
          try simp only [Act.put, List.getElem_toArray, List.getElem_cons_succ, List.getElem_cons_zero, List.setIfInBounds_toArray, List.set_cons_zero, List.set_cons_succ]
          refine wpAnyH_ready (rs := [13]) (by kernel_rfl) (by simp) (AllReadyH.cons rfl (fun K hK => ?_) AllReadyH.nil)
          refine step_append_any rfl (.tmp 41) (.tmp 53) 27 rfl wo.heap.size 59 i0 _ 2 16 Try.underlying27 PW.out.1 PW.out.2.1 PW.out.2.2.1 PW.out.2.2.2 (by simp [Value.cells, fcells_len]) (by decide) u8 i ((f.take i).flatMap fcells) rfl OWN.out ⟨wr.drew.heap.size, 0, none⟩ 1 1 (fcells x) rfl (by rw [fcells_len]) NEWS.out (fcells_one _) (by unfold maxLen; omega) (by omega) BS.out ?_
          intro v2 w2 hown hg hat
          have B2' := BA.out.grown hg BS.out (fun k hk => (own_row OWN.out hk).1)
          refine hK.out _ _ B2' (fun hHeld => ?_)
          clear hH hK
          try simp only [Act.put, List.getElem_toArray, List.getElem_cons_succ, List.getElem_cons_zero, List.setIfInBounds_toArray, List.set_cons_zero, List.set_cons_succ]
          refine wpAnyH_ready (rs := [14]) (by kernel_rfl) (by simp) (AllReadyH.cons rfl (fun K hK => ?_) AllReadyH.nil)
          go_simp
          refine hK.out _ _ B2' (fun hH => ?_)
          clear hHeld hK hH
          try simp only [Act.put, List.getElem_toArray, List.getElem_cons_succ, List.getElem_cons_zero, List.setIfInBounds_toArray, List.set_cons_zero, List.set_cons_succ]
          refine wpAnyH_done (by kernel_rfl) ?_ _
          go_wp2_with fail
          clear hat
          have F2 : Hid (RfRow wo.heap.size w2 v2 (f.take (i + 1))) := Lib.hid (by rw [TK.out]; exact row_snoc TL.out hown)
          have B2 := Lib.hid (BA.out.grown hg BS.out (fun k hk => (own_row OWN.out hk).1))
          clear hown hg
          go_roundg (m - (i + 1))
          case measure => rw [HKI.out]; omega
          case rel => exact ⟨i + 1, by omega, rfl, by go_num, F2.out, B2.out⟩
        · obtain rfl : i = m := by omega
          have FE : Hid (RfRow wo.heap.size wr u8 f) := Lib.hid (by have := FF.out; rw [HM.out, List.take_length] at this; exact this)
          clear FF
          go_wp2
          first | go_ret2 | go_ret
          exact ⟨_, _, rfl, own_later PE.out BI.out, own_mono FE.out WB.out, BB.out.trans (BI.out.mono WB.out)⟩
end Go.Proofs.Ytpmkgnnpngbfmaa
