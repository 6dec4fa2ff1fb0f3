/- What Draw does where somebody is asked. -/
import Derived.Test.YtdlcmdoefdkjpaaDoorAud4
import Derived.Deep.AppendLies
namespace Go.Proofs.YtdlcmdoefdkjpaaDoor
open Go.RowKit
open Extern.Stop (cell)

theorem list32 {l : List Value} (h : l.length = 32) : ∃ c0 c1 c2 c3 c4 c5 c6 c7 c8 c9 c10 c11 c12 c13 c14 c15 c16 c17 c18 c19 c20 c21 c22 c23 c24 c25 c26 c27 c28 c29 c30 c31 : Value, l = [c0, c1, c2, c3, c4, c5, c6, c7, c8, c9, c10, c11, c12, c13, c14, c15, c16, c17, c18, c19, c20, c21, c22, c23, c24, c25, c26, c27, c28, c29, c30, c31] := by
  match l, h with
  | [c0, c1, c2, c3, c4, c5, c6, c7, c8, c9, c10, c11, c12, c13, c14, c15, c16, c17, c18, c19, c20, c21, c22, c23, c24, c25, c26, c27, c28, c29, c30, c31], _ => exact ⟨c0, c1, c2, c3, c4, c5, c6, c7, c8, c9, c10, c11, c12, c13, c14, c15, c16, c17, c18, c19, c20, c21, c22, c23, c24, c25, c26, c27, c28, c29, c30, c31, rfl⟩
theorem size_id : (Tryd.prog.info? 28).map (·.size) = some 32 := by kernel_rfl
theorem built_note (k n m : Int) {pack : List UInt8} : Tryd.prog.built 33 [(0, .int .i64 k), (1, .agg (idCells pack).toArray), (2, .int .u64 n), (3, .int .u64 m)] = some (ncells k pack n m nnil nnil).toArray := by
  obtain ⟨c0, c1, c2, c3, c4, c5, c6, c7, c8, c9, c10, c11, c12, c13, c14, c15, c16, c17, c18, c19, c20, c21, c22, c23, c24, c25, c26, c27, c28, c29, c30, c31, h⟩ := list32 (idCells_len pack)
  unfold ncells
  rw [h]
  kernel_rfl
theorem elig_ok {ts : List Tgt} {t : Tgt} (h : t ∈ elig ts) : 1 ≤ t.leaves ∧ t.leaves ≤ 65536 := by
  have := (List.mem_filter.1 h).2
  simp [tbad] at this
  omega
theorem rangeAt_drewN {w : World} {b i : Nat} {l : List Value} {q : Nat} (h : w.rangeAt b i l) : (w.drewN q).rangeAt b i l := h
theorem rangeAt_below {w w' : World} {b i : Nat} {l : List Value} (h : w.rangeAt b i l) (hb : Below w.heap.size w w') : w'.rangeAt b i l := fun j v hj => (hb.cell (p := ⟨b, i + j, none⟩) (World.block_lt_of_cell? w _ (h j v hj))).trans (h j v hj)
theorem rangeAt_grown {w w' : World} {b i : Nat} {l : List Value} {row : Option Nat} (h : w.rangeAt b i l) (hg : w.grownBy w' row) (hr : row ≠ some b) : w'.rangeAt b i l := fun j v hj => by
  have := h j v hj
  rw [World.cell?_of_block (hg.block b (World.block_lt_of_cell? w _ this) (fun e => hr e.symm))]
  exact this
theorem rangeAt_setCell {w : World} {b i : Nat} {l : List Value} (h : w.rangeAt b i l) {p : Addr} (hp : p.block ≠ b) (u : Value) : (w.setCell p u).rangeAt b i l := rangeAt_grown h (grown_setCell w p u) (fun e => hp (by simpa using e))
theorem cell_grown {w w' : World} {p : Addr} {v : Value} {row : Option Nat} (h : w.cell? p = some v) (hg : w.grownBy w' row) (hr : row ≠ some p.block) : w'.cell? p = some v := by
  rw [World.cell?_of_block (hg.block p.block (World.block_lt_of_cell? w p h) (fun e => hr e.symm))]
  exact h
theorem frozen_grown {w w' : World} {b : Nat} {C : Array Value} {t : TypeId} {row : Option Nat} (h : w.heap[b]? = some (.cells C t (0, 0))) (hg : w.grownBy w' row) (hr : row ≠ some b) (j : Nat) : w'.frozen? ⟨b, j, none⟩ = false :=
  blk_free ((hg.block b (Array.getElem?_eq_some_iff.1 h).1 (fun e => hr e.symm)).trans h) j
theorem Keeps.freshRow {T : List TypeId} {A : Nat} {w w1 w' : World} (h : Keeps T A w w1) (hA : A ≤ w.heap.size) {row : Option Nat} (hg : w1.grownBy w' row) (hr : ∀ k, row = some k → w.heap.size ≤ k) : Keeps T A w w' :=
  ⟨⟨hg.os.trans h.below.os, hg.tape.trans h.below.tape, hg.output.trans h.below.output, Nat.le_trans h.below.size hg.size, fun i hi => (hg.block i (by have := h.below.size; omega) (fun e => by have := hr i e.symm; omega)).trans (h.below.block i hi)⟩, fun k o hk ho => by
    have hkl := (Array.getElem?_eq_some_iff.1 hk).1
    rw [hg.block k (by have := h.below.size; omega) (fun e => by have := hr k e.symm; omega)]
    exact h.old k o hk ho⟩
theorem cell_up {w : World} {p : Addr} {v : Value} (h : w.cell? p = some v) (o : Obj) : (w.alloc o).cell? p = some v := by
  rw [World.cell?_alloc_lt _ _ _ (World.block_lt_of_cell? w _ h)]; exact h
theorem cell_set {w : World} {p q : Addr} {v : Value} (h : w.cell? p = some v) (hq : q ≠ p) (u : Value) : (w.setCell q u).cell? p = some v := by
  rw [World.cell?_setCell_other _ _ _ _ hq]; exact h
theorem tcells_mid (t : Tgt) {j : Nat} {v : Value} (h : (idCells t.pack)[j]? = some v) : (tcells t)[1 + j]? = some v := by
  have hl := (List.getElem?_eq_some_iff.1 h).1
  have : (idCells t.pack ++ [Value.int .i64 t.leaves])[j]? = some v := by rw [List.getElem?_append_left hl]; exact h
  rw [Nat.add_comm]
  exact this
set_option maxHeartbeats 4000000 in
set_option maxRecDepth 100000 in
set_option linter.unusedSimpArgs false in
theorem draw_yes {A B : Nat} {w : World} {a : Nat} {d : Int} {qs : List Qn} {ad : Option Addr} {c : Nat} {ts : List Tgt} {t : Tgt} (h : IsAud A B w a d qs) (hA : B ≤ w.heap.size) (hd0 : 0 ≤ d) (hd1 : d < 1000000) (hq : qs.length < 100000)
    (hrow : RowAt w ad (ts.flatMap tcells)) (hfew : ts.length ≤ 1000000) (hnil : ad = none → c = 0) (L : Nat) (hL : Hid (L < 18446744073709551616)) (now : Int) (ht : (elig ts)[L % (elig ts).length]? = some t) :
    Calls Tryd.prog 13 #[.pointer (some ⟨a, 0, none⟩), .slice ad ts.length c, .int .u64 (L : Int), .int .u64 now] w fun e w' =>
      e = .returned (.tuple #[.int .i64 t.who, .agg (ncells 6 t.pack ((L / (elig ts).length % t.leaves.toNat : Nat) : Int) (d + 1) nnil nnil).toArray, .bool true]) ∧
      IsAud A B w' a (d + 1) (qs ++ [⟨t.who, t.pack, d + 1, ((L / (elig ts).length % t.leaves.toNat : Nat) : Int), t.leaves, now⟩]) ∧ Keeps audT A w w' := by
  obtain ⟨v, hI⟩ := h
  obtain ⟨x, xc, rfl⟩ := hI.slice
  have R := Lib.hid hrow
  obtain ⟨n, hn⟩ : ∃ n, n = ts.length := ⟨_, rfl⟩
  have HN := Lib.hid hn
  rw [← hn] at hfew ⊢
  have HI := Lib.hid hI
  have hlt := hI.lt
  obtain ⟨l1, l2⟩ := elig_ok (List.mem_of_getElem? ht)
  have hm0 : 0 < (elig ts).length := by
    have := (List.getElem?_eq_some_iff.1 ht).1
    omega
  have hm1 : (elig ts).length ≤ n := by rw [hn]; exact List.length_filter_le _ _
  obtain ⟨m, hm⟩ : ∃ m, m = (elig ts).length := ⟨_, rfl⟩
  have HM := Lib.hid hm
  rw [← hm] at ht hm0 hm1 ⊢
  obtain ⟨i, hi⟩ : ∃ i, i = L % m := ⟨_, rfl⟩
  have hil : i < m := by rw [hi]; exact Nat.mod_lt _ hm0
  rw [← hi] at ht
  obtain ⟨lv, hlv⟩ := Int.eq_ofNat_of_zero_le (show 0 ≤ t.leaves by omega)
  rw [hlv] at l1 l2
  have e1 : (L : Int) % (m : Int) = (i : Int) := by rw [hi]; rfl
  have e2 : (L : Int).tmod (m : Int) = (i : Int) := by rw [hi]; rfl
  obtain ⟨k, hk⟩ : ∃ k, k = L / m := ⟨_, rfl⟩
  have e3 : (L : Int) / (m : Int) = (k : Int) := by rw [hk]; rfl
  have e4 : (L : Int).tdiv (m : Int) = (k : Int) := by rw [hk]; rfl
  obtain ⟨f, hf⟩ : ∃ f, f = k % lv := ⟨_, rfl⟩
  have hfl : f < lv := by rw [hf]; exact Nat.mod_lt _ (by omega)
  have e5 : (k : Int) % (lv : Int) = (f : Int) := by rw [hf]; rfl
  have e6 : (k : Int).tmod (lv : Int) = (f : Int) := by rw [hf]; rfl
  rw [show L / m % t.leaves.toNat = f by rw [hlv, hf, hk]; rfl]
  have HLV := Lib.hid hlv
  have HT := Lib.hid ht
  have KW : Hid (IntKind.u64.wrap (k : Int) = (k : Int)) := Lib.hid (by have := Nat.div_le_self L m; have := hL.out; rw [IntKind.wrap_u64]; omega)
  clear hrow hn hI hm hi hk hf hlv ht
  go_enter Tryd.func13, Tryd.ntmps13
  go_upto_region 1 with fail
  obtain ⟨N, hN⟩ : ∃ N, N = w.heap.size := ⟨_, rfl⟩
  rw [← hN]
  refine wp_named fun W hW => ?_
  have b0 : Below w.heap.size w W := by rw [hW]; exact below_alloc (Below.refl _ _) _
  have k0 : W.heap[N]? = some (.cells note0.toArray 33 (0, 0)) := by rw [hW, hN]; exact heap_at w _
  have z0 : W.heap.size = N + 1 := by rw [hW, hN]; simp
  have CL := clone_tgt (R.out.later b0) (by rw [← HN.out]; exact hfew) hnil
  rw [← HN.out] at CL
  replace CL := Lib.hid CL
  have B0 := Lib.hid b0
  have K0 := Lib.hid k0
  have Z0 := Lib.hid z0
  have HNN := Lib.hid hN
  clear hW b0 k0 z0 hN hnil R
  go_wp2_with fail
  refine CL.out.mono ?_
  rintro e w1 ⟨v1, rfl, h1, c1⟩
  obtain ⟨x1, c1', rfl⟩ := own_slice h1
  have DF := delfunc_draw (es := ts) (by rw [← HN.out]; exact h1) (by rw [← HN.out]; exact hfew) tbad (fun W _ x _ => drawp_any x W)
  have B1 := Lib.hid (B0.out.trans (c1.mono B0.out.size))
  have K1 := Lib.hid (heap_kept c1 K0.out (by rw [Z0.out]; omega))
  have lo : ∀ k, (Value.slice x1 n c1').ownBlock = some k → N + 1 ≤ k := fun k hk => by have := (own_row h1 hk).1; rw [Z0.out] at this; exact this
  have LO := Lib.hid lo
  replace DF := Lib.hid DF
  clear h1 c1 lo CL B0 K0
  go_wp2_with fail
  refine DF.out.mono ?_
  rintro e w2 ⟨v2, rfl, h2, g2⟩
  change w2.ownsRow _ _ _ v2 (elig ts).length ((elig ts).flatMap tcells) at h2
  rw [← HM.out] at h2
  obtain ⟨x2, c2', rfl⟩ := own_slice h2
  have z1 : N + 1 ≤ w1.heap.size := by have := B1.out.size; have := (Array.getElem?_eq_some_iff.1 K1.out).1; omega
  have b2 := B1.out.grown g2 B1.out.size (fun k hk => by have := LO.out k hk; have := HNN.out; omega)
  have k2 : w2.heap[N]? = some (.cells note0.toArray 33 (0, 0)) := (g2.block N (by omega) (fun e => by have := LO.out N e.symm; omega)).trans K1.out
  obtain ⟨g, rfl, hgl, lt, _⟩ := own_elem tcells_len (by decide) h2 HT.out
  have B2 := Lib.hid b2
  have K2 := Lib.hid k2
  have LT := Lib.hid lt
  clear h2 g2 b2 k2 DF LO K1 B1 lt z1
  have i0 : (0 : Int) ≤ (i : Int) := by omega
  have i1 : (i : Int) < (m : Int) := by omega
  have kk0 : (0 : Int) ≤ (k : Int) := by omega
  go_upto_region 6 with (first | (refine wpList_load_agg rfl 37 (.tmp 32) rfl g (i * 34) rfl (tcells t).toArray _ LT.out Tryd.underlying37 rfl (by rw [size_tgt]; simp [tcells_len]) ?_) | (refine wpList_store_new rfl 37 (.tmp 12) (.tmp 33) rfl _ (tcells t).toArray rfl rfl (by rw [size_tgt]; simp [tcells_len]) (by simp [tcells_len]) (all_oneCell_toArray (tcells_one t)) ?_))
  obtain ⟨T, hT⟩ : ∃ T, T = w2.heap.size := ⟨_, rfl⟩
  rw [← hT]
  refine wp_named fun W3 hW3 => ?_
  have t3 : W3.heap[T]? = some (.cells (tcells t).toArray 37 (0, 0)) := by rw [hW3, hT]; exact heap_at w2 _
  have b3 : Below w.heap.size w W3 := by rw [hW3]; exact below_alloc B2.out _
  have n3 : W3.heap[N]? = some (.cells note0.toArray 33 (0, 0)) := by rw [hW3]; exact heap_up K2.out
  have NT : N < T := by rw [hT]; exact (Array.getElem?_eq_some_iff.1 K2.out).1
  have q33 := blk_cell t3 (tcells_last t)
  rw [HLV.out] at q33
  have T3 := Lib.hid t3
  have B3 := Lib.hid b3
  have N3 := Lib.hid n3
  clear hW3 hT t3 b3 n3 B2 K2 LT
  have m01 : ¬ m = 0 := by omega
  have v01 : ¬ lv = 0 := by omega
  have wk : IntKind.u64.wrap (k : Int) = (k : Int) := KW.out
  have wl : IntKind.u64.wrap (lv : Int) = (lv : Int) := by rw [IntKind.wrap_u64]; omega
  have wf : IntKind.u64.wrap (f : Int) = (f : Int) := by rw [IntKind.wrap_u64]; omega
  go_quiet (fail)
  clear q33 e1 e2 e3 e4 e5 e6 m01 v01 wk wl wf
  go_upto_region 7 with fail
  refine wp_named fun W4 hW4 => ?_
  have t4 : W4.heap[T]? = some (.cells (tcells t).toArray 37 (0, 0)) := by rw [hW4]; exact T3.out
  have b4 : Below w.heap.size w W4 := by rw [hW4]; exact below_drewN B3.out _
  have n4 : W4.heap[N]? = some (.cells note0.toArray 33 (0, 0)) := by rw [hW4]; exact N3.out
  have I4 := HI.out.later b4
  obtain ⟨⟨e0, e1⟩, e2, e3⟩ := blk2 I4.box
  have aN : a < N := by rw [HNN.out]; exact hlt
  have T4 := Lib.hid t4
  have B4 := Lib.hid b4
  have N4 := Lib.hid n4
  replace I4 := Lib.hid I4
  clear hW4 t4 b4 n4 T3 B3 N3
  go_upto_region 8 with fail
  refine wp_named fun W5 hW5 => ?_
  have x5 : W5.heap[a]? = some (.cells #[.int .u64 (d + 1), .slice x qs.length xc] 87 (0, 0)) := by rw [hW5]; exact heap_setCell_same _ I4.out.box
  have rne : ∀ k, (Value.slice x qs.length xc).ownBlock = some k → k ≠ T ∧ k ≠ a ∧ k ≠ N := fun k hk => by
    obtain ⟨_, cur, hc⟩ := own_row I4.out.row hk
    refine ⟨fun e => ?_, fun e => ?_, fun e => ?_⟩
    · rw [e, T4.out] at hc; simp at hc
    · rw [e, I4.out.box] at hc; simp at hc
    · rw [e, N4.out] at hc; simp at hc
  have o5 : W5.ownsRow B 98 37 (.slice x qs.length xc) qs.length (qs.flatMap qcells) := by
    rw [hW5]; exact own_far I4.out.row (fun e => (rne a e).2.1 rfl) _
  have t5 : W5.heap[T]? = some (.cells (tcells t).toArray 37 (0, 0)) := by rw [hW5]; exact heap_setCell_ne _ T4.out (by show T ≠ a; omega)
  have n5 : W5.heap[N]? = some (.cells note0.toArray 33 (0, 0)) := by rw [hW5]; exact heap_setCell_ne _ N4.out (by show N ≠ a; omega)
  have hAw : A ≤ w.heap.size := Nat.le_trans HI.out.hB hA
  have k5 : Keeps audT A w W5 := by rw [hW5]; exact (Keeps.of B4.out hAw).setCell I4.out.box rfl HI.out.hb _
  have hB5 : B ≤ W5.heap.size := by have := k5.below.size; omega
  have hq5 : (qs.length + 1) * 72 ≤ 140737488355328 := by omega
  have T5 := Lib.hid t5
  have N5 := Lib.hid n5
  have O5 := Lib.hid o5
  have K5 := Lib.hid k5
  have RNE := Lib.hid rne
  clear hW5 e0 e1 e2 e3 I4 T4 B4 N4 t5 n5 o5 k5 rne
  obtain ⟨⟨e0, e1⟩, e2, e3⟩ := blk2 x5
  have X5 := Lib.hid x5
  clear x5
  obtain ⟨c0, c1, c2, c3, c4, c5, c6, c7, c8, c9, c10, c11, c12, c13, c14, c15, c16, c17, c18, c19, c20, c21, c22, c23, c24, c25, c26, c27, c28, c29, c30, c31, hcs⟩ := list32 (idCells_len t.pack)
  have r0 : W5.cell? ⟨T, 0, none⟩ = some (.int .i64 t.who) := blk_cell T5.out rfl
  have r33 := blk_cell T5.out (tcells_last t)
  rw [HLV.out] at r33
  have r1 : W5.rangeAt T 1 [c0, c1, c2, c3, c4, c5, c6, c7, c8, c9, c10, c11, c12, c13, c14, c15, c16, c17, c18, c19, c20, c21, c22, c23, c24, c25, c26, c27, c28, c29, c30, c31] := fun j v hj => blk_cell T5.out (tcells_mid t (by rw [hcs]; exact hj))
  have hu := Tryd.underlying28
  have hi28 : (Tryd.prog.info? 28).map (·.size) = some [c0, c1, c2, c3, c4, c5, c6, c7, c8, c9, c10, c11, c12, c13, c14, c15, c16, c17, c18, c19, c20, c21, c22, c23, c24, c25, c26, c27, c28, c29, c30, c31].length := size_id
  obtain ⟨i0, hi, hz0, hz1, hz2⟩ := info_parts info_qn
  have HCS := Lib.hid hcs
  have QL : Hid (qcells ⟨t.who, t.pack, d + 1, (f : Int), (lv : Int), now⟩ = [Value.int .i64 t.who, c0, c1, c2, c3, c4, c5, c6, c7, c8, c9, c10, c11, c12, c13, c14, c15, c16, c17, c18, c19, c20, c21, c22, c23, c24, c25, c26, c27, c28, c29, c30, c31, .int .u64 (d + 1), .int .i64 (f : Int), .int .i64 (lv : Int), .int .u64 now]) := Lib.hid (by simp [qcells, hcs])
  have aT : ¬ a = T := by omega
  have aT' : ¬ T = a := by omega
  have f0 : (0 : Int) ≤ (f : Int) := by omega
  have f1 : (f : Int) < (lv : Int) := by omega
  have wfi : IntKind.i64.wrap (f : Int) = (f : Int) := IntWalk.i64_in _ (by omega)
  clear hcs
  refine wp_region_held_drew (S := (fun w' => w'.cell? ⟨T, 0, none⟩ = some (.int .i64 t.who) ∧ w'.rangeAt T 1 [c0, c1, c2, c3, c4, c5, c6, c7, c8, c9, c10, c11, c12, c13, c14, c15, c16, c17, c18, c19, c20, c21, c22, c23, c24, c25, c26, c27, c28, c29, c30, c31] ∧ w'.cell? ⟨T, 33, none⟩ = some (.int .i64 (lv : Int)) ∧ w'.cell? ⟨a, 0, none⟩ = some (.int .u64 (d + 1)))) (by kernel_rfl) ⟨r0, r1, r33, e0⟩ (fun hHeld => ?_)
  refine wpAnyH_take (i := 0) (v := ?_) rfl (by kernel_rfl) (by kernel_rfl) (by kernel_rfl) (fun _ _ _ h => h) (Or.inl ⟨by rfl, ?_⟩) (by assumption) ?_
  rotate_left
  · (intro w hSw; (obtain ⟨_, _, _, _⟩ := hSw; go_simp; try with_reducible rfl))
  try simp only [Act.put, List.setIfInBounds_toArray, List.set_cons_zero, List.set_cons_succ]
  refine wpAnyH_take (i := 1) (v := ?_) rfl (by kernel_rfl) (by kernel_rfl) (by kernel_rfl) (fun _ _ _ h => h) (Or.inl ⟨by rfl, ?_⟩) (by assumption) ?_
  rotate_left
  · (intro w hSw; (obtain ⟨_, _, _, _⟩ := hSw; go_simp; try with_reducible rfl))
  try simp only [Act.put, List.setIfInBounds_toArray, List.set_cons_zero, List.set_cons_succ]
  refine wpAnyH_take (i := 2) (v := ?_) rfl (by kernel_rfl) (by kernel_rfl) (by kernel_rfl) (fun _ _ _ h => h) (Or.inl ⟨by rfl, ?_⟩) (by assumption) ?_
  rotate_left
  · (intro w hSw; (obtain ⟨_, _, _, _⟩ := hSw; go_simp; try with_reducible rfl))
  try simp only [Act.put, List.setIfInBounds_toArray, List.set_cons_zero, List.set_cons_succ]
  refine wpAnyH_take (i := 3) (v := ?_) rfl (by kernel_rfl) (by kernel_rfl) (by kernel_rfl) (fun _ _ _ h => h) (Or.inl ⟨by rfl, ?_⟩) (by assumption) ?_
  rotate_left
  · (intro w hSw; (obtain ⟨_, _, _, _⟩ := hSw; go_simp; try with_reducible rfl))
  try simp only [Act.put, List.setIfInBounds_toArray, List.set_cons_zero, List.set_cons_succ]
  refine wpAnyH_take (i := 5) (v := ?_) rfl (by kernel_rfl) (by kernel_rfl) (by kernel_rfl) (fun _ _ _ h => h) (Or.inl ⟨by rfl, ?_⟩) (by assumption) ?_
  rotate_left
  · (intro w hSw; (obtain ⟨_, _, _, _⟩ := hSw; go_simp; try with_reducible rfl))
  try simp only [Act.put, List.setIfInBounds_toArray, List.set_cons_zero, List.set_cons_succ]
  refine wpAnyH_take (i := 6) (v := ?_) rfl (by kernel_rfl) (by kernel_rfl) (by kernel_rfl) (fun _ _ _ h => h) (Or.inl ⟨by rfl, ?_⟩) (by assumption) ?_
  rotate_left
  · (intro w hSw; (obtain ⟨_, _, _, _⟩ := hSw; go_simp; try with_reducible rfl))
  try simp only [Act.put, List.setIfInBounds_toArray, List.set_cons_zero, List.set_cons_succ]
  refine wpAnyH_take (i := 7) (v := ?_) rfl (by kernel_rfl) (by kernel_rfl) (by kernel_rfl) (fun _ _ _ h => h) (Or.inl ⟨by rfl, ?_⟩) (by assumption) ?_
  rotate_left
  · (intro w hSw; (obtain ⟨_, _, _, _⟩ := hSw; go_simp; try with_reducible rfl))
  try simp only [Act.put, List.setIfInBounds_toArray, List.set_cons_zero, List.set_cons_succ]
  refine' wpAnyH_take (i := 8) (v := _) rfl (by kernel_rfl) (by kernel_rfl) (by kernel_rfl) (fun _ _ _ h => h) (yieldsIf_load_mid (by rfl) _ _ rfl _ _ rfl _ _ ?hS hu rfl hi28) (by assumption) ?rest
  case hS => exact fun w hw => hw.2.1
  case rest =>
  try simp only [Act.put, List.setIfInBounds_toArray, List.set_cons_zero, List.set_cons_succ]
  refine wpAnyH_take (i := 9) (v := ?_) rfl (by kernel_rfl) (by kernel_rfl) (by kernel_rfl) (fun _ _ _ h => h) (Or.inl ⟨by rfl, ?_⟩) (by assumption) ?_
  rotate_left
  · (intro w hSw; (obtain ⟨_, _, _, _⟩ := hSw; go_simp; try with_reducible rfl))
  try simp only [Act.put, List.setIfInBounds_toArray, List.set_cons_zero, List.set_cons_succ]
  refine wpAnyH_take (i := 10) (v := ?_) rfl (by kernel_rfl) (by kernel_rfl) (by kernel_rfl) (fun _ _ _ h => h) (Or.inl ⟨by rfl, ?_⟩) (by assumption) ?_
  rotate_left
  · (intro w hSw; (obtain ⟨_, _, _, _⟩ := hSw; go_simp; try with_reducible rfl))
  try simp only [Act.put, List.setIfInBounds_toArray, List.set_cons_zero, List.set_cons_succ]
  refine wpAnyH_take (i := 11) (v := ?_) rfl (by kernel_rfl) (by kernel_rfl) (by kernel_rfl) (fun _ _ _ h => h) (Or.inl ⟨by rfl, ?_⟩) (by assumption) ?_
  rotate_left
  · (intro w hSw; (obtain ⟨_, _, _, _⟩ := hSw; go_simp; try with_reducible rfl))
  try simp only [Act.put, List.setIfInBounds_toArray, List.set_cons_zero, List.set_cons_succ]
  refine wpAnyH_take (i := 12) (v := ?_) rfl (by kernel_rfl) (by kernel_rfl) (by kernel_rfl) (fun _ _ _ h => h) (Or.inl ⟨by rfl, ?_⟩) (by assumption) ?_
  rotate_left
  · (intro w hSw; (obtain ⟨_, _, _, _⟩ := hSw; go_simp; try with_reducible rfl))
  try simp only [Act.put, List.setIfInBounds_toArray, List.set_cons_zero, List.set_cons_succ]
  refine wpAnyH_take (i := 13) (v := ?_) rfl (by kernel_rfl) (by kernel_rfl) (by kernel_rfl) (fun _ _ _ h => h) (Or.inl ⟨by rfl, ?_⟩) (by assumption) ?_
  rotate_left
  · (intro w hSw; (obtain ⟨_, _, _, _⟩ := hSw; go_simp; try with_reducible rfl))
  try simp only [Act.put, List.setIfInBounds_toArray, List.set_cons_zero, List.set_cons_succ]
  refine wpAnyH_take (i := 14) (v := ?_) rfl (by kernel_rfl) (by kernel_rfl) (by kernel_rfl) (fun _ _ _ h => h) (Or.inl ⟨by rfl, ?_⟩) (by assumption) ?_
  rotate_left
  · (intro w hSw; (obtain ⟨_, _, _, _⟩ := hSw; go_simp; try with_reducible rfl))
  try simp only [Act.put, List.setIfInBounds_toArray, List.set_cons_zero, List.set_cons_succ]
  refine wpAnyH_take (i := 15) (v := ?_) rfl (by kernel_rfl) (by kernel_rfl) (by kernel_rfl) (fun _ _ _ h => h) (Or.inl ⟨by rfl, ?_⟩) (by assumption) ?_
  rotate_left
  · (intro w hSw; (obtain ⟨_, _, _, _⟩ := hSw; go_simp; try with_reducible rfl))
  try simp only [Act.put, List.setIfInBounds_toArray, List.set_cons_zero, List.set_cons_succ]
  refine wpAnyH_take (i := 16) (v := ?_) rfl (by kernel_rfl) (by kernel_rfl) (by kernel_rfl) (fun _ _ _ h => h) (Or.inl ⟨by rfl, ?_⟩) (by assumption) ?_
  rotate_left
  · (intro w hSw; (obtain ⟨_, _, _, _⟩ := hSw; go_simp; try with_reducible rfl))
  try simp only [Act.put, List.setIfInBounds_toArray, List.set_cons_zero, List.set_cons_succ]
  refine wpAnyH_take (i := 17) (v := ?_) rfl (by kernel_rfl) (by kernel_rfl) (by kernel_rfl) (fun _ _ _ h => h) (Or.inl ⟨by rfl, ?_⟩) (by assumption) ?_
  rotate_left
  · (intro w hSw; (obtain ⟨_, _, _, _⟩ := hSw; go_simp; try with_reducible rfl))
  try simp only [Act.put, List.setIfInBounds_toArray, List.set_cons_zero, List.set_cons_succ]
  refine wpAnyH_take (i := 18) (v := ?_) rfl (by kernel_rfl) (by kernel_rfl) (by kernel_rfl) (fun _ _ _ h => h) (Or.inl ⟨by rfl, ?_⟩) (by assumption) ?_
  rotate_left
  · (intro w hSw; (obtain ⟨_, _, _, _⟩ := hSw; go_simp; try with_reducible rfl))
  try simp only [Act.put, List.setIfInBounds_toArray, List.set_cons_zero, List.set_cons_succ]
  refine wpAnyH_take (i := 19) (v := ?_) rfl (by kernel_rfl) (by kernel_rfl) (by kernel_rfl) (fun _ _ _ h => h) (Or.inl ⟨by rfl, ?_⟩) (by assumption) ?_
  rotate_left
  · (intro w hSw; (obtain ⟨_, _, _, _⟩ := hSw; go_simp; try with_reducible rfl))
  try simp only [Act.put, List.setIfInBounds_toArray, List.set_cons_zero, List.set_cons_succ]
  have hal : a < W5.heap.size := (Array.getElem?_eq_some_iff.1 X5.out).1
  have hal' : ¬ a = W5.heap.size := by omega
  refine wpAnyH_ready (rs := [4, 20]) (by kernel_rfl) (by simp) (AllReadyH.cons rfl (fun K hK => ?_) (AllReadyH.cons rfl (fun K hK => ?_) AllReadyH.nil))
  · go_simp
    refine hK.out _ _ ⟨r0, r1, r33, e0⟩ (fun hH => ?_)
    clear hHeld
    try simp only [Act.put, List.setIfInBounds_toArray, List.set_cons_zero, List.set_cons_succ]
    refine wpAnyH_ready (rs := [20]) (by kernel_rfl) (by simp) (AllReadyH.cons rfl (fun K hK => ?_) AllReadyH.nil)
    go_simp
    refine hK.out _ _ ⟨cell_up r0 _, World.rangeAt_alloc r1 _, cell_up r33 _, cell_up e0 _⟩ (fun hHeld => ?_)
    clear hH
    try simp only [Act.put, List.setIfInBounds_toArray, List.set_cons_zero, List.set_cons_succ]
    refine wpAnyH_ready (rs := [21]) (by kernel_rfl) (by simp) (AllReadyH.cons rfl (fun K hK => ?_) AllReadyH.nil)
    refine step_append_any rfl (.tmp 52) (.tmp 68) 85 rfl B 98 i0 _ 37 72 Tryd.underlying85 hi hz0 hz1 hz2 (by simp [Value.cells, qcells_len]) (by decide) _ qs.length (qs.flatMap qcells) rfl (own_later O5.out (below_drew (below_alloc (Below.refl _ _) _))) ⟨W5.heap.size, 0, none⟩ 1 1 (qcells ⟨t.who, t.pack, d + 1, (f : Int), (lv : Int), now⟩) rfl (by rw [qcells_len]) (by rw [QL.out]; exact World.news_of_block (w := (W5.alloc _).drew) (heap_at W5 _)) (qcells_one _) (by unfold maxLen; omega) hq5 (by simp; omega) ?_
    intro v6 w6 hown hg hat
    obtain ⟨x6, xc6, rfl⟩ := own_slice hown
    have s0 := cell_grown (p := ⟨T, 0, none⟩) (show (W5.alloc _).drew.cell? _ = _ from cell_up r0 _) hg (fun e => (RNE.out T e).1 rfl)
    have s1 := rangeAt_grown (b := T) (show (W5.alloc _).drew.rangeAt T 1 _ from World.rangeAt_alloc r1 _) hg (fun e => (RNE.out T e).1 rfl)
    have s33 := cell_grown (p := ⟨T, 33, none⟩) (show (W5.alloc _).drew.cell? _ = _ from cell_up r33 _) hg (fun e => (RNE.out T e).1 rfl)
    have se := cell_grown (p := ⟨a, 0, none⟩) (show (W5.alloc _).drew.cell? _ = _ from cell_up e0 _) hg (fun e => (RNE.out a e).2.1 rfl)
    have se1 := cell_grown (p := ⟨a, 1, none⟩) (show (W5.alloc _).drew.cell? _ = _ from cell_up e1 _) hg (fun e => (RNE.out a e).2.1 rfl)
    have sf := frozen_grown (b := a) (show (W5.alloc _).drew.heap[a]? = _ from heap_up X5.out) hg (fun e => (RNE.out a e).2.1 rfl) 1
    have T6 := Lib.hid ((hg.block T (by have := (Array.getElem?_eq_some_iff.1 T5.out).1; simp; omega) (fun e => (RNE.out T e.symm).1 rfl)).trans (show (W5.alloc _).drew.heap[T]? = _ from heap_up T5.out))
    have N6 := Lib.hid ((hg.block N (by have := (Array.getElem?_eq_some_iff.1 N5.out).1; simp; omega) (fun e => (RNE.out N e.symm).2.2 rfl)).trans (show (W5.alloc _).drew.heap[N]? = _ from heap_up N5.out))
    have X6 := Lib.hid ((hg.block a (by simp; omega) (fun e => (RNE.out a e.symm).2.1 rfl)).trans (show (W5.alloc _).drew.heap[a]? = _ from heap_up X5.out))
    have rne6 : (Value.slice x6 (qs.length + 1) xc6).ownBlock ≠ some a := at_ne hat (fun e => (RNE.out a e).2.1 rfl) (by simp; omega)
    have K6 := Lib.hid ((K5.out.then hAw (below_drew (below_alloc (Below.refl _ _) _))).row hg (Nat.le_trans hAw (Nat.le_trans K5.out.below.size (by simp))) (fun k hk => by
      obtain ⟨q1, cur, q2⟩ := own_row O5.out (k := k) hk
      exact ⟨by have := HI.out.hB; omega, cur, _, _, (show (W5.alloc _).drew.heap[k]? = _ from heap_up q2), rfl⟩))
    have O6 := Lib.hid hown
    have RN6 := Lib.hid rne6
    clear hown hg hat rne6
    refine hK.out _ _ ⟨s0, s1, s33, se⟩ (fun hH => ?_)
    clear hHeld
    try simp only [Act.put, List.setIfInBounds_toArray, List.set_cons_zero, List.set_cons_succ]
    refine wpAnyH_ready (rs := [22]) (by kernel_rfl) (by simp) (AllReadyH.cons rfl (fun K hK => ?_) AllReadyH.nil)
    go_simp
    refine hK.out _ _ ⟨s0, s1, s33, se⟩ (fun hHeld => ?_)
    clear hH
    try simp only [Act.put, List.setIfInBounds_toArray, List.set_cons_zero, List.set_cons_succ]
    refine wpAnyH_ready (rs := [23]) (by kernel_rfl) (by simp) (AllReadyH.cons rfl (fun K hK => ?_) AllReadyH.nil)
    go_simp
    refine hK.out _ _ ⟨s0, s1, s33, se⟩ (fun hH => ?_)
    clear hHeld
    try simp only [Act.put, List.setIfInBounds_toArray, List.set_cons_zero, List.set_cons_succ]
    refine wpAnyH_ready (rs := [24]) (by kernel_rfl) (by simp) (AllReadyH.cons rfl (fun K hK => ?_) AllReadyH.nil)
    go_simp
    refine hK.out _ _ ⟨cell_set s0 (by simp [aT]) _, rangeAt_setCell s1 aT _, cell_set s33 (by simp [aT]) _, cell_set se (by simp) _⟩ (fun hHeld => ?_)
    clear hH
    try simp only [Act.put, List.setIfInBounds_toArray, List.set_cons_zero, List.set_cons_succ]
    refine wpAnyH_done (by kernel_rfl) ?_ _
    clear hHeld s0 s1 s33 se se1 sf r0 r1 r33 e0 e1 e2 e3
    go_upto_region 9 with fail
    refine wp_named fun W7 hW7 => ?_
    have x7 : W7.heap[a]? = some (.cells #[.int .u64 (d + 1), .slice x6 (qs.length + 1) xc6] 87 (0, 0)) := by rw [hW7]; exact heap_setCell_same _ X6.out
    have t7 : W7.heap[T]? = some (.cells (tcells t).toArray 37 (0, 0)) := by rw [hW7]; exact heap_setCell_ne _ T6.out (by show T ≠ a; omega)
    have n7 : W7.heap[N]? = some (.cells note0.toArray 33 (0, 0)) := by rw [hW7]; exact heap_setCell_ne _ N6.out (by show N ≠ a; omega)
    have o7 : W7.ownsRow B 98 37 (.slice x6 (qs.length + 1) xc6) (qs.length + 1) (qs.flatMap qcells ++ qcells ⟨t.who, t.pack, d + 1, (f : Int), (lv : Int), now⟩) := by rw [hW7]; exact own_far O6.out RN6.out _
    have k7 : Keeps audT A w W7 := by rw [hW7]; exact K6.out.setCell X6.out rfl HI.out.hb _
    clear hW7 T6 N6 X6 O6 K6 RN6 T5 N5 O5 X5 K5
    have q0 : W7.cell? ⟨T, 0, none⟩ = some (.int .i64 t.who) := blk_cell t7 rfl
    have q1 : W7.drew.rangeAt T 1 (idCells t.pack) := fun j v hj => blk_cell t7 (tcells_mid t hj)
    obtain ⟨⟨e0, e1⟩, _⟩ := blk2 x7
    have X7 := Lib.hid x7
    have N7 := Lib.hid n7
    have O7 := Lib.hid o7
    have K7 := Lib.hid k7
    have QQ := Lib.hid q1
    clear x7 t7 n7 o7 k7 q1
    refine wp_region_still_tail 11 (by kernel_rfl) (by kernel_rfl) ?_
    simp only [List.take_succ_cons, List.take_zero, List.drop_succ_cons, List.drop_zero]
    iterate 3 still_step
    refine wpStill_load (by rfl) 28 (.tmp 74) rfl T 1 rfl (idCells t.pack).toArray _ QQ.out Tryd.underlying28 rfl (by rw [size_id]; simp [idCells_len]) ?_
    iterate 5 still_step
    refine wpStill_build (by rfl) 33 _ rfl (ncells 6 t.pack (f : Int) (d + 1) nnil nnil).toArray (by simpa [Act.eval] using built_note 6 (f : Int) (d + 1) (pack := t.pack)) ?_
    still_step
    refine wpStill_nil ?_
    have TH := there_block (w := W7.drew) N7.out (i := 0) (n := 37) (by rw [note0_len]; omega)
    go_wp2_with (refine wpList_store_mid rfl 33 (.tmp 9) (.tmp 81) rfl N 0 (ncells 6 t.pack (f : Int) (d + 1) nnil nnil).toArray rfl rfl (by simpa [ncells_len] using TH) (by rw [size_note]; simp [ncells_len]) (all_oneCell_toArray (ncells_one rfl rfl)) ?_)
    have hsz : (ncells 6 t.pack (f : Int) (d + 1) nnil nnil).toArray.size = note0.toArray.size := by rw [note0_len]; simp [ncells_len]
    have k3 := heap_setCells_whole (w := W7.drew) (D := (ncells 6 t.pack (f : Int) (d + 1) nnil nnil).toArray) N7.out hsz
    have g3 := grown_setCells (w := W7.drew) (vs := (ncells 6 t.pack (f : Int) (d + 1) nnil nnil).toArray.toList) (i := 0) N7.out (by rw [note0_len]; simp [ncells_len])
    refine bodyPost_ret (results3_mid rfl _ N (ncells 6 t.pack (f : Int) (d + 1) nnil nnil).toArray _ rfl (lies_block k3) Tryd.underlying33 rfl (by rw [size_note]; simp [ncells_len])) rfl ⟨rfl, ⟨.slice x6 (qs.length + 1) xc6, ?_, ?_, ?_, HI.out.hb, HI.out.hB⟩, ?_⟩
    · rw [g3.block a (by have := (Array.getElem?_eq_some_iff.1 X7.out).1; exact this) (fun e => by cases e; omega)]; exact X7.out
    · rw [HLV.out]
      have := own_of (w := W7.drew) (w' := W7.drew.setCells N 0 (ncells 6 t.pack (f : Int) (d + 1) nnil nnil).toArray.toList) (show W7.drew.ownsRow _ _ _ _ _ _ from own_of O7.out fun _ _ _ h => h) (fun k cur hk hc => by
        rw [g3.block k (Array.getElem?_eq_some_iff.1 hc).1 (fun e => by cases e; rw [show W7.drew.heap[N]? = _ from N7.out] at hc; simp at hc)]; exact hc)
      simpa using this
    · simp; omega
    · exact (K7.out.then hAw (below_drew (Below.refl _ _))).freshRow (Nat.le_trans HI.out.hB hA) g3 (fun k hk => by cases hk; rw [HNN.out]; exact Nat.le_refl _)
  · go_simp
    refine hK.out _ _ ⟨cell_up r0 _, World.rangeAt_alloc r1 _, cell_up r33 _, cell_up e0 _⟩ (fun hH => ?_)
    clear hHeld
    try simp only [Act.put, List.setIfInBounds_toArray, List.set_cons_zero, List.set_cons_succ]
    refine wpAnyH_ready (rs := [4]) (by kernel_rfl) (by simp) (AllReadyH.cons rfl (fun K hK => ?_) AllReadyH.nil)
    go_simp
    refine hK.out _ _ ⟨cell_up r0 _, World.rangeAt_alloc r1 _, cell_up r33 _, cell_up e0 _⟩ (fun hHeld => ?_)
    clear hH
    try simp only [Act.put, List.setIfInBounds_toArray, List.set_cons_zero, List.set_cons_succ]
    refine wpAnyH_ready (rs := [21]) (by kernel_rfl) (by simp) (AllReadyH.cons rfl (fun K hK => ?_) AllReadyH.nil)
    refine step_append_any rfl (.tmp 52) (.tmp 68) 85 rfl B 98 i0 _ 37 72 Tryd.underlying85 hi hz0 hz1 hz2 (by simp [Value.cells, qcells_len]) (by decide) _ qs.length (qs.flatMap qcells) rfl (own_later O5.out (below_drew (below_alloc (Below.refl _ _) _))) ⟨W5.heap.size, 0, none⟩ 1 1 (qcells ⟨t.who, t.pack, d + 1, (f : Int), (lv : Int), now⟩) rfl (by rw [qcells_len]) (by rw [QL.out]; exact World.news_of_block (w := (W5.alloc _).drew) (heap_at W5 _)) (qcells_one _) (by unfold maxLen; omega) hq5 (by simp; omega) ?_
    intro v6 w6 hown hg hat
    obtain ⟨x6, xc6, rfl⟩ := own_slice hown
    have s0 := cell_grown (p := ⟨T, 0, none⟩) (show (W5.alloc _).drew.cell? _ = _ from cell_up r0 _) hg (fun e => (RNE.out T e).1 rfl)
    have s1 := rangeAt_grown (b := T) (show (W5.alloc _).drew.rangeAt T 1 _ from World.rangeAt_alloc r1 _) hg (fun e => (RNE.out T e).1 rfl)
    have s33 := cell_grown (p := ⟨T, 33, none⟩) (show (W5.alloc _).drew.cell? _ = _ from cell_up r33 _) hg (fun e => (RNE.out T e).1 rfl)
    have se := cell_grown (p := ⟨a, 0, none⟩) (show (W5.alloc _).drew.cell? _ = _ from cell_up e0 _) hg (fun e => (RNE.out a e).2.1 rfl)
    have se1 := cell_grown (p := ⟨a, 1, none⟩) (show (W5.alloc _).drew.cell? _ = _ from cell_up e1 _) hg (fun e => (RNE.out a e).2.1 rfl)
    have sf := frozen_grown (b := a) (show (W5.alloc _).drew.heap[a]? = _ from heap_up X5.out) hg (fun e => (RNE.out a e).2.1 rfl) 1
    have T6 := Lib.hid ((hg.block T (by have := (Array.getElem?_eq_some_iff.1 T5.out).1; simp; omega) (fun e => (RNE.out T e.symm).1 rfl)).trans (show (W5.alloc _).drew.heap[T]? = _ from heap_up T5.out))
    have N6 := Lib.hid ((hg.block N (by have := (Array.getElem?_eq_some_iff.1 N5.out).1; simp; omega) (fun e => (RNE.out N e.symm).2.2 rfl)).trans (show (W5.alloc _).drew.heap[N]? = _ from heap_up N5.out))
    have X6 := Lib.hid ((hg.block a (by simp; omega) (fun e => (RNE.out a e.symm).2.1 rfl)).trans (show (W5.alloc _).drew.heap[a]? = _ from heap_up X5.out))
    have rne6 : (Value.slice x6 (qs.length + 1) xc6).ownBlock ≠ some a := at_ne hat (fun e => (RNE.out a e).2.1 rfl) (by simp; omega)
    have K6 := Lib.hid ((K5.out.then hAw (below_drew (below_alloc (Below.refl _ _) _))).row hg (Nat.le_trans hAw (Nat.le_trans K5.out.below.size (by simp))) (fun k hk => by
      obtain ⟨q1, cur, q2⟩ := own_row O5.out (k := k) hk
      exact ⟨by have := HI.out.hB; omega, cur, _, _, (show (W5.alloc _).drew.heap[k]? = _ from heap_up q2), rfl⟩))
    have O6 := Lib.hid hown
    have RN6 := Lib.hid rne6
    clear hown hg hat rne6
    refine hK.out _ _ ⟨s0, s1, s33, se⟩ (fun hH => ?_)
    clear hHeld
    try simp only [Act.put, List.setIfInBounds_toArray, List.set_cons_zero, List.set_cons_succ]
    refine wpAnyH_ready (rs := [22]) (by kernel_rfl) (by simp) (AllReadyH.cons rfl (fun K hK => ?_) AllReadyH.nil)
    go_simp
    refine hK.out _ _ ⟨s0, s1, s33, se⟩ (fun hHeld => ?_)
    clear hH
    try simp only [Act.put, List.setIfInBounds_toArray, List.set_cons_zero, List.set_cons_succ]
    refine wpAnyH_ready (rs := [23]) (by kernel_rfl) (by simp) (AllReadyH.cons rfl (fun K hK => ?_) AllReadyH.nil)
    go_simp
    refine hK.out _ _ ⟨s0, s1, s33, se⟩ (fun hH => ?_)
    clear hHeld
    try simp only [Act.put, List.setIfInBounds_toArray, List.set_cons_zero, List.set_cons_succ]
    refine wpAnyH_ready (rs := [24]) (by kernel_rfl) (by simp) (AllReadyH.cons rfl (fun K hK => ?_) AllReadyH.nil)
    go_simp
    refine hK.out _ _ ⟨cell_set s0 (by simp [aT]) _, rangeAt_setCell s1 aT _, cell_set s33 (by simp [aT]) _, cell_set se (by simp) _⟩ (fun hHeld => ?_)
    clear hH
    try simp only [Act.put, List.setIfInBounds_toArray, List.set_cons_zero, List.set_cons_succ]
    refine wpAnyH_done (by kernel_rfl) ?_ _
    clear hHeld s0 s1 s33 se se1 sf r0 r1 r33 e0 e1 e2 e3
    go_upto_region 9 with fail
    refine wp_named fun W7 hW7 => ?_
    have x7 : W7.heap[a]? = some (.cells #[.int .u64 (d + 1), .slice x6 (qs.length + 1) xc6] 87 (0, 0)) := by rw [hW7]; exact heap_setCell_same _ X6.out
    have t7 : W7.heap[T]? = some (.cells (tcells t).toArray 37 (0, 0)) := by rw [hW7]; exact heap_setCell_ne _ T6.out (by show T ≠ a; omega)
    have n7 : W7.heap[N]? = some (.cells note0.toArray 33 (0, 0)) := by rw [hW7]; exact heap_setCell_ne _ N6.out (by show N ≠ a; omega)
    have o7 : W7.ownsRow B 98 37 (.slice x6 (qs.length + 1) xc6) (qs.length + 1) (qs.flatMap qcells ++ qcells ⟨t.who, t.pack, d + 1, (f : Int), (lv : Int), now⟩) := by rw [hW7]; exact own_far O6.out RN6.out _
    have k7 : Keeps audT A w W7 := by rw [hW7]; exact K6.out.setCell X6.out rfl HI.out.hb _
    clear hW7 T6 N6 X6 O6 K6 RN6 T5 N5 O5 X5 K5
    have q0 : W7.cell? ⟨T, 0, none⟩ = some (.int .i64 t.who) := blk_cell t7 rfl
    have q1 : W7.drew.rangeAt T 1 (idCells t.pack) := fun j v hj => blk_cell t7 (tcells_mid t hj)
    obtain ⟨⟨e0, e1⟩, _⟩ := blk2 x7
    have X7 := Lib.hid x7
    have N7 := Lib.hid n7
    have O7 := Lib.hid o7
    have K7 := Lib.hid k7
    have QQ := Lib.hid q1
    clear x7 t7 n7 o7 k7 q1
    refine wp_region_still_tail 11 (by kernel_rfl) (by kernel_rfl) ?_
    simp only [List.take_succ_cons, List.take_zero, List.drop_succ_cons, List.drop_zero]
    iterate 3 still_step
    refine wpStill_load (by rfl) 28 (.tmp 74) rfl T 1 rfl (idCells t.pack).toArray _ QQ.out Tryd.underlying28 rfl (by rw [size_id]; simp [idCells_len]) ?_
    iterate 5 still_step
    refine wpStill_build (by rfl) 33 _ rfl (ncells 6 t.pack (f : Int) (d + 1) nnil nnil).toArray (by simpa [Act.eval] using built_note 6 (f : Int) (d + 1) (pack := t.pack)) ?_
    still_step
    refine wpStill_nil ?_
    have TH := there_block (w := W7.drew) N7.out (i := 0) (n := 37) (by rw [note0_len]; omega)
    go_wp2_with (refine wpList_store_mid rfl 33 (.tmp 9) (.tmp 81) rfl N 0 (ncells 6 t.pack (f : Int) (d + 1) nnil nnil).toArray rfl rfl (by simpa [ncells_len] using TH) (by rw [size_note]; simp [ncells_len]) (all_oneCell_toArray (ncells_one rfl rfl)) ?_)
    have hsz : (ncells 6 t.pack (f : Int) (d + 1) nnil nnil).toArray.size = note0.toArray.size := by rw [note0_len]; simp [ncells_len]
    have k3 := heap_setCells_whole (w := W7.drew) (D := (ncells 6 t.pack (f : Int) (d + 1) nnil nnil).toArray) N7.out hsz
    have g3 := grown_setCells (w := W7.drew) (vs := (ncells 6 t.pack (f : Int) (d + 1) nnil nnil).toArray.toList) (i := 0) N7.out (by rw [note0_len]; simp [ncells_len])
    refine bodyPost_ret (results3_mid rfl _ N (ncells 6 t.pack (f : Int) (d + 1) nnil nnil).toArray _ rfl (lies_block k3) Tryd.underlying33 rfl (by rw [size_note]; simp [ncells_len])) rfl ⟨rfl, ⟨.slice x6 (qs.length + 1) xc6, ?_, ?_, ?_, HI.out.hb, HI.out.hB⟩, ?_⟩
    · rw [g3.block a (by have := (Array.getElem?_eq_some_iff.1 X7.out).1; exact this) (fun e => by cases e; omega)]; exact X7.out
    · rw [HLV.out]
      have := own_of (w := W7.drew) (w' := W7.drew.setCells N 0 (ncells 6 t.pack (f : Int) (d + 1) nnil nnil).toArray.toList) (show W7.drew.ownsRow _ _ _ _ _ _ from own_of O7.out fun _ _ _ h => h) (fun k cur hk hc => by
        rw [g3.block k (Array.getElem?_eq_some_iff.1 hc).1 (fun e => by cases e; rw [show W7.drew.heap[N]? = _ from N7.out] at hc; simp at hc)]; exact hc)
      simpa using this
    · simp; omega
    · exact (K7.out.then hAw (below_drew (Below.refl _ _))).freshRow (Nat.le_trans HI.out.hB hA) g3 (fun k hk => by cases hk; rw [HNN.out]; exact Nat.le_refl _)
end Go.Proofs.YtdlcmdoefdkjpaaDoor
