/- slices.Delete at an auditor's questions, and the function values that are handed to close. -/
import Derived.Test.YtdlcmdoefdkjpaaDoorAud5
import Derived.Test.YtdlcmdoefdkjpaaDoorStep
namespace Go.Proofs.YtdlcmdoefdkjpaaDoor
open Go.RowKit
open Extern.Stop (cell)

theorem erase_flat2 {α : Type} (f : α → List Value) (es : List α) (i : Nat) : (es.take i).flatMap f ++ (es.drop (i + 1)).flatMap f = (es.eraseIdx i).flatMap f := by
  rw [← List.flatMap_append, List.eraseIdx_eq_take_drop_succ]
set_option maxHeartbeats 2000000 in
set_option maxRecDepth 100000 in
theorem delete_qn {B g cap n : Nat} {w : World} {es : List Qn} (h : w.ownsRow B 98 37 (.slice (some ⟨g, 0, none⟩) n cap) n (es.flatMap qcells)) (hn : n = es.length) {i : Nat} (hi : i < n) (hfew : n ≤ 1000000) :
    Calls Tryd.prog 68 #[.slice (some ⟨g, 0, none⟩) n cap, .int .i64 i, .int .i64 (i + 1)] w fun e w' =>
      e = .returned (.slice (some ⟨g, 0, none⟩) (n - 1) cap) ∧ w'.ownsRow B 98 37 (.slice (some ⟨g, 0, none⟩) (n - 1) cap) (n - 1) ((es.eraseIdx i).flatMap qcells) ∧ w.grownBy w' (some g) := by
  obtain ⟨k, hk⟩ : ∃ k, n = i + 1 + k := ⟨n - (i + 1), by omega⟩
  obtain ⟨hc1, hc2⟩ : n ≤ cap ∧ cap ≤ maxLen := by
    rcases h.2 with ⟨h', _⟩ | ⟨g', cap', cur, h', _, _, h1, h2, _⟩
    · simp at h'
    · cases h'; exact ⟨h1, h2⟩
  unfold maxLen at hc2
  have H := Lib.hid h
  have HN := Lib.hid hn
  subst hk
  have hc3 : (((i + 1 + k : Nat)) : Int) ≤ (cap : Int) := by omega
  have hic : i ≤ cap := by omega
  have hjc : i + 1 ≤ cap := by omega
  have hne : ¬ cap = i + k := by omega
  have hp1 : (0 : Int) ≤ (i : Int) + 1 := by omega
  have hp2 : (i : Int) + 1 ≤ (i : Int) + 1 + (k : Int) := by omega
  obtain ⟨A, hA, hsrc⟩ : ∃ A : Addr, (if cap = i + 1 then some (⟨g, 0, none⟩ : Addr) else some ⟨g, (i + 1) * 37, none⟩) = some A ∧ Hid (∀ t u, ((es.drop (i + 1)).flatMap qcells)[t]? = some u → w.drew.cell? (A.add t) = some u) := by
    have hdl : ((es.drop (i + 1)).flatMap qcells).length = k * 37 := by rw [flat_len qcells 37 qcells_len, List.length_drop]; omega
    by_cases hc : cap = i + 1
    · refine ⟨⟨g, 0, none⟩, by simp [hc], fun t u hu => ?_⟩
      have := (List.getElem?_eq_some_iff.1 hu).1
      rw [hdl] at this; omega
    · refine ⟨⟨g, (i + 1) * 37, none⟩, by simp [hc], fun t u hu => ?_⟩
      have ht := (List.getElem?_eq_some_iff.1 hu).1
      rw [hdl] at ht
      rw [← flat_drop qcells 37 qcells_len, List.getElem?_drop] at hu
      rw [Addr.add_lit]
      exact (H.out.cellAt ((i + 1) * 37 + t) (by omega)).trans hu
  clear h hn
  obtain ⟨i0, hi0, hz0, hz1, hz2⟩ := info_parts info_qn
  go_enter Tryd.func68, Tryd.ntmps68
  go_wp2_with fail
  go_region_law ((refine step_append_fits rfl (.tmp 22) (.tmp 25) 85 rfl B 98 i0 37 Tryd.underlying85 hi0 hz1 g i cap ((es.take i).flatMap qcells) (by simp [Act.eval, Act.put]) (by rw [← flat_take qcells 37 qcells_len]; exact own_later (own_cut H.out (by omega)) (Below.refl _ _).drew) A k (cap - (i + 1)) ((es.drop (i + 1)).flatMap qcells) (by simp [Act.eval, Act.put]) (by rw [flat_len qcells 37 qcells_len, List.length_drop]; have := HN.out; omega) hsrc.out (by intro u hu; obtain ⟨x, _, hu⟩ := List.mem_flatMap.1 hu; exact qcells_one x u hu) (by omega) ?_; intro W1 hW1 hW2))
  rw [erase_flat2 qcells es i] at hW1
  obtain ⟨W2, hcl, hW3, hW4⟩ := run_clear_row W1 85 98 _ 37 Tryd.underlying85 zero_qn (by simp [Value.cells, qcells_len]) (by intro u hu; exact qcells_one _ u (by simpa [Value.cells] using hu)) B g (i + k) cap _ hW1 (i + k) (i + 1 + k - (i + k)) (cap - (i + k)) (Nat.le_refl _) (by omega) ⟨g, (i + k) * 37, none⟩ (fun _ => rfl)
  have X1 := Lib.hid hW1
  have X2 := Lib.hid hW2
  have X3 := Lib.hid hW3
  have X4 := Lib.hid hW4
  clear hW1 hW2 hW3 hW4
  go_wp2
  go_ret
  have e1 : i + 1 + k - 1 = i + k := by omega
  rw [e1]
  have hx := X3.out
  rw [List.take_of_length_le (by rw [X1.out.1]; exact Nat.le_refl _)] at hx
  exact ⟨rfl, hx, grown_trans ⟨X2.out.os, X2.out.tape, X2.out.output, X2.out.size, X2.out.block⟩ X4.out⟩

/-! ### what the function values ask -/
def norm32 (x : List UInt8) : List UInt8 := (x ++ List.replicate 32 0).take 32
theorem norm32_len (x : List UInt8) : (norm32 x).length = 32 := by simp [norm32]
theorem norm32_of {x : List UInt8} (h : x.length = 32) : norm32 x = x := by
  unfold norm32
  rw [List.take_append_of_le_length (by omega), List.take_of_length_le (by omega)]
theorem idCells_norm (x : List UInt8) : idCells x = (norm32 x).map cell := rfl
theorem size_u8 : ∀ w, (sizeOf 5).run Tryd.prog w = .ok 1 w := fun w => by
  have h : (Tryd.prog.info? 5).map (·.size) = some 1 := by kernel_rfl
  obtain ⟨i, hi, hs⟩ := Option.map_eq_some_iff.1 h
  simp [sizeOf, typeInfo, hi, hs]
/-- Two ids compared. -/
theorem eql_ids (x y : List UInt8) (w : World) : (binOp .eql 28 (.agg (idCells x).toArray) (.agg (idCells y).toArray)).run Tryd.prog w = .ok (.bool (norm32 x == norm32 y)) w :=
  run_eql_bytes w 28 5 32 Tryd.underlying28 Tryd.underlying5 size_u8 (norm32 x) (norm32 y) (norm32_len _) (norm32_len _)
def acells (who : Int) (pack : List UInt8) (nonce : Int) : List Value := .int .i64 who :: (idCells pack ++ [.int .u64 nonce])
theorem acells_len (who : Int) (pack : List UInt8) (nonce : Int) : (acells who pack nonce).length = 34 := by simp [acells, idCells_len]
theorem size_about : (Tryd.prog.info? 96).map (·.size) = some 34 := by kernel_rfl
theorem eqi_ids (x y : List UInt8) (w : World) : (Op.equalIn 10000 28 (.agg (idCells x).toArray) (.agg (idCells y).toArray)).run Tryd.prog w = .ok (norm32 x == norm32 y) w :=
  run_equalIn_bytes w 9998 28 5 32 Tryd.underlying28 Tryd.underlying5 size_u8 (norm32 x) (norm32 y) (norm32_len _) (norm32_len _)
theorem part_who (who : Int) (pack : List UInt8) (nonce : Int) (w : World) : (part 3 (acells who pack nonce).toArray 0).run Tryd.prog w = .ok (.int .i64 who) w := by
  simp [part, isAgg, run_underlying Tryd.underlying3, acells]
theorem part_nonce (who : Int) (pack : List UInt8) (nonce : Int) (w : World) : (part 23 (acells who pack nonce).toArray 33).run Tryd.prog w = .ok (.int .u64 nonce) w := by
  have h : (acells who pack nonce)[33]? = some (.int .u64 nonce) := by
    have h : (idCells pack ++ [Value.int .u64 nonce])[32]? = some (.int .u64 nonce) := by
      rw [List.getElem?_append_right (by rw [idCells_len]; exact Nat.le_refl _), idCells_len]
      rfl
    exact h
  simp [part, isAgg, run_underlying Tryd.underlying23, h]
theorem part_pack (who : Int) (pack : List UInt8) (nonce : Int) (w : World) : (part 28 (acells who pack nonce).toArray 1).run Tryd.prog w = .ok (.agg (idCells pack).toArray) w := by
  have hs : ∀ w, (sizeOf 28).run Tryd.prog w = .ok 32 w := fun w => by
    obtain ⟨i, hi, hs⟩ := Option.map_eq_some_iff.1 size_id
    simp [sizeOf, typeInfo, hi, hs]
  have he : List.take 32 (acells who pack nonce).tail = idCells pack := by
    show List.take 32 (idCells pack ++ [Value.int .u64 nonce]) = _
    rw [List.take_append_of_le_length (by rw [idCells_len]; omega), List.take_of_length_le (by rw [idCells_len]; omega)]
  simp [part, isAgg, run_underlying Tryd.underlying28, hs, he]
set_option linter.unusedSimpArgs false in
theorem eql_about (who : Int) (pack : List UInt8) (nonce who' : Int) (pack' : List UInt8) (nonce' : Int) (w : World) :
    (binOp .eql 96 (.agg (acells who pack nonce).toArray) (.agg (acells who' pack' nonce').toArray)).run Tryd.prog w = .ok (.bool (who == who' && (norm32 pack == norm32 pack') && nonce == nonce')) w := by
  have e2 : (Op.equalIn 9999 28 (.agg (idCells pack).toArray) (.agg (idCells pack').toArray)).run Tryd.prog w = .ok (norm32 pack == norm32 pack') w :=
    run_equalIn_bytes w 9997 28 5 32 Tryd.underlying28 Tryd.underlying5 size_u8 (norm32 pack) (norm32 pack') (norm32_len _) (norm32_len _)
  have e1 : (Op.equalIn 9999 3 (.int .i64 who) (.int .i64 who')).run Tryd.prog w = .ok (who == who') w := run_equalIn_int w 9998 _ _ _ _ _ Tryd.underlying3
  have e3 : (Op.equalIn 9999 23 (.int .u64 nonce) (.int .u64 nonce')).run Tryd.prog w = .ok (nonce == nonce') w := run_equalIn_int w 9998 _ _ _ _ _ Tryd.underlying23
  rw [run_eql_struct, run_equalIn_struct w 9999 _ _ _ (by simp [Program.fieldsOf, Tryd.underlying96]) (by kernel_rfl)]
  simp only [Program.fieldsOf, Tryd.underlying96, Op.eqFields]
  generalize (who == who') = b1 at *
  generalize (norm32 pack == norm32 pack') = b2 at *
  generalize (nonce == nonce') = b3 at *
  cases b1 <;> cases b2 <;> cases b3 <;> simp [part_who, part_pack, part_nonce, e1, e2, e3]

/-- Late's question. -/
def plate (now wait : Int) (q : Qn) : Bool := decide (q.since ≤ now) && decide (wait ≤ now - q.since)
/-- A refusal's question. -/
def prefuse (who : Int) (pack : List UInt8) (q : Qn) : Bool := q.who == who && (norm32 q.pack == norm32 pack)
/-- An answer's question. -/
def panswer (who : Int) (pack : List UInt8) (nonce : Int) (q : Qn) : Bool := q.who == who && (norm32 q.pack == norm32 pack) && q.nonce == nonce
theorem qcells_head (q : Qn) {j : Nat} {v : Value} (h : (acells q.who q.pack q.nonce)[j]? = some v) : (qcells q)[j]? = some v := by
  have e : qcells q = acells q.who q.pack q.nonce ++ [.int .i64 q.leaf, .int .i64 q.leaves, .int .u64 q.since] := by simp [qcells, acells]
  rw [e, List.getElem?_append_left (List.getElem?_eq_some_iff.1 h).1]
  exact h
theorem acells_pack {who : Int} {pack : List UInt8} {nonce : Int} {j : Nat} {v : Value} (h : (idCells pack)[j]? = some v) : (acells who pack nonce)[1 + j]? = some v := by
  have hl := (List.getElem?_eq_some_iff.1 h).1
  have : (idCells pack ++ [Value.int .u64 nonce])[j]? = some v := by rw [List.getElem?_append_left hl]; exact h
  rw [Nat.add_comm]
  exact this
theorem ncells_pack {k : Int} {pack : List UInt8} {n m : Int} {bv wv : Value} {j : Nat} {v : Value} (h : (idCells pack)[j]? = some v) : (ncells k pack n m bv wv)[1 + j]? = some v := by
  have hl := (List.getElem?_eq_some_iff.1 h).1
  have : (idCells pack ++ [Value.int .u64 n, .int .u64 m, bv, wv])[j]? = some v := by rw [List.getElem?_append_left hl]; exact h
  rw [Nat.add_comm]
  exact this
theorem ncells_tail (k : Int) (pack : List UInt8) (n m : Int) (bv wv : Value) (j : Nat) : (ncells k pack n m bv wv)[33 + j]? = [Value.int .u64 n, .int .u64 m, bv, wv][j]? := by
  have h : (idCells pack ++ [Value.int .u64 n, .int .u64 m, bv, wv])[32 + j]? = [Value.int .u64 n, .int .u64 m, bv, wv][j]? := by
    rw [List.getElem?_append_right (by rw [idCells_len]; omega), idCells_len, show 32 + j - 32 = j by omega]
  rw [← h, show 33 + j = (32 + j) + 1 by omega]
  rfl
set_option maxHeartbeats 1000000 in
theorem plate_any {b1 b2 : Nat} {now wait : Int} (q : Qn) {w : World} (h1 : w.cell? ⟨b1, 0, none⟩ = some (.int .u64 now)) (h2 : w.cell? ⟨b2, 0, none⟩ = some (.int .u64 wait)) (hs0 : 0 ≤ q.since) (hn : Hid (now < 18446744073709551616)) :
    Calls Tryd.prog 53 #[.agg (qcells q).toArray, .pointer (some ⟨b1, 0, none⟩), .pointer (some ⟨b2, 0, none⟩)] w fun e w' => e = .returned (.bool (plate now wait q)) ∧ Below w.heap.size w w' := by
  have hl := qcells_tail q 3
  have b0 := heap_at w (.cells (qcells q).toArray 98)
  have bb := below_alloc (Below.refl w.heap.size w) (.cells (qcells q).toArray 98)
  have l1 := World.block_lt_of_cell? w _ h1
  have l2 := World.block_lt_of_cell? w _ h2
  have k1 := cell_up h1 (.cells (qcells q).toArray 98)
  have k2 := cell_up h2 (.cells (qcells q).toArray 98)
  unfold plate
  have WS : Hid (q.since ≤ now → IntKind.u64.wrap (now - q.since) = now - q.since) := Lib.hid fun h => by have := hn.out; rw [IntKind.wrap_u64]; omega
  generalize qcells q = C at *
  generalize q.since = s at *
  have HL := Lib.hid hl
  have B0 := Lib.hid b0
  have BB := Lib.hid bb
  have K1 := Lib.hid k1
  have K2 := Lib.hid k2
  clear hl b0 bb k1 k2 h1 h2
  by_cases hle : s ≤ now
  · have ws := WS.out hle
    by_cases hw : wait ≤ now - s
    · go_enter Tryd.func53, Tryd.ntmps53
      go_upto_region 1 with fail
      refine wp_named fun W hW => ?_
      rw [← hW] at B0 BB K1 K2
      have c0 := blk_cell B0.out HL.out
      have c1 := K1.out
      have c2 := K2.out
      clear hW HL B0 K1 K2
      go_wp2
      go_ret
      exact ⟨by first | (simp; done) | (simp; omega), BB.out⟩
    · have hw' : now - s < wait := by omega
      go_enter Tryd.func53, Tryd.ntmps53
      go_upto_region 1 with fail
      refine wp_named fun W hW => ?_
      rw [← hW] at B0 BB K1 K2
      have c0 := blk_cell B0.out HL.out
      have c1 := K1.out
      have c2 := K2.out
      clear hW HL B0 K1 K2
      go_wp2
      go_ret
      exact ⟨by first | (simp; done) | (simp; omega), BB.out⟩
  · go_enter Tryd.func53, Tryd.ntmps53
    go_upto_region 1 with fail
    refine wp_named fun W hW => ?_
    rw [← hW] at B0 BB K1 K2
    have c0 := blk_cell B0.out HL.out
    have c1 := K1.out
    have c2 := K2.out
    clear hW HL B0 K1 K2
    go_wp2
    go_ret
    exact ⟨by first | (simp; done) | (simp; omega), BB.out⟩
set_option maxHeartbeats 1000000 in
theorem prefuse_any {b1 b2 : Nat} {who k : Int} {pack : List UInt8} {n m : Int} {bv wv : Value} (q : Qn) {w : World} (h1 : w.cell? ⟨b1, 0, none⟩ = some (.int .i64 who)) (h2 : w.heap[b2]? = some (.cells (ncells k pack n m bv wv).toArray 33 (0, 0))) :
    Calls Tryd.prog 43 #[.agg (qcells q).toArray, .pointer (some ⟨b1, 0, none⟩), .pointer (some ⟨b2, 0, none⟩)] w fun e w' => e = .returned (.bool (prefuse who pack q)) ∧ Below w.heap.size w w' := by
  have b0 := heap_at w (.cells (qcells q).toArray 98)
  have bb := below_alloc (Below.refl w.heap.size w) (.cells (qcells q).toArray 98)
  have k1 := cell_up h1 (.cells (qcells q).toArray 98)
  have k2 := heap_up (o := .cells (qcells q).toArray 98) h2
  obtain ⟨N, hN⟩ : ∃ N, N = w.heap.size := ⟨_, rfl⟩
  have HN := Lib.hid hN
  rw [← hN] at b0
  have eq1 := eqi_ids q.pack pack
  unfold prefuse
  generalize (norm32 q.pack == norm32 pack) = pb at *
  have hq := qcells_head q (j := 0) rfl
  have B0 := Lib.hid b0
  have BB := Lib.hid bb
  have K1 := Lib.hid k1
  have K2 := Lib.hid k2
  clear b0 bb k1 k2 h1 h2 hN
  have HQ := Lib.hid hq
  have EQ := Lib.hid eq1
  clear hq eq1
  by_cases hw : q.who = who
  · go_enter Tryd.func43, Tryd.ntmps43
    go_upto_region 1 with fail
    rw [← HN.out]
    refine wp_named fun W hW => ?_
    rw [← hW] at B0 BB K1 K2
    have c0 := blk_cell B0.out HQ.out
    have c1 := K1.out
    have l1 : Lies W N 1 (idCells q.pack).toArray := fun j v hj => blk_cell B0.out (qcells_head q (acells_pack (by simpa using hj)))
    have l2 : Lies W b2 1 (idCells pack).toArray := fun j v hj => blk_cell K2.out (ncells_pack (by simpa using hj))
    have L1 := Lib.hid l1
    have L2 := Lib.hid l2
    have he : (q.who == who) = true := by simpa using hw
    have eq := EQ.out
    clear hW HQ B0 K1 K2 l1 l2 hw EQ
    go_wp2_with (first | (refine wpList_load_if (by rfl) 28 (.tmp 12) rfl N 1 rfl (idCells q.pack).toArray _ L1.out Tryd.underlying28 rfl (by rw [size_id]; simp [idCells_len]) ?_) | (refine wpList_load_if (by rfl) 28 (.tmp 14) rfl b2 1 rfl (idCells pack).toArray _ L2.out Tryd.underlying28 rfl (by rw [size_id]; simp [idCells_len]) ?_))
    go_ret
    exact ⟨by rw [he]; simp, BB.out⟩
  · have he : (q.who == who) = false := by simpa using hw
    go_enter Tryd.func43, Tryd.ntmps43
    go_upto_region 1 with fail
    rw [← HN.out]
    refine wp_named fun W hW => ?_
    rw [← hW] at B0 BB K1 K2
    have c0 := blk_cell B0.out HQ.out
    have c1 := K1.out
    clear hW HQ B0 K1 K2 hw EQ
    go_wp2
    go_ret
    exact ⟨by rw [he]; simp, BB.out⟩
end Go.Proofs.YtdlcmdoefdkjpaaDoor
