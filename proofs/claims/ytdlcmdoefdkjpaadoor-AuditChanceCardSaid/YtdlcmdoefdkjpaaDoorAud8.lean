/- What Handle does with refusals and with nothing, what Late does. -/
import Derived.Test.YtdlcmdoefdkjpaaDoorAud7
namespace Go.Proofs.YtdlcmdoefdkjpaaDoor
open Go.RowKit
open Extern.Stop (cell)

set_option maxHeartbeats 2000000 in
set_option maxRecDepth 100000 in
theorem close_no_refuse {A B : Nat} {w : World} {a : Nat} {d : Int} {qs : List Qn} {b1 b2 : Nat} (h : IsAud A B w a d qs) (p : Qn → Bool)
    (hp : ∀ W, Below w.heap.size w W → ∀ x ∈ qs, Calls Tryd.prog 43 #[.agg (qcells x).toArray, .pointer (some ⟨b1, 0, none⟩), .pointer (some ⟨b2, 0, none⟩)] W fun e W' => e = .returned (.bool (p x)) ∧ Below W.heap.size W W') (hno : ∀ x ∈ qs, p x = false) :
    Calls Tryd.prog 40 #[.pointer (some ⟨a, 0, none⟩), .func (.func 43) #[] #[.pointer (some ⟨b1, 0, none⟩), .pointer (some ⟨b2, 0, none⟩)]] w fun e w' => e = .returned (.tuple #[.agg (qcells q0).toArray, .bool false]) ∧ Below w.heap.size w w' := by
  obtain ⟨v, hI⟩ := h
  obtain ⟨x, xc, rfl⟩ := hI.slice
  have HI := Lib.hid hI
  have HP := Lib.hid hp
  have HO := Lib.hid hno
  clear hI hp hno
  go_enter Tryd.func40, Tryd.ntmps40
  go_upto_region 1 with fail
  obtain ⟨N, hN⟩ : ∃ N, N = w.heap.size := ⟨_, rfl⟩
  rw [← hN]
  refine wp_named fun W hW => ?_
  have b0 : Below w.heap.size w W := by rw [hW]; exact below_alloc (Below.refl _ _) _
  have k0 : W.heap[N]? = some (.cells (qcells q0).toArray 98 (0, 0)) := by rw [hW, hN]; exact heap_at w _
  have I := HI.out.later b0
  have IX := Lib.hid (index_refuse (rowAt_own I.row) (by have := I.few; omega) p (c := xc) (b1 := b1) (b2 := b2) (fun W' hW' y hy => HP.out W' (b0.trans (hW'.mono b0.size)) y hy))
  obtain ⟨⟨e0, e1⟩, e2, e3⟩ := blk2 I.box
  have B0 := Lib.hid b0
  have K0 := Lib.hid k0
  have HN := Lib.hid hN
  clear hW b0 k0 hN I
  go_wp2_with fail
  refine IX.out.mono ?_
  rintro e w1 ⟨rfl, c1⟩
  rw [idxOf_none HO.out]
  have B1 := Lib.hid (B0.out.trans (c1.mono B0.out.size))
  have K1 := Lib.hid (heap_kept c1 K0.out (Array.getElem?_eq_some_iff.1 K0.out).1)
  clear c1 IX e0 e1 e2 e3 B0 K0
  have TH := there_block K1.out (i := 0) (n := 37) (by simp [qcells_len])
  go_wp2_with (first | (refine wpList_build_eq rfl 98 #[] rfl (qcells q0).toArray built_q0 ?_) | (refine wpList_store_mid rfl 98 (.tmp 4) (.tmp 19) rfl N 0 (qcells q0).toArray rfl rfl (by simpa [qcells_len] using TH) (sizeq q0) (all_oneCell_toArray (qcells_one q0)) ?_))
  have k3 := heap_setCells_whole (D := (qcells q0).toArray) K1.out rfl
  have b3 := B1.out.grown (grown_setCells (vs := (qcells q0).toArray.toList) (i := 0) K1.out (by simp)) B1.out.size (fun k hk => by cases hk; rw [HN.out]; exact Nat.le_refl _)
  refine bodyPost_ret (results2_mid rfl _ N (qcells q0).toArray _ rfl (lies_block k3) Tryd.underlying98 rfl (sizeq q0)) rfl ⟨rfl, b3⟩
set_option maxHeartbeats 4000000 in
set_option maxRecDepth 100000 in
theorem close_yes_refuse {A B : Nat} {w : World} {a : Nat} {d : Int} {qs : List Qn} {b1 b2 : Nat} (h : IsAud A B w a d qs) (hB : B ≤ w.heap.size) (p : Qn → Bool)
    (hp : ∀ W, Below w.heap.size w W → ∀ x ∈ qs, Calls Tryd.prog 43 #[.agg (qcells x).toArray, .pointer (some ⟨b1, 0, none⟩), .pointer (some ⟨b2, 0, none⟩)] W fun e W' => e = .returned (.bool (p x)) ∧ Below W.heap.size W W')
    {k : Nat} {y : Qn} (hy : qs[k]? = some y) (hpy : p y = true) (hb : ∀ j z, j < k → qs[j]? = some z → p z = false) :
    Calls Tryd.prog 40 #[.pointer (some ⟨a, 0, none⟩), .func (.func 43) #[] #[.pointer (some ⟨b1, 0, none⟩), .pointer (some ⟨b2, 0, none⟩)]] w fun e w' => e = .returned (.tuple #[.agg (qcells y).toArray, .bool true]) ∧ IsAud A B w' a d (qs.eraseIdx k) ∧ Keeps audT A w w' := by
  obtain ⟨v, hI⟩ := h
  obtain ⟨x, xc, rfl⟩ := hI.slice
  have hkl := (List.getElem?_eq_some_iff.1 hy).1
  have HI := Lib.hid hI
  have HP := Lib.hid hp
  have HO := Lib.hid (idxOf_at hy hpy hb)
  have HY := Lib.hid hy
  obtain ⟨n, hn⟩ : ∃ n, n = qs.length := ⟨_, rfl⟩
  have HNN := Lib.hid hn
  have hfew := hI.few
  rw [← hn] at hkl hfew
  rw [← hn] at HI
  clear hI hp hpy hb hy hn
  go_enter Tryd.func40, Tryd.ntmps40
  go_upto_region 1 with fail
  obtain ⟨N, hN⟩ : ∃ N, N = w.heap.size := ⟨_, rfl⟩
  rw [← hN]
  refine wp_named fun W hW => ?_
  have b0 : Below w.heap.size w W := by rw [hW]; exact below_alloc (Below.refl _ _) _
  have k0 : W.heap[N]? = some (.cells (qcells q0).toArray 98 (0, 0)) := by rw [hW, hN]; exact heap_at w _
  have I := HI.out.later b0
  have IX := index_refuse (rowAt_own I.row) (by have := I.few; omega) p (c := xc) (b1 := b1) (b2 := b2) (fun W' hW' y hy => HP.out W' (b0.trans (hW'.mono b0.size)) y hy)
  rw [← HNN.out] at IX
  replace IX := Lib.hid IX
  obtain ⟨⟨e0, e1⟩, e2, e3⟩ := blk2 I.box
  have B0 := Lib.hid b0
  have K0 := Lib.hid k0
  have HN := Lib.hid hN
  clear hW b0 k0 hN I
  go_wp2_with fail
  refine IX.out.mono ?_
  rintro e w1 ⟨rfl, c1⟩
  rw [HO.out]
  have b1' := B0.out.trans (c1.mono B0.out.size)
  have I1 := HI.out.later b1'
  have K1 := Lib.hid (heap_kept c1 K0.out (Array.getElem?_eq_some_iff.1 K0.out).1)
  have aN : a < N := by rw [HN.out]; exact HI.out.lt
  have hrow1 := I1.row
  rw [← HNN.out] at hrow1
  obtain ⟨g, rfl, hgl, lg, hcap⟩ := own_elem qcells_len (by decide) hrow1 HY.out
  have B1 := Lib.hid b1'
  have R1 := Lib.hid hrow1
  have LG := Lib.hid lg
  clear c1 IX e0 e1 e2 e3 B0 K0 b1' hrow1 lg
  obtain ⟨⟨e0, e1⟩, e2, e3⟩ := blk2 I1.box
  have X1 := Lib.hid I1.box
  clear I1
  have kk0 : (0 : Int) ≤ (k : Int) := by omega
  have kk1 : (k : Int) < (n : Int) := by omega
  go_upto_region 7 with (first | (refine wpList_load_agg rfl 98 (.tmp 25) rfl g (k * 37) rfl (qcells y).toArray _ LG.out Tryd.underlying98 rfl (sizeq y) ?_) | (refine wpList_store_new rfl 98 (.tmp 7) (.tmp 26) rfl _ (qcells y).toArray rfl rfl (sizeq y) (by simp [qcells_len]) (all_oneCell_toArray (qcells_one y)) ?_))
  obtain ⟨T, hT⟩ : ∃ T, T = w1.heap.size := ⟨_, rfl⟩
  rw [← hT]
  refine wp_named fun W2 hW2 => ?_
  have u2 : Below w1.heap.size w1 W2 := by rw [hW2]; exact below_alloc (Below.refl _ _) _
  have t2 : W2.heap[T]? = some (.cells (qcells y).toArray 98 (0, 0)) := by rw [hW2, hT]; exact heap_at w1 _
  have NT : N < T := by rw [hT]; exact (Array.getElem?_eq_some_iff.1 K1.out).1
  have gT : g < T := by rw [hT]; exact hgl
  have gN : g ≠ N := fun e => by have h1 := (own_row R1.out (k := g) rfl); have h2 := HI.out.row; have h3 := (own_row (HI.out.row) (k := g) rfl); obtain ⟨_, cur, h4⟩ := h3; have := (Array.getElem?_eq_some_iff.1 h4).1; have := HN.out; omega
  have ga : g ≠ a := fun e => by obtain ⟨_, cur, h4⟩ := own_row HI.out.row (k := g) rfl; rw [e, HI.out.box] at h4; simp at h4
  have x2 := heap_kept u2 X1.out (Array.getElem?_eq_some_iff.1 X1.out).1
  have n2 := heap_kept u2 K1.out (Array.getElem?_eq_some_iff.1 K1.out).1
  have r2 := own_later R1.out u2
  have DL := Lib.hid (delete_qn (n := n) r2 HNN.out hkl (by omega))
  have B2 := Lib.hid (B1.out.trans (u2.mono B1.out.size))
  have T2 := Lib.hid t2
  have X2 := Lib.hid x2
  have N2 := Lib.hid n2
  have R2 := Lib.hid r2
  clear hW2 hT u2 t2 x2 n2 r2 e0 e1 e2 e3 K1 X1 R1 LG B1
  obtain ⟨⟨e0, e1⟩, e2, e3⟩ := blk2 X2.out
  go_wp2_with fail
  refine DL.out.mono ?_
  rintro e w3 ⟨rfl, r3, g3⟩
  have x3 := (g3.block a (Array.getElem?_eq_some_iff.1 X2.out).1 (fun e => ga (by cases e; rfl))).trans X2.out
  have n3 := (g3.block N (Array.getElem?_eq_some_iff.1 N2.out).1 (fun e => gN (by cases e; rfl))).trans N2.out
  have t3 := (g3.block T (Array.getElem?_eq_some_iff.1 T2.out).1 (fun e => by cases e; omega)).trans T2.out
  have hAw : A ≤ w.heap.size := Nat.le_trans HI.out.hB hB
  have k3 : Keeps audT A w w3 := (Keeps.of B2.out hAw).row g3 (Nat.le_trans hAw B2.out.size) (fun k hk => by cases hk; obtain ⟨q1, cur, q2⟩ := own_row R2.out (k := g) rfl; exact ⟨Nat.le_trans HI.out.hB q1, cur, _, _, q2, rfl⟩)
  have X3 := Lib.hid x3
  have N3 := Lib.hid n3
  have T3 := Lib.hid t3
  have R3 := Lib.hid r3
  have K3 := Lib.hid k3
  clear e0 e1 e2 e3 x3 n3 t3 r3 g3 k3 DL B2 X2 N2 T2 R2
  obtain ⟨⟨e0, e1⟩, e2, e3⟩ := blk2 X3.out
  go_upto_region 8 with fail
  refine wp_named fun W4 hW4 => ?_
  have x4 : W4.heap[a]? = some (.cells #[.int .u64 d, .slice (some ⟨g, 0, none⟩) (n - 1) xc] 87 (0, 0)) := by rw [hW4]; exact heap_setCell_same _ X3.out
  have t4 : W4.heap[T]? = some (.cells (qcells y).toArray 98 (0, 0)) := by rw [hW4]; exact heap_setCell_ne _ T3.out (by show T ≠ a; omega)
  have n4 : W4.heap[N]? = some (.cells (qcells q0).toArray 98 (0, 0)) := by rw [hW4]; exact heap_setCell_ne _ N3.out (by show N ≠ a; omega)
  have r4 : W4.ownsRow B 98 37 (.slice (some ⟨g, 0, none⟩) (n - 1) xc) (n - 1) ((qs.eraseIdx k).flatMap qcells) := by rw [hW4]; exact own_far R3.out (fun e => ga (by simpa [Value.ownBlock] using e)) _
  have k4 : Keeps audT A w W4 := by rw [hW4]; exact K3.out.setCell X3.out rfl HI.out.hb _
  have X4 := Lib.hid x4
  have T4 := Lib.hid t4
  have N4 := Lib.hid n4
  have R4 := Lib.hid r4
  have K4 := Lib.hid k4
  clear e0 e1 e2 e3 hW4 x4 t4 n4 r4 k4 X3 N3 T3 R3 K3
  have TH := there_block N4.out (i := 0) (n := 37) (by simp [qcells_len])
  go_wp2_with (first | (refine wpList_load_agg rfl 98 (.tmp 7) rfl T 0 rfl (qcells y).toArray _ (lies_block T4.out) Tryd.underlying98 rfl (sizeq y) ?_) | (refine wpList_store_mid rfl 98 (.tmp 4) (.tmp 38) rfl N 0 (qcells y).toArray rfl rfl (by simpa [qcells_len] using TH) (sizeq y) (all_oneCell_toArray (qcells_one y)) ?_))
  have k5 := heap_setCells_whole (D := (qcells y).toArray) N4.out (by simp [qcells_len])
  have g5 := grown_setCells (vs := (qcells y).toArray.toList) (i := 0) N4.out (by simp [qcells_len])
  have hel : (qs.eraseIdx k).length = n - 1 := by rw [List.length_eraseIdx, if_pos (by rw [← HNN.out]; exact hkl), ← HNN.out]
  refine bodyPost_ret (results2_mid rfl _ N (qcells y).toArray _ rfl (lies_block k5) Tryd.underlying98 rfl (sizeq y)) rfl ⟨rfl, ⟨.slice (some ⟨g, 0, none⟩) (n - 1) xc, ?_, ?_, ?_, HI.out.hb, HI.out.hB⟩, ?_⟩
  · rw [g5.block a (Array.getElem?_eq_some_iff.1 X4.out).1 (fun e => by cases e; omega)]; exact X4.out
  · rw [hel]
    exact own_of R4.out (fun k' cur hk hc => by rw [g5.block k' (Array.getElem?_eq_some_iff.1 hc).1 (fun e => by cases e; exact gN (by simpa [Value.ownBlock] using hk))]; exact hc)
  · rw [hel]; omega
  · exact K4.out.freshRow hAw g5 (fun k' hk => by cases hk; rw [HN.out]; exact Nat.le_refl _)
theorem built_nkind (k : Int) : Tryd.prog.built 33 [(0, .int .i64 k)] = some (ncells k [] 0 0 nnil nnil).toArray := by kernel_rfl
theorem sizen (k : Int) (pack : List UInt8) (n m : Int) (bv wv : Value) : (Tryd.prog.info? 33).map (·.size) = some (ncells k pack n m bv wv).toArray.size := by rw [size_note]; simp [ncells_len]
set_option maxHeartbeats 1000000 in
set_option maxRecDepth 100000 in
/-- Nobody is asked of one that is none. -/
theorem handle_none (w : World) (who k : Int) (pack : List UInt8) (n m : Int) (bv wv : Value) : Calls Tryd.prog 16 #[.pointer none, .int .i64 who, .agg (ncells k pack n m bv wv).toArray] w fun e w' => e = .returned (.int .i64 0) ∧ Below w.heap.size w w' := by
  have CN := close_none
  have three : k = 7 ∨ k = 3 ∨ (k ≠ 7 ∧ k ≠ 3) := by omega
  have hsz := sizen k pack n m bv wv
  have hn0 : (ncells k pack n m bv wv)[0]? = some (.int .i64 k) := rfl
  generalize ncells k pack n m bv wv = C at *
  have HC := Lib.hid hn0
  clear hn0 hsz
  rcases three with rfl | rfl | ⟨h7, h3⟩
  · go_enter Tryd.func16, Tryd.ntmps16
    go_upto_region 1 with fail
    obtain ⟨N, hN⟩ : ∃ N, N = w.heap.size := ⟨_, rfl⟩
    rw [← hN]
    refine wp_named fun W hW => ?_
    have b0 : Below w.heap.size w W := by rw [hW]; exact below_alloc (below_alloc (Below.refl _ _) _) _
    have k0 : W.heap[N + 1]? = some (.cells C.toArray 33 (0, 0)) := by rw [hW, hN]; have := heap_at (w.alloc (.cells #[.int .i64 who] 3)) (.cells C.toArray 33); simpa using this
    have c0 := blk_cell k0 HC.out
    have B0 := Lib.hid b0
    clear hW b0 k0 hN
    go_wp2_with fail
    refine (CN _ _).mono ?_
    rintro e w1 ⟨rfl, c1⟩
    have B1 := Lib.hid (B0.out.trans (c1.mono B0.out.size))
    clear c1 c0 B0
    go_wp2_with (refine wpList_store_new rfl 98 (.tmp 7) (.tmp 19) rfl _ (qcells q0).toArray rfl rfl (sizeq q0) (by simp [qcells_len]) (all_oneCell_toArray (qcells_one q0)) ?_)
    go_ret
    exact ⟨rfl, below_alloc B1.out _⟩
  · go_enter Tryd.func16, Tryd.ntmps16
    go_upto_region 1 with fail
    obtain ⟨N, hN⟩ : ∃ N, N = w.heap.size := ⟨_, rfl⟩
    rw [← hN]
    refine wp_named fun W hW => ?_
    have b0 : Below w.heap.size w W := by rw [hW]; exact below_alloc (below_alloc (Below.refl _ _) _) _
    have k0 : W.heap[N + 1]? = some (.cells C.toArray 33 (0, 0)) := by rw [hW, hN]; have := heap_at (w.alloc (.cells #[.int .i64 who] 3)) (.cells C.toArray 33); simpa using this
    have c0 := blk_cell k0 HC.out
    have B0 := Lib.hid b0
    clear hW b0 k0 hN
    go_wp2_with fail
    refine (CN _ _).mono ?_
    rintro e w1 ⟨rfl, c1⟩
    have B1 := Lib.hid (B0.out.trans (c1.mono B0.out.size))
    clear c1 c0 B0
    go_wp2_with (refine wpList_store_new rfl 98 (.tmp 9) (.tmp 52) rfl _ (qcells q0).toArray rfl rfl (sizeq q0) (by simp [qcells_len]) (all_oneCell_toArray (qcells_one q0)) ?_)
    go_ret
    exact ⟨rfl, below_alloc B1.out _⟩
  · have h7' : (k == 7) = false := by simpa using h7
    have h3' : (k == 3) = false := by simpa using h3
    go_enter Tryd.func16, Tryd.ntmps16
    go_upto_region 1 with fail
    obtain ⟨N, hN⟩ : ∃ N, N = w.heap.size := ⟨_, rfl⟩
    rw [← hN]
    refine wp_named fun W hW => ?_
    have b0 : Below w.heap.size w W := by rw [hW]; exact below_alloc (below_alloc (Below.refl _ _) _) _
    have k0 : W.heap[N + 1]? = some (.cells C.toArray 33 (0, 0)) := by rw [hW, hN]; have := heap_at (w.alloc (.cells #[.int .i64 who] 3)) (.cells C.toArray 33); simpa using this
    have c0 := blk_cell k0 HC.out
    have B0 := Lib.hid b0
    clear hW b0 k0 hN h7 h3
    go_wp2
    go_ret
    exact ⟨rfl, B0.out⟩
set_option maxHeartbeats 1000000 in
set_option maxRecDepth 100000 in
/-- A refusal to an open question. -/
theorem handle_refuse {A B : Nat} {w : World} {a : Nat} {d : Int} {qs : List Qn} (h : IsAud A B w a d qs) (hB : B ≤ w.heap.size) (who : Int) (pack : List UInt8) (n m : Int) (bv wv : Value)
    {k : Nat} {y : Qn} (hy : qs[k]? = some y) (hpy : prefuse who pack y = true) (hb : ∀ j z, j < k → qs[j]? = some z → prefuse who pack z = false) :
    Calls Tryd.prog 16 #[.pointer (some ⟨a, 0, none⟩), .int .i64 who, .agg (ncells 3 pack n m bv wv).toArray] w fun e w' => e = .returned (.int .i64 2) ∧ IsAud A B w' a d (qs.eraseIdx k) ∧ Keeps audT A w w' := by
  have HI := Lib.hid h
  have HY := Lib.hid hy
  have HP := Lib.hid hpy
  have HB := Lib.hid hb
  clear h hy hpy hb
  go_enter Tryd.func16, Tryd.ntmps16
  go_upto_region 1 with fail
  obtain ⟨N, hN⟩ : ∃ N, N = w.heap.size := ⟨_, rfl⟩
  rw [← hN]
  refine wp_named fun W hW => ?_
  have b0 : Below w.heap.size w W := by rw [hW]; exact below_alloc (below_alloc (Below.refl _ _) _) _
  have k0 : W.heap[N + 1]? = some (.cells (ncells 3 pack n m bv wv).toArray 33 (0, 0)) := by rw [hW, hN]; have := heap_at (w.alloc (.cells #[.int .i64 who] 3)) (.cells (ncells 3 pack n m bv wv).toArray 33); simpa using this
  have k1 : W.heap[N]? = some (.cells #[.int .i64 who] 3 (0, 0)) := by rw [hW, hN]; exact heap_up (heap_at w _)
  have c0 := blk_cell k0 (j := 0) rfl
  have CY := Lib.hid (close_yes_refuse (HI.out.later b0) (Nat.le_trans hB b0.size) (prefuse who pack) (b1 := N) (b2 := N + 1) (fun W' hW' q _ => prefuse_any q ((hW'.cell (p := ⟨N, 0, none⟩) (Array.getElem?_eq_some_iff.1 k1).1).trans (blk1 k1).1) (heap_kept hW' k0 (Array.getElem?_eq_some_iff.1 k0).1)) HY.out HP.out HB.out)
  have B0 := Lib.hid b0
  clear hW b0 k0 k1 hN
  go_wp2_with fail
  refine CY.out.mono ?_
  rintro e w1 ⟨rfl, h1, k1⟩
  have H1 := Lib.hid h1
  have K1 := Lib.hid k1
  clear h1 k1 CY c0
  have hAw : A ≤ w.heap.size := by obtain ⟨v, hv⟩ := HI.out; exact Nat.le_trans hv.hB hB
  go_wp2_with (refine wpList_store_new rfl 98 (.tmp 9) (.tmp 52) rfl _ (qcells y).toArray rfl rfl (sizeq y) (by simp [qcells_len]) (all_oneCell_toArray (qcells_one y)) ?_)
  go_ret
  exact ⟨rfl, H1.out.later (below_alloc (Below.refl _ _) _), ((Keeps.of B0.out hAw).trans K1.out).then hAw (below_alloc (Below.refl _ _) _)⟩
end Go.Proofs.YtdlcmdoefdkjpaaDoor
