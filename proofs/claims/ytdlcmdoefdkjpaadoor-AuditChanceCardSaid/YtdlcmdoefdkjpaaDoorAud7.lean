/- What close does with each function value. -/
import Derived.Test.YtdlcmdoefdkjpaaDoorAud6
namespace Go.Proofs.YtdlcmdoefdkjpaaDoor
open Go.RowKit
open Extern.Stop (cell)

abbrev q0 : Qn := ⟨0, [], 0, 0, 0, 0⟩
theorem built_q0 : Tryd.prog.built 98 [] = some (qcells q0).toArray := by kernel_rfl
theorem sizeq (q : Qn) : (Tryd.prog.info? 98).map (·.size) = some (qcells q).toArray.size := by rw [size_qn]; simp [qcells_len]
set_option maxHeartbeats 2000000 in
theorem index_late {w : World} {ad : Option Addr} {c : Nat} {es : List Qn} {b1 b2 : Nat} (hrow : RowAt w ad (es.flatMap qcells)) (hfew : es.length ≤ 1000000) (p : Qn → Bool)
    (hp : ∀ W, Below w.heap.size w W → ∀ x ∈ es, Calls Tryd.prog 53 #[.agg (qcells x).toArray, .pointer (some ⟨b1, 0, none⟩), .pointer (some ⟨b2, 0, none⟩)] W fun e W' => e = .returned (.bool (p x)) ∧ Below W.heap.size W W') :
    Calls Tryd.prog 67 #[.slice ad es.length c, .func (.func 53) #[] #[.pointer (some ⟨b1, 0, none⟩), .pointer (some ⟨b2, 0, none⟩)]] w fun e w' => e = .returned (.int .i64 (idxOf p es)) ∧ Below w.heap.size w w' := by
  have R := Lib.hid hrow
  have HP := Lib.hid hp
  obtain ⟨n, hn⟩ : ∃ n, n = es.length := ⟨_, rfl⟩
  have HN := Lib.hid hn
  rw [← hn] at hfew ⊢
  have eg : ∀ args w, (callFunc 53 args).run Tryd.prog w = .ok (.enter 53 args) w := fun _ _ => by kernel_rfl
  clear hrow hp hn
  go_enter Tryd.func67, Tryd.ntmps67
  go_wp2_with fail
  go_loopg [5, 8] n (fun k _ s8 wr => ∃ j : Nat, j ≤ n ∧ k = n - j ∧ s8 = .int .i64 j ∧ Below w.heap.size w wr ∧ ∀ q y, q < j → es[q]? = some y → p y = false)
  case atStart => exact ⟨0, Nat.zero_le _, rfl, rfl, Below.refl _ _, fun q y h _ => absurd h (Nat.not_lt_zero _)⟩
  case round =>
    obtain ⟨j, hj, hk, rfl, hB, hall⟩ := hrel
    have HB := Lib.hid hB
    have HK := Lib.hid hk
    have HA := Lib.hid hall
    by_cases hlt : j < n
    · obtain ⟨x, hx⟩ : ∃ x, es[j]? = some x := ⟨es[j]'(by rw [← HN.out]; exact hlt), List.getElem?_eq_getElem _⟩
      obtain ⟨b, off, rfl, hbl, hl⟩ := rowAt_elem qcells_len (by decide) (R.out.later hB) hx
      have LL := Lib.hid hl
      have FC := Lib.hid (HP.out wr hB x (List.mem_of_getElem? hx))
      have HX := Lib.hid hx
      have j0 : (0 : Int) ≤ (j : Int) := Int.natCast_nonneg _
      have j1 : (j : Int) < (n : Int) := by omega
      clear hB hk hall hl hx
      go_wp2_with (refine wpList_load_agg rfl 98 (.tmp 14) rfl b (off + j * 37) rfl (qcells x).toArray _ LL.out Tryd.underlying98 rfl (by rw [size_qn]; simp [qcells_len]) ?_)
      generalize hpv : p x = pv at *
      have PV := Lib.hid hpv
      clear hpv
      refine FC.out.mono ?_
      rintro e w2 ⟨rfl, hg⟩
      have HG := Lib.hid hg
      clear hg FC
      cases pv
      · go_wp2
        go_roundg (n - (j + 1))
        case measure => rw [HK.out]; omega
        case rel =>
          refine ⟨j + 1, by omega, rfl, by go_num, HB.out.trans (HG.out.mono HB.out.size), fun q y hq hy => ?_⟩
          by_cases hqj : q < j
          · exact HA.out q y hqj hy
          · obtain rfl : q = j := by omega
            rw [HX.out] at hy
            cases hy
            exact PV.out
      · go_wp2
        go_ret
        exact ⟨by rw [idxOf_at HX.out PV.out HA.out]; rfl, HB.out.trans (HG.out.mono HB.out.size)⟩
    · obtain rfl : j = n := by omega
      clear hB hk hall
      go_wp2
      go_ret
      refine ⟨?_, HB.out⟩
      rw [idxOf_none fun x hx => by obtain ⟨q, hq⟩ := List.mem_iff_getElem?.1 hx; exact HA.out q x (by rw [HN.out]; exact (List.getElem?_eq_some_iff.1 hq).1) hq]
      rfl
set_option maxHeartbeats 2000000 in
theorem index_refuse {w : World} {ad : Option Addr} {c : Nat} {es : List Qn} {b1 b2 : Nat} (hrow : RowAt w ad (es.flatMap qcells)) (hfew : es.length ≤ 1000000) (p : Qn → Bool)
    (hp : ∀ W, Below w.heap.size w W → ∀ x ∈ es, Calls Tryd.prog 43 #[.agg (qcells x).toArray, .pointer (some ⟨b1, 0, none⟩), .pointer (some ⟨b2, 0, none⟩)] W fun e W' => e = .returned (.bool (p x)) ∧ Below W.heap.size W W') :
    Calls Tryd.prog 67 #[.slice ad es.length c, .func (.func 43) #[] #[.pointer (some ⟨b1, 0, none⟩), .pointer (some ⟨b2, 0, none⟩)]] w fun e w' => e = .returned (.int .i64 (idxOf p es)) ∧ Below w.heap.size w w' := by
  have R := Lib.hid hrow
  have HP := Lib.hid hp
  obtain ⟨n, hn⟩ : ∃ n, n = es.length := ⟨_, rfl⟩
  have HN := Lib.hid hn
  rw [← hn] at hfew ⊢
  have eg : ∀ args w, (callFunc 43 args).run Tryd.prog w = .ok (.enter 43 args) w := fun _ _ => by kernel_rfl
  clear hrow hp hn
  go_enter Tryd.func67, Tryd.ntmps67
  go_wp2_with fail
  go_loopg [5, 8] n (fun k _ s8 wr => ∃ j : Nat, j ≤ n ∧ k = n - j ∧ s8 = .int .i64 j ∧ Below w.heap.size w wr ∧ ∀ q y, q < j → es[q]? = some y → p y = false)
  case atStart => exact ⟨0, Nat.zero_le _, rfl, rfl, Below.refl _ _, fun q y h _ => absurd h (Nat.not_lt_zero _)⟩
  case round =>
    obtain ⟨j, hj, hk, rfl, hB, hall⟩ := hrel
    have HB := Lib.hid hB
    have HK := Lib.hid hk
    have HA := Lib.hid hall
    by_cases hlt : j < n
    · obtain ⟨x, hx⟩ : ∃ x, es[j]? = some x := ⟨es[j]'(by rw [← HN.out]; exact hlt), List.getElem?_eq_getElem _⟩
      obtain ⟨b, off, rfl, hbl, hl⟩ := rowAt_elem qcells_len (by decide) (R.out.later hB) hx
      have LL := Lib.hid hl
      have FC := Lib.hid (HP.out wr hB x (List.mem_of_getElem? hx))
      have HX := Lib.hid hx
      have j0 : (0 : Int) ≤ (j : Int) := Int.natCast_nonneg _
      have j1 : (j : Int) < (n : Int) := by omega
      clear hB hk hall hl hx
      go_wp2_with (refine wpList_load_agg rfl 98 (.tmp 14) rfl b (off + j * 37) rfl (qcells x).toArray _ LL.out Tryd.underlying98 rfl (by rw [size_qn]; simp [qcells_len]) ?_)
      generalize hpv : p x = pv at *
      have PV := Lib.hid hpv
      clear hpv
      refine FC.out.mono ?_
      rintro e w2 ⟨rfl, hg⟩
      have HG := Lib.hid hg
      clear hg FC
      cases pv
      · go_wp2
        go_roundg (n - (j + 1))
        case measure => rw [HK.out]; omega
        case rel =>
          refine ⟨j + 1, by omega, rfl, by go_num, HB.out.trans (HG.out.mono HB.out.size), fun q y hq hy => ?_⟩
          by_cases hqj : q < j
          · exact HA.out q y hqj hy
          · obtain rfl : q = j := by omega
            rw [HX.out] at hy
            cases hy
            exact PV.out
      · go_wp2
        go_ret
        exact ⟨by rw [idxOf_at HX.out PV.out HA.out]; rfl, HB.out.trans (HG.out.mono HB.out.size)⟩
    · obtain rfl : j = n := by omega
      clear hB hk hall
      go_wp2
      go_ret
      refine ⟨?_, HB.out⟩
      rw [idxOf_none fun x hx => by obtain ⟨q, hq⟩ := List.mem_iff_getElem?.1 hx; exact HA.out q x (by rw [HN.out]; exact (List.getElem?_eq_some_iff.1 hq).1) hq]
      rfl
set_option maxHeartbeats 2000000 in
theorem index_answer {w : World} {ad : Option Addr} {c : Nat} {es : List Qn} {b1 b2 : Nat} (hrow : RowAt w ad (es.flatMap qcells)) (hfew : es.length ≤ 1000000) (p : Qn → Bool)
    (hp : ∀ W, Below w.heap.size w W → ∀ x ∈ es, Calls Tryd.prog 41 #[.agg (qcells x).toArray, .pointer (some ⟨b1, 0, none⟩), .pointer (some ⟨b2, 0, none⟩)] W fun e W' => e = .returned (.bool (p x)) ∧ Below W.heap.size W W') :
    Calls Tryd.prog 67 #[.slice ad es.length c, .func (.func 41) #[] #[.pointer (some ⟨b1, 0, none⟩), .pointer (some ⟨b2, 0, none⟩)]] w fun e w' => e = .returned (.int .i64 (idxOf p es)) ∧ Below w.heap.size w w' := by
  have R := Lib.hid hrow
  have HP := Lib.hid hp
  obtain ⟨n, hn⟩ : ∃ n, n = es.length := ⟨_, rfl⟩
  have HN := Lib.hid hn
  rw [← hn] at hfew ⊢
  have eg : ∀ args w, (callFunc 41 args).run Tryd.prog w = .ok (.enter 41 args) w := fun _ _ => by kernel_rfl
  clear hrow hp hn
  go_enter Tryd.func67, Tryd.ntmps67
  go_wp2_with fail
  go_loopg [5, 8] n (fun k _ s8 wr => ∃ j : Nat, j ≤ n ∧ k = n - j ∧ s8 = .int .i64 j ∧ Below w.heap.size w wr ∧ ∀ q y, q < j → es[q]? = some y → p y = false)
  case atStart => exact ⟨0, Nat.zero_le _, rfl, rfl, Below.refl _ _, fun q y h _ => absurd h (Nat.not_lt_zero _)⟩
  case round =>
    obtain ⟨j, hj, hk, rfl, hB, hall⟩ := hrel
    have HB := Lib.hid hB
    have HK := Lib.hid hk
    have HA := Lib.hid hall
    by_cases hlt : j < n
    · obtain ⟨x, hx⟩ : ∃ x, es[j]? = some x := ⟨es[j]'(by rw [← HN.out]; exact hlt), List.getElem?_eq_getElem _⟩
      obtain ⟨b, off, rfl, hbl, hl⟩ := rowAt_elem qcells_len (by decide) (R.out.later hB) hx
      have LL := Lib.hid hl
      have FC := Lib.hid (HP.out wr hB x (List.mem_of_getElem? hx))
      have HX := Lib.hid hx
      have j0 : (0 : Int) ≤ (j : Int) := Int.natCast_nonneg _
      have j1 : (j : Int) < (n : Int) := by omega
      clear hB hk hall hl hx
      go_wp2_with (refine wpList_load_agg rfl 98 (.tmp 14) rfl b (off + j * 37) rfl (qcells x).toArray _ LL.out Tryd.underlying98 rfl (by rw [size_qn]; simp [qcells_len]) ?_)
      generalize hpv : p x = pv at *
      have PV := Lib.hid hpv
      clear hpv
      refine FC.out.mono ?_
      rintro e w2 ⟨rfl, hg⟩
      have HG := Lib.hid hg
      clear hg FC
      cases pv
      · go_wp2
        go_roundg (n - (j + 1))
        case measure => rw [HK.out]; omega
        case rel =>
          refine ⟨j + 1, by omega, rfl, by go_num, HB.out.trans (HG.out.mono HB.out.size), fun q y hq hy => ?_⟩
          by_cases hqj : q < j
          · exact HA.out q y hqj hy
          · obtain rfl : q = j := by omega
            rw [HX.out] at hy
            cases hy
            exact PV.out
      · go_wp2
        go_ret
        exact ⟨by rw [idxOf_at HX.out PV.out HA.out]; rfl, HB.out.trans (HG.out.mono HB.out.size)⟩
    · obtain rfl : j = n := by omega
      clear hB hk hall
      go_wp2
      go_ret
      refine ⟨?_, HB.out⟩
      rw [idxOf_none fun x hx => by obtain ⟨q, hq⟩ := List.mem_iff_getElem?.1 hx; exact HA.out q x (by rw [HN.out]; exact (List.getElem?_eq_some_iff.1 hq).1) hq]
      rfl
set_option maxHeartbeats 1000000 in
set_option maxRecDepth 100000 in
theorem close_none (w : World) (f : Value) : Calls Tryd.prog 40 #[.pointer none, f] w fun e w' => e = .returned (.tuple #[.agg (qcells q0).toArray, .bool false]) ∧ Below w.heap.size w w' := by
  go_enter Tryd.func40, Tryd.ntmps40
  go_upto_region 1 with fail
  obtain ⟨N, hN⟩ : ∃ N, N = w.heap.size := ⟨_, rfl⟩
  rw [← hN]
  refine wp_named fun W hW => ?_
  have b0 : Below w.heap.size w W := by rw [hW]; exact below_alloc (Below.refl _ _) _
  have k0 : W.heap[N]? = some (.cells (qcells q0).toArray 98 (0, 0)) := by rw [hW, hN]; exact heap_at w _
  have B0 := Lib.hid b0
  have K0 := Lib.hid k0
  have HN := Lib.hid hN
  clear hW b0 k0 hN
  have TH := there_block K0.out (i := 0) (n := 37) (by simp [qcells_len])
  go_wp2_with (first | (refine wpList_build_eq rfl 98 #[] rfl (qcells q0).toArray built_q0 ?_) | (refine wpList_store_mid rfl 98 (.tmp 4) (.tmp 10) rfl N 0 (qcells q0).toArray rfl rfl (by simpa [qcells_len] using TH) (sizeq q0) (all_oneCell_toArray (qcells_one q0)) ?_))
  have k3 := heap_setCells_whole (D := (qcells q0).toArray) K0.out rfl
  have b3 := B0.out.grown (grown_setCells (vs := (qcells q0).toArray.toList) (i := 0) K0.out (by simp)) B0.out.size (fun k hk => by cases hk; rw [HN.out]; exact Nat.le_refl _)
  refine bodyPost_ret (results2_mid rfl _ N (qcells q0).toArray _ rfl (lies_block k3) Tryd.underlying98 rfl (sizeq q0)) rfl ⟨rfl, b3⟩
set_option maxHeartbeats 2000000 in
set_option maxRecDepth 100000 in
theorem close_no_late {A B : Nat} {w : World} {a : Nat} {d : Int} {qs : List Qn} {b1 b2 : Nat} (h : IsAud A B w a d qs) (p : Qn → Bool)
    (hp : ∀ W, Below w.heap.size w W → ∀ x ∈ qs, Calls Tryd.prog 53 #[.agg (qcells x).toArray, .pointer (some ⟨b1, 0, none⟩), .pointer (some ⟨b2, 0, none⟩)] W fun e W' => e = .returned (.bool (p x)) ∧ Below W.heap.size W W') (hno : ∀ x ∈ qs, p x = false) :
    Calls Tryd.prog 40 #[.pointer (some ⟨a, 0, none⟩), .func (.func 53) #[] #[.pointer (some ⟨b1, 0, none⟩), .pointer (some ⟨b2, 0, none⟩)]] w fun e w' => e = .returned (.tuple #[.agg (qcells q0).toArray, .bool false]) ∧ Below w.heap.size w w' := by
  obtain ⟨v, hI⟩ := h
  obtain ⟨x, xc, rfl⟩ := hI.slice
  have HI := Lib.hid hI
  have HP := Lib.hid hp
  have HO := Lib.hid hno
  clear hI hp hno
  go_enter Tryd.func40, Tryd.ntmps40
  go_upto_region 1 with fail
  obtain ⟨N, hN⟩ : ∃ N, N = w.heap.size := ⟨_, rfl⟩
  rw [← hN]
  refine wp_named fun W hW => ?_
  have b0 : Below w.heap.size w W := by rw [hW]; exact below_alloc (Below.refl _ _) _
  have k0 : W.heap[N]? = some (.cells (qcells q0).toArray 98 (0, 0)) := by rw [hW, hN]; exact heap_at w _
  have I := HI.out.later b0
  have IX := Lib.hid (index_late (rowAt_own I.row) (by have := I.few; omega) p (c := xc) (b1 := b1) (b2 := b2) (fun W' hW' y hy => HP.out W' (b0.trans (hW'.mono b0.size)) y hy))
  obtain ⟨⟨e0, e1⟩, e2, e3⟩ := blk2 I.box
  have B0 := Lib.hid b0
  have K0 := Lib.hid k0
  have HN := Lib.hid hN
  clear hW b0 k0 hN I
  go_wp2_with fail
  refine IX.out.mono ?_
  rintro e w1 ⟨rfl, c1⟩
  rw [idxOf_none HO.out]
  have B1 := Lib.hid (B0.out.trans (c1.mono B0.out.size))
  have K1 := Lib.hid (heap_kept c1 K0.out (Array.getElem?_eq_some_iff.1 K0.out).1)
  clear c1 IX e0 e1 e2 e3 B0 K0
  have TH := there_block K1.out (i := 0) (n := 37) (by simp [qcells_len])
  go_wp2_with (first | (refine wpList_build_eq rfl 98 #[] rfl (qcells q0).toArray built_q0 ?_) | (refine wpList_store_mid rfl 98 (.tmp 4) (.tmp 19) rfl N 0 (qcells q0).toArray rfl rfl (by simpa [qcells_len] using TH) (sizeq q0) (all_oneCell_toArray (qcells_one q0)) ?_))
  have k3 := heap_setCells_whole (D := (qcells q0).toArray) K1.out rfl
  have b3 := B1.out.grown (grown_setCells (vs := (qcells q0).toArray.toList) (i := 0) K1.out (by simp)) B1.out.size (fun k hk => by cases hk; rw [HN.out]; exact Nat.le_refl _)
  refine bodyPost_ret (results2_mid rfl _ N (qcells q0).toArray _ rfl (lies_block k3) Tryd.underlying98 rfl (sizeq q0)) rfl ⟨rfl, b3⟩
set_option maxHeartbeats 4000000 in
set_option maxRecDepth 100000 in
theorem close_yes_late {A B : Nat} {w : World} {a : Nat} {d : Int} {qs : List Qn} {b1 b2 : Nat} (h : IsAud A B w a d qs) (hB : B ≤ w.heap.size) (p : Qn → Bool)
    (hp : ∀ W, Below w.heap.size w W → ∀ x ∈ qs, Calls Tryd.prog 53 #[.agg (qcells x).toArray, .pointer (some ⟨b1, 0, none⟩), .pointer (some ⟨b2, 0, none⟩)] W fun e W' => e = .returned (.bool (p x)) ∧ Below W.heap.size W W')
    {k : Nat} {y : Qn} (hy : qs[k]? = some y) (hpy : p y = true) (hb : ∀ j z, j < k → qs[j]? = some z → p z = false) :
    Calls Tryd.prog 40 #[.pointer (some ⟨a, 0, none⟩), .func (.func 53) #[] #[.pointer (some ⟨b1, 0, none⟩), .pointer (some ⟨b2, 0, none⟩)]] w fun e w' => e = .returned (.tuple #[.agg (qcells y).toArray, .bool true]) ∧ IsAud A B w' a d (qs.eraseIdx k) ∧ Keeps audT A w w' := by
  obtain ⟨v, hI⟩ := h
  obtain ⟨x, xc, rfl⟩ := hI.slice
  have hkl := (List.getElem?_eq_some_iff.1 hy).1
  have HI := Lib.hid hI
  have HP := Lib.hid hp
  have HO := Lib.hid (idxOf_at hy hpy hb)
  have HY := Lib.hid hy
  obtain ⟨n, hn⟩ : ∃ n, n = qs.length := ⟨_, rfl⟩
  have HNN := Lib.hid hn
  have hfew := hI.few
  rw [← hn] at hkl hfew
  rw [← hn] at HI
  clear hI hp hpy hb hy hn
  go_enter Tryd.func40, Tryd.ntmps40
  go_upto_region 1 with fail
  obtain ⟨N, hN⟩ : ∃ N, N = w.heap.size := ⟨_, rfl⟩
  rw [← hN]
  refine wp_named fun W hW => ?_
  have b0 : Below w.heap.size w W := by rw [hW]; exact below_alloc (Below.refl _ _) _
  have k0 : W.heap[N]? = some (.cells (qcells q0).toArray 98 (0, 0)) := by rw [hW, hN]; exact heap_at w _
  have I := HI.out.later b0
  have IX := index_late (rowAt_own I.row) (by have := I.few; omega) p (c := xc) (b1 := b1) (b2 := b2) (fun W' hW' y hy => HP.out W' (b0.trans (hW'.mono b0.size)) y hy)
  rw [← HNN.out] at IX
  replace IX := Lib.hid IX
  obtain ⟨⟨e0, e1⟩, e2, e3⟩ := blk2 I.box
  have B0 := Lib.hid b0
  have K0 := Lib.hid k0
  have HN := Lib.hid hN
  clear hW b0 k0 hN I
  go_wp2_with fail
  refine IX.out.mono ?_
  rintro e w1 ⟨rfl, c1⟩
  rw [HO.out]
  have b1' := B0.out.trans (c1.mono B0.out.size)
  have I1 := HI.out.later b1'
  have K1 := Lib.hid (heap_kept c1 K0.out (Array.getElem?_eq_some_iff.1 K0.out).1)
  have aN : a < N := by rw [HN.out]; exact HI.out.lt
  have hrow1 := I1.row
  rw [← HNN.out] at hrow1
  obtain ⟨g, rfl, hgl, lg, hcap⟩ := own_elem qcells_len (by decide) hrow1 HY.out
  have B1 := Lib.hid b1'
  have R1 := Lib.hid hrow1
  have LG := Lib.hid lg
  clear c1 IX e0 e1 e2 e3 B0 K0 b1' hrow1 lg
  obtain ⟨⟨e0, e1⟩, e2, e3⟩ := blk2 I1.box
  have X1 := Lib.hid I1.box
  clear I1
  have kk0 : (0 : Int) ≤ (k : Int) := by omega
  have kk1 : (k : Int) < (n : Int) := by omega
  go_upto_region 7 with (first | (refine wpList_load_agg rfl 98 (.tmp 25) rfl g (k * 37) rfl (qcells y).toArray _ LG.out Tryd.underlying98 rfl (sizeq y) ?_) | (refine wpList_store_new rfl 98 (.tmp 7) (.tmp 26) rfl _ (qcells y).toArray rfl rfl (sizeq y) (by simp [qcells_len]) (all_oneCell_toArray (qcells_one y)) ?_))
  obtain ⟨T, hT⟩ : ∃ T, T = w1.heap.size := ⟨_, rfl⟩
  rw [← hT]
  refine wp_named fun W2 hW2 => ?_
  have u2 : Below w1.heap.size w1 W2 := by rw [hW2]; exact below_alloc (Below.refl _ _) _
  have t2 : W2.heap[T]? = some (.cells (qcells y).toArray 98 (0, 0)) := by rw [hW2, hT]; exact heap_at w1 _
  have NT : N < T := by rw [hT]; exact (Array.getElem?_eq_some_iff.1 K1.out).1
  have gT : g < T := by rw [hT]; exact hgl
  have gN : g ≠ N := fun e => by have h1 := (own_row R1.out (k := g) rfl); have h2 := HI.out.row; have h3 := (own_row (HI.out.row) (k := g) rfl); obtain ⟨_, cur, h4⟩ := h3; have := (Array.getElem?_eq_some_iff.1 h4).1; have := HN.out; omega
  have ga : g ≠ a := fun e => by obtain ⟨_, cur, h4⟩ := own_row HI.out.row (k := g) rfl; rw [e, HI.out.box] at h4; simp at h4
  have x2 := heap_kept u2 X1.out (Array.getElem?_eq_some_iff.1 X1.out).1
  have n2 := heap_kept u2 K1.out (Array.getElem?_eq_some_iff.1 K1.out).1
  have r2 := own_later R1.out u2
  have DL := Lib.hid (delete_qn (n := n) r2 HNN.out hkl (by omega))
  have B2 := Lib.hid (B1.out.trans (u2.mono B1.out.size))
  have T2 := Lib.hid t2
  have X2 := Lib.hid x2
  have N2 := Lib.hid n2
  have R2 := Lib.hid r2
  clear hW2 hT u2 t2 x2 n2 r2 e0 e1 e2 e3 K1 X1 R1 LG B1
  obtain ⟨⟨e0, e1⟩, e2, e3⟩ := blk2 X2.out
  go_wp2_with fail
  refine DL.out.mono ?_
  rintro e w3 ⟨rfl, r3, g3⟩
  have x3 := (g3.block a (Array.getElem?_eq_some_iff.1 X2.out).1 (fun e => ga (by cases e; rfl))).trans X2.out
  have n3 := (g3.block N (Array.getElem?_eq_some_iff.1 N2.out).1 (fun e => gN (by cases e; rfl))).trans N2.out
  have t3 := (g3.block T (Array.getElem?_eq_some_iff.1 T2.out).1 (fun e => by cases e; omega)).trans T2.out
  have hAw : A ≤ w.heap.size := Nat.le_trans HI.out.hB hB
  have k3 : Keeps audT A w w3 := (Keeps.of B2.out hAw).row g3 (Nat.le_trans hAw B2.out.size) (fun k hk => by cases hk; obtain ⟨q1, cur, q2⟩ := own_row R2.out (k := g) rfl; exact ⟨Nat.le_trans HI.out.hB q1, cur, _, _, q2, rfl⟩)
  have X3 := Lib.hid x3
  have N3 := Lib.hid n3
  have T3 := Lib.hid t3
  have R3 := Lib.hid r3
  have K3 := Lib.hid k3
  clear e0 e1 e2 e3 x3 n3 t3 r3 g3 k3 DL B2 X2 N2 T2 R2
  obtain ⟨⟨e0, e1⟩, e2, e3⟩ := blk2 X3.out
  go_upto_region 8 with fail
  refine wp_named fun W4 hW4 => ?_
  have x4 : W4.heap[a]? = some (.cells #[.int .u64 d, .slice (some ⟨g, 0, none⟩) (n - 1) xc] 87 (0, 0)) := by rw [hW4]; exact heap_setCell_same _ X3.out
  have t4 : W4.heap[T]? = some (.cells (qcells y).toArray 98 (0, 0)) := by rw [hW4]; exact heap_setCell_ne _ T3.out (by show T ≠ a; omega)
  have n4 : W4.heap[N]? = some (.cells (qcells q0).toArray 98 (0, 0)) := by rw [hW4]; exact heap_setCell_ne _ N3.out (by show N ≠ a; omega)
  have r4 : W4.ownsRow B 98 37 (.slice (some ⟨g, 0, none⟩) (n - 1) xc) (n - 1) ((qs.eraseIdx k).flatMap qcells) := by rw [hW4]; exact own_far R3.out (fun e => ga (by simpa [Value.ownBlock] using e)) _
  have k4 : Keeps audT A w W4 := by rw [hW4]; exact K3.out.setCell X3.out rfl HI.out.hb _
  have X4 := Lib.hid x4
  have T4 := Lib.hid t4
  have N4 := Lib.hid n4
  have R4 := Lib.hid r4
  have K4 := Lib.hid k4
  clear e0 e1 e2 e3 hW4 x4 t4 n4 r4 k4 X3 N3 T3 R3 K3
  have TH := there_block N4.out (i := 0) (n := 37) (by simp [qcells_len])
  go_wp2_with (first | (refine wpList_load_agg rfl 98 (.tmp 7) rfl T 0 rfl (qcells y).toArray _ (lies_block T4.out) Tryd.underlying98 rfl (sizeq y) ?_) | (refine wpList_store_mid rfl 98 (.tmp 4) (.tmp 38) rfl N 0 (qcells y).toArray rfl rfl (by simpa [qcells_len] using TH) (sizeq y) (all_oneCell_toArray (qcells_one y)) ?_))
  have k5 := heap_setCells_whole (D := (qcells y).toArray) N4.out (by simp [qcells_len])
  have g5 := grown_setCells (vs := (qcells y).toArray.toList) (i := 0) N4.out (by simp [qcells_len])
  have hel : (qs.eraseIdx k).length = n - 1 := by rw [List.length_eraseIdx, if_pos (by rw [← HNN.out]; exact hkl), ← HNN.out]
  refine bodyPost_ret (results2_mid rfl _ N (qcells y).toArray _ rfl (lies_block k5) Tryd.underlying98 rfl (sizeq y)) rfl ⟨rfl, ⟨.slice (some ⟨g, 0, none⟩) (n - 1) xc, ?_, ?_, ?_, HI.out.hb, HI.out.hB⟩, ?_⟩
  · rw [g5.block a (Array.getElem?_eq_some_iff.1 X4.out).1 (fun e => by cases e; omega)]; exact X4.out
  · rw [hel]
    exact own_of R4.out (fun k' cur hk hc => by rw [g5.block k' (Array.getElem?_eq_some_iff.1 hc).1 (fun e => by cases e; exact gN (by simpa [Value.ownBlock] using hk))]; exact hc)
  · rw [hel]; omega
  · exact K4.out.freshRow hAw g5 (fun k' hk => by cases hk; rw [HN.out]; exact Nat.le_refl _)
end Go.Proofs.YtdlcmdoefdkjpaaDoor
