/- The law DedupOrder: in whatever order places are added, the bytes are the same; one that is none has nothing. No conditions. -/
import Derived.Test.YtgbghjpkdbjdgaaDd23
namespace Go.Proofs.Ytgbghjpkdbjdgaa
open Go.RowKit Go.ChangeShapes Go.WideShapes
open Extern.Stop (cell)

/-- The fourth byte of an id. -/
def b3 (a : Id32) : UInt8 := a.1.getD 3 0
theorem b3_at (a : Id32) : a.1[3]? = some (b3 a) := by
  have := a.2
  unfold b3
  rw [List.getD_eq_getElem?_getD, List.getElem?_eq_getElem (by omega)]
  rfl
abbrev plA (a : Id32) : Pl := ⟨a, ((b3 a).toNat : Int)⟩
theorem plA_ok (a : Id32) : 0 ≤ (plA a).n ∧ (plA a).n ≤ 1023 := by
  have := (b3 a).toNat_lt
  show (0 : Int) ≤ ((b3 a).toNat : Int) ∧ ((b3 a).toNat : Int) ≤ 1023
  omega
theorem SetIs.ok {l : List (Id32 × Pl)} {A : List Id32} (h : SetIs plA l A) : PlsOk l := fun e he => by
  rw [h.val e he]
  exact plA_ok _
set_option linter.unusedSimpArgs false in
set_option maxRecDepth 100000 in
set_option maxHeartbeats 8000000 in
theorem order_law {W : World} {ad : Option Addr} {l : List Id32} {c : Nat} (hrow : RowAt W ad (l.flatMap encId)) (hlen : l.length < 9223372036854775808) (t : Int) (ht : 0 ≤ t ∧ t ≤ 65535) :
    Calls Try.prog 5 #[.slice ad l.length c, .int .u16 t] W fun e w' => e = .returned (.bool true) ∧ Below W.heap.size W w' := by
  have ROW := Lib.hid hrow
  obtain ⟨t0, t1⟩ := ht
  obtain ⟨tn, htn⟩ : ∃ tn : Nat, t = (tn : Int) := ⟨t.toNat, by omega⟩
  have TN := Lib.hid htn
  obtain ⟨m, hm⟩ : ∃ m, m = l.length := ⟨_, rfl⟩
  have LM := Lib.hid hm
  rw [← hm] at hlen
  rw [← hm]
  clear hrow hm htn
  go_enter Try.func5, Try.ntmps5
  go_wp2_with fail
  refine (awake_any _).mono ?_
  rintro e w1 ⟨rfl, b1⟩
  have B1 := Lib.hid b1
  clear b1
  by_cases h20 : 30 < m
  · have h20' : (30 : Int) < (m : Int) := by omega
    go_wp2
    go_ret
    exact ⟨rfl, B1.out⟩
  have h20' : (m : Int) ≤ 30 := by omega
  go_wp2_with fail
  refine (new_any _).mono ?_
  rintro e w2 ⟨x, M, rfl, x2, hx2, hM2, b2⟩
  have X2 := Lib.hid x2
  have hxs : x < w2.heap.size := (Array.getElem?_eq_some_iff.1 x2.box).1
  have hMs : M < w2.heap.size := x2.map.lt
  have hxM := x2.ne
  have B2 := Lib.hid (B1.out.trans (b2.mono B1.out.size))
  have hWM : W.heap.size ≤ M := Nat.le_trans B1.out.size hM2
  clear x2 b2 B1 hM2 hx2
  go_wp2_with fail
  refine (new_any _).mono ?_
  rintro e w3 ⟨y, N, rfl, y3, hy3, hN3, b3'⟩
  have Y3 := Lib.hid y3
  have hyN := y3.ne
  have X3 := Lib.hid (X2.out.later b3')
  have B3 := Lib.hid (B2.out.trans (b3'.mono B2.out.size))
  have hWN : W.heap.size ≤ N := Nat.le_trans B2.out.size hN3
  have hxy : x < y ∧ x < N ∧ M < y ∧ M < N := by omega
  clear y3 b3' B2 X2 hxs hMs hy3 hN3
  obtain ⟨h1, h2, h3, h4⟩ := hxy
  go_wp2_with fail
  go_loopg [8] m (fun k s8 wr => ∃ (i : Nat) (lx ly : List (Id32 × Pl)), i ≤ m ∧ k = m - i ∧ lx.length ≤ i ∧ ly.length ≤ i ∧ s8 = .int .i64 i ∧ IxIs wr x M lx ∧ IxIs wr y N ly ∧ SetIs plA lx (l.take i) ∧ SetIs plA ly (turned l tn i) ∧ Below W.heap.size W wr)
  case atStart => exact ⟨0, [], [], Nat.zero_le _, rfl, Nat.le_refl _, Nat.le_refl _, rfl, X3.out, Y3.out, SetIs.nil _, SetIs.nil _, B3.out⟩
  case round =>
    obtain ⟨i, lx, ly, hi, hk, hlx, hly, rfl, x4, y4, s4, u4, b4⟩ := hrel
    have HK := Lib.hid hk
    have X4 := Lib.hid x4
    have Y4 := Lib.hid y4
    have S4 := Lib.hid s4
    have U4 := Lib.hid u4
    have B4 := Lib.hid b4
    have LX := Lib.hid hlx
    have LY := Lib.hid hly
    have i0 : (0 : Int) ≤ (i : Int) := Int.natCast_nonneg _
    clear hk x4 y4 s4 u4 b4 hlx hly X3 Y3 B3
    by_cases hlt : i < m
    · have hlt' : (i : Int) < (m : Int) := by omega
      obtain ⟨a, hia⟩ : ∃ a, l[i]? = some a := ⟨l[i]'(by rw [← LM.out]; exact hlt), List.getElem?_eq_getElem _⟩
      obtain ⟨r, hr⟩ : ∃ r, r = (i + tn) % m := ⟨_, rfl⟩
      have hrm : r < m := by rw [hr]; exact Nat.mod_lt _ (by omega)
      have hri : ((i : Int) + t) % (m : Int) = (r : Int) := by
        rw [hr, TN.out]
        exact (Int.natCast_emod (i + tn) m).symm
      obtain ⟨b, hib⟩ : ∃ b, l[r]? = some b := ⟨l[r]'(by rw [← LM.out]; exact hrm), List.getElem?_eq_getElem _⟩
      obtain ⟨g, off, rfl, hg, hL⟩ := rowAt_elem encId_len (by decide) (ROW.out.later B4.out) hia
      obtain ⟨g2, off2, e2, _, hL2⟩ := rowAt_elem encId_len (by decide) (ROW.out.later B4.out) hib
      cases e2
      have TA := Lib.hid hia
      have TB := Lib.hid (show l[(i + tn) % l.length]? = some b by rw [← LM.out, ← hr]; exact hib)
      have LL := Lib.hid hL
      have LL2 := Lib.hid hL2
      have r0 : (0 : Int) ≤ (r : Int) := Int.natCast_nonneg _
      have r1 : (r : Int) < (m : Int) := by omega
      clear hia hib hL hL2 hr
      go_upto_region 12 with (first | (refine wpList_load_agg rfl 31 (.tmp 32) rfl g (off + i * 32) rfl (encId a).toArray _ LL.out Try.underlying31 rfl (sizei a.1) ?_) | (refine wpList_store_new rfl 31 (.tmp 9) (.tmp 33) rfl _ (encId a).toArray rfl rfl (sizei a.1) (by simp [encId_len]) (all_oneCell_toArray (encId_one a)) ?_))
      refine wp_named fun w5 hw5 => ?_
      obtain ⟨T, hT⟩ : ∃ T, T = wr.heap.size := ⟨_, rfl⟩
      rw [← hT]
      have e5 : w5.heap[T]? = some (.cells (encId a).toArray 31 (0, 0)) := by rw [hw5, hT]; exact heap_at _ _
      have b5 : Below wr.heap.size wr w5 := by rw [hw5]; exact below_alloc (Below.refl _ _) _
      have E5 := Lib.hid e5
      have LL5 := Lib.hid (LL2.out.below b5 hg)
      have B45 := Lib.hid b5
      have TT := Lib.hid hT
      clear hw5 e5 b5 LL LL2 hT
      go_upto_region 13 with (first | (refine wpList_load_agg rfl 31 (.tmp 42) rfl g (off + r * 32) rfl (encId b).toArray _ LL5.out Try.underlying31 rfl (sizei b.1) ?_) | (refine wpList_store_new rfl 31 (.tmp 10) (.tmp 43) rfl _ (encId b).toArray rfl rfl (sizei b.1) (by simp [encId_len]) (all_oneCell_toArray (encId_one b)) ?_))
      refine wp_named fun w6 hw6 => ?_
      obtain ⟨T2, hT2⟩ : ∃ T2, T2 = w5.heap.size := ⟨_, rfl⟩
      rw [← hT2]
      have e6 : w6.heap[T2]? = some (.cells (encId b).toArray 31 (0, 0)) := by rw [hw6, hT2]; exact heap_at _ _
      have b6 : Below w5.heap.size w5 w6 := by rw [hw6]; exact below_alloc (Below.refl _ _) _
      have b46 := B45.out.trans (b6.mono B45.out.size)
      have E6 := Lib.hid (aRegionKept E5.out b6)
      have F6 := Lib.hid e6
      have X6 := Lib.hid (X4.out.later b46)
      have Y6 := Lib.hid (Y4.out.later b46)
      have B6 := Lib.hid (B4.out.trans (b46.mono B4.out.size))
      have hMT : M < T := by rw [TT.out]; exact X4.out.map.lt
      have hNT : N < T := by rw [TT.out]; exact Y4.out.map.lt
      have hTT : T < T2 := by rw [hT2]; exact (Array.getElem?_eq_some_iff.1 E5.out).1
      clear hw6 e6 b6 b46 LL5 E5 X4 Y4 B4 B45 hT2
      have LA := Lib.hid (lies_block E6.out)
      have ca : w6.cell? ⟨T, 3, none⟩ = some (.int .u8 ((b3 a).toNat : Int)) := id_at E6.out (b3_at a)
      obtain ⟨an, han⟩ : ∃ an : Int, an = ((b3 a).toNat : Int) := ⟨_, rfl⟩
      have AN := Lib.hid han
      have an0 : 0 ≤ an := by omega
      have an1 : an ≤ 255 := by have := (b3 a).toNat_lt; omega
      rw [← han] at ca
      have AD := Lib.hid (add_any X6.out a ⟨a, an⟩)
      have WA : IntKind.i64.wrap an = an := by rw [IntKind.wrap_i64]; omega
      clear han
      go_wp2_with (first | (refine wpList_load_agg rfl 31 (.tmp 9) rfl T 0 rfl (encId a).toArray _ LA.out Try.underlying31 rfl (sizei a.1) ?_) | (refine wpList_build_eq rfl 37 #[(0, .tmp 46), (1, .tmp 49)] rfl (plcells ⟨a, an⟩).toArray ?hb ?_))
      case hb => exact built_pl a an
      refine AD.out.mono ?_
      rintro e w7 ⟨rfl, x7, g7⟩
      have X7 := Lib.hid x7
      have Y7 := Lib.hid (Y6.out.grown g7 (fun e => by have := Option.some.inj e; omega) (fun e => by have := Option.some.inj e; omega))
      have B7 := Lib.hid (B6.out.trans (below_grown g7 B6.out.size hWM))
      have F7 : Hid (w7.heap[T2]? = some (.cells (encId b).toArray 31 (0, 0))) := Lib.hid ((g7.block T2 (Array.getElem?_eq_some_iff.1 F6.out).1 (fun e => by have := Option.some.inj e; omega)).trans F6.out)
      have PA : Hid ((⟨a, an⟩ : Pl) = plA a) := Lib.hid (by rw [AN.out])
      clear x7 g7 AD X6 Y6 B6 E6 F6 LA ca WA
      have LB := Lib.hid (lies_block F7.out)
      have cb : w7.cell? ⟨T2, 3, none⟩ = some (.int .u8 ((b3 b).toNat : Int)) := id_at F7.out (b3_at b)
      obtain ⟨bn, hbn⟩ : ∃ bn : Int, bn = ((b3 b).toNat : Int) := ⟨_, rfl⟩
      have BN := Lib.hid hbn
      have bn0 : 0 ≤ bn := by omega
      have bn1 : bn ≤ 255 := by have := (b3 b).toNat_lt; omega
      rw [← hbn] at cb
      have AD := Lib.hid (add_any Y7.out b ⟨b, bn⟩)
      have WB : IntKind.i64.wrap bn = bn := by rw [IntKind.wrap_i64]; omega
      obtain ⟨rb, hrb⟩ : ∃ rb, rb = addB lx a ⟨a, an⟩ := ⟨_, rfl⟩
      rw [← hrb]
      clear hbn hrb
      go_wp2_with (first | (refine wpList_load_agg rfl 31 (.tmp 10) rfl T2 0 rfl (encId b).toArray _ LB.out Try.underlying31 rfl (sizei b.1) ?_) | (refine wpList_build_eq rfl 37 #[(0, .tmp 54), (1, .tmp 57)] rfl (plcells ⟨b, bn⟩).toArray ?hb ?_))
      case hb => exact built_pl b bn
      refine AD.out.mono ?_
      rintro e w8 ⟨rfl, y8, g8⟩
      have Y8 := Lib.hid y8
      have X8 := Lib.hid (X7.out.grown g8 (fun e => by have := Option.some.inj e; omega) (fun e => by have := Option.some.inj e; omega))
      have B8 := Lib.hid (B7.out.trans (below_grown g8 B7.out.size hWN))
      have PB : Hid ((⟨b, bn⟩ : Pl) = plA b) := Lib.hid (by rw [BN.out])
      obtain ⟨rb2, hrb2⟩ : ∃ rb2, rb2 = addB ly b ⟨b, bn⟩ := ⟨_, rfl⟩
      rw [← hrb2]
      clear y8 g8 AD X7 Y7 B7 F7 LB cb WB hrb2
      go_wp2
      go_roundg (m - (i + 1))
      case measure => rw [HK.out]; omega
      case rel =>
        have x8 := X8.out
        have y8 := Y8.out
        rw [PA.out] at x8
        rw [PB.out] at y8
        refine ⟨i + 1, addL lx a (plA a), addL ly b (plA b), by omega, rfl, ?_, ?_, by go_num, x8, y8, ?_, ?_, B8.out⟩
        · have := LX.out; have := addL_len lx a (plA a); omega
        · have := LY.out; have := addL_len ly b (plA b); omega
        · rw [List.take_add_one, TA.out]
          exact S4.out.add a (plA_ok a).1 (plA_ok a).2
        · rw [turned_succ TB.out]
          exact U4.out.add b (plA_ok b).1 (plA_ok b).2
    · obtain rfl : i = m := by omega
      have hlt' : ¬ (i : Int) < (i : Int) := by omega
      have SAME : Hid (putOf lx = putOf ly) := Lib.hid (S4.out.same U4.out (fun k => by
        rw [List.take_of_length_le (by rw [← LM.out]; exact Nat.le_refl _), LM.out]
        exact turned_all l tn k))
      go_wp2_with (refine wpList_build_eq rfl 31 #[] rfl (encId zid).toArray (by kernel_rfl) ?_)
      refine (find_none _ zid).mono ?_
      rintro e w5 ⟨rfl, b5⟩
      have X5 := Lib.hid (X4.out.later b5)
      have Y5 := Lib.hid (Y4.out.later b5)
      have B5 := Lib.hid (B4.out.trans (b5.mono B4.out.size))
      clear b5 X4 Y4 B4
      go_upto_region 17 with (refine wpList_store_new rfl 37 (.tmp 12) (.tmp 64) rfl _ (plcells zpl).toArray rfl rfl (sizepl zpl) (by simp [plcells_len]) (all_oneCell_toArray (plcells_one zpl)) ?_)
      refine wp_named fun w6 hw6 => ?_
      have b6 : Below w5.heap.size w5 w6 := by rw [hw6]; exact below_alloc (Below.refl _ _) _
      have X6 := Lib.hid (X5.out.later b6)
      have Y6 := Lib.hid (Y5.out.later b6)
      have B6 := Lib.hid (B5.out.trans (b6.mono B5.out.size))
      clear hw6 b6 X5 Y5 B5
      go_wp2_with fail
      refine (packs_none _).mono ?_
      rintro e w7 ⟨rfl, hw7⟩
      obtain rfl := hw7.symm
      clear hw7
      go_upto_region 18 with fail
      obtain ⟨str, hstr⟩ : ∃ str : ByteArray, str = ⟨(putOf lx).toArray⟩ := ⟨_, rfl⟩
      have ST := Lib.hid hstr
      have PX := Lib.hid (put_any (w := w6.drew) ⟨X6.out.box, X6.out.map.drew⟩ S4.out.ok (by have := LX.out; omega))
      have OY := Lib.hid U4.out.ok
      have B7 := Lib.hid (below_drew B6.out)
      clear hstr B6
      refine wp_region_held_drew (S := fun w' => Below w6.heap.size w6 w') (by kernel_rfl) (below_drew (Below.refl _ _)) (fun hHeld => ?_)
      refine wpAnyH_take (i := 0) (v := ?_) rfl (by kernel_rfl) (by kernel_rfl) (by kernel_rfl) (fun _ _ _ h => h) (Or.inl ⟨by kernel_rfl, ?_⟩) (by assumption) ?_
      rotate_left
      · (intro w hSw; (go_simp; try with_reducible rfl))
      try simp only [Act.put, List.getElem_toArray, List.getElem_cons_succ, List.getElem_cons_zero, List.setIfInBounds_toArray, List.set_cons_zero, List.set_cons_succ]
      refine wpAnyH_take (i := 3) (v := ?_) rfl (by kernel_rfl) (by kernel_rfl) (by kernel_rfl) (fun _ _ _ h => h) (Or.inl ⟨by kernel_rfl, ?_⟩) (by assumption) ?_
      rotate_left
      · (intro w hSw; (go_simp; try with_reducible rfl))
      try simp only [Act.put, List.getElem_toArray, List.getElem_cons_succ, List.getElem_cons_zero, List.setIfInBounds_toArray, List.set_cons_zero, List.set_cons_succ]
      refine wpAnyH_ready (rs := [1]) (by kernel_rfl) (by simp) (AllReadyH.cons rfl (fun K1 hK1 => ?_) AllReadyH.nil)
      go_simp
      go_at_call 19
      refine PX.out.mono ?_
      rintro e w8 ⟨v8, rfl, h8, b8⟩
      obtain ⟨a8, c8, rfl, r8⟩ := own_rd_any h8
      have B78 := Lib.hid (B7.out.trans (b8.mono B7.out.size))
      have CA := Lib.hid (conv_bytes r8 c8)
      have RA := Lib.hid r8
      have Y8 := Lib.hid (IxIs.later (w := w6.drew) ⟨Y6.out.box, Y6.out.map.drew⟩ b8)
      have PY := Lib.hid (put_any Y8.out OY.out (by have := LY.out; omega))
      obtain ⟨n8, hn8⟩ : ∃ n8, n8 = (putOf lx).length := ⟨_, rfl⟩
      have HN8 := Lib.hid hn8
      rw [← hn8, ← ST.out] at CA
      rw [← hn8]
      have S8 : Below w6.heap.size w6 w8 := (below_drew (Below.refl w6.heap.size w6)).trans b8
      refine hK1.out _ _ S8 (fun hH => ?_)
      clear hHeld hK1 h8 r8 b8 PX X6 Y6 B7 hn8
      try simp only [Act.put, List.getElem_toArray, List.getElem_cons_succ, List.getElem_cons_zero, List.setIfInBounds_toArray, List.set_cons_zero, List.set_cons_succ]
      have hq := hH
      refine wpAnyH_ready (rs := [2, 4]) (by kernel_rfl) (by simp) (AllReadyH.cons rfl (fun K1 hK1 => ?_) (AllReadyH.cons rfl (fun K1 hK1 => ?_) AllReadyH.nil))
      · refine step_convert rfl 49 9 (.tmp 72) rfl (.slice a8 n8 c8) (.string str) rfl CA.out ?_
        refine hK1.out _ _ S8 (fun hHeld => ?_)
        clear hK1 hq
        try simp only [Act.put, List.getElem_toArray, List.getElem_cons_succ, List.getElem_cons_zero, List.setIfInBounds_toArray, List.set_cons_zero, List.set_cons_succ]
        refine wpAnyH_ready (rs := [4]) (by kernel_rfl) (by simp) (AllReadyH.cons rfl (fun K1 hK1 => ?_) AllReadyH.nil)
        go_simp
        go_at_call 19
        refine PY.out.mono ?_
        rintro e w9 ⟨v9, rfl, h9, b9⟩
        obtain ⟨a9, c9, rfl, r9⟩ := own_rd_any h9
        have S9 : Below w6.heap.size w6 w9 := S8.trans (b9.mono S8.size)
        have CB := Lib.hid (conv_bytes r9 c9)
        obtain ⟨n9, hn9⟩ : ∃ n9, n9 = (putOf ly).length := ⟨_, rfl⟩
        rw [← hn9, ← SAME.out, ← ST.out] at CB
        rw [← hn9]
        have CA9 := Lib.hid (conv_bytes (RA.out.later b9) c8)
        rw [← HN8.out, ← ST.out] at CA9
        have B9 := Lib.hid (B78.out.trans (b9.mono B78.out.size))
        refine hK1.out _ _ S9 (fun hHeld => ?_)
        clear h9 r9 b9 hn9
        clear hH hHeld hK1
        try simp only [Act.put, List.getElem_toArray, List.getElem_cons_succ, List.getElem_cons_zero, List.setIfInBounds_toArray, List.set_cons_zero, List.set_cons_succ]
        refine wpAnyH_ready (rs := [5]) (by kernel_rfl) (by simp) (AllReadyH.cons rfl (fun K1 hK1 => ?_) AllReadyH.nil)
        refine step_convert rfl 49 9 (.tmp 75) rfl (.slice a9 n9 c9) (.string str) rfl CB.out ?_
        refine hK1.out _ _ S9 (fun hH => ?_)
        clear hHeld hK1
        try simp only [Act.put, List.getElem_toArray, List.getElem_cons_succ, List.getElem_cons_zero, List.setIfInBounds_toArray, List.set_cons_zero, List.set_cons_succ]
        refine wpAnyH_take (i := 6) (v := ?_) rfl (by kernel_rfl) (by kernel_rfl) (by kernel_rfl) (fun _ _ _ h => h) (Or.inl ⟨by kernel_rfl, ?_⟩) (by assumption) ?_
        rotate_left
        · (intro w hSw; (go_simp; try with_reducible rfl))
        try simp only [Act.put, List.getElem_toArray, List.getElem_cons_succ, List.getElem_cons_zero, List.setIfInBounds_toArray, List.set_cons_zero, List.set_cons_succ]
        refine wpAnyH_take (i := 7) (v := ?_) rfl (by kernel_rfl) (by kernel_rfl) (by kernel_rfl) (fun _ _ _ h => h) (Or.inl ⟨by kernel_rfl, ?_⟩) (by assumption) ?_
        rotate_left
        · (intro w hSw; (go_simp; try with_reducible rfl))
        try simp only [Act.put, List.getElem_toArray, List.getElem_cons_succ, List.getElem_cons_zero, List.setIfInBounds_toArray, List.set_cons_zero, List.set_cons_succ]
        refine wpAnyH_take (i := 8) (v := ?_) rfl (by kernel_rfl) (by kernel_rfl) (by kernel_rfl) (fun _ _ _ h => h) (Or.inl ⟨by kernel_rfl, ?_⟩) (by assumption) ?_
        rotate_left
        · (intro w hSw; (go_simp; try with_reducible rfl))
        try simp only [Act.put, List.getElem_toArray, List.getElem_cons_succ, List.getElem_cons_zero, List.setIfInBounds_toArray, List.set_cons_zero, List.set_cons_succ]
        refine wpAnyH_take (i := 9) (v := ?_) rfl (by kernel_rfl) (by kernel_rfl) (by kernel_rfl) (fun _ _ _ h => h) (Or.inl ⟨by kernel_rfl, ?_⟩) (by assumption) ?_
        rotate_left
        · (intro w hSw; (go_simp; try with_reducible rfl))
        try simp only [Act.put, List.getElem_toArray, List.getElem_cons_succ, List.getElem_cons_zero, List.setIfInBounds_toArray, List.set_cons_zero, List.set_cons_succ]
        refine wpAnyH_take (i := 10) (v := ?_) rfl (by kernel_rfl) (by kernel_rfl) (by kernel_rfl) (fun _ _ _ h => h) (Or.inl ⟨by kernel_rfl, ?_⟩) (by assumption) ?_
        rotate_left
        · (intro w hSw; (go_simp; try with_reducible rfl))
        try simp only [Act.put, List.getElem_toArray, List.getElem_cons_succ, List.getElem_cons_zero, List.setIfInBounds_toArray, List.set_cons_zero, List.set_cons_succ]
        refine wpAnyH_take (i := 11) (v := ?_) rfl (by kernel_rfl) (by kernel_rfl) (by kernel_rfl) (fun _ _ _ h => h) (Or.inl ⟨by kernel_rfl, ?_⟩) (by assumption) ?_
        rotate_left
        · (intro w hSw; (go_simp; try with_reducible rfl))
        try simp only [Act.put, List.getElem_toArray, List.getElem_cons_succ, List.getElem_cons_zero, List.setIfInBounds_toArray, List.set_cons_zero, List.set_cons_succ]
        refine wpAnyH_take (i := 12) (v := ?_) rfl (by kernel_rfl) (by kernel_rfl) (by kernel_rfl) (fun _ _ _ h => h) (Or.inl ⟨by kernel_rfl, ?_⟩) (by assumption) ?_
        rotate_left
        · (intro w hSw; (go_simp; try with_reducible rfl))
        try simp only [Act.put, List.getElem_toArray, List.getElem_cons_succ, List.getElem_cons_zero, List.setIfInBounds_toArray, List.set_cons_zero, List.set_cons_succ]
        refine' wpAnyH_take (i := 13) (v := _) rfl (by kernel_rfl) (by kernel_rfl) (by kernel_rfl) (fun _ _ _ h => h) (yieldsIf_build2 (by kernel_rfl) 31 _ rfl [] (by kernel_rfl) (encId zid).toArray (by kernel_rfl)) (by assumption) ?_
        try simp only [Act.put, List.getElem_toArray, List.getElem_cons_succ, List.getElem_cons_zero, List.setIfInBounds_toArray, List.set_cons_zero, List.set_cons_succ]
        refine' wpAnyH_take (i := 14) (v := _) rfl (by kernel_rfl) (by kernel_rfl) (by kernel_rfl) (fun _ _ _ h => h) (yieldsIf_build2 (by kernel_rfl) 37 _ rfl [] (by kernel_rfl) (plcells zpl).toArray built_zpl) (by assumption) ?_
        try simp only [Act.put, List.getElem_toArray, List.getElem_cons_succ, List.getElem_cons_zero, List.setIfInBounds_toArray, List.set_cons_zero, List.set_cons_succ]
        refine wpAnyH_ready (rs := [15]) (by kernel_rfl) (by simp) (AllReadyH.cons rfl (fun K1 hK1 => ?_) AllReadyH.nil)
        go_simp
        go_at_call 13
        refine (add_none _ zid zpl).mono ?_
        rintro e wa ⟨rfl, ba⟩
        have SA := S9.trans (ba.mono S9.size)
        have BA := Lib.hid (B9.out.trans (ba.mono B9.out.size))
        refine hK1.out _ _ SA (fun hA => ?_)
        clear hH hK1 ba
        try simp only [Act.put, List.getElem_toArray, List.getElem_cons_succ, List.getElem_cons_zero, List.setIfInBounds_toArray, List.set_cons_zero, List.set_cons_succ]
        refine wpAnyH_take (i := 16) (v := ?_) rfl (by kernel_rfl) (by kernel_rfl) (by kernel_rfl) (fun _ _ _ h => h) (Or.inl ⟨by kernel_rfl, ?_⟩) (by assumption) ?_
        rotate_left
        · (intro w hSw; (go_simp; try with_reducible rfl))
        try simp only [Act.put, List.getElem_toArray, List.getElem_cons_succ, List.getElem_cons_zero, List.setIfInBounds_toArray, List.set_cons_zero, List.set_cons_succ]
        refine wpAnyH_take (i := 17) (v := ?_) rfl (by kernel_rfl) (by kernel_rfl) (by kernel_rfl) (fun _ _ _ h => h) (Or.inl ⟨by kernel_rfl, ?_⟩) (by assumption) ?_
        rotate_left
        · (intro w hSw; (go_simp; try with_reducible rfl))
        try simp only [Act.put, List.getElem_toArray, List.getElem_cons_succ, List.getElem_cons_zero, List.setIfInBounds_toArray, List.set_cons_zero, List.set_cons_succ]
        refine wpAnyH_take (i := 18) (v := ?_) rfl (by kernel_rfl) (by kernel_rfl) (by kernel_rfl) (fun _ _ _ h => h) (Or.inl ⟨by kernel_rfl, ?_⟩) (by assumption) ?_
        rotate_left
        · (intro w hSw; (go_simp; try with_reducible rfl))
        try simp only [Act.put, List.getElem_toArray, List.getElem_cons_succ, List.getElem_cons_zero, List.setIfInBounds_toArray, List.set_cons_zero, List.set_cons_succ]
        refine wpAnyH_take (i := 19) (v := ?_) rfl (by kernel_rfl) (by kernel_rfl) (by kernel_rfl) (fun _ _ _ h => h) (Or.inl ⟨by kernel_rfl, ?_⟩) (by assumption) ?_
        rotate_left
        · (intro w hSw; (go_simp; try with_reducible rfl))
        try simp only [Act.put, List.getElem_toArray, List.getElem_cons_succ, List.getElem_cons_zero, List.setIfInBounds_toArray, List.set_cons_zero, List.set_cons_succ]
        refine' wpAnyH_take (i := 20) (v := _) rfl (by kernel_rfl) (by kernel_rfl) (by kernel_rfl) (fun _ _ _ h => h) (yieldsIf_build2 (by kernel_rfl) 31 _ rfl [] (by kernel_rfl) (encId zid).toArray (by kernel_rfl)) (by assumption) ?_
        try simp only [Act.put, List.getElem_toArray, List.getElem_cons_succ, List.getElem_cons_zero, List.setIfInBounds_toArray, List.set_cons_zero, List.set_cons_succ]
        refine wpAnyH_ready (rs := [21]) (by kernel_rfl) (by simp) (AllReadyH.cons rfl (fun K1 hK1 => ?_) AllReadyH.nil)
        go_simp
        go_at_call 10
        refine (drop_none _ zid).mono ?_
        rintro e wd ⟨rfl, bd⟩
        have SD := SA.trans (bd.mono SA.size)
        have BD := Lib.hid (BA.out.trans (bd.mono BA.out.size))
        refine hK1.out _ _ SD (fun hD => ?_)
        clear hA hK1 bd
        try simp only [Act.put, List.getElem_toArray, List.getElem_cons_succ, List.getElem_cons_zero, List.setIfInBounds_toArray, List.set_cons_zero, List.set_cons_succ]
        refine wpAnyH_take (i := 22) (v := ?_) rfl (by kernel_rfl) (by kernel_rfl) (by kernel_rfl) (fun _ _ _ h => h) (Or.inl ⟨by kernel_rfl, ?_⟩) (by assumption) ?_
        rotate_left
        · (intro w hSw; (go_simp; try with_reducible rfl))
        try simp only [Act.put, List.getElem_toArray, List.getElem_cons_succ, List.getElem_cons_zero, List.setIfInBounds_toArray, List.set_cons_zero, List.set_cons_succ]
        refine wpAnyH_take (i := 23) (v := ?_) rfl (by kernel_rfl) (by kernel_rfl) (by kernel_rfl) (fun _ _ _ h => h) (Or.inl ⟨by kernel_rfl, ?_⟩) (by assumption) ?_
        rotate_left
        · (intro w hSw; (go_simp; try with_reducible rfl))
        try simp only [Act.put, List.getElem_toArray, List.getElem_cons_succ, List.getElem_cons_zero, List.setIfInBounds_toArray, List.set_cons_zero, List.set_cons_succ]
        refine wpAnyH_take (i := 24) (v := ?_) rfl (by kernel_rfl) (by kernel_rfl) (by kernel_rfl) (fun _ _ _ h => h) (Or.inl ⟨by kernel_rfl, ?_⟩) (by assumption) ?_
        rotate_left
        · (intro w hSw; (go_simp; try with_reducible rfl))
        try simp only [Act.put, List.getElem_toArray, List.getElem_cons_succ, List.getElem_cons_zero, List.setIfInBounds_toArray, List.set_cons_zero, List.set_cons_succ]
        refine wpAnyH_take (i := 25) (v := ?_) rfl (by kernel_rfl) (by kernel_rfl) (by kernel_rfl) (fun _ _ _ h => h) (Or.inl ⟨by kernel_rfl, ?_⟩) (by assumption) ?_
        rotate_left
        · (intro w hSw; (go_simp; try with_reducible rfl))
        try simp only [Act.put, List.getElem_toArray, List.getElem_cons_succ, List.getElem_cons_zero, List.setIfInBounds_toArray, List.set_cons_zero, List.set_cons_succ]
        refine wpAnyH_take (i := 28) (v := ?_) rfl (by kernel_rfl) (by kernel_rfl) (by kernel_rfl) (fun _ _ _ h => h) (Or.inl ⟨by kernel_rfl, ?_⟩) (by assumption) ?_
        rotate_left
        · (intro w hSw; (go_simp; try with_reducible rfl))
        try simp only [Act.put, List.getElem_toArray, List.getElem_cons_succ, List.getElem_cons_zero, List.setIfInBounds_toArray, List.set_cons_zero, List.set_cons_succ]
        refine wpAnyH_take (i := 29) (v := ?_) rfl (by kernel_rfl) (by kernel_rfl) (by kernel_rfl) (fun _ _ _ h => h) (Or.inl ⟨by kernel_rfl, ?_⟩) (by assumption) ?_
        rotate_left
        · (intro w hSw; (go_simp; try with_reducible rfl))
        try simp only [Act.put, List.getElem_toArray, List.getElem_cons_succ, List.getElem_cons_zero, List.setIfInBounds_toArray, List.set_cons_zero, List.set_cons_succ]
        refine wpAnyH_take (i := 31) (v := ?_) rfl (by kernel_rfl) (by kernel_rfl) (by kernel_rfl) (fun _ _ _ h => h) (Or.inl ⟨by kernel_rfl, ?_⟩) (by assumption) ?_
        rotate_left
        · (intro w hSw; (go_simp; try with_reducible rfl))
        try simp only [Act.put, List.getElem_toArray, List.getElem_cons_succ, List.getElem_cons_zero, List.setIfInBounds_toArray, List.set_cons_zero, List.set_cons_succ]
        refine wpAnyH_take (i := 32) (v := ?_) rfl (by kernel_rfl) (by kernel_rfl) (by kernel_rfl) (fun _ _ _ h => h) (Or.inl ⟨by kernel_rfl, ?_⟩) (by assumption) ?_
        rotate_left
        · (intro w hSw; (go_simp; try with_reducible rfl))
        try simp only [Act.put, List.getElem_toArray, List.getElem_cons_succ, List.getElem_cons_zero, List.setIfInBounds_toArray, List.set_cons_zero, List.set_cons_succ]
        refine wpAnyH_take (i := 34) (v := ?_) rfl (by kernel_rfl) (by kernel_rfl) (by kernel_rfl) (fun _ _ _ h => h) (Or.inl ⟨by kernel_rfl, ?_⟩) (by assumption) ?_
        rotate_left
        · (intro w hSw; (go_simp; try with_reducible rfl))
        try simp only [Act.put, List.getElem_toArray, List.getElem_cons_succ, List.getElem_cons_zero, List.setIfInBounds_toArray, List.set_cons_zero, List.set_cons_succ]
        refine wpAnyH_ready (rs := [26]) (by kernel_rfl) (by simp) (AllReadyH.cons rfl (fun K1 hK1 => ?_) AllReadyH.nil)
        go_simp
        go_at_call 22
        refine (ids_none _).mono ?_
        rintro e we ⟨rfl, hwe⟩
        obtain rfl := hwe.symm
        refine hK1.out _ _ SD (fun hE => ?_)
        clear hD hK1 hwe
        try simp only [Act.put, List.getElem_toArray, List.getElem_cons_succ, List.getElem_cons_zero, List.setIfInBounds_toArray, List.set_cons_zero, List.set_cons_succ]
        refine wpAnyH_take (i := 27) (v := ?_) rfl (by kernel_rfl) (by kernel_rfl) (by kernel_rfl) (fun _ _ _ h => h) (Or.inl ⟨by kernel_rfl, ?_⟩) (by assumption) ?_
        rotate_left
        · (intro w hSw; (go_simp; try with_reducible rfl))
        try simp only [Act.put, List.getElem_toArray, List.getElem_cons_succ, List.getElem_cons_zero, List.setIfInBounds_toArray, List.set_cons_zero, List.set_cons_succ]
        refine wpAnyH_take (i := 30) (v := ?_) rfl (by kernel_rfl) (by kernel_rfl) (by kernel_rfl) (fun _ _ _ h => h) (Or.inl ⟨by kernel_rfl, ?_⟩) (by assumption) ?_
        rotate_left
        · (intro w hSw; (go_simp; try with_reducible rfl))
        try simp only [Act.put, List.getElem_toArray, List.getElem_cons_succ, List.getElem_cons_zero, List.setIfInBounds_toArray, List.set_cons_zero, List.set_cons_succ]
        refine wpAnyH_take (i := 33) (v := ?_) rfl (by kernel_rfl) (by kernel_rfl) (by kernel_rfl) (fun _ _ _ h => h) (Or.inl ⟨by kernel_rfl, ?_⟩) (by assumption) ?_
        rotate_left
        · (intro w hSw; (go_simp; try with_reducible rfl))
        try simp only [Act.put, List.getElem_toArray, List.getElem_cons_succ, List.getElem_cons_zero, List.setIfInBounds_toArray, List.set_cons_zero, List.set_cons_succ]
        refine wpAnyH_ready (rs := [35]) (by kernel_rfl) (by simp) (AllReadyH.cons rfl (fun K1 hK1 => ?_) AllReadyH.nil)
        go_simp
        go_at_call 19
        refine (put_none _).mono ?_
        rintro e we ⟨rfl, hwe⟩
        obtain rfl := hwe.symm
        refine hK1.out _ _ SD (fun hF => ?_)
        clear hE hK1 hwe
        try simp only [Act.put, List.getElem_toArray, List.getElem_cons_succ, List.getElem_cons_zero, List.setIfInBounds_toArray, List.set_cons_zero, List.set_cons_succ]
        refine wpAnyH_take (i := 36) (v := ?_) rfl (by kernel_rfl) (by kernel_rfl) (by kernel_rfl) (fun _ _ _ h => h) (Or.inl ⟨by kernel_rfl, ?_⟩) (by assumption) ?_
        rotate_left
        · (intro w hSw; (go_simp; try with_reducible rfl))
        try simp only [Act.put, List.getElem_toArray, List.getElem_cons_succ, List.getElem_cons_zero, List.setIfInBounds_toArray, List.set_cons_zero, List.set_cons_succ]
        refine wpAnyH_take (i := 37) (v := ?_) rfl (by kernel_rfl) (by kernel_rfl) (by kernel_rfl) (fun _ _ _ h => h) (Or.inl ⟨by kernel_rfl, ?_⟩) (by assumption) ?_
        rotate_left
        · (intro w hSw; (go_simp; try with_reducible rfl))
        try simp only [Act.put, List.getElem_toArray, List.getElem_cons_succ, List.getElem_cons_zero, List.setIfInBounds_toArray, List.set_cons_zero, List.set_cons_succ]
        refine wpAnyH_take (i := 38) (v := ?_) rfl (by kernel_rfl) (by kernel_rfl) (by kernel_rfl) (fun _ _ _ h => h) (Or.inl ⟨by kernel_rfl, ?_⟩) (by assumption) ?_
        rotate_left
        · (intro w hSw; (go_simp; try with_reducible rfl))
        try simp only [Act.put, List.getElem_toArray, List.getElem_cons_succ, List.getElem_cons_zero, List.setIfInBounds_toArray, List.set_cons_zero, List.set_cons_succ]
        refine wpAnyH_take (i := 39) (v := ?_) rfl (by kernel_rfl) (by kernel_rfl) (by kernel_rfl) (fun _ _ _ h => h) (Or.inl ⟨by kernel_rfl, ?_⟩) (by assumption) ?_
        rotate_left
        · (intro w hSw; (go_simp; try with_reducible rfl))
        try simp only [Act.put, List.getElem_toArray, List.getElem_cons_succ, List.getElem_cons_zero, List.setIfInBounds_toArray, List.set_cons_zero, List.set_cons_succ]
        refine wpAnyH_take (i := 40) (v := ?_) rfl (by kernel_rfl) (by kernel_rfl) (by kernel_rfl) (fun _ _ _ h => h) (Or.inl ⟨by kernel_rfl, ?_⟩) (by assumption) ?_
        rotate_left
        · (intro w hSw; (go_simp; try with_reducible rfl))
        try simp only [Act.put, List.getElem_toArray, List.getElem_cons_succ, List.getElem_cons_zero, List.setIfInBounds_toArray, List.set_cons_zero, List.set_cons_succ]
        refine wpAnyH_done (by kernel_rfl) ?_ _
        clear hF
        go_wp2
        go_ret
        exact ⟨rfl, BD.out⟩
      · go_simp
        go_at_call 19
        refine PY.out.mono ?_
        rintro e w9 ⟨v9, rfl, h9, b9⟩
        obtain ⟨a9, c9, rfl, r9⟩ := own_rd_any h9
        have S9 : Below w6.heap.size w6 w9 := S8.trans (b9.mono S8.size)
        have CB := Lib.hid (conv_bytes r9 c9)
        obtain ⟨n9, hn9⟩ : ∃ n9, n9 = (putOf ly).length := ⟨_, rfl⟩
        rw [← hn9, ← SAME.out, ← ST.out] at CB
        rw [← hn9]
        have CA9 := Lib.hid (conv_bytes (RA.out.later b9) c8)
        rw [← HN8.out, ← ST.out] at CA9
        have B9 := Lib.hid (B78.out.trans (b9.mono B78.out.size))
        refine hK1.out _ _ S9 (fun hHeld => ?_)
        clear h9 r9 b9 hn9
        clear hH hHeld hK1 hq
        try simp only [Act.put, List.getElem_toArray, List.getElem_cons_succ, List.getElem_cons_zero, List.setIfInBounds_toArray, List.set_cons_zero, List.set_cons_succ]
        refine wpAnyH_ready (rs := [2, 5]) (by kernel_rfl) (by simp) (AllReadyH.cons rfl (fun K1 hK1 => ?_) (AllReadyH.cons rfl (fun K1 hK1 => ?_) AllReadyH.nil))
        · refine step_convert rfl 49 9 (.tmp 72) rfl (.slice a8 n8 c8) (.string str) rfl CA9.out ?_
          refine hK1.out _ _ S9 (fun hH => ?_)
          clear hK1
          try simp only [Act.put, List.getElem_toArray, List.getElem_cons_succ, List.getElem_cons_zero, List.setIfInBounds_toArray, List.set_cons_zero, List.set_cons_succ]
          refine wpAnyH_ready (rs := [5]) (by kernel_rfl) (by simp) (AllReadyH.cons rfl (fun K1 hK1 => ?_) AllReadyH.nil)
          refine step_convert rfl 49 9 (.tmp 75) rfl (.slice a9 n9 c9) (.string str) rfl CB.out ?_
          refine hK1.out _ _ S9 (fun hH2 => ?_)
          clear hH hK1
          try simp only [Act.put, List.getElem_toArray, List.getElem_cons_succ, List.getElem_cons_zero, List.setIfInBounds_toArray, List.set_cons_zero, List.set_cons_succ]
          refine wpAnyH_take (i := 6) (v := ?_) rfl (by kernel_rfl) (by kernel_rfl) (by kernel_rfl) (fun _ _ _ h => h) (Or.inl ⟨by kernel_rfl, ?_⟩) (by assumption) ?_
          rotate_left
          · (intro w hSw; (go_simp; try with_reducible rfl))
          try simp only [Act.put, List.getElem_toArray, List.getElem_cons_succ, List.getElem_cons_zero, List.setIfInBounds_toArray, List.set_cons_zero, List.set_cons_succ]
          refine wpAnyH_take (i := 7) (v := ?_) rfl (by kernel_rfl) (by kernel_rfl) (by kernel_rfl) (fun _ _ _ h => h) (Or.inl ⟨by kernel_rfl, ?_⟩) (by assumption) ?_
          rotate_left
          · (intro w hSw; (go_simp; try with_reducible rfl))
          try simp only [Act.put, List.getElem_toArray, List.getElem_cons_succ, List.getElem_cons_zero, List.setIfInBounds_toArray, List.set_cons_zero, List.set_cons_succ]
          refine wpAnyH_take (i := 8) (v := ?_) rfl (by kernel_rfl) (by kernel_rfl) (by kernel_rfl) (fun _ _ _ h => h) (Or.inl ⟨by kernel_rfl, ?_⟩) (by assumption) ?_
          rotate_left
          · (intro w hSw; (go_simp; try with_reducible rfl))
          try simp only [Act.put, List.getElem_toArray, List.getElem_cons_succ, List.getElem_cons_zero, List.setIfInBounds_toArray, List.set_cons_zero, List.set_cons_succ]
          refine wpAnyH_take (i := 9) (v := ?_) rfl (by kernel_rfl) (by kernel_rfl) (by kernel_rfl) (fun _ _ _ h => h) (Or.inl ⟨by kernel_rfl, ?_⟩) (by assumption) ?_
          rotate_left
          · (intro w hSw; (go_simp; try with_reducible rfl))
          try simp only [Act.put, List.getElem_toArray, List.getElem_cons_succ, List.getElem_cons_zero, List.setIfInBounds_toArray, List.set_cons_zero, List.set_cons_succ]
          refine wpAnyH_take (i := 10) (v := ?_) rfl (by kernel_rfl) (by kernel_rfl) (by kernel_rfl) (fun _ _ _ h => h) (Or.inl ⟨by kernel_rfl, ?_⟩) (by assumption) ?_
          rotate_left
          · (intro w hSw; (go_simp; try with_reducible rfl))
          try simp only [Act.put, List.getElem_toArray, List.getElem_cons_succ, List.getElem_cons_zero, List.setIfInBounds_toArray, List.set_cons_zero, List.set_cons_succ]
          refine wpAnyH_take (i := 11) (v := ?_) rfl (by kernel_rfl) (by kernel_rfl) (by kernel_rfl) (fun _ _ _ h => h) (Or.inl ⟨by kernel_rfl, ?_⟩) (by assumption) ?_
          rotate_left
          · (intro w hSw; (go_simp; try with_reducible rfl))
          try simp only [Act.put, List.getElem_toArray, List.getElem_cons_succ, List.getElem_cons_zero, List.setIfInBounds_toArray, List.set_cons_zero, List.set_cons_succ]
          refine wpAnyH_take (i := 12) (v := ?_) rfl (by kernel_rfl) (by kernel_rfl) (by kernel_rfl) (fun _ _ _ h => h) (Or.inl ⟨by kernel_rfl, ?_⟩) (by assumption) ?_
          rotate_left
          · (intro w hSw; (go_simp; try with_reducible rfl))
          try simp only [Act.put, List.getElem_toArray, List.getElem_cons_succ, List.getElem_cons_zero, List.setIfInBounds_toArray, List.set_cons_zero, List.set_cons_succ]
          refine' wpAnyH_take (i := 13) (v := _) rfl (by kernel_rfl) (by kernel_rfl) (by kernel_rfl) (fun _ _ _ h => h) (yieldsIf_build2 (by kernel_rfl) 31 _ rfl [] (by kernel_rfl) (encId zid).toArray (by kernel_rfl)) (by assumption) ?_
          try simp only [Act.put, List.getElem_toArray, List.getElem_cons_succ, List.getElem_cons_zero, List.setIfInBounds_toArray, List.set_cons_zero, List.set_cons_succ]
          refine' wpAnyH_take (i := 14) (v := _) rfl (by kernel_rfl) (by kernel_rfl) (by kernel_rfl) (fun _ _ _ h => h) (yieldsIf_build2 (by kernel_rfl) 37 _ rfl [] (by kernel_rfl) (plcells zpl).toArray built_zpl) (by assumption) ?_
          try simp only [Act.put, List.getElem_toArray, List.getElem_cons_succ, List.getElem_cons_zero, List.setIfInBounds_toArray, List.set_cons_zero, List.set_cons_succ]
          refine wpAnyH_ready (rs := [15]) (by kernel_rfl) (by simp) (AllReadyH.cons rfl (fun K1 hK1 => ?_) AllReadyH.nil)
          go_simp
          go_at_call 13
          refine (add_none _ zid zpl).mono ?_
          rintro e wa ⟨rfl, ba⟩
          have SA := S9.trans (ba.mono S9.size)
          have BA := Lib.hid (B9.out.trans (ba.mono B9.out.size))
          refine hK1.out _ _ SA (fun hA => ?_)
          clear hH2 hK1 ba
          try simp only [Act.put, List.getElem_toArray, List.getElem_cons_succ, List.getElem_cons_zero, List.setIfInBounds_toArray, List.set_cons_zero, List.set_cons_succ]
          refine wpAnyH_take (i := 16) (v := ?_) rfl (by kernel_rfl) (by kernel_rfl) (by kernel_rfl) (fun _ _ _ h => h) (Or.inl ⟨by kernel_rfl, ?_⟩) (by assumption) ?_
          rotate_left
          · (intro w hSw; (go_simp; try with_reducible rfl))
          try simp only [Act.put, List.getElem_toArray, List.getElem_cons_succ, List.getElem_cons_zero, List.setIfInBounds_toArray, List.set_cons_zero, List.set_cons_succ]
          refine wpAnyH_take (i := 17) (v := ?_) rfl (by kernel_rfl) (by kernel_rfl) (by kernel_rfl) (fun _ _ _ h => h) (Or.inl ⟨by kernel_rfl, ?_⟩) (by assumption) ?_
          rotate_left
          · (intro w hSw; (go_simp; try with_reducible rfl))
          try simp only [Act.put, List.getElem_toArray, List.getElem_cons_succ, List.getElem_cons_zero, List.setIfInBounds_toArray, List.set_cons_zero, List.set_cons_succ]
          refine wpAnyH_take (i := 18) (v := ?_) rfl (by kernel_rfl) (by kernel_rfl) (by kernel_rfl) (fun _ _ _ h => h) (Or.inl ⟨by kernel_rfl, ?_⟩) (by assumption) ?_
          rotate_left
          · (intro w hSw; (go_simp; try with_reducible rfl))
          try simp only [Act.put, List.getElem_toArray, List.getElem_cons_succ, List.getElem_cons_zero, List.setIfInBounds_toArray, List.set_cons_zero, List.set_cons_succ]
          refine wpAnyH_take (i := 19) (v := ?_) rfl (by kernel_rfl) (by kernel_rfl) (by kernel_rfl) (fun _ _ _ h => h) (Or.inl ⟨by kernel_rfl, ?_⟩) (by assumption) ?_
          rotate_left
          · (intro w hSw; (go_simp; try with_reducible rfl))
          try simp only [Act.put, List.getElem_toArray, List.getElem_cons_succ, List.getElem_cons_zero, List.setIfInBounds_toArray, List.set_cons_zero, List.set_cons_succ]
          refine' wpAnyH_take (i := 20) (v := _) rfl (by kernel_rfl) (by kernel_rfl) (by kernel_rfl) (fun _ _ _ h => h) (yieldsIf_build2 (by kernel_rfl) 31 _ rfl [] (by kernel_rfl) (encId zid).toArray (by kernel_rfl)) (by assumption) ?_
          try simp only [Act.put, List.getElem_toArray, List.getElem_cons_succ, List.getElem_cons_zero, List.setIfInBounds_toArray, List.set_cons_zero, List.set_cons_succ]
          refine wpAnyH_ready (rs := [21]) (by kernel_rfl) (by simp) (AllReadyH.cons rfl (fun K1 hK1 => ?_) AllReadyH.nil)
          go_simp
          go_at_call 10
          refine (drop_none _ zid).mono ?_
          rintro e wd ⟨rfl, bd⟩
          have SD := SA.trans (bd.mono SA.size)
          have BD := Lib.hid (BA.out.trans (bd.mono BA.out.size))
          refine hK1.out _ _ SD (fun hD => ?_)
          clear hA hK1 bd
          try simp only [Act.put, List.getElem_toArray, List.getElem_cons_succ, List.getElem_cons_zero, List.setIfInBounds_toArray, List.set_cons_zero, List.set_cons_succ]
          refine wpAnyH_take (i := 22) (v := ?_) rfl (by kernel_rfl) (by kernel_rfl) (by kernel_rfl) (fun _ _ _ h => h) (Or.inl ⟨by kernel_rfl, ?_⟩) (by assumption) ?_
          rotate_left
          · (intro w hSw; (go_simp; try with_reducible rfl))
          try simp only [Act.put, List.getElem_toArray, List.getElem_cons_succ, List.getElem_cons_zero, List.setIfInBounds_toArray, List.set_cons_zero, List.set_cons_succ]
          refine wpAnyH_take (i := 23) (v := ?_) rfl (by kernel_rfl) (by kernel_rfl) (by kernel_rfl) (fun _ _ _ h => h) (Or.inl ⟨by kernel_rfl, ?_⟩) (by assumption) ?_
          rotate_left
          · (intro w hSw; (go_simp; try with_reducible rfl))
          try simp only [Act.put, List.getElem_toArray, List.getElem_cons_succ, List.getElem_cons_zero, List.setIfInBounds_toArray, List.set_cons_zero, List.set_cons_succ]
          refine wpAnyH_take (i := 24) (v := ?_) rfl (by kernel_rfl) (by kernel_rfl) (by kernel_rfl) (fun _ _ _ h => h) (Or.inl ⟨by kernel_rfl, ?_⟩) (by assumption) ?_
          rotate_left
          · (intro w hSw; (go_simp; try with_reducible rfl))
          try simp only [Act.put, List.getElem_toArray, List.getElem_cons_succ, List.getElem_cons_zero, List.setIfInBounds_toArray, List.set_cons_zero, List.set_cons_succ]
          refine wpAnyH_take (i := 25) (v := ?_) rfl (by kernel_rfl) (by kernel_rfl) (by kernel_rfl) (fun _ _ _ h => h) (Or.inl ⟨by kernel_rfl, ?_⟩) (by assumption) ?_
          rotate_left
          · (intro w hSw; (go_simp; try with_reducible rfl))
          try simp only [Act.put, List.getElem_toArray, List.getElem_cons_succ, List.getElem_cons_zero, List.setIfInBounds_toArray, List.set_cons_zero, List.set_cons_succ]
          refine wpAnyH_take (i := 28) (v := ?_) rfl (by kernel_rfl) (by kernel_rfl) (by kernel_rfl) (fun _ _ _ h => h) (Or.inl ⟨by kernel_rfl, ?_⟩) (by assumption) ?_
          rotate_left
          · (intro w hSw; (go_simp; try with_reducible rfl))
          try simp only [Act.put, List.getElem_toArray, List.getElem_cons_succ, List.getElem_cons_zero, List.setIfInBounds_toArray, List.set_cons_zero, List.set_cons_succ]
          refine wpAnyH_take (i := 29) (v := ?_) rfl (by kernel_rfl) (by kernel_rfl) (by kernel_rfl) (fun _ _ _ h => h) (Or.inl ⟨by kernel_rfl, ?_⟩) (by assumption) ?_
          rotate_left
          · (intro w hSw; (go_simp; try with_reducible rfl))
          try simp only [Act.put, List.getElem_toArray, List.getElem_cons_succ, List.getElem_cons_zero, List.setIfInBounds_toArray, List.set_cons_zero, List.set_cons_succ]
          refine wpAnyH_take (i := 31) (v := ?_) rfl (by kernel_rfl) (by kernel_rfl) (by kernel_rfl) (fun _ _ _ h => h) (Or.inl ⟨by kernel_rfl, ?_⟩) (by assumption) ?_
          rotate_left
          · (intro w hSw; (go_simp; try with_reducible rfl))
          try simp only [Act.put, List.getElem_toArray, List.getElem_cons_succ, List.getElem_cons_zero, List.setIfInBounds_toArray, List.set_cons_zero, List.set_cons_succ]
          refine wpAnyH_take (i := 32) (v := ?_) rfl (by kernel_rfl) (by kernel_rfl) (by kernel_rfl) (fun _ _ _ h => h) (Or.inl ⟨by kernel_rfl, ?_⟩) (by assumption) ?_
          rotate_left
          · (intro w hSw; (go_simp; try with_reducible rfl))
          try simp only [Act.put, List.getElem_toArray, List.getElem_cons_succ, List.getElem_cons_zero, List.setIfInBounds_toArray, List.set_cons_zero, List.set_cons_succ]
          refine wpAnyH_take (i := 34) (v := ?_) rfl (by kernel_rfl) (by kernel_rfl) (by kernel_rfl) (fun _ _ _ h => h) (Or.inl ⟨by kernel_rfl, ?_⟩) (by assumption) ?_
          rotate_left
          · (intro w hSw; (go_simp; try with_reducible rfl))
          try simp only [Act.put, List.getElem_toArray, List.getElem_cons_succ, List.getElem_cons_zero, List.setIfInBounds_toArray, List.set_cons_zero, List.set_cons_succ]
          refine wpAnyH_ready (rs := [26]) (by kernel_rfl) (by simp) (AllReadyH.cons rfl (fun K1 hK1 => ?_) AllReadyH.nil)
          go_simp
          go_at_call 22
          refine (ids_none _).mono ?_
          rintro e we ⟨rfl, hwe⟩
          obtain rfl := hwe.symm
          refine hK1.out _ _ SD (fun hE => ?_)
          clear hD hK1 hwe
          try simp only [Act.put, List.getElem_toArray, List.getElem_cons_succ, List.getElem_cons_zero, List.setIfInBounds_toArray, List.set_cons_zero, List.set_cons_succ]
          refine wpAnyH_take (i := 27) (v := ?_) rfl (by kernel_rfl) (by kernel_rfl) (by kernel_rfl) (fun _ _ _ h => h) (Or.inl ⟨by kernel_rfl, ?_⟩) (by assumption) ?_
          rotate_left
          · (intro w hSw; (go_simp; try with_reducible rfl))
          try simp only [Act.put, List.getElem_toArray, List.getElem_cons_succ, List.getElem_cons_zero, List.setIfInBounds_toArray, List.set_cons_zero, List.set_cons_succ]
          refine wpAnyH_take (i := 30) (v := ?_) rfl (by kernel_rfl) (by kernel_rfl) (by kernel_rfl) (fun _ _ _ h => h) (Or.inl ⟨by kernel_rfl, ?_⟩) (by assumption) ?_
          rotate_left
          · (intro w hSw; (go_simp; try with_reducible rfl))
          try simp only [Act.put, List.getElem_toArray, List.getElem_cons_succ, List.getElem_cons_zero, List.setIfInBounds_toArray, List.set_cons_zero, List.set_cons_succ]
          refine wpAnyH_take (i := 33) (v := ?_) rfl (by kernel_rfl) (by kernel_rfl) (by kernel_rfl) (fun _ _ _ h => h) (Or.inl ⟨by kernel_rfl, ?_⟩) (by assumption) ?_
          rotate_left
          · (intro w hSw; (go_simp; try with_reducible rfl))
          try simp only [Act.put, List.getElem_toArray, List.getElem_cons_succ, List.getElem_cons_zero, List.setIfInBounds_toArray, List.set_cons_zero, List.set_cons_succ]
          refine wpAnyH_ready (rs := [35]) (by kernel_rfl) (by simp) (AllReadyH.cons rfl (fun K1 hK1 => ?_) AllReadyH.nil)
          go_simp
          go_at_call 19
          refine (put_none _).mono ?_
          rintro e we ⟨rfl, hwe⟩
          obtain rfl := hwe.symm
          refine hK1.out _ _ SD (fun hF => ?_)
          clear hE hK1 hwe
          try simp only [Act.put, List.getElem_toArray, List.getElem_cons_succ, List.getElem_cons_zero, List.setIfInBounds_toArray, List.set_cons_zero, List.set_cons_succ]
          refine wpAnyH_take (i := 36) (v := ?_) rfl (by kernel_rfl) (by kernel_rfl) (by kernel_rfl) (fun _ _ _ h => h) (Or.inl ⟨by kernel_rfl, ?_⟩) (by assumption) ?_
          rotate_left
          · (intro w hSw; (go_simp; try with_reducible rfl))
          try simp only [Act.put, List.getElem_toArray, List.getElem_cons_succ, List.getElem_cons_zero, List.setIfInBounds_toArray, List.set_cons_zero, List.set_cons_succ]
          refine wpAnyH_take (i := 37) (v := ?_) rfl (by kernel_rfl) (by kernel_rfl) (by kernel_rfl) (fun _ _ _ h => h) (Or.inl ⟨by kernel_rfl, ?_⟩) (by assumption) ?_
          rotate_left
          · (intro w hSw; (go_simp; try with_reducible rfl))
          try simp only [Act.put, List.getElem_toArray, List.getElem_cons_succ, List.getElem_cons_zero, List.setIfInBounds_toArray, List.set_cons_zero, List.set_cons_succ]
          refine wpAnyH_take (i := 38) (v := ?_) rfl (by kernel_rfl) (by kernel_rfl) (by kernel_rfl) (fun _ _ _ h => h) (Or.inl ⟨by kernel_rfl, ?_⟩) (by assumption) ?_
          rotate_left
          · (intro w hSw; (go_simp; try with_reducible rfl))
          try simp only [Act.put, List.getElem_toArray, List.getElem_cons_succ, List.getElem_cons_zero, List.setIfInBounds_toArray, List.set_cons_zero, List.set_cons_succ]
          refine wpAnyH_take (i := 39) (v := ?_) rfl (by kernel_rfl) (by kernel_rfl) (by kernel_rfl) (fun _ _ _ h => h) (Or.inl ⟨by kernel_rfl, ?_⟩) (by assumption) ?_
          rotate_left
          · (intro w hSw; (go_simp; try with_reducible rfl))
          try simp only [Act.put, List.getElem_toArray, List.getElem_cons_succ, List.getElem_cons_zero, List.setIfInBounds_toArray, List.set_cons_zero, List.set_cons_succ]
          refine wpAnyH_take (i := 40) (v := ?_) rfl (by kernel_rfl) (by kernel_rfl) (by kernel_rfl) (fun _ _ _ h => h) (Or.inl ⟨by kernel_rfl, ?_⟩) (by assumption) ?_
          rotate_left
          · (intro w hSw; (go_simp; try with_reducible rfl))
          try simp only [Act.put, List.getElem_toArray, List.getElem_cons_succ, List.getElem_cons_zero, List.setIfInBounds_toArray, List.set_cons_zero, List.set_cons_succ]
          refine wpAnyH_done (by kernel_rfl) ?_ _
          clear hF
          go_wp2
          go_ret
          exact ⟨rfl, BD.out⟩
        · refine step_convert rfl 49 9 (.tmp 75) rfl (.slice a9 n9 c9) (.string str) rfl CB.out ?_
          refine hK1.out _ _ S9 (fun hH => ?_)
          clear hK1
          try simp only [Act.put, List.getElem_toArray, List.getElem_cons_succ, List.getElem_cons_zero, List.setIfInBounds_toArray, List.set_cons_zero, List.set_cons_succ]
          refine wpAnyH_ready (rs := [2]) (by kernel_rfl) (by simp) (AllReadyH.cons rfl (fun K1 hK1 => ?_) AllReadyH.nil)
          refine step_convert rfl 49 9 (.tmp 72) rfl (.slice a8 n8 c8) (.string str) rfl CA9.out ?_
          refine hK1.out _ _ S9 (fun hH2 => ?_)
          clear hH hK1
          try simp only [Act.put, List.getElem_toArray, List.getElem_cons_succ, List.getElem_cons_zero, List.setIfInBounds_toArray, List.set_cons_zero, List.set_cons_succ]
          refine wpAnyH_take (i := 6) (v := ?_) rfl (by kernel_rfl) (by kernel_rfl) (by kernel_rfl) (fun _ _ _ h => h) (Or.inl ⟨by kernel_rfl, ?_⟩) (by assumption) ?_
          rotate_left
          · (intro w hSw; (go_simp; try with_reducible rfl))
          try simp only [Act.put, List.getElem_toArray, List.getElem_cons_succ, List.getElem_cons_zero, List.setIfInBounds_toArray, List.set_cons_zero, List.set_cons_succ]
          refine wpAnyH_take (i := 7) (v := ?_) rfl (by kernel_rfl) (by kernel_rfl) (by kernel_rfl) (fun _ _ _ h => h) (Or.inl ⟨by kernel_rfl, ?_⟩) (by assumption) ?_
          rotate_left
          · (intro w hSw; (go_simp; try with_reducible rfl))
          try simp only [Act.put, List.getElem_toArray, List.getElem_cons_succ, List.getElem_cons_zero, List.setIfInBounds_toArray, List.set_cons_zero, List.set_cons_succ]
          refine wpAnyH_take (i := 8) (v := ?_) rfl (by kernel_rfl) (by kernel_rfl) (by kernel_rfl) (fun _ _ _ h => h) (Or.inl ⟨by kernel_rfl, ?_⟩) (by assumption) ?_
          rotate_left
          · (intro w hSw; (go_simp; try with_reducible rfl))
          try simp only [Act.put, List.getElem_toArray, List.getElem_cons_succ, List.getElem_cons_zero, List.setIfInBounds_toArray, List.set_cons_zero, List.set_cons_succ]
          refine wpAnyH_take (i := 9) (v := ?_) rfl (by kernel_rfl) (by kernel_rfl) (by kernel_rfl) (fun _ _ _ h => h) (Or.inl ⟨by kernel_rfl, ?_⟩) (by assumption) ?_
          rotate_left
          · (intro w hSw; (go_simp; try with_reducible rfl))
          try simp only [Act.put, List.getElem_toArray, List.getElem_cons_succ, List.getElem_cons_zero, List.setIfInBounds_toArray, List.set_cons_zero, List.set_cons_succ]
          refine wpAnyH_take (i := 10) (v := ?_) rfl (by kernel_rfl) (by kernel_rfl) (by kernel_rfl) (fun _ _ _ h => h) (Or.inl ⟨by kernel_rfl, ?_⟩) (by assumption) ?_
          rotate_left
          · (intro w hSw; (go_simp; try with_reducible rfl))
          try simp only [Act.put, List.getElem_toArray, List.getElem_cons_succ, List.getElem_cons_zero, List.setIfInBounds_toArray, List.set_cons_zero, List.set_cons_succ]
          refine wpAnyH_take (i := 11) (v := ?_) rfl (by kernel_rfl) (by kernel_rfl) (by kernel_rfl) (fun _ _ _ h => h) (Or.inl ⟨by kernel_rfl, ?_⟩) (by assumption) ?_
          rotate_left
          · (intro w hSw; (go_simp; try with_reducible rfl))
          try simp only [Act.put, List.getElem_toArray, List.getElem_cons_succ, List.getElem_cons_zero, List.setIfInBounds_toArray, List.set_cons_zero, List.set_cons_succ]
          refine wpAnyH_take (i := 12) (v := ?_) rfl (by kernel_rfl) (by kernel_rfl) (by kernel_rfl) (fun _ _ _ h => h) (Or.inl ⟨by kernel_rfl, ?_⟩) (by assumption) ?_
          rotate_left
          · (intro w hSw; (go_simp; try with_reducible rfl))
          try simp only [Act.put, List.getElem_toArray, List.getElem_cons_succ, List.getElem_cons_zero, List.setIfInBounds_toArray, List.set_cons_zero, List.set_cons_succ]
          refine' wpAnyH_take (i := 13) (v := _) rfl (by kernel_rfl) (by kernel_rfl) (by kernel_rfl) (fun _ _ _ h => h) (yieldsIf_build2 (by kernel_rfl) 31 _ rfl [] (by kernel_rfl) (encId zid).toArray (by kernel_rfl)) (by assumption) ?_
          try simp only [Act.put, List.getElem_toArray, List.getElem_cons_succ, List.getElem_cons_zero, List.setIfInBounds_toArray, List.set_cons_zero, List.set_cons_succ]
          refine' wpAnyH_take (i := 14) (v := _) rfl (by kernel_rfl) (by kernel_rfl) (by kernel_rfl) (fun _ _ _ h => h) (yieldsIf_build2 (by kernel_rfl) 37 _ rfl [] (by kernel_rfl) (plcells zpl).toArray built_zpl) (by assumption) ?_
          try simp only [Act.put, List.getElem_toArray, List.getElem_cons_succ, List.getElem_cons_zero, List.setIfInBounds_toArray, List.set_cons_zero, List.set_cons_succ]
          refine wpAnyH_ready (rs := [15]) (by kernel_rfl) (by simp) (AllReadyH.cons rfl (fun K1 hK1 => ?_) AllReadyH.nil)
          go_simp
          go_at_call 13
          refine (add_none _ zid zpl).mono ?_
          rintro e wa ⟨rfl, ba⟩
          have SA := S9.trans (ba.mono S9.size)
          have BA := Lib.hid (B9.out.trans (ba.mono B9.out.size))
          refine hK1.out _ _ SA (fun hA => ?_)
          clear hH2 hK1 ba
          try simp only [Act.put, List.getElem_toArray, List.getElem_cons_succ, List.getElem_cons_zero, List.setIfInBounds_toArray, List.set_cons_zero, List.set_cons_succ]
          refine wpAnyH_take (i := 16) (v := ?_) rfl (by kernel_rfl) (by kernel_rfl) (by kernel_rfl) (fun _ _ _ h => h) (Or.inl ⟨by kernel_rfl, ?_⟩) (by assumption) ?_
          rotate_left
          · (intro w hSw; (go_simp; try with_reducible rfl))
          try simp only [Act.put, List.getElem_toArray, List.getElem_cons_succ, List.getElem_cons_zero, List.setIfInBounds_toArray, List.set_cons_zero, List.set_cons_succ]
          refine wpAnyH_take (i := 17) (v := ?_) rfl (by kernel_rfl) (by kernel_rfl) (by kernel_rfl) (fun _ _ _ h => h) (Or.inl ⟨by kernel_rfl, ?_⟩) (by assumption) ?_
          rotate_left
          · (intro w hSw; (go_simp; try with_reducible rfl))
          try simp only [Act.put, List.getElem_toArray, List.getElem_cons_succ, List.getElem_cons_zero, List.setIfInBounds_toArray, List.set_cons_zero, List.set_cons_succ]
          refine wpAnyH_take (i := 18) (v := ?_) rfl (by kernel_rfl) (by kernel_rfl) (by kernel_rfl) (fun _ _ _ h => h) (Or.inl ⟨by kernel_rfl, ?_⟩) (by assumption) ?_
          rotate_left
          · (intro w hSw; (go_simp; try with_reducible rfl))
          try simp only [Act.put, List.getElem_toArray, List.getElem_cons_succ, List.getElem_cons_zero, List.setIfInBounds_toArray, List.set_cons_zero, List.set_cons_succ]
          refine wpAnyH_take (i := 19) (v := ?_) rfl (by kernel_rfl) (by kernel_rfl) (by kernel_rfl) (fun _ _ _ h => h) (Or.inl ⟨by kernel_rfl, ?_⟩) (by assumption) ?_
          rotate_left
          · (intro w hSw; (go_simp; try with_reducible rfl))
          try simp only [Act.put, List.getElem_toArray, List.getElem_cons_succ, List.getElem_cons_zero, List.setIfInBounds_toArray, List.set_cons_zero, List.set_cons_succ]
          refine' wpAnyH_take (i := 20) (v := _) rfl (by kernel_rfl) (by kernel_rfl) (by kernel_rfl) (fun _ _ _ h => h) (yieldsIf_build2 (by kernel_rfl) 31 _ rfl [] (by kernel_rfl) (encId zid).toArray (by kernel_rfl)) (by assumption) ?_
          try simp only [Act.put, List.getElem_toArray, List.getElem_cons_succ, List.getElem_cons_zero, List.setIfInBounds_toArray, List.set_cons_zero, List.set_cons_succ]
          refine wpAnyH_ready (rs := [21]) (by kernel_rfl) (by simp) (AllReadyH.cons rfl (fun K1 hK1 => ?_) AllReadyH.nil)
          go_simp
          go_at_call 10
          refine (drop_none _ zid).mono ?_
          rintro e wd ⟨rfl, bd⟩
          have SD := SA.trans (bd.mono SA.size)
          have BD := Lib.hid (BA.out.trans (bd.mono BA.out.size))
          refine hK1.out _ _ SD (fun hD => ?_)
          clear hA hK1 bd
          try simp only [Act.put, List.getElem_toArray, List.getElem_cons_succ, List.getElem_cons_zero, List.setIfInBounds_toArray, List.set_cons_zero, List.set_cons_succ]
          refine wpAnyH_take (i := 22) (v := ?_) rfl (by kernel_rfl) (by kernel_rfl) (by kernel_rfl) (fun _ _ _ h => h) (Or.inl ⟨by kernel_rfl, ?_⟩) (by assumption) ?_
          rotate_left
          · (intro w hSw; (go_simp; try with_reducible rfl))
          try simp only [Act.put, List.getElem_toArray, List.getElem_cons_succ, List.getElem_cons_zero, List.setIfInBounds_toArray, List.set_cons_zero, List.set_cons_succ]
          refine wpAnyH_take (i := 23) (v := ?_) rfl (by kernel_rfl) (by kernel_rfl) (by kernel_rfl) (fun _ _ _ h => h) (Or.inl ⟨by kernel_rfl, ?_⟩) (by assumption) ?_
          rotate_left
          · (intro w hSw; (go_simp; try with_reducible rfl))
          try simp only [Act.put, List.getElem_toArray, List.getElem_cons_succ, List.getElem_cons_zero, List.setIfInBounds_toArray, List.set_cons_zero, List.set_cons_succ]
          refine wpAnyH_take (i := 24) (v := ?_) rfl (by kernel_rfl) (by kernel_rfl) (by kernel_rfl) (fun _ _ _ h => h) (Or.inl ⟨by kernel_rfl, ?_⟩) (by assumption) ?_
          rotate_left
          · (intro w hSw; (go_simp; try with_reducible rfl))
          try simp only [Act.put, List.getElem_toArray, List.getElem_cons_succ, List.getElem_cons_zero, List.setIfInBounds_toArray, List.set_cons_zero, List.set_cons_succ]
          refine wpAnyH_take (i := 25) (v := ?_) rfl (by kernel_rfl) (by kernel_rfl) (by kernel_rfl) (fun _ _ _ h => h) (Or.inl ⟨by kernel_rfl, ?_⟩) (by assumption) ?_
          rotate_left
          · (intro w hSw; (go_simp; try with_reducible rfl))
          try simp only [Act.put, List.getElem_toArray, List.getElem_cons_succ, List.getElem_cons_zero, List.setIfInBounds_toArray, List.set_cons_zero, List.set_cons_succ]
          refine wpAnyH_take (i := 28) (v := ?_) rfl (by kernel_rfl) (by kernel_rfl) (by kernel_rfl) (fun _ _ _ h => h) (Or.inl ⟨by kernel_rfl, ?_⟩) (by assumption) ?_
          rotate_left
          · (intro w hSw; (go_simp; try with_reducible rfl))
          try simp only [Act.put, List.getElem_toArray, List.getElem_cons_succ, List.getElem_cons_zero, List.setIfInBounds_toArray, List.set_cons_zero, List.set_cons_succ]
          refine wpAnyH_take (i := 29) (v := ?_) rfl (by kernel_rfl) (by kernel_rfl) (by kernel_rfl) (fun _ _ _ h => h) (Or.inl ⟨by kernel_rfl, ?_⟩) (by assumption) ?_
          rotate_left
          · (intro w hSw; (go_simp; try with_reducible rfl))
          try simp only [Act.put, List.getElem_toArray, List.getElem_cons_succ, List.getElem_cons_zero, List.setIfInBounds_toArray, List.set_cons_zero, List.set_cons_succ]
          refine wpAnyH_take (i := 31) (v := ?_) rfl (by kernel_rfl) (by kernel_rfl) (by kernel_rfl) (fun _ _ _ h => h) (Or.inl ⟨by kernel_rfl, ?_⟩) (by assumption) ?_
          rotate_left
          · (intro w hSw; (go_simp; try with_reducible rfl))
          try simp only [Act.put, List.getElem_toArray, List.getElem_cons_succ, List.getElem_cons_zero, List.setIfInBounds_toArray, List.set_cons_zero, List.set_cons_succ]
          refine wpAnyH_take (i := 32) (v := ?_) rfl (by kernel_rfl) (by kernel_rfl) (by kernel_rfl) (fun _ _ _ h => h) (Or.inl ⟨by kernel_rfl, ?_⟩) (by assumption) ?_
          rotate_left
          · (intro w hSw; (go_simp; try with_reducible rfl))
          try simp only [Act.put, List.getElem_toArray, List.getElem_cons_succ, List.getElem_cons_zero, List.setIfInBounds_toArray, List.set_cons_zero, List.set_cons_succ]
          refine wpAnyH_take (i := 34) (v := ?_) rfl (by kernel_rfl) (by kernel_rfl) (by kernel_rfl) (fun _ _ _ h => h) (Or.inl ⟨by kernel_rfl, ?_⟩) (by assumption) ?_
          rotate_left
          · (intro w hSw; (go_simp; try with_reducible rfl))
          try simp only [Act.put, List.getElem_toArray, List.getElem_cons_succ, List.getElem_cons_zero, List.setIfInBounds_toArray, List.set_cons_zero, List.set_cons_succ]
          refine wpAnyH_ready (rs := [26]) (by kernel_rfl) (by simp) (AllReadyH.cons rfl (fun K1 hK1 => ?_) AllReadyH.nil)
          go_simp
          go_at_call 22
          refine (ids_none _).mono ?_
          rintro e we ⟨rfl, hwe⟩
          obtain rfl := hwe.symm
          refine hK1.out _ _ SD (fun hE => ?_)
          clear hD hK1 hwe
          try simp only [Act.put, List.getElem_toArray, List.getElem_cons_succ, List.getElem_cons_zero, List.setIfInBounds_toArray, List.set_cons_zero, List.set_cons_succ]
          refine wpAnyH_take (i := 27) (v := ?_) rfl (by kernel_rfl) (by kernel_rfl) (by kernel_rfl) (fun _ _ _ h => h) (Or.inl ⟨by kernel_rfl, ?_⟩) (by assumption) ?_
          rotate_left
          · (intro w hSw; (go_simp; try with_reducible rfl))
          try simp only [Act.put, List.getElem_toArray, List.getElem_cons_succ, List.getElem_cons_zero, List.setIfInBounds_toArray, List.set_cons_zero, List.set_cons_succ]
          refine wpAnyH_take (i := 30) (v := ?_) rfl (by kernel_rfl) (by kernel_rfl) (by kernel_rfl) (fun _ _ _ h => h) (Or.inl ⟨by kernel_rfl, ?_⟩) (by assumption) ?_
          rotate_left
          · (intro w hSw; (go_simp; try with_reducible rfl))
          try simp only [Act.put, List.getElem_toArray, List.getElem_cons_succ, List.getElem_cons_zero, List.setIfInBounds_toArray, List.set_cons_zero, List.set_cons_succ]
          refine wpAnyH_take (i := 33) (v := ?_) rfl (by kernel_rfl) (by kernel_rfl) (by kernel_rfl) (fun _ _ _ h => h) (Or.inl ⟨by kernel_rfl, ?_⟩) (by assumption) ?_
          rotate_left
          · (intro w hSw; (go_simp; try with_reducible rfl))
          try simp only [Act.put, List.getElem_toArray, List.getElem_cons_succ, List.getElem_cons_zero, List.setIfInBounds_toArray, List.set_cons_zero, List.set_cons_succ]
          refine wpAnyH_ready (rs := [35]) (by kernel_rfl) (by simp) (AllReadyH.cons rfl (fun K1 hK1 => ?_) AllReadyH.nil)
          go_simp
          go_at_call 19
          refine (put_none _).mono ?_
          rintro e we ⟨rfl, hwe⟩
          obtain rfl := hwe.symm
          refine hK1.out _ _ SD (fun hF => ?_)
          clear hE hK1 hwe
          try simp only [Act.put, List.getElem_toArray, List.getElem_cons_succ, List.getElem_cons_zero, List.setIfInBounds_toArray, List.set_cons_zero, List.set_cons_succ]
          refine wpAnyH_take (i := 36) (v := ?_) rfl (by kernel_rfl) (by kernel_rfl) (by kernel_rfl) (fun _ _ _ h => h) (Or.inl ⟨by kernel_rfl, ?_⟩) (by assumption) ?_
          rotate_left
          · (intro w hSw; (go_simp; try with_reducible rfl))
          try simp only [Act.put, List.getElem_toArray, List.getElem_cons_succ, List.getElem_cons_zero, List.setIfInBounds_toArray, List.set_cons_zero, List.set_cons_succ]
          refine wpAnyH_take (i := 37) (v := ?_) rfl (by kernel_rfl) (by kernel_rfl) (by kernel_rfl) (fun _ _ _ h => h) (Or.inl ⟨by kernel_rfl, ?_⟩) (by assumption) ?_
          rotate_left
          · (intro w hSw; (go_simp; try with_reducible rfl))
          try simp only [Act.put, List.getElem_toArray, List.getElem_cons_succ, List.getElem_cons_zero, List.setIfInBounds_toArray, List.set_cons_zero, List.set_cons_succ]
          refine wpAnyH_take (i := 38) (v := ?_) rfl (by kernel_rfl) (by kernel_rfl) (by kernel_rfl) (fun _ _ _ h => h) (Or.inl ⟨by kernel_rfl, ?_⟩) (by assumption) ?_
          rotate_left
          · (intro w hSw; (go_simp; try with_reducible rfl))
          try simp only [Act.put, List.getElem_toArray, List.getElem_cons_succ, List.getElem_cons_zero, List.setIfInBounds_toArray, List.set_cons_zero, List.set_cons_succ]
          refine wpAnyH_take (i := 39) (v := ?_) rfl (by kernel_rfl) (by kernel_rfl) (by kernel_rfl) (fun _ _ _ h => h) (Or.inl ⟨by kernel_rfl, ?_⟩) (by assumption) ?_
          rotate_left
          · (intro w hSw; (go_simp; try with_reducible rfl))
          try simp only [Act.put, List.getElem_toArray, List.getElem_cons_succ, List.getElem_cons_zero, List.setIfInBounds_toArray, List.set_cons_zero, List.set_cons_succ]
          refine wpAnyH_take (i := 40) (v := ?_) rfl (by kernel_rfl) (by kernel_rfl) (by kernel_rfl) (fun _ _ _ h => h) (Or.inl ⟨by kernel_rfl, ?_⟩) (by assumption) ?_
          rotate_left
          · (intro w hSw; (go_simp; try with_reducible rfl))
          try simp only [Act.put, List.getElem_toArray, List.getElem_cons_succ, List.getElem_cons_zero, List.setIfInBounds_toArray, List.set_cons_zero, List.set_cons_succ]
          refine wpAnyH_done (by kernel_rfl) ?_ _
          clear hF
          go_wp2
          go_ret
          exact ⟨rfl, BD.out⟩
open Go.ChangeAt in
theorem DedupOrder_walk (ad : Option Addr) (l : List Id32) (c : Nat) (t : Int) (W : World) (hrow : RowAt W ad (l.flatMap encId)) (_hraw : ∀ p ∈ l, True) (hl : l.length ≤ c) (hc : c ≤ maxLen) (_hb : c * Try.prog.bytesOf 31 ≤ 140737488351232) (_hn : ad = none → c = 0)
    (ht : (Lit.int .u16 t).wf = true) :
    Calls Try.prog 5 #[.slice ad l.length c, .int .u16 t] W fun e w' => e = .returned (.bool true) ∧ Below W.heap.size W w' :=
  order_law hrow (by unfold maxLen at hc; omega) t (by simpa [Lit.wf, IntKind.min, IntKind.max, IntKind.signed, IntKind.bits] using ht)
open Go.ChangeAt
set_option maxRecDepth 100000 in
theorem DedupOrder_lifted (os : Os) (started : os.Started) (H : Type) (enc : TypeId × Value → H) :
    ReturnsInHanded {} Try.checked os 5 .any (Rows.dedupOrderSpec.pre6 enc Try.prog Try.f5 Rows.dedupOrderRow.domain false) (Rows.dedupOrderSpec.post enc Try.prog Try.f5 false true false false) := by
  refine returnsInHanded_of_change_sized (C := Try.checked) own started (by kernel_rfl) Try.func5
    (ChangeSpec.witness6 (enc := enc) (C := Try.checked) false ⟨#[], #[.slice none 0 0, .int .u16 0], []⟩ 8 (by kernel_rfl) (by kernel_rfl) (by kernel_rfl) (by kernel_rfl)) ?_
  intro W base args ds gs before hval0 hW hcnd hsz0 _
  have hval : ∀ (j : Nat) t v, Try.f5.params[j]? = some t → args[j]? = some v → Value.okWide Try.prog W .any base t v := hval0
  have hW' := hW
  obtain ⟨p, q, hA0, hV, rfl, hfz, hnd⟩ := hW
  have hA : DataW.TrodAll enc Try.prog W 0 (fun _ => true) true Try.f5.params.toList args.toList ds p := hA0
  have hsz : (DataW.weightsEach Try.prog (Try.f5.params.toList ++ Rows.dedupOrderSpec.plain.varTypes Try.prog) (ds ++ gs)).all (· ≤ reachBytes) = true := hsz0
  rw [Try.params5] at hA hval hsz
  obtain ⟨v0, vs0, d0, ds0, p0, q0, hargs, rfl, rfl, h0, r0⟩ := trodAll_cons hA
  obtain ⟨v1, vs1, d1, ds1, p1, q1, rfl, rfl, rfl, h1, r1⟩ := trodAll_cons r0
  obtain ⟨rfl, rfl, rfl⟩ := trodAll_nil r1
  obtain rfl : args = #[v0, v1] := by cases args; simp_all
  obtain ⟨a0, z0, c0, rfl, x0, y0, l0, m0, b0, n0⟩ := rows_of encId_len cells_id (by decide) Try.underlying55 (fun _ h => rz_id h) (hval 0 55 v0 rfl rfl) (RZ.of h0 hsz (j := 0) rfl rfl)
  obtain ⟨a1, rfl, rfl, rfl, w1⟩ := open_int Try.underlying56 (hval 1 56 v1 rfl rfl) h1
  refine (DedupOrder_walk a0 z0 c0 a1 W x0 y0 l0 m0 b0 n0 w1).mono fun e W' ⟨he, hb⟩ => ?_
  subst he
  exact ⟨_, rfl, law_post laidOut (by kernel_rfl) rfl rfl Try.underlying4 rfl hW' hb⟩
theorem DedupOrder_holds : Rows.DedupOrderSaid :=
  OpenClaim.holds_of_wide 5 Try.f5 rfl rfl rfl rfl rfl rfl rfl ⟨rfl, rfl, rfl, rfl, rfl⟩ rfl rfl rfl rfl rfl (by kernel_rfl) Try.func5 (by kernel_rfl)
    (of_decide_eq_true (by kernel_rfl)) (by unfold Func.isWrapper; rw [if_neg (by decide +kernel)]; exact ⟨rfl, rfl⟩)
    (fun os started H enc _ => DedupOrder_lifted os started H enc)
end Go.Proofs.Ytgbghjpkdbjdgaa
