/- The law RepairFirst: packs that have the fewest holders come first; each gets the partner that has the most room. No conditions. -/
import Derived.Test.YtpmkgnnpngbfmaaRf1
import Derived.Deep.DeepCutAuto
namespace Go.Proofs.Ytpmkgnnpngbfmaa
open Go.ChangeShapes Go.WideShapes Go.ChangeAt Go.RowKit
open Extern.Stop (cell)

theorem wpList_at_slice {P : Program} {ops : Array Oper} {rest : List Oper} {a : Act} {w : World} {Q : Exit → Act → World → Prop} (t : TypeId) {dst : Option Tmp} {len : Nat} {parts : Array (Nat × Operand)} {ty : TypeId} {pos : String} {aft : Array Edge} {g : Option (Nat × Bool)}
    (h : wpList P ops Q (⟨dst, .buildSlice t len parts, ty, pos, aft, g⟩ :: rest) a w) : wpList P ops Q (⟨dst, .buildSlice t len parts, ty, pos, aft, g⟩ :: rest) a w := h
theorem four_blocks (w : World) (o0 o1 o2 o3 : Obj) : ((((w.alloc o0).alloc o1).alloc o2).alloc o3).heap[w.heap.size]? = some o0 ∧ ((((w.alloc o0).alloc o1).alloc o2).alloc o3).heap[w.heap.size + 1]? = some o1 ∧ ((((w.alloc o0).alloc o1).alloc o2).alloc o3).heap[w.heap.size + 1 + 1]? = some o2 ∧ ((((w.alloc o0).alloc o1).alloc o2).alloc o3).heap[w.heap.size + 1 + 1 + 1]? = some o3 ∧ Below w.heap.size w ((((w.alloc o0).alloc o1).alloc o2).alloc o3) := by
  have h1 := heap_at (w.alloc o0) o1
  rw [alloc_size] at h1
  have h2 := heap_at ((w.alloc o0).alloc o1) o2
  rw [alloc_size, alloc_size] at h2
  have h3 := heap_at (((w.alloc o0).alloc o1).alloc o2) o3
  rw [alloc_size, alloc_size, alloc_size] at h3
  exact ⟨heap_up (heap_up (heap_up (heap_at w o0))), heap_up (heap_up h1), heap_up h2, h3, below_alloc (below_alloc (below_alloc (below_alloc (Below.refl _ _) _) _) _) _⟩
theorem all_three {α : Type} {P : α → Prop} {a b c : α} (h1 : P a) (h2 : P b) (h3 : P c) : ∀ x ∈ [a, b, c], P x := fun x hx => by
  simp only [List.mem_cons, List.not_mem_nil, or_false] at hx
  rcases hx with rfl | rfl | rfl
  · exact h1
  · exact h2
  · exact h3
theorem wf_100 : (Lit.int .i64 100).wf = true ∧ (Lit.int .i64 101).wf = true ∧ (Lit.int .i64 102).wf = true := ⟨by decide, by decide, by decide⟩
theorem info_fr : (Try.prog.info? 51).map (fun i => (i.zero, i.size, i.bytes)) = some (some (.agg #[.int .i64 0, .int .u64 0]), 2, 16) := by kernel_rfl
theorem u8_in {x : Int} (h : (Lit.int .u8 x).wf = true) : 0 ≤ x ∧ x ≤ 255 := by
  simpa [Lit.wf, IntKind.min, IntKind.max, IntKind.signed, IntKind.bits] using h
theorem u16_in {x : Int} (h : (Lit.int .u16 x).wf = true) : 0 ≤ x ∧ x ≤ 65535 := by
  simpa [Lit.wf, IntKind.min, IntKind.max, IntKind.signed, IntKind.bits] using h
theorem fr_ok {zs : List Int} (h : ∀ z ∈ zs, 0 ≤ z ∧ z ≤ 65535) (hn : zs.length ≤ 20) : LeftOk (frOf zs) := fun x hx => by
  obtain ⟨i, h1, h2⟩ := frOf_mem.1 hx
  have hi := (List.getElem?_eq_some_iff.1 h1).1
  have hz := h _ (List.mem_of_getElem? h1)
  refine ⟨?_, by omega, by omega⟩
  rw [h2]
  simp [Lit.wf, IntKind.min, IntKind.max, IntKind.signed, IntKind.bits]
  omega
set_option linter.unusedSimpArgs false in
set_option maxRecDepth 1000000 in
set_option maxHeartbeats 2000000 in
theorem RepairFirst_walk (a b : Int) (ad : Option Addr) (zs : List Int) (c : Nat) (W0 : World) (ha : (Lit.int .u8 a).wf = true) (hb : (Lit.int .u8 b).wf = true) (hx : IntsAt W0 .u16 ad zs) (hz : ∀ n ∈ zs, (Lit.int .u16 n).wf = true) (hl : zs.length ≤ maxLen) :
    Calls Try.prog 6 #[.int .u8 a, .int .u8 b, .slice ad zs.length c] W0 fun e w' => e = .returned (.bool true) ∧ Below W0.heap.size W0 w' := by
  obtain ⟨a0, a1⟩ := u8_in ha
  obtain ⟨b0, b1⟩ := u8_in hb
  have X := Lib.hid hx
  have Z := Lib.hid (fun z (h : z ∈ zs) => u16_in (hz z h))
  obtain ⟨n, hn⟩ : ∃ n, n = zs.length := ⟨_, rfl⟩
  have HN := Lib.hid hn
  unfold maxLen at hl
  rw [← hn] at hl ⊢
  clear ha hb hx hz hn
  by_cases hn0 : n = 0
  · subst hn0
    go_enter Try.func6, Try.ntmps6
    go_wp2_with fail
    refine (awake_any _).mono ?_
    rintro e w1 ⟨rfl, B1⟩
    have BB := Lib.hid B1
    clear B1
    go_wp2
    go_ret
    exact ⟨rfl, BB.out⟩
  by_cases hn20 : 20 < n
  · have d0 : ((n : Int) == 0) = false := by simp; omega
    have d1 : (20 : Int) < (n : Int) := by omega
    go_enter Try.func6, Try.ntmps6
    go_wp2_with fail
    refine (awake_any _).mono ?_
    rintro e w1 ⟨rfl, B1⟩
    have BB := Lib.hid B1
    clear B1
    go_wp2
    go_ret
    exact ⟨rfl, BB.out⟩
  have d0 : ((n : Int) == 0) = false := by simp; omega
  have d1 : ¬ (20 : Int) < (n : Int) := by omega
  obtain ⟨i0, hi, hz0, hz1, hz2⟩ := info_parts info_pk
  obtain ⟨j0, gi, gz0, gz1, gz2⟩ := info_parts info_fr
  have FI := Lib.hid (⟨gi, gz0, gz1, gz2⟩ : Try.prog.info? 51 = some j0 ∧ j0.zero = some (.agg #[.int .i64 0, .int .u64 0]) ∧ j0.size = 2 ∧ j0.bytes = 16)
  have PI := Lib.hid (⟨hi, hz0, hz1⟩ : Try.prog.info? 46 = some i0 ∧ i0.zero = some (.agg (pcells ⟨[], 0, [], none, 0⟩).toArray) ∧ i0.size = 34)
  clear hi hz0 hz1 hz2 gi gz0 gz1 gz2
  go_enter Try.func6, Try.ntmps6
  go_wp2_with fail
  refine (awake_any _).mono ?_
  rintro e w1 ⟨rfl, hB1⟩
  have B1 := Lib.hid hB1
  clear hB1
  go_upto_region 7 with (first | (refine wpList_build_eq rfl 37 #[(0, .const (.int .u8 1))] rfl (idCells (idOne 1)).toArray (by kernel_rfl) ?_) | (refine wpList_build_eq rfl 37 #[(0, .const (.int .u8 2))] rfl (idCells (idOne 2)).toArray (by kernel_rfl) ?_) | (refine wpList_build_eq rfl 37 #[(0, .const (.int .u8 3))] rfl (idCells (idOne 3)).toArray (by kernel_rfl) ?_) | (refine wpList_build_eq rfl 46 #[(0, .tmp 24), (1, .const (.int .u64 5)), (2, .tmp 25)] rfl (pcells (f1 w1.heap.size)).toArray (by kernel_rfl) ?_) | (refine wpList_build_eq rfl 46 #[(0, .tmp 27), (1, .tmp 30), (2, .tmp 31)] rfl (pcells (f2 w1.heap.size a)).toArray (by kernel_rfl) ?_) | (refine wpList_build_eq rfl 46 #[(0, .tmp 33), (1, .tmp 36), (2, .tmp 37)] rfl (pcells (f3 w1.heap.size b)).toArray (by kernel_rfl) ?_) | ((with_reducible refine wpList_at_slice 22 ?_); refine wpList_rows rfl 22 46 3 #[(0, .tmp 26), (1, .tmp 32), (2, .tmp 38)] rfl [.agg (pcells (f1 w1.heap.size)).toArray, .agg (pcells (f2 w1.heap.size a)).toArray, .agg (pcells (f3 w1.heap.size b)).toArray] 34 i0 _ Try.underlying22 PI.out.1 PI.out.2.1 PI.out.2.2 (by decide) rfl (by decide) (by decide) (by simp [Value.cells, pcells_len]) (by kernel_rfl) ?_))
  refine wp_named fun W hW => ?_
  obtain ⟨H, hH⟩ : ∃ H, H = w1.heap.size := ⟨_, rfl⟩
  obtain ⟨e0, e1, e2, e3, b4⟩ := four_blocks w1 (.cells #[.int .i64 100, .int .i64 101] 3) (.cells #[.int .i64 100] 3) (.cells #[.int .i64 102] 3) (.cells (pcells (f1 w1.heap.size) ++ (pcells (f2 w1.heap.size a) ++ pcells (f3 w1.heap.size b))).toArray 46)
  rw [← hW] at e0 e1 e2 e3 b4
  rw [← hH] at e0 e1 e2 e3 ⊢
  have r0 : RowAt W (some ⟨H + 1 + 1 + 1, 0, none⟩) (([f1 H, f2 H a, f3 H b] : List Pk).flatMap pcells) := by
    show RowAt W _ (pcells (f1 H) ++ (pcells (f2 H a) ++ (pcells (f3 H b) ++ [])))
    rw [List.append_nil]
    exact rowAt_block e3
  have p0 : ∀ p ∈ [f1 H, f2 H a, f3 H b], PkOk W p := all_three ⟨idOne_len 1, intsRd_block (l := [100, 101]) e0, by simp, fun x hx => by simp at hx; rcases hx with rfl | rfl; exact wf_100.1; exact wf_100.2.1⟩
    ⟨idOne_len 2, intsRd_block (l := [100]) e1, by simp, fun x hx => by simp at hx; rw [hx]; exact wf_100.1⟩ ⟨idOne_len 3, intsRd_block (l := [102]) e2, by simp, fun x hx => by simp at hx; rw [hx]; exact wf_100.2.2⟩
  have z0 : ∀ p ∈ [f1 H, f2 H a, f3 H b], 0 ≤ p.size ∧ p.size ≤ 18446744073709551615 := all_three ⟨by simp, by simp⟩ ⟨by simp; omega, by simp; omega⟩ ⟨by simp; omega, by simp; omega⟩
  have R0 := Lib.hid r0
  have P0 := Lib.hid p0
  have Z0 := Lib.hid z0
  have BW := Lib.hid (B1.out.trans (b4.mono B1.out.size))
  clear hW hH e0 e1 e2 e3 b4 r0 p0 z0 B1
  go_wp2_with fail
  go_loopg [9, 10, 11] n (fun k s9 s10 s11 wr => ∃ (j best : Nat) (v : Int), j ≤ n ∧ k = n - j ∧ s11 = .int .i64 j ∧ s10 = .int .i64 best ∧ FirstBest zs j best v ∧ wr.ownsRow W.heap.size 51 2 s9 j ((frOf (zs.take j)).flatMap fcells) ∧ Below W.heap.size W wr)
  case atStart =>
    refine ⟨0, 0, zs.getD 0 0, Nat.zero_le _, rfl, rfl, rfl, ⟨?_, fun i z hi _ => by omega, fun i z hi _ => by omega⟩, ⟨rfl, .inl ⟨rfl, rfl⟩⟩, Below.refl _ _⟩
    rw [List.getD_eq_getElem?_getD, List.getElem?_eq_getElem (by rw [← HN.out]; omega)]
    rfl
  case round =>
    obtain ⟨j, best, v, hj, hk, rfl, rfl, hF, hD, hB⟩ := hrel
    have HK := Lib.hid hk
    have FF := Lib.hid hF
    have DD := Lib.hid hD
    have BB := Lib.hid hB
    have BX := Lib.hid (BW.out.trans (hB.mono BW.out.size))
    have hbn : best < n := by rw [HN.out]; exact (List.getElem?_eq_some_iff.1 hF.at').1
    obtain ⟨g, off, e1, hg, cb⟩ := X.out.at BX.out (j := best) (by rw [← HN.out]; exact hbn)
    have ev : zs.getD best 0 = v := by rw [List.getD_eq_getElem?_getD, hF.at']; rfl
    rw [ev] at cb
    have hv := Z.out v (List.mem_of_getElem? hF.at')
    obtain ⟨v0, v1⟩ := hv
    have c0 : (0 : Int) ≤ (best : Int) := Int.natCast_nonneg _
    have c1 : (best : Int) < (n : Int) := by omega
    have hgw : g < wr.heap.size := Nat.lt_of_lt_of_le hg BX.out.size
    clear hk hF hD hB ev
    by_cases hlt : j < n
    · subst e1
      obtain ⟨_, _, e2, _, cj⟩ := X.out.at BX.out (j := j) (by rw [← HN.out]; exact hlt)
      cases e2
      have hzj : zs[j]? = some (zs.getD j 0) := by rw [List.getD_eq_getElem?_getD, List.getElem?_eq_getElem (by rw [← HN.out]; exact hlt)]; rfl
      obtain ⟨q0, q1⟩ := Z.out (zs.getD j 0) (List.mem_of_getElem? hzj)
      generalize zs.getD j 0 = z at *
      have HZ := Lib.hid hzj
      have TK : Hid (frOf (zs.take (j + 1)) = frOf (zs.take j) ++ [((j : Int), z)]) := Lib.hid (by
        have hl : (zs.take j).length = j := by rw [List.length_take, ← HN.out]; omega
        rw [List.take_add_one, hzj]
        show frOf (zs.take j ++ [z]) = _
        rw [frOf_snoc, hl])
      have j0' : (0 : Int) ≤ (j : Int) := Int.natCast_nonneg _
      have j1 : (j : Int) < (n : Int) := by omega
      clear hzj
      go_upto_region 13 with (at_builtin; refine wpList_append_own _ rfl _ _ 23 rfl W.heap.size 51 j0 _ 2 16 Try.underlying23 FI.out.1 FI.out.2.1 FI.out.2.2.1 FI.out.2.2.2 rfl (by decide) _ _ _ rfl (own_later DD.out (below_alloc (Below.refl _ _) _)) ⟨wr.heap.size, 0, none⟩ 1 1 [.int .i64 j, .int .u64 z] rfl rfl (World.news_of_block (heap_at wr _)) (fun u hu => by simp at hu; rcases hu with rfl | rfl <;> rfl) (by unfold maxLen; omega) (by omega) (by have := BB.out.size; simp; omega) ?_; intro v2 w2 hown2 hgrow2 hnil2)
      have hgk : ∀ k, u9.ownBlock = some k → W.heap.size ≤ k := fun k hk => (own_row DD.out hk).1
      have hb2 : Below W.heap.size W w2 := (BB.out.alloc BB.out.size _).grown hgrow2 (by have := BB.out.size; simp; omega) hgk
      have hbx : Below W0.heap.size W0 w2 := BW.out.trans (hb2.mono BW.out.size)
      obtain ⟨_, _, e4, _, cj2⟩ := X.out.at hbx (j := j) (by rw [← HN.out]; exact hlt)
      cases e4
      obtain ⟨_, _, e5, _, cb2⟩ := X.out.at hbx (j := best) (by rw [← HN.out]; exact hbn)
      cases e5
      rw [show zs.getD j 0 = z by rw [List.getD_eq_getElem?_getD, HZ.out]; rfl] at cj2
      rw [show zs.getD best 0 = v by rw [List.getD_eq_getElem?_getD, FF.out.at']; rfl] at cb2
      have O2 := Lib.hid hown2
      have B2 := Lib.hid hb2
      clear hown2 hgrow2 hnil2 hgk hb2 hbx cb cj
      by_cases hgt : v < z
      · have F2 : Hid (FirstBest zs (j + 1) j z) := Lib.hid ⟨HZ.out, fun i y hi hy => by
          by_cases e : i = j
          · subst e; rw [HZ.out] at hy; cases hy; exact Int.le_refl _
          · have := FF.out.le i y (by omega) hy; omega, fun i y hi hy => by have := FF.out.le i y hi hy; omega⟩
        go_wp2_with fail
        go_quiet (fail)
        go_wp2
        go_roundg (n - (j + 1))
        case measure => rw [HK.out]; omega
        case rel =>
          refine ⟨j + 1, j, z, by omega, rfl, ?_, rfl, F2.out, ?_, ?_⟩
          · go_num
          · rw [TK.out, List.flatMap_append]
            exact own_later O2.out (below_drewN (Below.refl _ _) _)
          · exact B2.out.trans (below_drewN (Below.refl _ _) _)
      · have F2 : Hid (FirstBest zs (j + 1) best v) := Lib.hid ⟨FF.out.at', fun i y hi hy => by
          by_cases e : i = j
          · subst e; rw [HZ.out] at hy; cases hy; omega
          · exact FF.out.le i y (by omega) hy, FF.out.lt⟩
        go_wp2_with fail
        go_quiet (fail)
        go_wp2
        go_roundg (n - (j + 1))
        case measure => rw [HK.out]; omega
        case rel =>
          refine ⟨j + 1, best, v, by omega, rfl, ?_, rfl, F2.out, ?_, ?_⟩
          · go_num
          · rw [TK.out, List.flatMap_append]
            exact own_later O2.out (below_drewN (Below.refl _ _) _)
          · exact B2.out.trans (below_drewN (Below.refl _ _) _)
    · obtain rfl : n = j := by omega
      have F2 : Hid (FirstBest zs zs.length best v) := Lib.hid (by rw [← HN.out]; exact FF.out)
      have hD := DD.out
      rw [HN.out, List.take_length, ← HN.out] at hD
      obtain ⟨x, xc, rfl⟩ := own_slice hD
      have D2 := Lib.hid hD
      have PL := plan_any (c := 3) (cf := xc) (k := 2) (f := frOf zs) (R0.out.later BB.out) (by simp) (fun h => by cases h) (fun p hp => (P0.out p hp).later BB.out) Z0.out (rowAt_own hD) (by rw [frOf_len, ← HN.out]; omega) (fr_ok Z.out (by rw [← HN.out]; omega)) (by decide) (by decide)
      rw [frOf_len, ← HN.out] at PL
      obtain ⟨mv, hmv⟩ : ∃ mv, mv = (planOf 2 (frees (frOf zs)) (isort keyOfPk [f1 H, f2 H a, f3 H b])).2 := ⟨_, rfl⟩
      rw [← hmv] at PL
      have MV := Lib.hid hmv
      have PL' := Lib.hid PL
      clear hD PL hmv hlt DD
      go_wp2_with fail
      refine PL'.out.mono ?_
      rintro e w4 ⟨vm, rfl, hm, b4⟩
      obtain ⟨gm, cm, rfl⟩ := own_slice hm
      have B4 := Lib.hid (BX.out.trans (b4.mono BX.out.size))
      obtain ⟨_, _, e6, _, cb4⟩ := X.out.at B4.out (j := best) (by rw [← HN.out]; exact hbn)
      subst e6
      cases e1
      rw [show zs.getD best 0 = v by rw [List.getD_eq_getElem?_getD, F2.out.at']; rfl] at cb4
      have OM := Lib.hid hm
      clear hm b4 PL' cb
      obtain ⟨nm, hnm⟩ : ∃ nm, nm = mv.length := ⟨_, rfl⟩
      rw [← hnm]
      have HNM := Lib.hid hnm
      have hmax : nm ≤ 9223372036854775807 := by
        rw [hnm]
        rcases OM.out.2 with ⟨h1, h2⟩ | ⟨_, _, _, h1, _, _, h2, h3, _⟩
        · simp only [Value.slice.injEq] at h1; omega
        · unfold maxLen at h3; omega
      clear hnm
      by_cases hva : v < a + 1
      · rcases first_no (H := H) (b := b) F2.out hva with hm0 | ⟨y, r, hm0, hpk⟩
        · rw [← MV.out] at hm0
          have hnm0 : nm = 0 := by rw [HNM.out, hm0]; rfl
          subst hnm0
          clear hm0
          go_wp2
          go_ret
          exact ⟨rfl, B4.out⟩
        · rw [← MV.out] at hm0
          have ho := OM.out
          rw [← HNM.out] at ho
          obtain ⟨g2, rfl, _, ly, _⟩ := own_elem mcells_len (by decide) ho (i := 0) (x := y) (by rw [hm0]; rfl)
          have hli := (mv_lies ly).1
          rw [hpk, Nat.zero_mul] at hli
          have LI := Lib.hid hli
          have hnm1 : 0 < nm := by rw [HNM.out, hm0]; simp
          have t0 : ((nm : Int) == 0) = false := by simp; omega
          have t1 : (0 : Int) < (nm : Int) := by omega
          have hq := eqi_ids (idOne_len 3) (idOne_len 3)
          simp only [beq_self_eq_true] at hq
          clear hm0 hpk ho ly hli
          go_wp2_with (first | (refine wpList_load_if (by kernel_rfl) 37 (.tmp 84) rfl g2 0 rfl (idCells (idOne 3)).toArray _ LI.out Try.underlying37 rfl (sizei (idOne 3)) ?_) | (refine wpList_build_if (by kernel_rfl) 37 #[(0, .const (.int .u8 3))] rfl (idCells (idOne 3)).toArray (by kernel_rfl) ?_))
          go_ret
          exact ⟨rfl, B4.out⟩
      · obtain ⟨r, hm0⟩ := first_yes (H := H) (b := b) F2.out (by rw [← HN.out]; omega) (show a + 1 ≤ v by omega)
        rw [← MV.out] at hm0
        have ho := OM.out
        rw [← HNM.out] at ho
        obtain ⟨g2, rfl, _, ly, _⟩ := own_elem mcells_len (by decide) ho (i := 0) (x := ⟨idOne 2, (best : Int)⟩) (by rw [hm0]; rfl)
        obtain ⟨hli, ct⟩ := mv_lies ly
        simp only [Nat.zero_mul, Nat.zero_add] at hli ct
        have LI := Lib.hid hli
        have hnm1 : 0 < nm := by rw [HNM.out, hm0]; simp
        have t1 : (0 : Int) < (nm : Int) := by omega
        have t2 : ¬ v < a + 1 := hva
        have hq := eqi_ids (idOne_len 2) (idOne_len 2)
        simp only [beq_self_eq_true] at hq
        clear hm0 ho ly hli
        go_wp2_with (first | (refine wpList_load_if (by kernel_rfl) 37 (.tmp 95) rfl g2 0 rfl (idCells (idOne 2)).toArray _ LI.out Try.underlying37 rfl (sizei (idOne 2)) ?_) | (refine wpList_build_if (by kernel_rfl) 37 #[(0, .const (.int .u8 2))] rfl (idCells (idOne 2)).toArray (by kernel_rfl) ?_))
        go_ret
        exact ⟨rfl, B4.out⟩
set_option maxRecDepth 100000 in
theorem RepairFirst_lifted (os : Os) (started : os.Started) (H : Type) (enc : TypeId × Value → H) :
    ReturnsInHanded {} Try.checked os 6 .any (Rows.repairFirstSpec.pre6 enc Try.prog Try.f6 Rows.repairFirstRow.domain false) (Rows.repairFirstSpec.post enc Try.prog Try.f6 false true false false) := by
  refine returnsInHanded_of_change (C := Try.checked) own started (by kernel_rfl) Try.func6
    (ChangeSpec.witness6 (enc := enc) (C := Try.checked) false ⟨#[], #[.int .u8 0, .int .u8 0, .slice none 0 0], []⟩ 8 (by kernel_rfl) (by kernel_rfl) (by kernel_rfl) (by kernel_rfl)) ?_
  intro W base args ds gs before hval0 hW hcnd _
  have hval : ∀ (j : Nat) t v, Try.f6.params[j]? = some t → args[j]? = some v → Value.okWide Try.prog W .any base t v := hval0
  have hW' := hW
  obtain ⟨p, q, hA0, hV, rfl, hfz, hnd⟩ := hW
  have hA : DataW.TrodAll enc Try.prog W 0 (fun _ => true) true Try.f6.params.toList args.toList ds p := hA0
  rw [Try.params6] at hA hval
  obtain ⟨v0, vs0, d0, ds0, p0, q0, hargs, rfl, rfl, h0, r0⟩ := trodAll_cons hA
  obtain ⟨v1, vs1, d1, ds1, p1, q1, rfl, rfl, rfl, h1, r1⟩ := trodAll_cons r0
  obtain ⟨v2, vs2, d2, ds2, p2, q2, rfl, rfl, rfl, h2, r2⟩ := trodAll_cons r1
  obtain ⟨rfl, rfl, rfl⟩ := trodAll_nil r2
  obtain rfl : args = #[v0, v1, v2] := by cases args; simp_all
  obtain ⟨a0, rfl, rfl, rfl, w0⟩ := open_int Try.underlying5 (hval 0 5 v0 rfl rfl) h0
  obtain ⟨a1, rfl, rfl, rfl, w1⟩ := open_int Try.underlying5 (hval 1 5 v1 rfl rfl) h1
  obtain ⟨a2, z2, c2, rfl, x2, y2, l2⟩ := ints_of Try.underlying56 Try.underlying57 (by kernel_rfl) (hval 2 56 v2 rfl rfl) h2
  refine (RepairFirst_walk a0 a1 a2 z2 c2 W w0 w1 x2 y2 l2).mono fun e W' ⟨he, hb⟩ => ?_
  subst he
  exact ⟨_, rfl, law_post laidOut (by kernel_rfl) rfl rfl Try.underlying4 rfl hW' hb⟩
theorem RepairFirst_holds : Rows.RepairFirstSaid :=
  OpenClaim.holds_of_wide 6 Try.f6 rfl rfl rfl rfl rfl rfl rfl ⟨rfl, rfl, rfl, rfl, rfl⟩ rfl rfl rfl rfl rfl (by kernel_rfl) Try.func6 (by kernel_rfl)
    (of_decide_eq_true (by kernel_rfl)) (by unfold Func.isWrapper; rw [if_neg (by decide +kernel)]; exact ⟨rfl, rfl⟩)
    (fun os started H enc _ => RepairFirst_lifted os started H enc)
end Go.Proofs.Ytpmkgnnpngbfmaa
