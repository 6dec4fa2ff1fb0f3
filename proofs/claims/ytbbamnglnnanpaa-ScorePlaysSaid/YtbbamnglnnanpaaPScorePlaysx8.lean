-- PRINTED BY print.sh 35421559b90ae4d0a3588c463048766b98c2df88dd9212a6774a882060cdf62d: not written by this session
import Derived.Test.YtbbamnglnnanpaaPScorePlaysx0
import Derived.Test.YtbbamnglnnanpaaPScorePlaysx1
namespace Go.Proofs.Ytbbamnglnnanpaa.PScorePlays
open Go.RowKit Go.Proofs.YtbbamnglnnanpaaW.PrintWords Go.Proofs.YtbbamnglnnanpaaW.PrintLast Go.Proofs.YtbbamnglnnanpaaW.PrintMore
attribute [local go_sem] max2_int min2_int max_two min_two max_three min_three max_four min_four   -- for this text's walks alone
set_option linter.unusedVariables false
set_option linter.unusedSimpArgs false

-- NOT PRINTED: function 47 (slices_partitionOrdered_int)

-- NOT PRINTED: function 33 (slices_pdqsortOrdered_int)

-- NOT PRINTED: function 26 (slices_Sort_int_int)

-- NOT PRINTED: function 13 (score_Book_Out)

-- NOT PRINTED: function 50 (slices_AppendSeq_int_int)

-- NOT PRINTED: function 35 (slices_Collect_int)

-- NOT PRINTED: function 57 (slices_insertionSortCmpFunc_int)

-- NOT PRINTED: function 66 (slices_siftDownCmpFunc_int)

-- NOT PRINTED: function 58 (slices_heapSortCmpFunc_int)

-- NOT PRINTED: function 59 (slices_breakPatternsCmpFunc_int)

-- NOT PRINTED: function 69 (slices_order2CmpFunc_int)

-- NOT PRINTED: function 68 (slices_medianCmpFunc_int)

-- NOT PRINTED: function 67 (slices_medianAdjacentCmpFunc_int)

-- NOT PRINTED: function 60 (slices_choosePivotCmpFunc_int)

-- NOT PRINTED: function 61 (slices_reverseRangeCmpFunc_int)

-- NOT PRINTED: function 62 (slices_partialInsertionSortCmpFunc_int)

-- NOT PRINTED: function 63 (slices_partitionEqualCmpFunc_int)

-- NOT PRINTED: function 64 (slices_partitionCmpFunc_int)

-- NOT PRINTED: function 51 (slices_pdqsortCmpFunc_int)

-- NOT PRINTED: function 36 (slices_SortFunc_int_int)

-- NOT PRINTED: function 27 (slices_SortedFunc_int)

-- NOT PRINTED: function 28 (slices_Values_int_int)

-- NOT PRINTED: function 20 (score_Book_Rank)

-- NOT PRINTED: function 7 (baileelaw25_awake)

/-! ### score_points_late: function 24 -/
def score_points_late.f (a0 : Int) : Option (Int) := (score_points_with.f a0 (-3)).bind fun t223 => (some t223)
set_option maxHeartbeats 8000000 in
set_option maxRecDepth 100000 in
theorem score_points_late.calls (a0 : Int) (r : Int) (w : World) (h : score_points_late.f a0 = some r) :
    Calls Try.prog 24 #[.int .i64 a0] w fun e w' => e = .returned (.int .i64 r) ∧ Below w.heap.size w w' := by
  have HB := Aside0.mk (Below.refl w.heap.size w)
  have H : ((score_points_with.f a0 (-3)).bind fun t223 => (some t223)) = some r := h
  clear h
  replace H := Option.bind_eq_some_iff.mp H
  obtain ⟨t223, A20, H⟩ := H
  replace H : (some t223) = some r := H
  have A2 := Aside0.mk A20
  clear A20
  obtain rfl := Option.some.inj H
  go_enter Try.func24, Try.ntmps24
  go_wp2_with (first | ((with_reducible refine gate_callee (f := 32) rfl ?_); refine goesL_ (some 4) rfl rfl Try.func32 (by kernel_rfl) rfl #[.int .i64 a0, .int .i64 (-3)] rfl (by (try simp only [List.map_toArray, List.map_cons, List.map_nil]); first | done | rfl | (simp only [List.length_drop, List.length_take]; rfl)) ?_; (with_reducible refine (score_points_with.calls a0 (-3) t223 _ A2.out).mono ?_); rintro e w3 ⟨rfl, hb⟩; refine ⟨_, rfl, ?_⟩; have n0_ := Aside0.mk (below_step (by repeat (first | (with_reducible first | exact HB.out | apply below_alloc | apply pw_below_drewN | apply below_drew1) | exact HB.out)) hb); clear HB; have HB := n0_; clear n0_; (try clear hb); (try clear hb2); (try clear hk); (try clear hi)))
  go_ret
  exact ⟨by first | rfl | (simp [errW_none, errW_some] <;> rfl) | (simp [*, errW_none, errW_some] <;> rfl), by repeat (first | (with_reducible first | exact HB.out | apply below_alloc | apply pw_below_drewN | apply below_drew1) | exact HB.out)⟩

-- NOT PRINTED: function 10 (score_Book_Late)

/-! ### baileeref25_Without: function 16 -/
def baileeref25_Without.l0 : Nat → List (S54) → Int → List (S54) → Int → Option ((List (S54)))
  | 0, _, _, _, _ => none
  | k + 1, x0, x1, x5, x6 => if x6 < (x0.length : Int) then (if 0 ≤ x6 then (if ((rd_T54 x0 x6).f0) = x1 then (baileeref25_Without.l0 k x0 x1 x5 (wrap64 (x6 + 1))) else (if x5.length < 8796093022208 then (baileeref25_Without.l0 k x0 x1 (x5 ++ [(⟨(rd_T54 x0 x6).f0, (rd_T54 x0 x6).f1⟩ : S54)]) (wrap64 (x6 + 1))) else (none))) else (none)) else (some x5)
def baileeref25_Without.f (k : Nat) (l0 : List (S54)) (a1 : Int) : Option ((List (S54))) := baileeref25_Without.l0 k l0 a1 ([] : List (S54)) 0
theorem baileeref25_Without.mono_l : ∀ k, (∀ y0 y1 y2 y3, LeO (baileeref25_Without.l0 k y0 y1 y2 y3) (baileeref25_Without.l0 (k + 1) y0 y1 y2 y3))
  | 0 => fun _ _ _ _ r h => by simp [baileeref25_Without.l0] at h
  | k + 1 => by
    have ih0 := baileeref25_Without.mono_l k
    · intro y0 y1 y2 y3
      unfold baileeref25_Without.l0
      repeat' first
      | (with_reducible exact ih0 _ _ _ _)
      | (with_reducible exact LeO.refl _)
      | (with_reducible exact LeO.none _)
      | (with_reducible refine LeO.ite ?_ ?_)
      | (with_reducible refine LeO.bind ?_ (fun _ => ?_))
      | exact ih0 _ _ _ _
      | exact LeO.none _
      | refine LeO.ite ?_ ?_
      | refine LeO.bind ?_ (fun _ => ?_)
theorem baileeref25_Without.mono : ∀ a0 a1 k, LeO (baileeref25_Without.f k a0 a1) (baileeref25_Without.f (k + 1) a0 a1) := by
  intro a0 a1 k
  have ih0 := baileeref25_Without.mono_l k
  unfold baileeref25_Without.f
  repeat' first
      | (with_reducible exact ih0 _ _ _ _)
      | (with_reducible exact LeO.refl _)
      | (with_reducible exact LeO.none _)
      | (with_reducible refine LeO.ite ?_ ?_)
      | (with_reducible refine LeO.bind ?_ (fun _ => ?_))
      | exact ih0 _ _ _ _
      | exact LeO.none _
      | refine LeO.ite ?_ ?_
      | refine LeO.bind ?_ (fun _ => ?_)
set_option maxHeartbeats 8000000 in
set_option maxRecDepth 100000 in
theorem baileeref25_Without.calls (k : Nat) (A0 : Option Addr) (c0 : Nat) (l0 : List (S54)) (a1 : Int) (r : List (S54)) (w : World) (hr0 : Kd.C k54 w A0 l0.length l0) (hc0 : l0.length ≤ c0) (h : baileeref25_Without.f k l0 a1 = some r) :
    Calls Try.prog 16 #[.slice A0 l0.length c0, .int .i64 a1] w fun e w' => ∃ v0_ : Value, e = .returned (v0_) ∧ Kd.R k54 54 w' w.heap.size (fun _ => True) v0_ r ∧ Below w.heap.size w w' := by
  have hu54 := Try.underlying54
  have HR0 := Aside0.mk hr0
  have HC0 := Aside0.mk hc0
  clear hr0 hc0
  have HB := Aside0.mk (Below.refl w.heap.size w)
  have H : (baileeref25_Without.l0 k l0 a1 ([] : List (S54)) 0) = some r := h
  clear h
  have H' := Aside0.mk H
  clear H
  go_enter Try.func16, Try.ntmps16
  go_wp2
  go_loopg [5, 6] k (fun kq v5 v6 w' => ∃ (x5_1 : List (S54)) (x6_1 : Int), v6 = .int .i64 x6_1 ∧ Aside0 (baileeref25_Without.l0 kq l0 a1 x5_1 x6_1 = some r) ∧ Aside0 (kq ≤ k) ∧ Aside0 (Kd.R k54 54 w' w.heap.size (fun _ => True) v5 x5_1) ∧ Aside0 (Below w.heap.size w w'))
  case atStart => exact ⟨(([] : List (S54))), (0), (by first | rfl | (simp; done) | (simp [*]; done)), H', ⟨Nat.le_refl _⟩, ⟨by first | exact Kd.R_nil _ _ _ _ _ | exact Kd.N_nil _ _ _ _ _ | exact Kd.V_nil _ _ _ _ _ | exact Kd.Q_nil _ _ _ _ _ | exact Kd.S_nil _ _ _ _ _⟩, ⟨by repeat (first | (with_reducible first | exact HB.out | apply below_alloc | apply pw_below_drewN | apply below_drew1) | exact HB.out)⟩⟩
  case round =>
    clear H'
    try clear c1
    try clear p2
    obtain ⟨x5_1, x6_1, rfl, HA, HK1, HO_5, HB⟩ := hrel
    cases gk with
    | zero => exact absurd HA.out (by simp [baileeref25_Without.l0])
    | succ k1 =>
      have H := HA.out
      clear HA
      simp only [baileeref25_Without.l0] at H
      by_cases c3 : x6_1 < (l0.length : Int)
      · rw [if_pos c3] at H
        have c3b0 : decide (x6_1 < (l0.length : Int)) = true := decide_eq_true c3
        clear c3
        by_cases c4 : 0 ≤ x6_1
        · rw [if_pos c4] at H
          have c4b0 : decide (0 ≤ x6_1) = true := decide_eq_true c4
          clear c4
          by_cases c5 : ((rd_T54 l0 x6_1).f0) = a1
          · rw [if_pos c5] at H
            have c5b0 : (((rd_T54 l0 x6_1).f0) == a1) = true := beq_iff_eq.mpr c5
            have c5b1 : (((rd_T54 l0 x6_1).f0) != a1) = false := bne_eq_false_iff_eq.mpr c5
            clear c5
            have H' := Aside0.mk H
            clear H
            have p224 : 0 ≤ (x6_1 : Int) := of_decide_eq_true (by first | (with_reducible assumption) | assumption)
            have q224 : x6_1 < (l0.length : Int) := of_decide_eq_true (by first | (with_reducible assumption) | assumption)
            obtain ⟨ad224, e224, hx224_0, hx224_1⟩ := at_T54 HR0.out x6_1 p224 q224
            cases e224
            replace hx224_0 := (HB.out.cell (World.block_lt_of_cell? w _ hx224_0)).trans hx224_0
            replace hx224_1 := (HB.out.cell (World.block_lt_of_cell? w _ hx224_1)).trans hx224_1
            replace p224 := eq_true p224
            replace q224 := eq_true q224
            go_wp2
            go_roundg k1
            case measure => have := HK1.out; omega
            case rel => exact ⟨(x5_1), (wrap64 (x6_1 + 1)), (by first | rfl | (simp; done) | (simp [*]; done)), H', ⟨by have := HK1.out; omega⟩, ⟨by (with_reducible repeat (first | apply Kd.R_alloc | apply Kd.R_drewN | apply Kd.R_drew)); exact HO_5.out⟩, ⟨by repeat (first | (with_reducible first | exact HB.out | apply below_alloc | apply pw_below_drewN | apply below_drew1) | exact HB.out)⟩⟩
          · rw [if_neg c5] at H
            have c5b0 : (((rd_T54 l0 x6_1).f0) == a1) = false := beq_eq_false_iff_ne.mpr c5
            have c5b1 : (((rd_T54 l0 x6_1).f0) != a1) = true := bne_iff_ne.mpr c5
            by_cases c6 : x5_1.length < 8796093022208
            · rw [if_pos c6] at H
              have LMc6 := Aside0.mk c6
              clear c6
              obtain ⟨y226, hy226⟩ : ∃ y_ : List (S54), y_ = (x5_1 ++ [(⟨(rd_T54 l0 x6_1).f0, (rd_T54 l0 x6_1).f1⟩ : S54)]) := ⟨_, rfl⟩
              replace H : (baileeref25_Without.l0 k1 l0 a1 y226 (wrap64 (x6_1 + 1))) = some r := by first | (rw [hy226]; with_reducible exact H) | (have H2_ := (Option.bind_some _ _).symm.trans H; rw [hy226]; with_reducible exact H2_) | (have H2_ := (Option.bind_some _ _).symm.trans H; with_reducible exact H2_) | with_reducible exact H | (rw [hy226]; exact H) | exact H
              have Ny226 := Aside0.mk hy226
              clear hy226
              have H' := Aside0.mk H
              clear H
              have p224 : 0 ≤ (x6_1 : Int) := of_decide_eq_true (by first | (with_reducible assumption) | assumption)
              have q224 : x6_1 < (l0.length : Int) := of_decide_eq_true (by first | (with_reducible assumption) | assumption)
              obtain ⟨ad224, e224, hx224_0, hx224_1⟩ := at_T54 HR0.out x6_1 p224 q224
              cases e224
              replace hx224_0 := (HB.out.cell (World.block_lt_of_cell? w _ hx224_0)).trans hx224_0
              replace hx224_1 := (HB.out.cell (World.block_lt_of_cell? w _ hx224_1)).trans hx224_1
              replace p224 := eq_true p224
              replace q224 := eq_true q224
              have p225 : 0 ≤ (x6_1 : Int) := of_decide_eq_true (by first | (with_reducible assumption) | assumption)
              have q225 : x6_1 < (l0.length : Int) := of_decide_eq_true (by first | (with_reducible assumption) | assumption)
              obtain ⟨ad225, e225, hx225_0, hx225_1⟩ := at_T54 HR0.out x6_1 p225 q225
              obtain rfl : ad224 = ad225 := (by injection e225)
              replace hx225_0 := (HB.out.cell (World.block_lt_of_cell? w _ hx225_0)).trans hx225_0
              replace hx225_1 := (HB.out.cell (World.block_lt_of_cell? w _ hx225_1)).trans hx225_1
              replace p225 := eq_true p225
              replace q225 := eq_true q225
              go_wp2_with (first | ((with_reducible refine gate_builtin (b := .append) (xs := #[.tmp 20, .tmp 25]) rfl ?_); at_builtin; refine Kd.R_append k54 (w0 := w) w.heap.size rfl (.tmp 20) (.tmp 25) 31 54 (.agg #[(.int .i64 0), (.int .i64 0)]) 16 rfl Try.underlying31 info54 rfl (by decide) (by omega) u5 x5_1 (⟨(rd_T54 l0 x6_1).f0, (rd_T54 l0 x6_1).f1⟩ : S54) [.int .i64 ((rd_T54 l0 x6_1).f0), .int .i64 ((rd_T54 l0 x6_1).f1)] (fun _ => True) (fun _ => False) rfl rfl ?aP (fun _ hk => hk.elim) ?aF ?aO ?aB ?aS ?aL ?_; (case aP => exact k54_mkM _ _ _ (⟨(rd_T54 l0 x6_1).f0, (rd_T54 l0 x6_1).f1⟩ : S54)); (case aB => exact (by repeat (first | (with_reducible first | exact HB.out | apply below_alloc | apply pw_below_drewN | apply below_drew1) | exact HB.out))); (case aF => exact (fun _ _ => trivial)); (case aO => exact (by (with_reducible repeat (first | apply Kd.R_alloc | apply Kd.R_drewN | apply Kd.R_drew)); exact HO_5.out)); (case aS => exact (below_size (by repeat (first | (with_reducible first | exact HB.out | apply below_alloc | apply pw_below_drewN | apply below_drew1) | exact HB.out)))); (case aL => have := LMc6.out; omega); intro v227 w7 ho hb hg hat; rw [← Ny226.out] at ho; have n0_ := Aside0.mk (hb); have n1_ := Aside0.mk (ho); clear HB; clear HO_5; have HB := n0_; have HO228 := n1_; clear n0_ n1_; clear ho hb hg hat))
              go_roundg k1
              case measure => have := HK1.out; omega
              case rel => exact ⟨(y226), (wrap64 (x6_1 + 1)), (by first | rfl | (simp; done) | (simp [*]; done)), H', ⟨by have := HK1.out; omega⟩, ⟨by (with_reducible repeat (first | apply Kd.R_alloc | apply Kd.R_drewN | apply Kd.R_drew)); exact HO228.out⟩, ⟨by repeat (first | (with_reducible first | exact HB.out | apply below_alloc | apply pw_below_drewN | apply below_drew1) | exact HB.out)⟩⟩
            · rw [if_neg c6] at H
              exact absurd H (by simp)
        · rw [if_neg c4] at H
          exact absurd H (by simp)
      · rw [if_neg c3] at H
        have c3b0 : decide (x6_1 < (l0.length : Int)) = false := decide_eq_false c3
        clear c3
        obtain rfl := Option.some.inj H
        go_wp2
        go_ret
        exact ⟨_, by first | rfl | (simp [errW_none, errW_some] <;> rfl) | (simp [*, errW_none, errW_some] <;> rfl), by (with_reducible repeat (first | apply Kd.R_alloc | apply Kd.R_drewN | apply Kd.R_drew)); exact HO_5.out, by repeat (first | (with_reducible first | exact HB.out | apply below_alloc | apply pw_below_drewN | apply below_drew1) | exact HB.out)⟩

/-! ### baileeref25_Points: function 17 -/
def baileeref25_Points.l0 : Nat → List (S54) → Int → Int → Option (Int)
  | 0, _, _, _ => none
  | k + 1, x0, x1, x5 => if x5 < (x0.length : Int) then (if 0 ≤ x5 then (if ((rd_T54 x0 x5).f0) = x1 then (some ((rd_T54 x0 x5).f1)) else (baileeref25_Points.l0 k x0 x1 (wrap64 (x5 + 1)))) else (none)) else (some 0)
def baileeref25_Points.f (k : Nat) (l0 : List (S54)) (a1 : Int) : Option (Int) := baileeref25_Points.l0 k l0 a1 0
theorem baileeref25_Points.mono_l : ∀ k, (∀ y0 y1 y2, LeO (baileeref25_Points.l0 k y0 y1 y2) (baileeref25_Points.l0 (k + 1) y0 y1 y2))
  | 0 => fun _ _ _ r h => by simp [baileeref25_Points.l0] at h
  | k + 1 => by
    have ih0 := baileeref25_Points.mono_l k
    · intro y0 y1 y2
      unfold baileeref25_Points.l0
      repeat' first
      | (with_reducible exact ih0 _ _ _)
      | (with_reducible exact LeO.refl _)
      | (with_reducible exact LeO.none _)
      | (with_reducible refine LeO.ite ?_ ?_)
      | (with_reducible refine LeO.bind ?_ (fun _ => ?_))
      | exact ih0 _ _ _
      | exact LeO.none _
      | refine LeO.ite ?_ ?_
      | refine LeO.bind ?_ (fun _ => ?_)
theorem baileeref25_Points.mono : ∀ a0 a1 k, LeO (baileeref25_Points.f k a0 a1) (baileeref25_Points.f (k + 1) a0 a1) := by
  intro a0 a1 k
  have ih0 := baileeref25_Points.mono_l k
  unfold baileeref25_Points.f
  repeat' first
      | (with_reducible exact ih0 _ _ _)
      | (with_reducible exact LeO.refl _)
      | (with_reducible exact LeO.none _)
      | (with_reducible refine LeO.ite ?_ ?_)
      | (with_reducible refine LeO.bind ?_ (fun _ => ?_))
      | exact ih0 _ _ _
      | exact LeO.none _
      | refine LeO.ite ?_ ?_
      | refine LeO.bind ?_ (fun _ => ?_)
set_option maxHeartbeats 8000000 in
set_option maxRecDepth 100000 in
theorem baileeref25_Points.calls (k : Nat) (A0 : Option Addr) (c0 : Nat) (l0 : List (S54)) (a1 : Int) (r : Int) (w : World) (hr0 : Kd.C k54 w A0 l0.length l0) (hc0 : l0.length ≤ c0) (h : baileeref25_Points.f k l0 a1 = some r) :
    Calls Try.prog 17 #[.slice A0 l0.length c0, .int .i64 a1] w fun e w' => e = .returned (.int .i64 r) ∧ Drawn0 w w' := by
  have HR0 := Aside0.mk hr0
  have HC0 := Aside0.mk hc0
  clear hr0 hc0
  have H : (baileeref25_Points.l0 k l0 a1 0) = some r := h
  clear h
  have H' := Aside0.mk H
  clear H
  go_enter Try.func17, Try.ntmps17
  go_wp2
  go_loopg [5] k (fun kq v5 w' => ∃ (x5_1 : Int), v5 = .int .i64 x5_1 ∧ Aside0 (baileeref25_Points.l0 kq l0 a1 x5_1 = some r) ∧ Aside0 (kq ≤ k) ∧ Drawn0 w w')
  case atStart => exact ⟨(0), (by first | rfl | (simp; done) | (simp [*]; done)), H', ⟨Nat.le_refl _⟩, by repeat (first | exact Drawn0.refl _ | apply Drawn0.step)⟩
  case round =>
    clear H'
    try clear c1
    try clear p2
    obtain ⟨x5_1, rfl, HA, HK1, ⟨m1, rfl⟩⟩ := hrel
    cases gk with
    | zero => exact absurd HA.out (by simp [baileeref25_Points.l0])
    | succ k1 =>
      have H := HA.out
      clear HA
      simp only [baileeref25_Points.l0] at H
      by_cases c3 : x5_1 < (l0.length : Int)
      · rw [if_pos c3] at H
        have c3b0 : decide (x5_1 < (l0.length : Int)) = true := decide_eq_true c3
        clear c3
        by_cases c4 : 0 ≤ x5_1
        · rw [if_pos c4] at H
          have c4b0 : decide (0 ≤ x5_1) = true := decide_eq_true c4
          clear c4
          by_cases c5 : ((rd_T54 l0 x5_1).f0) = a1
          · rw [if_pos c5] at H
            have c5b0 : (((rd_T54 l0 x5_1).f0) == a1) = true := beq_iff_eq.mpr c5
            have c5b1 : (((rd_T54 l0 x5_1).f0) != a1) = false := bne_eq_false_iff_eq.mpr c5
            clear c5
            obtain rfl := Option.some.inj H
            have p229 : 0 ≤ (x5_1 : Int) := of_decide_eq_true (by first | (with_reducible assumption) | assumption)
            have q229 : x5_1 < (l0.length : Int) := of_decide_eq_true (by first | (with_reducible assumption) | assumption)
            obtain ⟨ad229, e229, hx229_0, hx229_1⟩ := at_T54 HR0.out x5_1 p229 q229
            cases e229
            replace p229 := eq_true p229
            replace q229 := eq_true q229
            have p230 : 0 ≤ (x5_1 : Int) := of_decide_eq_true (by first | (with_reducible assumption) | assumption)
            have q230 : x5_1 < (l0.length : Int) := of_decide_eq_true (by first | (with_reducible assumption) | assumption)
            obtain ⟨ad230, e230, hx230_0, hx230_1⟩ := at_T54 HR0.out x5_1 p230 q230
            obtain rfl : ad229 = ad230 := (by injection e230)
            replace p230 := eq_true p230
            replace q230 := eq_true q230
            go_wp2
            go_ret
            exact ⟨by first | rfl | (simp; done) | (simp [*]; done), by repeat (first | exact Drawn0.refl _ | apply Drawn0.step)⟩
          · rw [if_neg c5] at H
            have c5b0 : (((rd_T54 l0 x5_1).f0) == a1) = false := beq_eq_false_iff_ne.mpr c5
            have c5b1 : (((rd_T54 l0 x5_1).f0) != a1) = true := bne_iff_ne.mpr c5
            have H' := Aside0.mk H
            clear H
            have p229 : 0 ≤ (x5_1 : Int) := of_decide_eq_true (by first | (with_reducible assumption) | assumption)
            have q229 : x5_1 < (l0.length : Int) := of_decide_eq_true (by first | (with_reducible assumption) | assumption)
            obtain ⟨ad229, e229, hx229_0, hx229_1⟩ := at_T54 HR0.out x5_1 p229 q229
            cases e229
            replace p229 := eq_true p229
            replace q229 := eq_true q229
            go_wp2
            go_roundg k1
            case measure => have := HK1.out; omega
            case rel => exact ⟨(wrap64 (x5_1 + 1)), (by first | rfl | (simp; done) | (simp [*]; done)), H', ⟨by have := HK1.out; omega⟩, by repeat (first | exact Drawn0.refl _ | apply Drawn0.step)⟩
        · rw [if_neg c4] at H
          exact absurd H (by simp)
      · rw [if_neg c3] at H
        have c3b0 : decide (x5_1 < (l0.length : Int)) = false := decide_eq_false c3
        clear c3
        obtain rfl := Option.some.inj H
        go_wp2
        go_ret
        exact ⟨by first | rfl | (simp; done) | (simp [*]; done), by repeat (first | exact Drawn0.refl _ | apply Drawn0.step)⟩

/-! ### baileeref25_More: function 14 -/
mutual
def baileeref25_More.j0 : Nat → List (S54) → Int → Int → Option ((List (S54)))
  | 0, _, _, _ => none
  | k + 1, x0, x1, x7 => if x7 > 20 then (baileeref25_More.j1 k x0 x1 20) else (baileeref25_More.j1 k x0 x1 x7)
def baileeref25_More.j1 : Nat → List (S54) → Int → Int → Option ((List (S54)))
  | 0, _, _, _ => none
  | k + 1, x0, x1, x7 => if x7 < (-20) then (baileeref25_More.j2 k x0 x1 (-20)) else (baileeref25_More.j2 k x0 x1 x7)
def baileeref25_More.j2 : Nat → List (S54) → Int → Int → Option ((List (S54)))
  | 0, _, _, _ => none
  | k + 1, x0, x1, x7 => (baileeref25_Without.f k x0 x1).bind fun t232 => (baileeref25_More.l0 k t232 x1 x7 0)
def baileeref25_More.l0 : Nat → List (S54) → Int → Int → Int → Option ((List (S54)))
  | 0, _, _, _, _ => none
  | k + 1, x0, x1, x7, x8 => if x8 < (x0.length : Int) then (if 0 ≤ x8 then (if ((rd_T54 x0 x8).f0) < x1 then (baileeref25_More.l0 k x0 x1 x7 (wrap64 (x8 + 1))) else (if x8 ≤ (x0.length : Int) then ((some (x0.take (x8 : Int).toNat : List (S54))).bind fun y236 => (if ([] : List (S54)).length + y236.length < 8796093022208 then ((some (([] : List (S54)) ++ y236 : List (S54))).bind fun y240 => (if y240.length < 8796093022208 then ((some (y240 ++ [(⟨x1, x7⟩ : S54)] : List (S54))).bind fun y243 => ((some (x0.drop (x8 : Int).toNat : List (S54))).bind fun y246 => (if y243.length + y246.length < 8796093022208 then (some (y243 ++ y246)) else (none)))) else (none))) else (none))) else (none))) else (none)) else (if 0 ≤ x8 then (if x8 ≤ (x0.length : Int) then ((some (x0.take (x8 : Int).toNat : List (S54))).bind fun y253 => (if ([] : List (S54)).length + y253.length < 8796093022208 then ((some (([] : List (S54)) ++ y253 : List (S54))).bind fun y257 => (if y257.length < 8796093022208 then ((some (y257 ++ [(⟨x1, x7⟩ : S54)] : List (S54))).bind fun y260 => ((some (x0.drop (x8 : Int).toNat : List (S54))).bind fun y263 => (if y260.length + y263.length < 8796093022208 then (some (y260 ++ y263)) else (none)))) else (none))) else (none))) else (none)) else (none))
end
def baileeref25_More.f (k : Nat) (l0 : List (S54)) (a1 : Int) (a2 : Int) : Option ((List (S54))) := (baileeref25_Points.f k l0 a1).bind fun t231 => (if t231 > (-20) then (baileeref25_More.j0 k l0 a1 (wrap64 (t231 + a2))) else (baileeref25_More.j0 k l0 a1 t231))
theorem baileeref25_More.mono_l : ∀ k, (∀ y0 y1 y2, LeO (baileeref25_More.j0 k y0 y1 y2) (baileeref25_More.j0 (k + 1) y0 y1 y2)) ∧ (∀ y0 y1 y2, LeO (baileeref25_More.j1 k y0 y1 y2) (baileeref25_More.j1 (k + 1) y0 y1 y2)) ∧ (∀ y0 y1 y2, LeO (baileeref25_More.j2 k y0 y1 y2) (baileeref25_More.j2 (k + 1) y0 y1 y2)) ∧ (∀ y0 y1 y2 y3, LeO (baileeref25_More.l0 k y0 y1 y2 y3) (baileeref25_More.l0 (k + 1) y0 y1 y2 y3))
  | 0 => ⟨fun _ _ _ r h => by simp [baileeref25_More.j0] at h, fun _ _ _ r h => by simp [baileeref25_More.j1] at h, fun _ _ _ r h => by simp [baileeref25_More.j2] at h, fun _ _ _ _ r h => by simp [baileeref25_More.l0] at h⟩
  | k + 1 => by
    obtain ⟨ih0, ih1, ih2, ih3⟩ := baileeref25_More.mono_l k
    refine ⟨?_, ?_, ?_, ?_⟩
    · intro y0 y1 y2
      unfold baileeref25_More.j0
      repeat' first
      | (with_reducible exact ih0 _ _ _)
      | (with_reducible exact ih1 _ _ _)
      | (with_reducible exact ih2 _ _ _)
      | (with_reducible exact ih3 _ _ _ _)
      | (with_reducible exact baileeref25_Points.mono _ _ _)
      | (with_reducible exact baileeref25_Without.mono _ _ _)
      | (with_reducible exact LeO.refl _)
      | (with_reducible exact LeO.none _)
      | (with_reducible refine LeO.ite ?_ ?_)
      | (with_reducible refine LeO.bind ?_ (fun _ => ?_))
      | exact ih0 _ _ _
      | exact ih1 _ _ _
      | exact ih2 _ _ _
      | exact ih3 _ _ _ _
      | exact baileeref25_Points.mono _ _ _
      | exact baileeref25_Without.mono _ _ _
      | exact LeO.none _
      | refine LeO.ite ?_ ?_
      | refine LeO.bind ?_ (fun _ => ?_)
    · intro y0 y1 y2
      unfold baileeref25_More.j1
      repeat' first
      | (with_reducible exact ih0 _ _ _)
      | (with_reducible exact ih1 _ _ _)
      | (with_reducible exact ih2 _ _ _)
      | (with_reducible exact ih3 _ _ _ _)
      | (with_reducible exact baileeref25_Points.mono _ _ _)
      | (with_reducible exact baileeref25_Without.mono _ _ _)
      | (with_reducible exact LeO.refl _)
      | (with_reducible exact LeO.none _)
      | (with_reducible refine LeO.ite ?_ ?_)
      | (with_reducible refine LeO.bind ?_ (fun _ => ?_))
      | exact ih0 _ _ _
      | exact ih1 _ _ _
      | exact ih2 _ _ _
      | exact ih3 _ _ _ _
      | exact baileeref25_Points.mono _ _ _
      | exact baileeref25_Without.mono _ _ _
      | exact LeO.none _
      | refine LeO.ite ?_ ?_
      | refine LeO.bind ?_ (fun _ => ?_)
    · intro y0 y1 y2
      unfold baileeref25_More.j2
      repeat' first
      | (with_reducible exact ih0 _ _ _)
      | (with_reducible exact ih1 _ _ _)
      | (with_reducible exact ih2 _ _ _)
      | (with_reducible exact ih3 _ _ _ _)
      | (with_reducible exact baileeref25_Points.mono _ _ _)
      | (with_reducible exact baileeref25_Without.mono _ _ _)
      | (with_reducible exact LeO.refl _)
      | (with_reducible exact LeO.none _)
      | (with_reducible refine LeO.ite ?_ ?_)
      | (with_reducible refine LeO.bind ?_ (fun _ => ?_))
      | exact ih0 _ _ _
      | exact ih1 _ _ _
      | exact ih2 _ _ _
      | exact ih3 _ _ _ _
      | exact baileeref25_Points.mono _ _ _
      | exact baileeref25_Without.mono _ _ _
      | exact LeO.none _
      | refine LeO.ite ?_ ?_
      | refine LeO.bind ?_ (fun _ => ?_)
    · intro y0 y1 y2 y3
      unfold baileeref25_More.l0
      repeat' first
      | (with_reducible exact ih0 _ _ _)
      | (with_reducible exact ih1 _ _ _)
      | (with_reducible exact ih2 _ _ _)
      | (with_reducible exact ih3 _ _ _ _)
      | (with_reducible exact baileeref25_Points.mono _ _ _)
      | (with_reducible exact baileeref25_Without.mono _ _ _)
      | (with_reducible exact LeO.refl _)
      | (with_reducible exact LeO.none _)
      | (with_reducible refine LeO.ite ?_ ?_)
      | (with_reducible refine LeO.bind ?_ (fun _ => ?_))
      | exact ih0 _ _ _
      | exact ih1 _ _ _
      | exact ih2 _ _ _
      | exact ih3 _ _ _ _
      | exact baileeref25_Points.mono _ _ _
      | exact baileeref25_Without.mono _ _ _
      | exact LeO.none _
      | refine LeO.ite ?_ ?_
      | refine LeO.bind ?_ (fun _ => ?_)
theorem baileeref25_More.mono : ∀ a0 a1 a2 k, LeO (baileeref25_More.f k a0 a1 a2) (baileeref25_More.f (k + 1) a0 a1 a2) := by
  intro a0 a1 a2 k
  obtain ⟨ih0, ih1, ih2, ih3⟩ := baileeref25_More.mono_l k
  unfold baileeref25_More.f
  repeat' first
      | (with_reducible exact ih0 _ _ _)
      | (with_reducible exact ih1 _ _ _)
      | (with_reducible exact ih2 _ _ _)
      | (with_reducible exact ih3 _ _ _ _)
      | (with_reducible exact baileeref25_Points.mono _ _ _)
      | (with_reducible exact baileeref25_Without.mono _ _ _)
      | (with_reducible exact LeO.refl _)
      | (with_reducible exact LeO.none _)
      | (with_reducible refine LeO.ite ?_ ?_)
      | (with_reducible refine LeO.bind ?_ (fun _ => ?_))
      | exact ih0 _ _ _
      | exact ih1 _ _ _
      | exact ih2 _ _ _
      | exact ih3 _ _ _ _
      | exact baileeref25_Points.mono _ _ _
      | exact baileeref25_Without.mono _ _ _
      | exact LeO.none _
      | refine LeO.ite ?_ ?_
      | refine LeO.bind ?_ (fun _ => ?_)
set_option maxHeartbeats 8000000 in
set_option maxRecDepth 100000 in
theorem baileeref25_More.calls (k : Nat) (A0 : Option Addr) (c0 : Nat) (l0 : List (S54)) (a1 : Int) (a2 : Int) (r : List (S54)) (w : World) (hr0 : Kd.C k54 w A0 l0.length l0) (hc0 : l0.length ≤ c0) (h : baileeref25_More.f k l0 a1 a2 = some r) :
    Calls Try.prog 14 #[.slice A0 l0.length c0, .int .i64 a1, .int .i64 a2] w fun e w' => ∃ v0_ : Value, e = .returned (v0_) ∧ Kd.R k54 54 w' w.heap.size (fun _ => True) v0_ r ∧ Below w.heap.size w w' := by
  have hu54 := Try.underlying54
  have HR0 := Aside0.mk hr0
  have HC0 := Aside0.mk hc0
  clear hr0 hc0
  have HB := Aside0.mk (Below.refl w.heap.size w)
  have H : ((baileeref25_Points.f k l0 a1).bind fun t231 => (if t231 > (-20) then (baileeref25_More.j0 k l0 a1 (wrap64 (t231 + a2))) else (baileeref25_More.j0 k l0 a1 t231))) = some r := h
  clear h
  replace H := Option.bind_eq_some_iff.mp H
  obtain ⟨t231, A40, H⟩ := H
  replace H : (if t231 > (-20) then (baileeref25_More.j0 k l0 a1 (wrap64 (t231 + a2))) else (baileeref25_More.j0 k l0 a1 t231)) = some r := H
  have A4 := Aside0.mk A40
  clear A40
  have HC5 := Aside0.mk H
  clear H
  go_enter Try.func14, Try.ntmps14
  go_upto_if 14 with (first | ((with_reducible refine gate_callee (f := 17) rfl ?_); refine goesL_ (some 12) rfl rfl Try.func17 (by kernel_rfl) rfl #[.slice A0 l0.length c0, .int .i64 a1] rfl (by (try simp only [List.map_toArray, List.map_cons, List.map_nil]); first | done | rfl | (simp only [List.length_drop, List.length_take]; rfl)) ?_; (with_reducible refine (baileeref25_Points.calls k _ _ l0 a1 t231 _ ?side1 ?side2 A4.out).mono ?_); (case side1 => repeat (first | exact HR0.out | (with_reducible refine Kd.C_alloc ?_ _) | (with_reducible refine Kd.C_drewN ?_ _) | (with_reducible refine Kd.C_drew ?_))); (case side2 => exact HC0.out); rintro e w' ⟨rfl, ⟨nd, rfl⟩⟩; refine ⟨_, rfl, ?_⟩))
  (try simp only [Act.put, List.setIfInBounds_toArray, List.set_cons_zero, List.set_cons_succ])
  go_cut [7] (fun v7 wc => ∃ (kq : Nat) (x7_4 : Int), v7 = .int .i64 x7_4 ∧ Aside0 (baileeref25_More.j0 kq l0 a1 x7_4 = some r) ∧ Aside0 (kq ≤ k) ∧ Aside0 (Below w.heap.size w wc))
  case first =>
    have H := HC5.out
    clear HC5
    by_cases c6 : t231 > (-20)
    · rw [if_pos c6] at H
      have c6b0 : decide ((-20) < t231) = true := decide_eq_true c6
      clear c6
      (first | rw [c6b0] | (simp only [i64_w, i32_w]; rw [c6b0]) | skip)
      have H' := Aside0.mk H
      clear H
      go_wp2
      go_meet
      case rel => exact ⟨_, (wrap64 (t231 + a2)), (by first | rfl | (simp; done) | (simp [*]; done)), H', ⟨by first | omega | exact Nat.le_refl _⟩, ⟨by repeat (first | (with_reducible first | exact HB.out | apply below_alloc | apply pw_below_drewN | apply below_drew1) | exact HB.out)⟩⟩
    · rw [if_neg c6] at H
      have c6b0 : decide ((-20) < t231) = false := decide_eq_false c6
      clear c6
      (first | rw [c6b0] | (simp only [i64_w, i32_w]; rw [c6b0]) | skip)
      have H' := Aside0.mk H
      clear H
      go_wp2
      go_meet
      case rel => exact ⟨_, (t231), (by first | rfl | (simp; done) | (simp [*]; done)), H', ⟨by first | omega | exact Nat.le_refl _⟩, ⟨by repeat (first | (with_reducible first | exact HB.out | apply below_alloc | apply pw_below_drewN | apply below_drew1) | exact HB.out)⟩⟩
  case rest =>
    clear HC5
    try clear c1
    try clear p2
    try clear c6
    try clear c6b0
    try clear p6
    obtain ⟨kq, x7_4, rfl, HA, HJ4, HB⟩ := hcut
    cases kq with
    | zero => exact absurd HA.out (by simp [baileeref25_More.j0])
    | succ kj4 =>
      have H := HA.out
      clear HA
      simp only [baileeref25_More.j0] at H
      have HC7 := Aside0.mk H
      clear H
      go_upto_if 19 with (fail)
      go_cut [7] (fun v7 wc => ∃ (kq : Nat) (x7_6 : Int), v7 = .int .i64 x7_6 ∧ Aside0 (baileeref25_More.j1 kq l0 a1 x7_6 = some r) ∧ Aside0 (kq ≤ kj4) ∧ Aside0 (Below w.heap.size w wc))
      case first =>
        have H := HC7.out
        clear HC7
        by_cases c8 : x7_4 > 20
        · rw [if_pos c8] at H
          have c8b0 : decide (20 < x7_4) = true := decide_eq_true c8
          clear c8
          (first | rw [c8b0] | (simp only [i64_w, i32_w]; rw [c8b0]) | skip)
          have H' := Aside0.mk H
          clear H
          go_wp2
          go_meet
          case rel => exact ⟨_, (20), (by first | rfl | (simp; done) | (simp [*]; done)), H', ⟨by have := HJ4.out; first | omega | exact Nat.le_refl _⟩, ⟨by repeat (first | (with_reducible first | exact HB.out | apply below_alloc | apply pw_below_drewN | apply below_drew1) | exact HB.out)⟩⟩
        · rw [if_neg c8] at H
          have c8b0 : decide (20 < x7_4) = false := decide_eq_false c8
          clear c8
          (first | rw [c8b0] | (simp only [i64_w, i32_w]; rw [c8b0]) | skip)
          have H' := Aside0.mk H
          clear H
          go_wp2
          go_meet
          case rel => exact ⟨_, (x7_4), (by first | rfl | (simp; done) | (simp [*]; done)), H', ⟨by have := HJ4.out; first | omega | exact Nat.le_refl _⟩, ⟨by repeat (first | (with_reducible first | exact HB.out | apply below_alloc | apply pw_below_drewN | apply below_drew1) | exact HB.out)⟩⟩
      case rest =>
        clear HC7
        try clear c1
        try clear p2
        try clear c6
        try clear c6b0
        try clear p6
        try clear c8
        try clear c8b0
        try clear p2
        try clear p6
        obtain ⟨kq, x7_6, rfl, HA, HJ6, HB⟩ := hcut
        cases kq with
        | zero => exact absurd HA.out (by simp [baileeref25_More.j1])
        | succ kj6 =>
          have H := HA.out
          clear HA
          simp only [baileeref25_More.j1] at H
          have HC9 := Aside0.mk H
          clear H
          go_upto_if 21 with (fail)
          go_cut [7] (fun v7 wc => ∃ (kq : Nat) (x7_8 : Int), v7 = .int .i64 x7_8 ∧ Aside0 (baileeref25_More.j2 kq l0 a1 x7_8 = some r) ∧ Aside0 (kq ≤ kj6) ∧ Aside0 (Below w.heap.size w wc))
          case first =>
            have H := HC9.out
            clear HC9
            by_cases c10 : x7_6 < (-20)
            · rw [if_pos c10] at H
              have c10b0 : decide (x7_6 < (-20)) = true := decide_eq_true c10
              clear c10
              (first | rw [c10b0] | (simp only [i64_w, i32_w]; rw [c10b0]) | skip)
              have H' := Aside0.mk H
              clear H
              go_wp2
              go_meet
              case rel => exact ⟨_, ((-20)), (by first | rfl | (simp; done) | (simp [*]; done)), H', ⟨by have := HJ4.out; have := HJ6.out; first | omega | exact Nat.le_refl _⟩, ⟨by repeat (first | (with_reducible first | exact HB.out | apply below_alloc | apply pw_below_drewN | apply below_drew1) | exact HB.out)⟩⟩
            · rw [if_neg c10] at H
              have c10b0 : decide (x7_6 < (-20)) = false := decide_eq_false c10
              clear c10
              (first | rw [c10b0] | (simp only [i64_w, i32_w]; rw [c10b0]) | skip)
              have H' := Aside0.mk H
              clear H
              go_wp2
              go_meet
              case rel => exact ⟨_, (x7_6), (by first | rfl | (simp; done) | (simp [*]; done)), H', ⟨by have := HJ4.out; have := HJ6.out; first | omega | exact Nat.le_refl _⟩, ⟨by repeat (first | (with_reducible first | exact HB.out | apply below_alloc | apply pw_below_drewN | apply below_drew1) | exact HB.out)⟩⟩
          case rest =>
            clear HC9
            try clear c1
            try clear p2
            try clear c6
            try clear c6b0
            try clear p6
            try clear c8
            try clear c8b0
            try clear c10
            try clear c10b0
            try clear p2
            try clear p6
            obtain ⟨kq, x7_8, rfl, HA, HJ8, HB⟩ := hcut
            cases kq with
            | zero => exact absurd HA.out (by simp [baileeref25_More.j2])
            | succ kj8 =>
              have H := HA.out
              clear HA
              simp only [baileeref25_More.j2] at H
              replace H := Option.bind_eq_some_iff.mp H
              obtain ⟨t232, A110, H⟩ := H
              replace H : (baileeref25_More.l0 kj8 t232 a1 x7_8 0) = some r := H
              have A11 := Aside0.mk A110
              clear A110
              have H' := Aside0.mk H
              clear H
              go_wp2_with (first | ((with_reducible refine gate_callee (f := 16) rfl ?_); refine goesL_ (some 24) rfl rfl Try.func16 (by kernel_rfl) rfl #[.slice A0 l0.length c0, .int .i64 a1] rfl (by (try simp only [List.map_toArray, List.map_cons, List.map_nil]); first | done | rfl | (simp only [List.length_drop, List.length_take]; rfl)) ?_; (with_reducible refine (baileeref25_Without.calls kj8 _ _ l0 a1 t232 _ ?side1 ?side2 A11.out).mono ?_); (case side1 => repeat (first | exact (Kd.C_below HR0.out HB.out) | (with_reducible refine Kd.C_alloc ?_ _) | (with_reducible refine Kd.C_drewN ?_ _) | (with_reducible refine Kd.C_drew ?_))); (case side2 => exact HC0.out); rintro e w12 ⟨v233, rfl, ho0, hb⟩; refine ⟨_, rfl, ?_⟩; have n0_ := Aside0.mk (Kd.R_lower ho0 (below_size (by repeat (first | (with_reducible first | exact HB.out | apply below_alloc | apply pw_below_drewN | apply below_drew1) | exact HB.out)))); have n1_ := Aside0.mk (below_step (by repeat (first | (with_reducible first | exact HB.out | apply below_alloc | apply pw_below_drewN | apply below_drew1) | exact HB.out)) hb); clear HB; have HO234 := n0_; have HB := n1_; clear n0_ n1_; (try clear hb); (try clear hb2); (try clear hk); (try clear hi); (try clear ho0)))
              go_loopg [8] kj8 (fun kq v8 w' => ∃ (x8_4 : Int), v8 = .int .i64 x8_4 ∧ Aside0 (baileeref25_More.l0 kq t232 a1 x7_8 x8_4 = some r) ∧ Aside0 (kq ≤ kj8) ∧ Aside0 (Kd.R k54 54 w' w.heap.size (fun _ => True) v233 t232) ∧ Aside0 (Below w.heap.size w w'))
              case atStart => exact ⟨(0), (by first | rfl | (simp; done) | (simp [*]; done)), H', ⟨Nat.le_refl _⟩, ⟨by (with_reducible repeat (first | apply Kd.R_alloc | apply Kd.R_drewN | apply Kd.R_drew)); exact HO234.out⟩, ⟨by repeat (first | (with_reducible first | exact HB.out | apply below_alloc | apply pw_below_drewN | apply below_drew1) | exact HB.out)⟩⟩
              case round =>
                clear H'
                try clear c1
                try clear p2
                try clear c6
                try clear c6b0
                try clear p6
                try clear c8
                try clear c8b0
                try clear c10
                try clear c10b0
                try clear p2
                try clear p6
                obtain ⟨x8_4, rfl, HA, HK4, HO_0, HB⟩ := hrel
                cases gk with
                | zero => exact absurd HA.out (by simp [baileeref25_More.l0])
                | succ k4 =>
                  have H := HA.out
                  clear HA
                  simp only [baileeref25_More.l0] at H
                  by_cases c13 : x8_4 < (t232.length : Int)
                  · rw [if_pos c13] at H
                    have c13b0 : decide (x8_4 < (t232.length : Int)) = true := decide_eq_true c13
                    clear c13
                    by_cases c14 : 0 ≤ x8_4
                    · rw [if_pos c14] at H
                      have c14b0 : decide (0 ≤ x8_4) = true := decide_eq_true c14
                      clear c14
                      by_cases c15 : ((rd_T54 t232 x8_4).f0) < a1
                      · rw [if_pos c15] at H
                        have c15b0 : decide (((rd_T54 t232 x8_4).f0) < a1) = true := decide_eq_true c15
                        clear c15
                        have H' := Aside0.mk H
                        clear H
                        obtain ⟨Ao16, co16, eo16⟩ := Kd.R_slice HO_0.out
                        subst eo16
                        have p235 : 0 ≤ (x8_4 : Int) := of_decide_eq_true (by first | (with_reducible assumption) | assumption)
                        have q235 : x8_4 < (t232.length : Int) := of_decide_eq_true (by first | (with_reducible assumption) | assumption)
                        obtain ⟨ad235, e235, hx235_0, hx235_1⟩ := at_T54 (Kd.R_reads' HO_0.out).2.2 x8_4 p235 q235
                        cases e235
                        replace p235 := eq_true p235
                        replace q235 := eq_true q235
                        go_wp2
                        go_roundg k4
                        case measure => have := HJ4.out; have := HJ6.out; have := HJ8.out; have := HK4.out; omega
                        case rel => exact ⟨(wrap64 (x8_4 + 1)), (by first | rfl | (simp; done) | (simp [*]; done)), H', ⟨by have := HJ4.out; have := HJ6.out; have := HJ8.out; have := HK4.out; omega⟩, ⟨by (with_reducible repeat (first | apply Kd.R_alloc | apply Kd.R_drewN | apply Kd.R_drew)); exact HO_0.out⟩, ⟨by repeat (first | (with_reducible first | exact HB.out | apply below_alloc | apply pw_below_drewN | apply below_drew1) | exact HB.out)⟩⟩
                      · rw [if_neg c15] at H
                        have c15b0 : decide (((rd_T54 t232 x8_4).f0) < a1) = false := decide_eq_false c15
                        clear c15
                        have c17b0 := eq_true (of_decide_eq_true (by first | (with_reducible assumption) | assumption) : 0 ≤ x8_4)
                        by_cases c18 : x8_4 ≤ (t232.length : Int)
                        · rw [if_pos c18] at H
                          have c18b0 := eq_true c18
                          have c18b1 : decide (x8_4 ≤ (t232.length : Int)) = true := decide_eq_true c18
                          clear c18
                          obtain ⟨y236, hy236⟩ : ∃ y_ : List (S54), y_ = (t232.take (x8_4 : Int).toNat) := ⟨_, rfl⟩
                          replace H : (if ([] : List (S54)).length + y236.length < 8796093022208 then ((some (([] : List (S54)) ++ y236 : List (S54))).bind fun y240 => (if y240.length < 8796093022208 then ((some (y240 ++ [(⟨a1, x7_8⟩ : S54)] : List (S54))).bind fun y243 => ((some (t232.drop (x8_4 : Int).toNat : List (S54))).bind fun y246 => (if y243.length + y246.length < 8796093022208 then (some (y243 ++ y246)) else (none)))) else (none))) else (none)) = some r := by first | (rw [hy236]; with_reducible exact H) | (have H2_ := (Option.bind_some _ _).symm.trans H; rw [hy236]; with_reducible exact H2_) | (have H2_ := (Option.bind_some _ _).symm.trans H; with_reducible exact H2_) | with_reducible exact H | (rw [hy236]; exact H) | exact H
                          have Ny236 := Aside0.mk hy236
                          clear hy236
                          by_cases c19 : ([] : List (S54)).length + y236.length < 8796093022208
                          · rw [if_pos c19] at H
                            have LMc19 := Aside0.mk c19
                            clear c19
                            obtain ⟨y240, hy240⟩ : ∃ y_ : List (S54), y_ = (([] : List (S54)) ++ y236) := ⟨_, rfl⟩
                            replace H : (if y240.length < 8796093022208 then ((some (y240 ++ [(⟨a1, x7_8⟩ : S54)] : List (S54))).bind fun y243 => ((some (t232.drop (x8_4 : Int).toNat : List (S54))).bind fun y246 => (if y243.length + y246.length < 8796093022208 then (some (y243 ++ y246)) else (none)))) else (none)) = some r := by first | (rw [hy240]; with_reducible exact H) | (have H2_ := (Option.bind_some _ _).symm.trans H; rw [hy240]; with_reducible exact H2_) | (have H2_ := (Option.bind_some _ _).symm.trans H; with_reducible exact H2_) | with_reducible exact H | (rw [hy240]; exact H) | exact H
                            have Ny240 := Aside0.mk hy240
                            clear hy240
                            by_cases c20 : y240.length < 8796093022208
                            · rw [if_pos c20] at H
                              have LMc20 := Aside0.mk c20
                              clear c20
                              obtain ⟨y243, hy243⟩ : ∃ y_ : List (S54), y_ = (y240 ++ [(⟨a1, x7_8⟩ : S54)]) := ⟨_, rfl⟩
                              replace H : ((some (t232.drop (x8_4 : Int).toNat : List (S54))).bind fun y246 => (if y243.length + y246.length < 8796093022208 then (some (y243 ++ y246)) else (none))) = some r := by first | (rw [hy243]; with_reducible exact H) | (have H2_ := (Option.bind_some _ _).symm.trans H; rw [hy243]; with_reducible exact H2_) | (have H2_ := (Option.bind_some _ _).symm.trans H; with_reducible exact H2_) | with_reducible exact H | (rw [hy243]; exact H) | exact H
                              have Ny243 := Aside0.mk hy243
                              clear hy243
                              have c21b0 := eq_true (of_decide_eq_true (by first | (with_reducible assumption) | assumption) : 0 ≤ x8_4)
                              have c22b0 := eq_true (of_decide_eq_true (by first | (with_reducible assumption) | assumption) : x8_4 ≤ (t232.length : Int))
                              obtain ⟨y246, hy246⟩ : ∃ y_ : List (S54), y_ = (t232.drop (x8_4 : Int).toNat) := ⟨_, rfl⟩
                              replace H : (if y243.length + y246.length < 8796093022208 then (some (y243 ++ y246)) else (none)) = some r := by first | (rw [hy246]; with_reducible exact H) | (have H2_ := (Option.bind_some _ _).symm.trans H; rw [hy246]; with_reducible exact H2_) | (have H2_ := (Option.bind_some _ _).symm.trans H; with_reducible exact H2_) | with_reducible exact H | (rw [hy246]; exact H) | exact H
                              have Ny246 := Aside0.mk hy246
                              clear hy246
                              by_cases c23 : y243.length + y246.length < 8796093022208
                              · rw [if_pos c23] at H
                                have LMc23 := Aside0.mk c23
                                clear c23
                                obtain ⟨y250, hy250⟩ : ∃ y_ : List (S54), y_ = (y243 ++ y246) := ⟨_, rfl⟩
                                replace H : (some y250) = some r := by first | (rw [hy250]; with_reducible exact H) | (have H2_ := (Option.bind_some _ _).symm.trans H; rw [hy250]; with_reducible exact H2_) | (have H2_ := (Option.bind_some _ _).symm.trans H; with_reducible exact H2_) | with_reducible exact H | (rw [hy250]; exact H) | exact H
                                have Ny250 := Aside0.mk hy250
                                clear hy250
                                obtain rfl := Option.some.inj H
                                obtain ⟨Ao24, co24, eo24⟩ := Kd.R_slice HO_0.out
                                subst eo24
                                have p235 : 0 ≤ (x8_4 : Int) := of_decide_eq_true (by first | (with_reducible assumption) | assumption)
                                have q235 : x8_4 < (t232.length : Int) := of_decide_eq_true (by first | (with_reducible assumption) | assumption)
                                obtain ⟨ad235, e235, hx235_0, hx235_1⟩ := at_T54 (Kd.R_reads' HO_0.out).2.2 x8_4 p235 q235
                                cases e235
                                replace p235 := eq_true p235
                                replace q235 := eq_true q235
                                have q25 : (x8_4 : Int) ≤ ((t232.length : Int) : Int) := of_decide_eq_true (by first | (with_reducible assumption) | assumption)
                                obtain ⟨i025, hi025, _, hsz25, _⟩ := info_parts info54
                                have hroom25 : t232.length ≤ co24 := (Kd.R_reads' HO_0.out).2.1
                                have hC25 : Kd.C k54 _ (some ad235) t232.length t232 := (Kd.R_reads' HO_0.out).2.2
                                have hcut25 := cut_to (P := Try.prog) 31 54 .i64 Try.underlying31 hi025 (some ad235) t232.length co24 x8_4 (of_decide_eq_true (by first | (with_reducible assumption) | assumption)) q25 hroom25
                                have hr25 := Kd.C_take (m := (x8_4 : Int).toNat) hC25 (by omega)
                                have hy25 : y236.length = (x8_4 : Int).toNat := (by rw [Ny236.out, List.length_take]; omega)
                                rw [← Ny236.out] at hr25
                                rw [← hy25] at hcut25
                                have HR239 := Aside0.mk hr25
                                have HC239 := Aside0.mk (show y236.length ≤ co24 from by omega)
                                clear hr25 hC25 hroom25 hi025 hsz25
                                have KY25 := Aside0.mk hy25
                                clear hy25
                                have KL25 := Aside0.mk (show (x8_4 : Int).toNat ≤ t232.length from by omega)
                                replace q25 := eq_true q25
                                go_wp2_with (first | ((with_reducible refine gate_builtin (b := .append) (xs := #[.tmp 40, .tmp 43]) rfl ?_); at_builtin; refine Kd.R_append_rows k54 (w0 := w) w.heap.size rfl (.tmp 40) (.tmp 43) 31 54 (.agg #[(.int .i64 0), (.int .i64 0)]) 16 rfl Try.underlying31 info54 rfl (by decide) (by omega) (.slice none 0 0) ([] : List (S54)) y236 _ _ _ (fun k_ => some k_ ≠ (.slice (some ad235) t232.length co24 : Value).ownBlock) (fun _ => False) rfl rfl ?aO ?aR (fun _ _ h => h) (fun _ h => h.elim) ?aF ?aB ?aS ?aL ?_; (case aR => repeat (first | exact (by repeat (first | (with_reducible exact HR239.out) | (with_reducible refine Kd.C_alloc ?_ _) | (with_reducible refine Kd.C_drewN ?_ _) | (with_reducible refine Kd.C_drew ?_) | exact HR239.out)) | (with_reducible refine Kd.C_alloc ?_ _) | (with_reducible refine Kd.C_drewN ?_ _) | (with_reducible refine Kd.C_drew ?_))); (case aB => exact (by repeat (first | (with_reducible first | exact HB.out | apply below_alloc | apply pw_below_drewN | apply below_drew1) | exact HB.out))); (case aF => exact (fun k_ hk => Kd.fresh' (Kd.R_lt (by (with_reducible repeat (first | apply Kd.R_alloc | apply Kd.R_drewN | apply Kd.R_drew)); exact HO_0.out)) k_ hk)); (case aO => exact ((Kd.R_nil _ _ _ _ (fun k_ => some k_ ≠ (.slice (some ad235) t232.length co24 : Value).ownBlock)))); (case aS => exact (below_size (by repeat (first | (with_reducible first | exact HB.out | apply below_alloc | apply pw_below_drewN | apply below_drew1) | exact HB.out)))); (case aL => have := LMc19.out; omega); intro v241 w26 ho hb hg hat; rw [← Ny240.out] at ho; have n0_ := Aside0.mk (Kd.R_after (Kd.R_apart_nil (by (with_reducible repeat (first | apply Kd.R_alloc | apply Kd.R_drewN | apply Kd.R_drew)); exact HO_0.out)) hg hat); have n1_ := Aside0.mk (hb); have n2_ := Aside0.mk ((show Kd.C k54 w26 (some ad235) y236.length y236 from by rw [Ny236.out]; exact Kd.C_take (m := (x8_4 : Int).toNat) ((Kd.R_reads' (Kd.R_after (Kd.R_apart_nil (by (with_reducible repeat (first | apply Kd.R_alloc | apply Kd.R_drewN | apply Kd.R_drew)); exact HO_0.out)) hg hat)).2.2) KL25.out)); have n3_ := Aside0.mk (ho); clear HO_0; clear HB; clear HR239; have HO_0 := n0_; have HB := n1_; have HR239 := n2_; have HO242 := n3_; clear n0_ n1_ n2_ n3_; clear ho hb hg hat) | ((with_reducible refine gate_builtin (b := .append) (xs := #[.tmp 45, .tmp 49]) rfl ?_); at_builtin; refine Kd.R_append k54 (w0 := w) w.heap.size rfl (.tmp 45) (.tmp 49) 31 54 (.agg #[(.int .i64 0), (.int .i64 0)]) 16 rfl Try.underlying31 info54 rfl (by decide) (by omega) v241 y240 (⟨a1, x7_8⟩ : S54) [.int .i64 a1, .int .i64 x7_8] (fun k_ => some k_ ≠ (.slice (some ad235) t232.length co24 : Value).ownBlock) (fun _ => False) rfl rfl ?aP (fun _ hk => hk.elim) ?aF ?aO ?aB ?aS ?aL ?_; (case aP => exact k54_mkM _ _ _ (⟨a1, x7_8⟩ : S54)); (case aB => exact (by repeat (first | (with_reducible first | exact HB.out | apply below_alloc | apply pw_below_drewN | apply below_drew1) | exact HB.out))); (case aF => exact (fun k_ hk => Kd.fresh' (Kd.R_lt (by (with_reducible repeat (first | apply Kd.R_alloc | apply Kd.R_drewN | apply Kd.R_drew)); exact HO_0.out)) k_ hk)); (case aO => exact (by (with_reducible repeat (first | apply Kd.R_alloc | apply Kd.R_drewN | apply Kd.R_drew)); exact HO242.out)); (case aS => exact (below_size (by repeat (first | (with_reducible first | exact HB.out | apply below_alloc | apply pw_below_drewN | apply below_drew1) | exact HB.out)))); (case aL => have := LMc20.out; omega); intro v244 w27 ho hb hg hat; rw [← Ny243.out] at ho; have n0_ := Aside0.mk (Kd.R_after (ok := (fun _ => True)) (by (with_reducible repeat (first | apply Kd.R_alloc | apply Kd.R_drewN | apply Kd.R_drew)); exact HO_0.out) hg hat); have n1_ := Aside0.mk (hb); have n2_ := Aside0.mk ((show Kd.C k54 w27 (some ad235) y236.length y236 from by rw [Ny236.out]; exact Kd.C_take (m := (x8_4 : Int).toNat) ((Kd.R_reads' (Kd.R_after (ok := (fun _ => True)) (by (with_reducible repeat (first | apply Kd.R_alloc | apply Kd.R_drewN | apply Kd.R_drew)); exact HO_0.out) hg hat)).2.2) KL25.out)); have n3_ := Aside0.mk (ho); clear HO_0; clear HB; clear HR239; clear HO242; have HO_0 := n0_; have HB := n1_; have HR239 := n2_; have HO245 := n3_; clear n0_ n1_ n2_ n3_; clear ho hb hg hat; have q28 : (x8_4 : Int) ≤ ((t232.length : Int) : Int) := of_decide_eq_true (by first | (with_reducible assumption) | assumption); obtain ⟨i028, hi028, _, hsz28, _⟩ := info_parts info54; have hroom28 : t232.length ≤ co24 := (Kd.R_reads' HO_0.out).2.1; have hC28 : Kd.C k54 _ (some ad235) t232.length t232 := (Kd.R_reads' HO_0.out).2.2; have q028 : (0 : Int) ≤ (x8_4 : Int) := of_decide_eq_true (by first | (with_reducible assumption) | assumption); have hcut28 := cut_from (P := Try.prog) 31 54 .i64 Try.underlying31 hi028 2 hsz28 (some ad235) t232.length co24 x8_4 q028 q28; have hr28 := Kd.C_drop (m := (x8_4 : Int).toNat) (c := co24) hC28 (by omega) hroom28; obtain ⟨A28, hA28⟩ : ∃ A1, A1 = (if co24 = (x8_4 : Int).toNat then (some ad235) else ((some ad235) : Option Addr).map (·.add ((x8_4 : Int).toNat * 2))) := ⟨_, rfl⟩; obtain ⟨c28, hc28⟩ : ∃ c1, c1 = co24 - (x8_4 : Int).toNat := ⟨_, rfl⟩; have hy28 : y246.length = t232.length - (x8_4 : Int).toNat := (by rw [Ny246.out, List.length_drop] <;> omega); rw [show (t232).drop (x8_4 : Int).toNat = y246 from Ny246.out.symm] at hr28; replace hr28 : Kd.C k54 _ A28 y246.length y246 := (by rw [hA28]; exact hr28); rw [← hy28, ← hA28, ← hc28] at hcut28; have HR249 := Aside0.mk hr28; have HC249 := Aside0.mk (show y246.length ≤ c28 from by rw [hy28, hc28]; exact Nat.sub_le_sub_right hroom28 _); clear hr28 hC28 hroom28 hi028 hsz28 hc28; have KY28 := Aside0.mk hy28; have KA28 := Aside0.mk hA28; clear hy28 hA28; have KL28 := Aside0.mk (show (x8_4 : Int).toNat ≤ t232.length from by omega); replace q28 := eq_true q28) | ((with_reducible refine gate_builtin (b := .append) (xs := #[.tmp 51, .tmp 54]) rfl ?_); at_builtin; refine Kd.R_append_rows k54 (w0 := w) w.heap.size rfl (.tmp 51) (.tmp 54) 31 54 (.agg #[(.int .i64 0), (.int .i64 0)]) 16 rfl Try.underlying31 info54 rfl (by decide) (by omega) v244 y243 y246 _ _ _ (fun k_ => some k_ ≠ (.slice (some ad235) t232.length co24 : Value).ownBlock) (fun _ => False) rfl rfl ?aO ?aR (fun _ _ h => h) (fun _ h => h.elim) ?aF ?aB ?aS ?aL ?_; (case aR => repeat (first | exact (by repeat (first | (with_reducible exact HR249.out) | (with_reducible refine Kd.C_alloc ?_ _) | (with_reducible refine Kd.C_drewN ?_ _) | (with_reducible refine Kd.C_drew ?_) | exact HR249.out)) | (with_reducible refine Kd.C_alloc ?_ _) | (with_reducible refine Kd.C_drewN ?_ _) | (with_reducible refine Kd.C_drew ?_))); (case aB => exact (by repeat (first | (with_reducible first | exact HB.out | apply below_alloc | apply pw_below_drewN | apply below_drew1) | exact HB.out))); (case aF => exact (fun k_ hk => Kd.fresh' (Kd.R_lt (by (with_reducible repeat (first | apply Kd.R_alloc | apply Kd.R_drewN | apply Kd.R_drew)); exact HO_0.out)) k_ hk)); (case aO => exact (by (with_reducible repeat (first | apply Kd.R_alloc | apply Kd.R_drewN | apply Kd.R_drew)); exact HO245.out)); (case aS => exact (below_size (by repeat (first | (with_reducible first | exact HB.out | apply below_alloc | apply pw_below_drewN | apply below_drew1) | exact HB.out)))); (case aL => have := LMc23.out; omega); intro v251 w29 ho hb hg hat; rw [← Ny250.out] at ho; have n0_ := Aside0.mk (Kd.R_after (ok := (fun _ => True)) (by (with_reducible repeat (first | apply Kd.R_alloc | apply Kd.R_drewN | apply Kd.R_drew)); exact HO_0.out) hg hat); have n1_ := Aside0.mk (hb); have n2_ := Aside0.mk ((show Kd.C k54 w29 (some ad235) y236.length y236 from by rw [Ny236.out]; exact Kd.C_take (m := (x8_4 : Int).toNat) ((Kd.R_reads' (Kd.R_after (ok := (fun _ => True)) (by (with_reducible repeat (first | apply Kd.R_alloc | apply Kd.R_drewN | apply Kd.R_drew)); exact HO_0.out) hg hat)).2.2) KL25.out)); have n3_ := Aside0.mk ((show Kd.C k54 w29 A28 y246.length y246 from by rw [Ny246.out, KA28.out]; exact Kd.C_drop (m := (x8_4 : Int).toNat) (c := co24) ((Kd.R_reads' (Kd.R_after (ok := (fun _ => True)) (by (with_reducible repeat (first | apply Kd.R_alloc | apply Kd.R_drewN | apply Kd.R_drew)); exact HO_0.out) hg hat)).2.2) KL28.out ((Kd.R_reads' (Kd.R_after (ok := (fun _ => True)) (by (with_reducible repeat (first | apply Kd.R_alloc | apply Kd.R_drewN | apply Kd.R_drew)); exact HO_0.out) hg hat)).2.1))); have n4_ := Aside0.mk (ho); clear HO_0; clear HB; clear HR239; clear HR249; clear HO245; have HO_0 := n0_; have HB := n1_; have HR239 := n2_; have HR249 := n3_; have HO252 := n4_; clear n0_ n1_ n2_ n3_ n4_; clear ho hb hg hat))
                                go_ret
                                exact ⟨_, by first | rfl | (simp [errW_none, errW_some] <;> rfl) | (simp [*, errW_none, errW_some] <;> rfl), by (with_reducible repeat (first | apply Kd.R_alloc | apply Kd.R_drewN | apply Kd.R_drew)); exact Kd.R_mono HO252.out (fun _ hk => trivial), by repeat (first | (with_reducible first | exact HB.out | apply below_alloc | apply pw_below_drewN | apply below_drew1) | exact HB.out)⟩
                              · rw [if_neg c23] at H
                                exact absurd H (by simp)
                            · rw [if_neg c20] at H
                              exact absurd H (by simp)
                          · rw [if_neg c19] at H
                            exact absurd H (by simp)
                        · rw [if_neg c18] at H
                          exact absurd H (by simp)
                    · rw [if_neg c14] at H
                      exact absurd H (by simp)
                  · rw [if_neg c13] at H
                    have c13b0 : decide (x8_4 < (t232.length : Int)) = false := decide_eq_false c13
                    clear c13
                    by_cases c30 : 0 ≤ x8_4
                    · rw [if_pos c30] at H
                      have c30b0 := eq_true c30
                      have c30b1 : decide (0 ≤ x8_4) = true := decide_eq_true c30
                      clear c30
                      by_cases c31 : x8_4 ≤ (t232.length : Int)
                      · rw [if_pos c31] at H
                        have c31b0 := eq_true c31
                        have c31b1 : decide (x8_4 ≤ (t232.length : Int)) = true := decide_eq_true c31
                        clear c31
                        obtain ⟨y253, hy253⟩ : ∃ y_ : List (S54), y_ = (t232.take (x8_4 : Int).toNat) := ⟨_, rfl⟩
                        replace H : (if ([] : List (S54)).length + y253.length < 8796093022208 then ((some (([] : List (S54)) ++ y253 : List (S54))).bind fun y257 => (if y257.length < 8796093022208 then ((some (y257 ++ [(⟨a1, x7_8⟩ : S54)] : List (S54))).bind fun y260 => ((some (t232.drop (x8_4 : Int).toNat : List (S54))).bind fun y263 => (if y260.length + y263.length < 8796093022208 then (some (y260 ++ y263)) else (none)))) else (none))) else (none)) = some r := by first | (rw [hy253]; with_reducible exact H) | (have H2_ := (Option.bind_some _ _).symm.trans H; rw [hy253]; with_reducible exact H2_) | (have H2_ := (Option.bind_some _ _).symm.trans H; with_reducible exact H2_) | with_reducible exact H | (rw [hy253]; exact H) | exact H
                        have Ny253 := Aside0.mk hy253
                        clear hy253
                        by_cases c32 : ([] : List (S54)).length + y253.length < 8796093022208
                        · rw [if_pos c32] at H
                          have LMc32 := Aside0.mk c32
                          clear c32
                          obtain ⟨y257, hy257⟩ : ∃ y_ : List (S54), y_ = (([] : List (S54)) ++ y253) := ⟨_, rfl⟩
                          replace H : (if y257.length < 8796093022208 then ((some (y257 ++ [(⟨a1, x7_8⟩ : S54)] : List (S54))).bind fun y260 => ((some (t232.drop (x8_4 : Int).toNat : List (S54))).bind fun y263 => (if y260.length + y263.length < 8796093022208 then (some (y260 ++ y263)) else (none)))) else (none)) = some r := by first | (rw [hy257]; with_reducible exact H) | (have H2_ := (Option.bind_some _ _).symm.trans H; rw [hy257]; with_reducible exact H2_) | (have H2_ := (Option.bind_some _ _).symm.trans H; with_reducible exact H2_) | with_reducible exact H | (rw [hy257]; exact H) | exact H
                          have Ny257 := Aside0.mk hy257
                          clear hy257
                          by_cases c33 : y257.length < 8796093022208
                          · rw [if_pos c33] at H
                            have LMc33 := Aside0.mk c33
                            clear c33
                            obtain ⟨y260, hy260⟩ : ∃ y_ : List (S54), y_ = (y257 ++ [(⟨a1, x7_8⟩ : S54)]) := ⟨_, rfl⟩
                            replace H : ((some (t232.drop (x8_4 : Int).toNat : List (S54))).bind fun y263 => (if y260.length + y263.length < 8796093022208 then (some (y260 ++ y263)) else (none))) = some r := by first | (rw [hy260]; with_reducible exact H) | (have H2_ := (Option.bind_some _ _).symm.trans H; rw [hy260]; with_reducible exact H2_) | (have H2_ := (Option.bind_some _ _).symm.trans H; with_reducible exact H2_) | with_reducible exact H | (rw [hy260]; exact H) | exact H
                            have Ny260 := Aside0.mk hy260
                            clear hy260
                            have c34b0 := eq_true (of_decide_eq_true (by first | (with_reducible assumption) | assumption) : 0 ≤ x8_4)
                            have c35b0 := eq_true (of_decide_eq_true (by first | (with_reducible assumption) | assumption) : x8_4 ≤ (t232.length : Int))
                            obtain ⟨y263, hy263⟩ : ∃ y_ : List (S54), y_ = (t232.drop (x8_4 : Int).toNat) := ⟨_, rfl⟩
                            replace H : (if y260.length + y263.length < 8796093022208 then (some (y260 ++ y263)) else (none)) = some r := by first | (rw [hy263]; with_reducible exact H) | (have H2_ := (Option.bind_some _ _).symm.trans H; rw [hy263]; with_reducible exact H2_) | (have H2_ := (Option.bind_some _ _).symm.trans H; with_reducible exact H2_) | with_reducible exact H | (rw [hy263]; exact H) | exact H
                            have Ny263 := Aside0.mk hy263
                            clear hy263
                            by_cases c36 : y260.length + y263.length < 8796093022208
                            · rw [if_pos c36] at H
                              have LMc36 := Aside0.mk c36
                              clear c36
                              obtain ⟨y267, hy267⟩ : ∃ y_ : List (S54), y_ = (y260 ++ y263) := ⟨_, rfl⟩
                              replace H : (some y267) = some r := by first | (rw [hy267]; with_reducible exact H) | (have H2_ := (Option.bind_some _ _).symm.trans H; rw [hy267]; with_reducible exact H2_) | (have H2_ := (Option.bind_some _ _).symm.trans H; with_reducible exact H2_) | with_reducible exact H | (rw [hy267]; exact H) | exact H
                              have Ny267 := Aside0.mk hy267
                              clear hy267
                              obtain rfl := Option.some.inj H
                              obtain ⟨Ao37, co37, eo37⟩ := Kd.R_slice HO_0.out
                              subst eo37
                              have q38 : (x8_4 : Int) ≤ ((t232.length : Int) : Int) := of_decide_eq_true (by first | (with_reducible assumption) | assumption)
                              obtain ⟨i038, hi038, _, hsz38, _⟩ := info_parts info54
                              have hroom38 : t232.length ≤ co37 := (Kd.R_reads' HO_0.out).2.1
                              have hC38 : Kd.C k54 _ Ao37 t232.length t232 := (Kd.R_reads' HO_0.out).2.2
                              have hcut38 := cut_to (P := Try.prog) 31 54 .i64 Try.underlying31 hi038 Ao37 t232.length co37 x8_4 (of_decide_eq_true (by first | (with_reducible assumption) | assumption)) q38 hroom38
                              have hr38 := Kd.C_take (m := (x8_4 : Int).toNat) hC38 (by omega)
                              have hy38 : y253.length = (x8_4 : Int).toNat := (by rw [Ny253.out, List.length_take]; omega)
                              rw [← Ny253.out] at hr38
                              rw [← hy38] at hcut38
                              have HR256 := Aside0.mk hr38
                              have HC256 := Aside0.mk (show y253.length ≤ co37 from by omega)
                              clear hr38 hC38 hroom38 hi038 hsz38
                              have KY38 := Aside0.mk hy38
                              clear hy38
                              have KL38 := Aside0.mk (show (x8_4 : Int).toNat ≤ t232.length from by omega)
                              replace q38 := eq_true q38
                              go_wp2_with (first | ((with_reducible refine gate_builtin (b := .append) (xs := #[.tmp 40, .tmp 43]) rfl ?_); at_builtin; refine Kd.R_append_rows k54 (w0 := w) w.heap.size rfl (.tmp 40) (.tmp 43) 31 54 (.agg #[(.int .i64 0), (.int .i64 0)]) 16 rfl Try.underlying31 info54 rfl (by decide) (by omega) (.slice none 0 0) ([] : List (S54)) y253 _ _ _ (fun k_ => some k_ ≠ (.slice Ao37 t232.length co37 : Value).ownBlock) (fun _ => False) rfl rfl ?aO ?aR (fun _ _ h => h) (fun _ h => h.elim) ?aF ?aB ?aS ?aL ?_; (case aR => repeat (first | exact (by repeat (first | (with_reducible exact HR256.out) | (with_reducible refine Kd.C_alloc ?_ _) | (with_reducible refine Kd.C_drewN ?_ _) | (with_reducible refine Kd.C_drew ?_) | exact HR256.out)) | (with_reducible refine Kd.C_alloc ?_ _) | (with_reducible refine Kd.C_drewN ?_ _) | (with_reducible refine Kd.C_drew ?_))); (case aB => exact (by repeat (first | (with_reducible first | exact HB.out | apply below_alloc | apply pw_below_drewN | apply below_drew1) | exact HB.out))); (case aF => exact (fun k_ hk => Kd.fresh' (Kd.R_lt (by (with_reducible repeat (first | apply Kd.R_alloc | apply Kd.R_drewN | apply Kd.R_drew)); exact HO_0.out)) k_ hk)); (case aO => exact ((Kd.R_nil _ _ _ _ (fun k_ => some k_ ≠ (.slice Ao37 t232.length co37 : Value).ownBlock)))); (case aS => exact (below_size (by repeat (first | (with_reducible first | exact HB.out | apply below_alloc | apply pw_below_drewN | apply below_drew1) | exact HB.out)))); (case aL => have := LMc32.out; omega); intro v258 w39 ho hb hg hat; rw [← Ny257.out] at ho; have n0_ := Aside0.mk (Kd.R_after (Kd.R_apart_nil (by (with_reducible repeat (first | apply Kd.R_alloc | apply Kd.R_drewN | apply Kd.R_drew)); exact HO_0.out)) hg hat); have n1_ := Aside0.mk (hb); have n2_ := Aside0.mk ((show Kd.C k54 w39 Ao37 y253.length y253 from by rw [Ny253.out]; exact Kd.C_take (m := (x8_4 : Int).toNat) ((Kd.R_reads' (Kd.R_after (Kd.R_apart_nil (by (with_reducible repeat (first | apply Kd.R_alloc | apply Kd.R_drewN | apply Kd.R_drew)); exact HO_0.out)) hg hat)).2.2) KL38.out)); have n3_ := Aside0.mk (ho); clear HO_0; clear HB; clear HR256; have HO_0 := n0_; have HB := n1_; have HR256 := n2_; have HO259 := n3_; clear n0_ n1_ n2_ n3_; clear ho hb hg hat) | ((with_reducible refine gate_builtin (b := .append) (xs := #[.tmp 45, .tmp 49]) rfl ?_); at_builtin; refine Kd.R_append k54 (w0 := w) w.heap.size rfl (.tmp 45) (.tmp 49) 31 54 (.agg #[(.int .i64 0), (.int .i64 0)]) 16 rfl Try.underlying31 info54 rfl (by decide) (by omega) v258 y257 (⟨a1, x7_8⟩ : S54) [.int .i64 a1, .int .i64 x7_8] (fun k_ => some k_ ≠ (.slice Ao37 t232.length co37 : Value).ownBlock) (fun _ => False) rfl rfl ?aP (fun _ hk => hk.elim) ?aF ?aO ?aB ?aS ?aL ?_; (case aP => exact k54_mkM _ _ _ (⟨a1, x7_8⟩ : S54)); (case aB => exact (by repeat (first | (with_reducible first | exact HB.out | apply below_alloc | apply pw_below_drewN | apply below_drew1) | exact HB.out))); (case aF => exact (fun k_ hk => Kd.fresh' (Kd.R_lt (by (with_reducible repeat (first | apply Kd.R_alloc | apply Kd.R_drewN | apply Kd.R_drew)); exact HO_0.out)) k_ hk)); (case aO => exact (by (with_reducible repeat (first | apply Kd.R_alloc | apply Kd.R_drewN | apply Kd.R_drew)); exact HO259.out)); (case aS => exact (below_size (by repeat (first | (with_reducible first | exact HB.out | apply below_alloc | apply pw_below_drewN | apply below_drew1) | exact HB.out)))); (case aL => have := LMc33.out; omega); intro v261 w40 ho hb hg hat; rw [← Ny260.out] at ho; have n0_ := Aside0.mk (Kd.R_after (ok := (fun _ => True)) (by (with_reducible repeat (first | apply Kd.R_alloc | apply Kd.R_drewN | apply Kd.R_drew)); exact HO_0.out) hg hat); have n1_ := Aside0.mk (hb); have n2_ := Aside0.mk ((show Kd.C k54 w40 Ao37 y253.length y253 from by rw [Ny253.out]; exact Kd.C_take (m := (x8_4 : Int).toNat) ((Kd.R_reads' (Kd.R_after (ok := (fun _ => True)) (by (with_reducible repeat (first | apply Kd.R_alloc | apply Kd.R_drewN | apply Kd.R_drew)); exact HO_0.out) hg hat)).2.2) KL38.out)); have n3_ := Aside0.mk (ho); clear HO_0; clear HB; clear HR256; clear HO259; have HO_0 := n0_; have HB := n1_; have HR256 := n2_; have HO262 := n3_; clear n0_ n1_ n2_ n3_; clear ho hb hg hat; have q41 : (x8_4 : Int) ≤ ((t232.length : Int) : Int) := of_decide_eq_true (by first | (with_reducible assumption) | assumption); obtain ⟨i041, hi041, _, hsz41, _⟩ := info_parts info54; have hroom41 : t232.length ≤ co37 := (Kd.R_reads' HO_0.out).2.1; have hC41 : Kd.C k54 _ Ao37 t232.length t232 := (Kd.R_reads' HO_0.out).2.2; have q041 : (0 : Int) ≤ (x8_4 : Int) := of_decide_eq_true (by first | (with_reducible assumption) | assumption); have hcut41 := cut_from (P := Try.prog) 31 54 .i64 Try.underlying31 hi041 2 hsz41 Ao37 t232.length co37 x8_4 q041 q41; have hr41 := Kd.C_drop (m := (x8_4 : Int).toNat) (c := co37) hC41 (by omega) hroom41; obtain ⟨A41, hA41⟩ : ∃ A1, A1 = (if co37 = (x8_4 : Int).toNat then Ao37 else (Ao37 : Option Addr).map (·.add ((x8_4 : Int).toNat * 2))) := ⟨_, rfl⟩; obtain ⟨c41, hc41⟩ : ∃ c1, c1 = co37 - (x8_4 : Int).toNat := ⟨_, rfl⟩; have hy41 : y263.length = t232.length - (x8_4 : Int).toNat := (by rw [Ny263.out, List.length_drop] <;> omega); rw [show (t232).drop (x8_4 : Int).toNat = y263 from Ny263.out.symm] at hr41; replace hr41 : Kd.C k54 _ A41 y263.length y263 := (by rw [hA41]; exact hr41); rw [← hy41, ← hA41, ← hc41] at hcut41; have HR266 := Aside0.mk hr41; have HC266 := Aside0.mk (show y263.length ≤ c41 from by rw [hy41, hc41]; exact Nat.sub_le_sub_right hroom41 _); clear hr41 hC41 hroom41 hi041 hsz41 hc41; have KY41 := Aside0.mk hy41; have KA41 := Aside0.mk hA41; clear hy41 hA41; have KL41 := Aside0.mk (show (x8_4 : Int).toNat ≤ t232.length from by omega); replace q41 := eq_true q41) | ((with_reducible refine gate_builtin (b := .append) (xs := #[.tmp 51, .tmp 54]) rfl ?_); at_builtin; refine Kd.R_append_rows k54 (w0 := w) w.heap.size rfl (.tmp 51) (.tmp 54) 31 54 (.agg #[(.int .i64 0), (.int .i64 0)]) 16 rfl Try.underlying31 info54 rfl (by decide) (by omega) v261 y260 y263 _ _ _ (fun k_ => some k_ ≠ (.slice Ao37 t232.length co37 : Value).ownBlock) (fun _ => False) rfl rfl ?aO ?aR (fun _ _ h => h) (fun _ h => h.elim) ?aF ?aB ?aS ?aL ?_; (case aR => repeat (first | exact (by repeat (first | (with_reducible exact HR266.out) | (with_reducible refine Kd.C_alloc ?_ _) | (with_reducible refine Kd.C_drewN ?_ _) | (with_reducible refine Kd.C_drew ?_) | exact HR266.out)) | (with_reducible refine Kd.C_alloc ?_ _) | (with_reducible refine Kd.C_drewN ?_ _) | (with_reducible refine Kd.C_drew ?_))); (case aB => exact (by repeat (first | (with_reducible first | exact HB.out | apply below_alloc | apply pw_below_drewN | apply below_drew1) | exact HB.out))); (case aF => exact (fun k_ hk => Kd.fresh' (Kd.R_lt (by (with_reducible repeat (first | apply Kd.R_alloc | apply Kd.R_drewN | apply Kd.R_drew)); exact HO_0.out)) k_ hk)); (case aO => exact (by (with_reducible repeat (first | apply Kd.R_alloc | apply Kd.R_drewN | apply Kd.R_drew)); exact HO262.out)); (case aS => exact (below_size (by repeat (first | (with_reducible first | exact HB.out | apply below_alloc | apply pw_below_drewN | apply below_drew1) | exact HB.out)))); (case aL => have := LMc36.out; omega); intro v268 w42 ho hb hg hat; rw [← Ny267.out] at ho; have n0_ := Aside0.mk (Kd.R_after (ok := (fun _ => True)) (by (with_reducible repeat (first | apply Kd.R_alloc | apply Kd.R_drewN | apply Kd.R_drew)); exact HO_0.out) hg hat); have n1_ := Aside0.mk (hb); have n2_ := Aside0.mk ((show Kd.C k54 w42 Ao37 y253.length y253 from by rw [Ny253.out]; exact Kd.C_take (m := (x8_4 : Int).toNat) ((Kd.R_reads' (Kd.R_after (ok := (fun _ => True)) (by (with_reducible repeat (first | apply Kd.R_alloc | apply Kd.R_drewN | apply Kd.R_drew)); exact HO_0.out) hg hat)).2.2) KL38.out)); have n3_ := Aside0.mk ((show Kd.C k54 w42 A41 y263.length y263 from by rw [Ny263.out, KA41.out]; exact Kd.C_drop (m := (x8_4 : Int).toNat) (c := co37) ((Kd.R_reads' (Kd.R_after (ok := (fun _ => True)) (by (with_reducible repeat (first | apply Kd.R_alloc | apply Kd.R_drewN | apply Kd.R_drew)); exact HO_0.out) hg hat)).2.2) KL41.out ((Kd.R_reads' (Kd.R_after (ok := (fun _ => True)) (by (with_reducible repeat (first | apply Kd.R_alloc | apply Kd.R_drewN | apply Kd.R_drew)); exact HO_0.out) hg hat)).2.1))); have n4_ := Aside0.mk (ho); clear HO_0; clear HB; clear HR256; clear HR266; clear HO262; have HO_0 := n0_; have HB := n1_; have HR256 := n2_; have HR266 := n3_; have HO269 := n4_; clear n0_ n1_ n2_ n3_ n4_; clear ho hb hg hat))
                              go_ret
                              exact ⟨_, by first | rfl | (simp [errW_none, errW_some] <;> rfl) | (simp [*, errW_none, errW_some] <;> rfl), by (with_reducible repeat (first | apply Kd.R_alloc | apply Kd.R_drewN | apply Kd.R_drew)); exact Kd.R_mono HO269.out (fun _ hk => trivial), by repeat (first | (with_reducible first | exact HB.out | apply below_alloc | apply pw_below_drewN | apply below_drew1) | exact HB.out)⟩
                            · rw [if_neg c36] at H
                              exact absurd H (by simp)
                          · rw [if_neg c33] at H
                            exact absurd H (by simp)
                        · rw [if_neg c32] at H
                          exact absurd H (by simp)
                      · rw [if_neg c31] at H
                        exact absurd H (by simp)
                    · rw [if_neg c30] at H
                      exact absurd H (by simp)

-- NOT PRINTED: function 15 (score_Book_Forget)

end Go.Proofs.Ytbbamnglnnanpaa.PScorePlays
