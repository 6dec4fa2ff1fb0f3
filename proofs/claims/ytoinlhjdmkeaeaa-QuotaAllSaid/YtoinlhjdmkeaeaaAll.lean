/- The law QuotaAll: what all have is what each has, together; partners don't meet. No conditions. -/
import Derived.Test.YtoinlhjdmkeaeaaAwake
import Derived.Test.YtoinlhjdmkeaeaaAllP
import Derived.Deep.RegionWith
namespace Go.Proofs.Ytoinlhjdmkeaeaa
open Go.ChangeShapes Go.WideShapes Go.ChangeAt Go.RowKit

/-- What holds at the head of the first loop. -/
structure One1 (w : World) (xs ys : List Int) (b m : Nat) (i : Nat) (wr : World) : Prop where
  book : IsBook wr b m (accs xs ys i)
  below : Below w.heap.size w wr
  hm : w.heap.size ≤ m

set_option maxHeartbeats 1000000 in
set_option maxRecDepth 100000 in
theorem QuotaAll_walk (a0 : Option Addr) (z0 : List Int) (c0 : Nat) (a1 : Option Addr) (z1 : List Int) (c1 : Nat) (w : World) (x0 : IntsAt w .u32 a0 z0) (y0 : ∀ n ∈ z0, (Lit.int .u32 n).wf = true) (l0 : z0.length ≤ maxLen) (x1 : IntsAt w .u32 a1 z1) (y1 : ∀ n ∈ z1, (Lit.int .u32 n).wf = true) (_l1 : z1.length ≤ maxLen) :
    Calls Try.prog 4 #[.slice a0 z0.length c0, .slice a1 z1.length c1] w fun e w' => e = .returned (.bool true) ∧ Below w.heap.size w w' := by
  unfold maxLen at l0 _l1
  have i0 := in32 y0
  have i1 := in32 y1
  clear y0 y1
  obtain ⟨n, hn⟩ : ∃ n, n = z0.length := ⟨_, rfl⟩
  obtain ⟨n', hn'⟩ : ∃ n', n' = z1.length := ⟨_, rfl⟩
  have X0 := Lib.hid x0
  have X1 := Lib.hid x1
  have I0 := Lib.hid i0
  have I1 := Lib.hid i1
  have HN := Lib.hid hn
  have HN' := Lib.hid hn'
  rw [← hn] at l0 ⊢
  rw [← hn'] at _l1 ⊢
  clear x0 x1 i0 i1 hn hn'
  by_cases h64 : 64 < n
  · go_enter Try.func4, Try.ntmps4
    go_wp2_with fail
    refine (awake_any _).mono ?_
    rintro e w1 ⟨rfl, hb⟩
    go_wp2
    go_ret
    exact ⟨rfl, hb⟩
  by_cases hlt : n' < n
  · go_enter Try.func4, Try.ntmps4
    go_wp2_with fail
    refine (awake_any _).mono ?_
    rintro e w1 ⟨rfl, hb⟩
    go_wp2
    go_ret
    exact ⟨rfl, hb⟩
  have k64 : n ≤ 64 := by omega
  have kn : n ≤ n' := by omega
  clear h64 hlt
  go_enter Try.func4, Try.ntmps4
  go_wp2_with fail
  refine (awake_any _).mono ?_
  rintro e w1 ⟨rfl, hb⟩
  go_wp2_with fail
  refine (new_any _).mono ?_
  rintro e w2 ⟨b, m, rfl, h1, hg, hb1, hb2⟩
  have hs := hb.size
  have hM : w.heap.size ≤ m := by omega
  replace hb := hb.trans (hg.mono hb.size)
  have S0 := Lib.hid (One1.mk (w := w) (xs := z0) (ys := z1) (i := 0) h1 hb hM)
  clear hg hb1 hb2 hb h1 hs
  go_wp2_with fail
  go_loopg [7, 8, 9] n (fun k g u i wr => ∃ j : Nat, j ≤ n ∧ k = n - j ∧ i = .int .i64 j ∧ g = .int .u64 (sumG z0 j) ∧ u = .int .u64 (sumU z0 z1 j) ∧ One1 w z0 z1 b m j wr)
  case atStart => exact ⟨0, Nat.zero_le _, rfl, rfl, rfl, rfl, S0.out⟩
  case round =>
    obtain ⟨j, hj, hk, rfl, rfl, rfl, hI⟩ := hrel
    have HI := Lib.hid hI
    have HK := Lib.hid hk
    clear hI hk S0
    by_cases hlt : j < n
    · obtain ⟨bx, ox, rfl, hx1, hx2⟩ := X0.out.at HI.out.below (by rw [← HN.out]; exact hlt)
      obtain ⟨by_, oy, rfl, hy1, hy2⟩ := X1.out.at HI.out.below (by rw [← HN'.out]; exact Nat.lt_of_lt_of_le hlt kn)
      obtain ⟨⟨g0, g1⟩, u0, u1⟩ := sums_le I0.out I1.out (Nat.le_trans hj k64)
      obtain ⟨p0, p1⟩ := I0.out j
      obtain ⟨q0, q1⟩ := I1.out j
      have hacc := accs_none z0 z1 j
      have HA := Lib.hid hacc
      have HX := Lib.hid (X0.out.at (j := j) (w' := w) (Below.refl _ _) (by rw [← HN.out]; exact hlt))
      have j64 : (j : Int) < 64 := by omega
      clear hacc
      by_cases hle : z1.getD j 0 ≤ z0.getD j 0
      · have hyes := accs_yes hle
        have gs := sumG_succ z0 j
        have us := sumU_succ z0 z1 j
        rw [if_pos hle] at us
        have HY := Lib.hid hyes
        have GS := Lib.hid gs
        have US := Lib.hid us
        clear hyes gs us
        generalize z0.getD j 0 = x at *
        generalize z1.getD j 0 = y at *
        go_wp2_with fail
        refine (grant_meth HI.out.book (wf_i64 (by omega) j64) (grant_last HA.out (by omega) j64 p0)).mono ?_
        rintro e wa ⟨rfl, h2, hg⟩
        have bxm : some bx ≠ some m := by simp; omega
        have bym : some by_ ≠ some m := by simp; omega
        have hxa := hg.cell hx2 bxm
        have hya := hg.cell hy2 bym
        have hB := HI.out.below.trans (below_grown hg HI.out.below.size hM)
        clear hg hx2 hy2
        go_wp2_with fail
        refine (reserve_meth h2 (wf_i64 (by omega) j64) (reserve_last HA.out p1 q0 hle)).mono ?_
        rintro e wb ⟨rfl, h3, hg⟩
        have hxb := hg.cell hxa bxm
        have hyb := hg.cell hya bym
        replace hB := hB.trans (below_grown hg hB.size hM)
        clear hg hxa hya h2
        go_wp2_with fail
        go_quiet (fail)
        replace h3 := h3.drewN nq
        replace hB := below_drewN hB nq
        go_wp2_with fail
        refine (use_meth h3 (wf_i64 (by omega) j64) (use_last HA.out q0 q1)).mono ?_
        rintro e wc ⟨rfl, h4, hg⟩
        have hyc := hg.cell (a := ⟨by_, oy + j, none⟩) hyb bym
        replace hB := hB.trans (below_grown hg hB.size hM)
        rw [HY.out] at h4
        clear hg hxb hyb h3
        go_wp2
        go_roundg (n - (j + 1))
        case measure => rw [HK.out]; omega
        case rel => exact ⟨j + 1, by omega, rfl, by go_num, by rw [GS.out], by rw [US.out], ⟨h4, hB, hM⟩⟩
      · have hno := accs_no hle
        have gs := sumG_succ z0 j
        have us := sumU_succ z0 z1 j
        rw [if_neg hle, Int.add_zero] at us
        have HY := Lib.hid hno
        have GS := Lib.hid gs
        have US := Lib.hid us
        have hgt : z0.getD j 0 < z1.getD j 0 := by omega
        clear hno gs us hle
        generalize z0.getD j 0 = x at *
        generalize z1.getD j 0 = y at *
        go_wp2_with fail
        refine (grant_meth HI.out.book (wf_i64 (by omega) j64) (grant_last HA.out (by omega) j64 p0)).mono ?_
        rintro e wa ⟨rfl, h2, hg⟩
        have bxm : some bx ≠ some m := by simp; omega
        have bym : some by_ ≠ some m := by simp; omega
        have hxa := hg.cell hx2 bxm
        have hya := hg.cell hy2 bym
        have hB := HI.out.below.trans (below_grown hg HI.out.below.size hM)
        clear hg hx2 hy2
        go_wp2_with fail
        refine (reserve_meth h2 (wf_i64 (by omega) j64) (reserve_last_no HA.out p0 p1 hgt)).mono ?_
        rintro e wb ⟨rfl, h3, hg⟩
        have hxb := hg.cell hxa bxm
        have hyb := hg.cell hya bym
        replace hB := hB.trans (below_grown hg hB.size hM)
        clear hg hxa hya h2
        go_wp2_with fail
        go_quiet (fail)
        replace h3 := h3.drewN nq
        replace hB := below_drewN hB nq
        rw [HY.out] at h3
        go_wp2
        go_roundg (n - (j + 1))
        case measure => rw [HK.out]; omega
        case rel => exact ⟨j + 1, by omega, rfl, by go_num, by rw [GS.out], by rw [US.out], ⟨h3, hB, hM⟩⟩
    · have hjn : j = n := by omega
      subst hjn
      have hG := HI.out
      have S1 := Lib.hid hG
      clear hG HI HK hlt
      obtain ⟨⟨g0, g1⟩, u0, u1⟩ := sums_le I0.out I1.out k64
      go_wp2_with fail
      go_loopg [11] j (fun k i wr => ∃ q : Nat, q ≤ j ∧ k = j - q ∧ i = .int .i64 q ∧ One1 w z0 z1 b m j wr)
      case atStart => exact ⟨0, Nat.zero_le _, rfl, rfl, S1.out⟩
      case round =>
        obtain ⟨q, hq, hk, rfl, hI⟩ := hrel
        have HI := Lib.hid hI
        have HK := Lib.hid hk
        clear hI hk S1
        by_cases hlt : q < j
        · obtain ⟨bx, ox, rfl, hx1, hx2⟩ := X0.out.at HI.out.below (by rw [← HN.out]; exact hlt)
          obtain ⟨by_, oy, rfl, hy1, hy2⟩ := X1.out.at HI.out.below (by rw [← HN'.out]; exact Nat.lt_of_lt_of_le hlt kn)
          obtain ⟨p0, p1⟩ := I0.out q
          obtain ⟨q0, q1⟩ := I1.out q
          have hacc := accs_some z0 z1 hlt
          have j64 : (q : Int) < 64 := by omega
          by_cases hle : z1.getD q 0 ≤ z0.getD q 0
          · rw [qacc, if_pos hle] at hacc
            have HA := Lib.hid hacc
            clear hacc
            generalize z0.getD q 0 = x at *
            generalize z1.getD q 0 = y at *
            go_wp2_with fail
            refine (account_some HI.out.book (wf_i64 (by omega) j64) HA.out).mono ?_
            rintro e wa ⟨rfl, hg⟩
            have hB := HI.out.below.trans (hg.mono HI.out.below.size)
            have hBk := HI.out.book.below hg
            have hs := HI.out.below.size
            have hxa := (hg.cell (p := ⟨bx, ox + q, none⟩) (by simp; omega)).trans hx2
            have hya := (hg.cell (p := ⟨by_, oy + q, none⟩) (by simp; omega)).trans hy2
            have hs2 := hB.size
            have h1s : bx < wa.heap.size := by omega
            have h2s : by_ < wa.heap.size := by omega
            have HBk := Lib.hid hBk
            have HB := Lib.hid hB
            clear hB hg hx2 hy2 hBk
            go_wp2_with fail
            go_quiet (fail)
            go_wp2_with fail
            refine wp_named fun W hW => ?_
            have hbox : W.heap[wa.heap.size]? = some (.cells #[.int .u64 x, .int .u64 0, .int .u64 y] 29 (0, 0)) := by rw [hW]; exact heap_at wa _
            have hBW : Below w.heap.size w W := by rw [hW]; exact below_drewN (below_alloc HB.out _) nq
            have hBkW : IsBook W b m (accs z0 z1 j) := by rw [hW]; exact (HBk.out.below (below_alloc (Below.refl wa.heap.size wa) _)).drewN nq
            have hxW : W.cell? ⟨bx, ox + q, none⟩ = some (.int .u32 x) := by rw [hW]; exact ((below_alloc (Below.refl wa.heap.size wa) _).cell (p := ⟨bx, ox + q, none⟩) h1s).trans hxa
            have hyW : W.cell? ⟨by_, oy + q, none⟩ = some (.int .u32 y) := by rw [hW]; exact ((below_alloc (Below.refl wa.heap.size wa) _).cell (p := ⟨by_, oy + q, none⟩) h2s).trans hya
            have hsW : wa.heap.size < W.heap.size := by rw [hW]; show wa.heap.size < (wa.alloc _).heap.size; simp
            obtain ⟨⟨k0, k1, k2⟩, k3, k4, k5⟩ := blk3 hbox
            have C : ∀ X : Later W, Calls Try.prog 13 #[.pointer (some ⟨b, 0, none⟩), .int .i64 q] X.w fun e w' => e = .returned (.int .u64 (x - y)) ∧ Below X.w.heap.size X.w w' := by
              intro X
              have C := left_of (account_some (hBkW.later X) (wf_i64 (by omega) j64) HA.out)
              rw [left_is (by omega) (by omega) (by omega) (by omega), Int.sub_zero] at C
              exact C
            have hbxW : bx < W.heap.size := by omega
            have hbyW : by_ < W.heap.size := by omega
            have HBW := Lib.hid hBW
            have HBkW := Lib.hid hBkW
            have HC := Lib.hid C
            clear hW hbox hBW hBkW C hxa hya HB HBk
            refine wp_region_later (by kernel_rfl) (by kernel_rfl) ?_
            repeat (first | go_big_quiet_step ((go_at_call 13; exact later_call (HC.out _))) | quiet_step ((go_at_call 13; exact later_call (HC.out _))))
            refine wpQuiet_nil ?_
            intro _ hw'
            obtain ⟨⟨wq, hq⟩, hw''⟩ := hw'
            dsimp only at hw''
            subst hw''
            have hw2 := hq
            replace hq := HBW.out.trans (hq.mono HBW.out.size)
            have hbk := HBkW.out.below hw2
            go_wp2
            go_roundg (j - (q + 1))
            case measure => rw [HK.out]; omega
            case rel => exact ⟨q + 1, by omega, rfl, by go_num, ⟨hbk, hq, hM⟩⟩
          · rw [qacc, if_neg hle] at hacc
            have HA := Lib.hid hacc
            have hgt : z0.getD q 0 < z1.getD q 0 := by omega
            clear hacc hle
            generalize z0.getD q 0 = x at *
            generalize z1.getD q 0 = y at *
            go_wp2_with fail
            refine (account_some HI.out.book (wf_i64 (by omega) j64) HA.out).mono ?_
            rintro e wa ⟨rfl, hg⟩
            have hB := HI.out.below.trans (hg.mono HI.out.below.size)
            have hBk := HI.out.book.below hg
            have hs := HI.out.below.size
            have hxa := (hg.cell (p := ⟨bx, ox + q, none⟩) (by simp; omega)).trans hx2
            have hya := (hg.cell (p := ⟨by_, oy + q, none⟩) (by simp; omega)).trans hy2
            have hs2 := hB.size
            have h1s : bx < wa.heap.size := by omega
            have h2s : by_ < wa.heap.size := by omega
            have HBk := Lib.hid hBk
            have HB := Lib.hid hB
            clear hB hg hx2 hy2 hBk
            go_wp2_with fail
            go_quiet (fail)
            go_wp2_with fail
            refine wp_named fun W hW => ?_
            have hbox : W.heap[wa.heap.size]? = some (.cells #[.int .u64 x, .int .u64 0, .int .u64 0] 29 (0, 0)) := by rw [hW]; exact heap_at wa _
            have hBW : Below w.heap.size w W := by rw [hW]; exact below_drewN (below_alloc HB.out _) nq
            have hBkW : IsBook W b m (accs z0 z1 j) := by rw [hW]; exact (HBk.out.below (below_alloc (Below.refl wa.heap.size wa) _)).drewN nq
            have hxW : W.cell? ⟨bx, ox + q, none⟩ = some (.int .u32 x) := by rw [hW]; exact ((below_alloc (Below.refl wa.heap.size wa) _).cell (p := ⟨bx, ox + q, none⟩) h1s).trans hxa
            have hyW : W.cell? ⟨by_, oy + q, none⟩ = some (.int .u32 y) := by rw [hW]; exact ((below_alloc (Below.refl wa.heap.size wa) _).cell (p := ⟨by_, oy + q, none⟩) h2s).trans hya
            have hsW : wa.heap.size < W.heap.size := by rw [hW]; show wa.heap.size < (wa.alloc _).heap.size; simp
            obtain ⟨⟨k0, k1, k2⟩, k3, k4, k5⟩ := blk3 hbox
            have C : ∀ X : Later W, Calls Try.prog 13 #[.pointer (some ⟨b, 0, none⟩), .int .i64 q] X.w fun e w' => e = .returned (.int .u64 (x - 0)) ∧ Below X.w.heap.size X.w w' := by
              intro X
              have C := left_of (account_some (hBkW.later X) (wf_i64 (by omega) j64) HA.out)
              rw [left_is (by omega) (by omega) (by omega) (by omega), Int.sub_zero] at C
              exact C
            have hbxW : bx < W.heap.size := by omega
            have hbyW : by_ < W.heap.size := by omega
            have HBW := Lib.hid hBW
            have HBkW := Lib.hid hBkW
            have HC := Lib.hid C
            clear hW hbox hBW hBkW C hxa hya HB HBk
            refine wp_region_later (by kernel_rfl) (by kernel_rfl) ?_
            repeat (first | go_big_quiet_step ((go_at_call 13; exact later_call (HC.out _))) | quiet_step ((go_at_call 13; exact later_call (HC.out _))))
            refine wpQuiet_nil ?_
            intro _ hw'
            obtain ⟨⟨wq, hq⟩, hw''⟩ := hw'
            dsimp only at hw''
            subst hw''
            have hw2 := hq
            replace hq := HBW.out.trans (hq.mono HBW.out.size)
            have hbk := HBkW.out.below hw2
            go_wp2
            go_roundg (j - (q + 1))
            case measure => rw [HK.out]; omega
            case rel => exact ⟨q + 1, by omega, rfl, by go_num, ⟨hbk, hq, hM⟩⟩
        · have hqn : q = j := by omega
          subst hqn
          have hG := HI.out
          have S2 := Lib.hid hG
          clear hG HI HK hlt
          have q64 : (q : Int) ≤ 64 := by omega
          have T := total_any S2.out.book (accs_ok I0.out I1.out q)
          rw [accs_total I0.out I1.out k64] at T
          have HT := Lib.hid T
          clear T
          go_wp2_with fail
          refine HT.out.mono ?_
          rintro e wa ⟨rfl, hg⟩
          have hB := S2.out.below.trans (hg.mono S2.out.below.size)
          have hBk := S2.out.book.below hg
          clear hg
          go_wp2_with fail
          refine (account_none (hBk.below (below_alloc (Below.refl _ _) _)) (wf_i64w (by omega) (by omega)) (accs_none z0 z1 q)).mono ?_
          rintro e wb ⟨rfl, hg⟩
          have hloc := heap_kept hg (heap_at wa _) (by simp)
          replace hB := (below_alloc hB (.cells #[.int .u64 (sumG z0 q), .int .u64 0, .int .u64 (sumU z0 z1 q)] 29)).trans (hg.mono (by have := hB.size; simp; omega))
          have hlt : wa.heap.size < wb.heap.size := by have := hg.size; simp at this; omega
          obtain ⟨⟨k0, k1, k2⟩, k3, k4, k5⟩ := blk3 hloc
          clear hg hloc hBk
          go_wp2
          go_ret
          exact ⟨rfl, below_alloc hB _⟩

set_option maxRecDepth 100000 in
theorem QuotaAll_lifted (os : Os) (started : os.Started) (H : Type) (enc : TypeId × Value → H) :
    ReturnsInHanded {} Try.checked os 4 .any (Rows.quotaAllSpec.pre6 enc Try.prog Try.f4 Rows.quotaAllRow.domain false) (Rows.quotaAllSpec.post enc Try.prog Try.f4 false true false false) := by
  refine returnsInHanded_of_change (C := Try.checked) own started (by kernel_rfl) Try.func4
    (ChangeSpec.witness6 (enc := enc) (C := Try.checked) false ⟨#[], #[.slice none 0 0, .slice none 0 0], []⟩ 8 (by kernel_rfl) (by kernel_rfl) (by kernel_rfl) (by kernel_rfl)) ?_
  intro W base args ds gs before hval0 hW hcnd _
  have hval : ∀ (j : Nat) t v, Try.f4.params[j]? = some t → args[j]? = some v → Value.okWide Try.prog W .any base t v := hval0
  have hW' := hW
  obtain ⟨p, q, hA0, hV, rfl, hfz, hnd⟩ := hW
  have hA : DataW.TrodAll enc Try.prog W 0 (fun _ => true) true Try.f4.params.toList args.toList ds p := hA0
  rw [Try.params4] at hA hval
  obtain ⟨v0, vs0, d0, ds0, p0, q0, hargs, rfl, rfl, h0, r0⟩ := trodAll_cons hA
  obtain ⟨v1, vs1, d1, ds1, p1, q1, rfl, rfl, rfl, h1, r1⟩ := trodAll_cons r0
  obtain ⟨rfl, rfl, rfl⟩ := trodAll_nil r1
  obtain rfl : args = #[v0, v1] := by cases args; simp_all
  obtain ⟨a0, z0, c0, rfl, x0, y0, l0⟩ := ints_of Try.underlying34 Try.underlying35 (by kernel_rfl) (hval 0 34 v0 rfl rfl) h0
  obtain ⟨a1, z1, c1, rfl, x1, y1, l1⟩ := ints_of Try.underlying34 Try.underlying35 (by kernel_rfl) (hval 1 34 v1 rfl rfl) h1
  refine (QuotaAll_walk a0 z0 c0 a1 z1 c1 W x0 y0 l0 x1 y1 l1).mono fun e W' ⟨he, hb⟩ => ?_
  subst he
  exact ⟨_, rfl, law_post laidOut (by kernel_rfl) rfl rfl Try.underlying4 rfl hW' hb⟩
theorem QuotaAll_holds : Rows.QuotaAllSaid :=
  OpenClaim.holds_of_wide 4 Try.f4 rfl rfl rfl rfl rfl rfl rfl ⟨rfl, rfl, rfl, rfl, rfl⟩ rfl rfl rfl rfl rfl (by kernel_rfl) Try.func4 (by kernel_rfl)
    (of_decide_eq_true (by kernel_rfl)) (by unfold Func.isWrapper; rw [if_neg (by decide +kernel)]; exact ⟨rfl, rfl⟩)
    (fun os started H enc _ => QuotaAll_lifted os started H enc)
end Go.Proofs.Ytoinlhjdmkeaeaa
