/- The law QuotaBack: what is set aside and released, or used and freed, leaves an account as it was; one that is none has nothing. No conditions. -/
import Derived.Test.YtoinlhjdmkeaeaaAwake
import Derived.Test.YtoinlhjdmkeaeaaOne
import Derived.Test.YtoinlhjdmkeaeaaFrame
namespace Go.Proofs.Ytoinlhjdmkeaeaa
open Go.ChangeShapes Go.WideShapes Go.ChangeAt Go.RowKit

theorem total_nil (w : World) : Calls Try.prog 14 #[.pointer none] w fun e w' => e = .returned (.tuple #[(Acc.mk 0 0 0).v, .int .i64 1]) ∧ Below w.heap.size w w' := by
  go_enter Try.func14, Try.ntmps14
  go_wp2
  refine bodyPost_ret (v := .tuple #[.agg #[.int .u64 0, .int .u64 0, .int .u64 0], .int .i64 1]) ?_ rfl ⟨rfl, ?_⟩
  · simp [results, Try.results14, go_sem, *]
  · repeat with_reducible (first | exact Below.refl _ _ | exact Below.refl _ _ | refine below_alloc ?_ _ | refine Below.setCell ?_ (by simp) _ | refine Below.drew ?_)
theorem grant_nil (w : World) (x y : Value) : Calls Try.prog 9 #[.pointer none, x, y] w fun e w' => e = .returned (.int .i64 1) ∧ w = w' := by
  go_enter Try.func9, Try.ntmps9
  go_wp2
  go_ret
  exact ⟨rfl, rfl⟩
theorem use_nil (w : World) (x y : Value) : Calls Try.prog 11 #[.pointer none, x, y] w fun e w' => e = .returned (.int .i64 1) ∧ w = w' := by
  go_enter Try.func11, Try.ntmps11
  go_wp2
  go_ret
  exact ⟨rfl, rfl⟩
theorem left_nil (w : World) (x : Value) : Calls Try.prog 13 #[.pointer none, x] w fun e w' => e = .returned (.int .u64 0) ∧ Below w.heap.size w w' := left_of (account_nil w x)

set_option maxHeartbeats 2000000 in
set_option maxRecDepth 100000 in
theorem QuotaBack_walk (a0 a1 a2 a3 : Int) (w0 : (Lit.int .u8 a0).wf = true) (w1 : (Lit.int .u64 a1).wf = true) (w2 : (Lit.int .u64 a2).wf = true) (w3 : (Lit.int .u64 a3).wf = true) (w : World) :
    Calls Try.prog 6 #[.int .u8 a0, .int .u64 a1, .int .u64 a2, .int .u64 a3] w fun e w' => e = .returned (.bool true) ∧ Below w.heap.size w w' := by
  obtain ⟨b0, b0'⟩ := bounds_u8 w0
  obtain ⟨b1, b1'⟩ := bounds_u64 w1
  obtain ⟨b2, b2'⟩ := bounds_u64 w2
  obtain ⟨b3, b3'⟩ := bounds_u64 w3
  clear w0 w1 w2 w3
  have bk := Int.emod_nonneg a0 (show (64 : Int) ≠ 0 by decide)
  have bk' := Int.emod_lt_of_pos a0 (show (0 : Int) < 64 by decide)
  go_enter Try.func6, Try.ntmps6
  go_wp2_with fail
  refine (awake_any _).mono ?_
  rintro e w1 ⟨rfl, hb⟩
  go_wp2_with fail
  refine (new_any _).mono ?_
  rintro e w2 ⟨b, m, rfl, h1, hg, hb1, hb2⟩
  have hs := hb.size
  have hM : w.heap.size ≤ m := by omega
  replace hb := hb.trans (hg.mono hb.size)
  clear hg hb1 hb2
  go_wp2_with fail
  refine (grant_meth h1 (wf_i64 bk bk') (one_grant_new bk bk' (by omega))).mono ?_
  rintro e wxh2 ⟨rfl, h2, hg⟩
  replace hb := hb.trans (below_grown hg hb.size hM)
  clear hg h1
  by_cases hle : a2 ≤ a1
  · go_wp2_with fail
    refine (reserve_meth h2 (wf_i64 bk bk') (one_reserve (by omega) (by omega) (by omega) (by omega) (by omega))).mono ?_
    rintro e wxh3 ⟨rfl, h3, hg⟩
    replace hb := hb.trans (below_grown hg hb.size hM)
    clear hg h2
    simp only [Int.zero_add] at h3
    by_cases hlb : a3 ≤ a2
    · go_wp2_with fail
      refine (use_meth h3 (wf_i64 bk bk') (one_use (by omega) (by omega) (by omega) (by omega) (by omega))).mono ?_
      rintro e wxh4 ⟨rfl, h4, hg⟩
      replace hb := hb.trans (below_grown hg hb.size hM)
      clear hg h3
      simp only [Int.zero_add] at h4
      have C := left_of (account_some h4 (wf_i64 bk bk') (one_get _ _))
      rw [left_is (by omega) (by omega) (by omega) (by omega), show a1 - (a2 - a3) - a3 = a1 - a2 by omega] at C
      go_wp2_with fail
      refine C.mono ?_
      clear C
      rintro e w5 ⟨rfl, hg⟩
      replace h4 := h4.below hg
      replace hb := hb.trans (hg.mono hb.size)
      clear hg
      go_wp2_with fail
      refine (free_meth h4 (wf_i64 bk bk') (one_free (by omega) (by omega) (by omega))).mono ?_
      rintro e wxh5 ⟨rfl, h5, hg⟩
      replace hb := hb.trans (below_grown hg hb.size hM)
      clear hg h4
      go_wp2_with fail
      refine (release_meth h5 (wf_i64 bk bk') (one_release (by omega) (by omega) (by omega))).mono ?_
      rintro e wxh6 ⟨rfl, h6, hg⟩
      replace hb := hb.trans (below_grown hg hb.size hM)
      clear hg h5
      simp only [Int.sub_self] at h6
      go_wp2_with fail
      refine (account_some h6 (wf_i64 bk bk') (one_get _ _)).mono ?_
      rintro e u1 ⟨rfl, hg⟩
      replace h6 := h6.below hg
      replace hb := hb.trans (hg.mono hb.size)
      clear hg
      go_wp2_with fail
      refine (account_nil _ _).mono ?_
      rintro e u2 ⟨rfl, hg⟩
      have hloc := heap_kept hg (heap_at u1 _) (by simp)
      replace h6 := (h6.below (below_alloc (Below.refl u1.heap.size u1) (.cells #[.int .u64 a1, .int .u64 0, .int .u64 0] 29))).below hg
      replace hb := (below_alloc hb (.cells #[.int .u64 a1, .int .u64 0, .int .u64 0] 29)).trans (hg.mono (by have := hb.size; simp; omega))
      have hu : u1.heap.size < u2.heap.size := by have := hg.size; simp at this; omega
      clear hg
      replace hloc := heap_up (o := .cells #[.int .u64 0, .int .u64 0, .int .u64 0] 29) hloc
      replace h6 := h6.below (below_alloc (Below.refl u2.heap.size u2) (.cells #[.int .u64 0, .int .u64 0, .int .u64 0] 29))
      replace hb := below_alloc hb (.cells #[.int .u64 0, .int .u64 0, .int .u64 0] 29)
      go_wp2_with fail
      refine (total_nil _).mono ?_
      rintro e u3 ⟨rfl, hg⟩
      replace hloc := heap_kept hg hloc (by simp; omega)
      have hu3 : u1.heap.size < u3.heap.size := by have := hg.size; simp at this; omega
      replace h6 := (h6.below hg).below (below_alloc (Below.refl u3.heap.size u3) (.cells #[.int .u64 0, .int .u64 0, .int .u64 0] 29))
      replace hb := below_alloc (hb.trans (hg.mono hb.size)) (.cells #[.int .u64 0, .int .u64 0, .int .u64 0] 29)
      clear hg
      obtain ⟨⟨c0, c1, c2⟩, c3, c4, c5⟩ := blk3 hloc
      have C := left_of (account_some h6 (wf_i64 bk bk') (one_get _ _))
      rw [left_is (by omega) (by omega) (by omega) (by omega), show a1 - 0 - 0 = a1 by omega] at C
      have HC := Lib.hid C
      have HL := Lib.hid hloc
      clear C hloc
      go_wp2_with fail
      refine HC.out.mono ?_
      rintro e u4 ⟨rfl, hg⟩
      have hB4 := hb.trans (hg.mono hb.size)
      clear HC hg
      go_wp2_with fail
      refine (left_nil _ _).mono ?_
      rintro e u5 ⟨rfl, hg⟩
      have hB5 := hB4.trans (hg.mono hB4.size)
      clear hg
      go_wp2_with fail
      refine (grant_nil _ _ _).mono ?_
      rintro e u6 ⟨rfl, rfl⟩
      go_wp2_with fail
      refine (use_nil _ _ _).mono ?_
      rintro e u7 ⟨rfl, rfl⟩
      go_wp2
      go_ret
      exact ⟨rfl, hB5⟩
    · have hgt : a2 < a3 := by omega
      clear hlb
      go_wp2_with fail
      refine (use_meth h3 (wf_i64 bk bk') (one_use_no hgt)).mono ?_
      rintro e wxh4 ⟨rfl, h4, hg⟩
      replace hb := hb.trans (below_grown hg hb.size hM)
      clear hg h3
      go_wp2_with fail
      refine (release_meth h4 (wf_i64 bk bk') (one_release (by omega) (by omega) (Int.le_refl _))).mono ?_
      rintro e wxh6 ⟨rfl, h6, hg⟩
      replace hb := hb.trans (below_grown hg hb.size hM)
      clear hg h4
      simp only [Int.sub_self] at h6
      go_wp2_with fail
      refine (account_some h6 (wf_i64 bk bk') (one_get _ _)).mono ?_
      rintro e u1 ⟨rfl, hg⟩
      replace h6 := h6.below hg
      replace hb := hb.trans (hg.mono hb.size)
      clear hg
      go_wp2_with fail
      refine (account_nil _ _).mono ?_
      rintro e u2 ⟨rfl, hg⟩
      have hloc := heap_kept hg (heap_at u1 _) (by simp)
      replace h6 := (h6.below (below_alloc (Below.refl u1.heap.size u1) (.cells #[.int .u64 a1, .int .u64 0, .int .u64 0] 29))).below hg
      replace hb := (below_alloc hb (.cells #[.int .u64 a1, .int .u64 0, .int .u64 0] 29)).trans (hg.mono (by have := hb.size; simp; omega))
      have hu : u1.heap.size < u2.heap.size := by have := hg.size; simp at this; omega
      clear hg
      replace hloc := heap_up (o := .cells #[.int .u64 0, .int .u64 0, .int .u64 0] 29) hloc
      replace h6 := h6.below (below_alloc (Below.refl u2.heap.size u2) (.cells #[.int .u64 0, .int .u64 0, .int .u64 0] 29))
      replace hb := below_alloc hb (.cells #[.int .u64 0, .int .u64 0, .int .u64 0] 29)
      go_wp2_with fail
      refine (total_nil _).mono ?_
      rintro e u3 ⟨rfl, hg⟩
      replace hloc := heap_kept hg hloc (by simp; omega)
      have hu3 : u1.heap.size < u3.heap.size := by have := hg.size; simp at this; omega
      replace h6 := (h6.below hg).below (below_alloc (Below.refl u3.heap.size u3) (.cells #[.int .u64 0, .int .u64 0, .int .u64 0] 29))
      replace hb := below_alloc (hb.trans (hg.mono hb.size)) (.cells #[.int .u64 0, .int .u64 0, .int .u64 0] 29)
      clear hg
      obtain ⟨⟨c0, c1, c2⟩, c3, c4, c5⟩ := blk3 hloc
      have C := left_of (account_some h6 (wf_i64 bk bk') (one_get _ _))
      rw [left_is (by omega) (by omega) (by omega) (by omega), show a1 - 0 - 0 = a1 by omega] at C
      have HC := Lib.hid C
      have HL := Lib.hid hloc
      clear C hloc
      go_wp2_with fail
      refine HC.out.mono ?_
      rintro e u4 ⟨rfl, hg⟩
      have hB4 := hb.trans (hg.mono hb.size)
      clear HC hg
      go_wp2_with fail
      refine (left_nil _ _).mono ?_
      rintro e u5 ⟨rfl, hg⟩
      have hB5 := hB4.trans (hg.mono hB4.size)
      clear hg
      go_wp2_with fail
      refine (grant_nil _ _ _).mono ?_
      rintro e u6 ⟨rfl, rfl⟩
      go_wp2_with fail
      refine (use_nil _ _ _).mono ?_
      rintro e u7 ⟨rfl, rfl⟩
      go_wp2
      go_ret
      exact ⟨rfl, hB5⟩
  · have hgt : a1 < a2 := by omega
    clear hle
    go_wp2_with fail
    refine (reserve_meth h2 (wf_i64 bk bk') (one_reserve_no (by omega) (by omega) (by omega) (by omega) (by omega))).mono ?_
    rintro e wxh6 ⟨rfl, h6, hg⟩
    replace hb := hb.trans (below_grown hg hb.size hM)
    clear hg h2
    go_wp2_with fail
    refine (account_some h6 (wf_i64 bk bk') (one_get _ _)).mono ?_
    rintro e u1 ⟨rfl, hg⟩
    replace h6 := h6.below hg
    replace hb := hb.trans (hg.mono hb.size)
    clear hg
    go_wp2_with fail
    refine (account_nil _ _).mono ?_
    rintro e u2 ⟨rfl, hg⟩
    have hloc := heap_kept hg (heap_at u1 _) (by simp)
    replace h6 := (h6.below (below_alloc (Below.refl u1.heap.size u1) (.cells #[.int .u64 a1, .int .u64 0, .int .u64 0] 29))).below hg
    replace hb := (below_alloc hb (.cells #[.int .u64 a1, .int .u64 0, .int .u64 0] 29)).trans (hg.mono (by have := hb.size; simp; omega))
    have hu : u1.heap.size < u2.heap.size := by have := hg.size; simp at this; omega
    clear hg
    replace hloc := heap_up (o := .cells #[.int .u64 0, .int .u64 0, .int .u64 0] 29) hloc
    replace h6 := h6.below (below_alloc (Below.refl u2.heap.size u2) (.cells #[.int .u64 0, .int .u64 0, .int .u64 0] 29))
    replace hb := below_alloc hb (.cells #[.int .u64 0, .int .u64 0, .int .u64 0] 29)
    go_wp2_with fail
    refine (total_nil _).mono ?_
    rintro e u3 ⟨rfl, hg⟩
    replace hloc := heap_kept hg hloc (by simp; omega)
    have hu3 : u1.heap.size < u3.heap.size := by have := hg.size; simp at this; omega
    replace h6 := (h6.below hg).below (below_alloc (Below.refl u3.heap.size u3) (.cells #[.int .u64 0, .int .u64 0, .int .u64 0] 29))
    replace hb := below_alloc (hb.trans (hg.mono hb.size)) (.cells #[.int .u64 0, .int .u64 0, .int .u64 0] 29)
    clear hg
    obtain ⟨⟨c0, c1, c2⟩, c3, c4, c5⟩ := blk3 hloc
    have C := left_of (account_some h6 (wf_i64 bk bk') (one_get _ _))
    rw [left_is (by omega) (by omega) (by omega) (by omega), show a1 - 0 - 0 = a1 by omega] at C
    have HC := Lib.hid C
    have HL := Lib.hid hloc
    clear C hloc
    go_wp2_with fail
    refine HC.out.mono ?_
    rintro e u4 ⟨rfl, hg⟩
    have hB4 := hb.trans (hg.mono hb.size)
    clear HC hg
    go_wp2_with fail
    refine (left_nil _ _).mono ?_
    rintro e u5 ⟨rfl, hg⟩
    have hB5 := hB4.trans (hg.mono hB4.size)
    clear hg
    go_wp2_with fail
    refine (grant_nil _ _ _).mono ?_
    rintro e u6 ⟨rfl, rfl⟩
    go_wp2_with fail
    refine (use_nil _ _ _).mono ?_
    rintro e u7 ⟨rfl, rfl⟩
    go_wp2
    go_ret
    exact ⟨rfl, hB5⟩

set_option maxRecDepth 100000 in
theorem QuotaBack_lifted (os : Os) (started : os.Started) (H : Type) (enc : TypeId × Value → H) :
    ReturnsInHanded {} Try.checked os 6 .any (Rows.quotaBackSpec.pre6 enc Try.prog Try.f6 Rows.quotaBackRow.domain false) (Rows.quotaBackSpec.post enc Try.prog Try.f6 false true false false) := by
  refine returnsInHanded_of_change (C := Try.checked) own started (by kernel_rfl) Try.func6
    (ChangeSpec.witness6 (enc := enc) (C := Try.checked) false ⟨#[], #[.int .u8 0, .int .u64 0, .int .u64 0, .int .u64 0], []⟩ 8 (by kernel_rfl) (by kernel_rfl) (by kernel_rfl) (by kernel_rfl)) ?_
  intro W base args ds gs before hval0 hW hcnd _
  have hval : ∀ (j : Nat) t v, Try.f6.params[j]? = some t → args[j]? = some v → Value.okWide Try.prog W .any base t v := hval0
  have hW' := hW
  obtain ⟨p, q, hA0, hV, rfl, hfz, hnd⟩ := hW
  have hA : DataW.TrodAll enc Try.prog W 0 (fun _ => true) true Try.f6.params.toList args.toList ds p := hA0
  rw [Try.params6] at hA hval
  obtain ⟨v0, vs0, d0, ds0, p0, q0, hargs, rfl, rfl, h0, r0⟩ := trodAll_cons hA
  obtain ⟨v1, vs1, d1, ds1, p1, q1, rfl, rfl, rfl, h1, r1⟩ := trodAll_cons r0
  obtain ⟨v2, vs2, d2, ds2, p2, q2, rfl, rfl, rfl, h2, r2⟩ := trodAll_cons r1
  obtain ⟨v3, vs3, d3, ds3, p3, q3, rfl, rfl, rfl, h3, r3⟩ := trodAll_cons r2
  obtain ⟨rfl, rfl, rfl⟩ := trodAll_nil r3
  obtain rfl : args = #[v0, v1, v2, v3] := by cases args; simp_all
  obtain ⟨a0, rfl, rfl, rfl, w0⟩ := open_int Try.underlying5 (hval 0 5 v0 rfl rfl) h0
  obtain ⟨a1, rfl, rfl, rfl, w1⟩ := open_int Try.underlying22 (hval 1 22 v1 rfl rfl) h1
  obtain ⟨a2, rfl, rfl, rfl, w2⟩ := open_int Try.underlying22 (hval 2 22 v2 rfl rfl) h2
  obtain ⟨a3, rfl, rfl, rfl, w3⟩ := open_int Try.underlying22 (hval 3 22 v3 rfl rfl) h3
  refine (QuotaBack_walk a0 a1 a2 a3 w0 w1 w2 w3 W).mono fun e W' ⟨he, hb⟩ => ?_
  subst he
  exact ⟨_, rfl, law_post laidOut (by kernel_rfl) rfl rfl Try.underlying4 rfl hW' hb⟩
theorem QuotaBack_holds : Rows.QuotaBackSaid :=
  OpenClaim.holds_of_wide 6 Try.f6 rfl rfl rfl rfl rfl rfl rfl ⟨rfl, rfl, rfl, rfl, rfl⟩ rfl rfl rfl rfl rfl (by kernel_rfl) Try.func6 (by kernel_rfl)
    (of_decide_eq_true (by kernel_rfl)) (by unfold Func.isWrapper; rw [if_neg (by decide +kernel)]; exact ⟨rfl, rfl⟩)
    (fun os started H enc _ => QuotaBack_lifted os started H enc)
end Go.Proofs.Ytoinlhjdmkeaeaa
