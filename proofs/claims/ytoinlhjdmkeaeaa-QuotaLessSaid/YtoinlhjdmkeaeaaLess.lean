/- The law QuotaLess: less may be granted just as long as what is kept and set aside has room. No conditions. -/
import Derived.Test.YtoinlhjdmkeaeaaAwake
import Derived.Test.YtoinlhjdmkeaeaaOne
import Derived.Test.YtoinlhjdmkeaeaaFrame
namespace Go.Proofs.Ytoinlhjdmkeaeaa
open Go.ChangeShapes Go.WideShapes Go.ChangeAt Go.RowKit

set_option maxHeartbeats 1000000 in
set_option maxRecDepth 100000 in
theorem QuotaLess_walk (a0 a1 a2 a3 a4 : Int) (w0 : (Lit.int .u8 a0).wf = true) (w1 : (Lit.int .u64 a1).wf = true) (w2 : (Lit.int .u64 a2).wf = true) (w3 : (Lit.int .u64 a3).wf = true) (w4 : (Lit.int .u64 a4).wf = true) (w : World) :
    Calls Try.prog 3 #[.int .u8 a0, .int .u64 a1, .int .u64 a2, .int .u64 a3, .int .u64 a4] w fun e w' => e = .returned (.bool true) ∧ Below w.heap.size w w' := by
  obtain ⟨b0, b0'⟩ := bounds_u8 w0
  obtain ⟨b1, b1'⟩ := bounds_u64 w1
  obtain ⟨b2, b2'⟩ := bounds_u64 w2
  obtain ⟨b3, b3'⟩ := bounds_u64 w3
  obtain ⟨b4, b4'⟩ := bounds_u64 w4
  clear w0 w1 w2 w3 w4
  have bk := Int.emod_nonneg a0 (show (64 : Int) ≠ 0 by decide)
  have bk' := Int.emod_lt_of_pos a0 (show (0 : Int) < 64 by decide)
  have bx := Int.emod_nonneg a1 (show (1000000 : Int) ≠ 0 by decide)
  have bx' := Int.emod_lt_of_pos a1 (show (0 : Int) < 1000000 by decide)
  have byy := Int.emod_nonneg a2 (show (1000000 : Int) ≠ 0 by decide)
  have byy' := Int.emod_lt_of_pos a2 (show (0 : Int) < 1000000 by decide)
  have bz := Int.emod_nonneg a3 (show a1 % 1000000 + 1 ≠ 0 by omega)
  have bz' := Int.emod_lt_of_pos a3 (show 0 < a1 % 1000000 + 1 by omega)
  go_enter Try.func3, Try.ntmps3
  go_wp2_with fail
  refine (awake_any _).mono ?_
  rintro e w1 ⟨rfl, hb⟩
  go_wp2_with fail
  refine (new_any _).mono ?_
  rintro e w2 ⟨b, m, rfl, h1, hg, hb1, hb2⟩
  have hs := hb.size
  have hM : w.heap.size ≤ m := by omega
  replace hb := hb.trans (hg.mono hb.size)
  clear hg hb1 hb2
  go_wp2_with fail
  refine (grant_meth h1 (wf_i64 bk bk') (one_grant_new bk bk' (by omega))).mono ?_
  rintro e w3 ⟨rfl, h2, hg⟩
  replace hb := hb.trans (below_grown hg hb.size hM)
  clear hg h1
  go_wp2_with fail
  refine (reserve_meth h2 (wf_i64 bk bk') (one_reserve (by omega) (by omega) (by omega) (by omega) (by omega))).mono ?_
  rintro e w4 ⟨rfl, h3, hg⟩
  replace hb := hb.trans (below_grown hg hb.size hM)
  clear hg h2
  go_wp2_with fail
  refine (use_meth h3 (wf_i64 bk bk') (one_use (by omega) (by omega) (by omega) (by omega) (by omega))).mono ?_
  rintro e w5 ⟨rfl, h4, hg⟩
  simp only [Int.zero_add] at h4
  replace hb := hb.trans (below_grown hg hb.size hM)
  clear hg h3
  go_wp2_with fail
  refine (reserve_meth h4 (wf_i64 bk bk') (one_reserve (by omega) (by omega) (by omega) (by omega) (by omega))).mono ?_
  rintro e w6 ⟨rfl, h5, hg⟩
  replace hb := hb.trans (below_grown hg hb.size hM)
  clear hg h4
  by_cases hle : a1 % 1000000 + a2 % 1000000 ≤ a4
  · go_wp2_with fail
    refine (grant_meth h5 (wf_i64 bk bk') (one_grant bk bk' (by omega) (by omega) (by omega) (by omega))).mono ?_
    rintro e w7 ⟨rfl, h6, hg⟩
    replace hb := hb.trans (below_grown hg hb.size hM)
    clear hg h5
    go_wp2_with fail
    refine (account_some h6 (wf_i64 bk bk') (one_get _ _)).mono ?_
    rintro e w8 ⟨rfl, hg⟩
    replace h6 := h6.below hg
    replace hb := hb.trans (hg.mono hb.size)
    clear hg
    go_wp2_with fail
    have C := left_of (account_some (h6.below (below_alloc (Below.refl w8.heap.size w8) (.cells #[.int .u64 a4, .int .u64 (a1 % 1000000 - a3 % (a1 % 1000000 + 1) + a2 % 1000000), .int .u64 (a3 % (a1 % 1000000 + 1))] 29))) (wf_i64 bk bk') (one_get _ _))
    rw [left_is (by omega) (by omega) (by omega) (by omega), show a4 - (a1 % 1000000 - a3 % (a1 % 1000000 + 1) + a2 % 1000000) - (a3 % (a1 % 1000000 + 1)) = a4 - a1 % 1000000 - a2 % 1000000 by omega] at C
    refine C.mono ?_
    clear C
    rintro e w9 ⟨rfl, hg⟩
    replace hb := (below_alloc hb _).trans (hg.mono (by have := hb.size; simp; omega))
    clear hg h6
    go_wp2
    go_ret
    exact ⟨rfl, hb⟩
  · have hgt : a4 < a1 % 1000000 + a2 % 1000000 := by omega
    clear hle
    go_wp2_with fail
    refine (grant_meth h5 (wf_i64 bk bk') (one_grant_no bk bk' (by omega) (by omega) (by omega) (by omega))).mono ?_
    rintro e w7 ⟨rfl, h6, hg⟩
    replace hb := hb.trans (below_grown hg hb.size hM)
    clear hg h5
    go_wp2_with fail
    refine (account_some h6 (wf_i64 bk bk') (one_get _ _)).mono ?_
    rintro e w8 ⟨rfl, hg⟩
    replace h6 := h6.below hg
    replace hb := hb.trans (hg.mono hb.size)
    clear hg
    go_wp2_with fail
    have C := left_of (account_some (h6.below (below_alloc (Below.refl w8.heap.size w8) (.cells #[.int .u64 (a1 % 1000000 + a2 % 1000000), .int .u64 (a1 % 1000000 - a3 % (a1 % 1000000 + 1) + a2 % 1000000), .int .u64 (a3 % (a1 % 1000000 + 1))] 29))) (wf_i64 bk bk') (one_get _ _))
    rw [left_is (by omega) (by omega) (by omega) (by omega), show a1 % 1000000 + a2 % 1000000 - (a1 % 1000000 - a3 % (a1 % 1000000 + 1) + a2 % 1000000) - (a3 % (a1 % 1000000 + 1)) = 0 by omega] at C
    refine C.mono ?_
    clear C
    rintro e w9 ⟨rfl, hg⟩
    replace hb := (below_alloc hb _).trans (hg.mono (by have := hb.size; simp; omega))
    clear hg h6
    go_wp2
    go_ret
    exact ⟨rfl, hb⟩

set_option maxRecDepth 100000 in
theorem QuotaLess_lifted (os : Os) (started : os.Started) (H : Type) (enc : TypeId × Value → H) :
    ReturnsInHanded {} Try.checked os 3 .any (Rows.quotaLessSpec.pre6 enc Try.prog Try.f3 Rows.quotaLessRow.domain false) (Rows.quotaLessSpec.post enc Try.prog Try.f3 false true false false) := by
  refine returnsInHanded_of_change (C := Try.checked) own started (by kernel_rfl) Try.func3
    (ChangeSpec.witness6 (enc := enc) (C := Try.checked) false ⟨#[], #[.int .u8 0, .int .u64 0, .int .u64 0, .int .u64 0, .int .u64 0], []⟩ 8 (by kernel_rfl) (by kernel_rfl) (by kernel_rfl) (by kernel_rfl)) ?_
  intro W base args ds gs before hval0 hW hcnd _
  have hval : ∀ (j : Nat) t v, Try.f3.params[j]? = some t → args[j]? = some v → Value.okWide Try.prog W .any base t v := hval0
  have hW' := hW
  obtain ⟨p, q, hA0, hV, rfl, hfz, hnd⟩ := hW
  have hA : DataW.TrodAll enc Try.prog W 0 (fun _ => true) true Try.f3.params.toList args.toList ds p := hA0
  rw [Try.params3] at hA hval
  obtain ⟨v0, vs0, d0, ds0, p0, q0, hargs, rfl, rfl, h0, r0⟩ := trodAll_cons hA
  obtain ⟨v1, vs1, d1, ds1, p1, q1, rfl, rfl, rfl, h1, r1⟩ := trodAll_cons r0
  obtain ⟨v2, vs2, d2, ds2, p2, q2, rfl, rfl, rfl, h2, r2⟩ := trodAll_cons r1
  obtain ⟨v3, vs3, d3, ds3, p3, q3, rfl, rfl, rfl, h3, r3⟩ := trodAll_cons r2
  obtain ⟨v4, vs4, d4, ds4, p4, q4, rfl, rfl, rfl, h4, r4⟩ := trodAll_cons r3
  obtain ⟨rfl, rfl, rfl⟩ := trodAll_nil r4
  obtain rfl : args = #[v0, v1, v2, v3, v4] := by cases args; simp_all
  obtain ⟨a0, rfl, rfl, rfl, w0⟩ := open_int Try.underlying5 (hval 0 5 v0 rfl rfl) h0
  obtain ⟨a1, rfl, rfl, rfl, w1⟩ := open_int Try.underlying22 (hval 1 22 v1 rfl rfl) h1
  obtain ⟨a2, rfl, rfl, rfl, w2⟩ := open_int Try.underlying22 (hval 2 22 v2 rfl rfl) h2
  obtain ⟨a3, rfl, rfl, rfl, w3⟩ := open_int Try.underlying22 (hval 3 22 v3 rfl rfl) h3
  obtain ⟨a4, rfl, rfl, rfl, w4⟩ := open_int Try.underlying22 (hval 4 22 v4 rfl rfl) h4
  refine (QuotaLess_walk a0 a1 a2 a3 a4 w0 w1 w2 w3 w4 W).mono fun e W' ⟨he, hb⟩ => ?_
  subst he
  exact ⟨_, rfl, law_post laidOut (by kernel_rfl) rfl rfl Try.underlying4 rfl hW' hb⟩
theorem QuotaLess_holds : Rows.QuotaLessSaid :=
  OpenClaim.holds_of_wide 3 Try.f3 rfl rfl rfl rfl rfl rfl rfl ⟨rfl, rfl, rfl, rfl, rfl⟩ rfl rfl rfl rfl rfl (by kernel_rfl) Try.func3 (by kernel_rfl)
    (of_decide_eq_true (by kernel_rfl)) (by unfold Func.isWrapper; rw [if_neg (by decide +kernel)]; exact ⟨rfl, rfl⟩)
    (fun os started H enc _ => QuotaLess_lifted os started H enc)
end Go.Proofs.Ytoinlhjdmkeaeaa
