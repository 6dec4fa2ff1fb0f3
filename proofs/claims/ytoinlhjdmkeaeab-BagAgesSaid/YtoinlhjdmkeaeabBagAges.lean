/- The law BagAges: a message goes when it was there for more than so many ticks, and no sooner. -/
import Derived.Test.YtoinlhjdmkeaeabBagAw
namespace Go.Proofs.Ytoinlhjdmkeaeab
open Go.ChangeShapes Go.WideShapes Go.ChangeAt Go.RowKit

def agedMsgs (M j : Nat) : List Msg := if j ≤ M then [⟨0, 0, j, []⟩] else []
theorem aged_lt {M j : Nat} (h : j < M) : tickDo (agedMsgs M j) M = agedMsgs M (j + 1) := by
  simp only [agedMsgs, if_pos (show j ≤ M by omega), if_pos (show j + 1 ≤ M by omega), tickDo, List.map_cons, List.map_nil, Msg.older, List.filter_cons, List.filter_nil]
  rw [if_pos (decide_eq_true (by omega))]
  rfl
theorem aged_eq (M : Nat) : tickDo (agedMsgs M M) M = agedMsgs M (M + 1) := by
  simp only [agedMsgs, if_pos (Nat.le_refl M), if_neg (show ¬ M + 1 ≤ M by omega), tickDo, List.map_cons, List.map_nil, Msg.older, List.filter_cons, List.filter_nil]
  rw [if_neg (by simp; omega)]
theorem aged_gt {M j : Nat} (h : M < j) : tickDo (agedMsgs M j) M = agedMsgs M (j + 1) := by
  simp only [agedMsgs, if_neg (show ¬ j ≤ M by omega), if_neg (show ¬ j + 1 ≤ M by omega)]; rfl
theorem aged_len_le {M j : Nat} (h : j ≤ M) : (agedMsgs M j).length = 1 := by simp [agedMsgs, h]
theorem aged_len_gt {M j : Nat} (h : M < j) : (agedMsgs M j).length = 0 := by simp [agedMsgs, show ¬ j ≤ M by omega]

set_option maxHeartbeats 4000000 in
set_option maxRecDepth 100000 in
theorem BagAges_walk (t m : Int) (ht : (Lit.int .u8 t).wf = true) (hm : (Lit.int .u8 m).wf = true) (w : World) :
    Calls Try.prog 5 #[.int .u8 t, .int .u8 m] w fun e w' => e = .returned (.bool true) ∧ Below w.heap.size w w' := by
  have ht0 : 0 ≤ t ∧ t ≤ 255 := by simpa [Lit.wf, IntKind.min, IntKind.max, IntKind.signed, IntKind.bits] using ht
  have hm0 : 0 ≤ m ∧ m ≤ 255 := by simpa [Lit.wf, IntKind.min, IntKind.max, IntKind.signed, IntKind.bits] using hm
  obtain ⟨T, hT, hT60⟩ : ∃ T : Nat, t.tmod 60 = (T : Int) ∧ T < 60 := ⟨(t.tmod 60).toNat, by rw [Int.tmod_eq_emod_of_nonneg ht0.1]; omega, by rw [Int.tmod_eq_emod_of_nonneg ht0.1]; omega⟩
  obtain ⟨M, hM, hM40⟩ : ∃ M : Nat, m.tmod 40 = (M : Int) ∧ M < 40 := ⟨(m.tmod 40).toNat, by rw [Int.tmod_eq_emod_of_nonneg hm0.1]; omega, by rw [Int.tmod_eq_emod_of_nonneg hm0.1]; omega⟩
  clear ht hm ht0 hm0
  go_enter Try.func5, Try.ntmps5
  go_wp2_with fail
  refine (awake_any _).mono ?_
  rintro e w1 ⟨rfl, b1⟩
  go_wp2_with fail
  refine (new_ok (by decide) (by decide) _).mono ?_
  rintro e w2 ⟨b, rfl, h2, b2⟩
  go_wp2_with fail
  refine (put_ok h2 b2.size b2.size (mv := .slice none 0 0) (data := []) ⟨none, 0, rfl, by simp, by simp⟩ (f := 0) (t := 0) (by decide) (by decide) (by decide) (by decide) (by decide) (by decide)).mono ?_
  rintro e w3 ⟨rfl, h3, k3⟩
  obtain ⟨A, hA⟩ : ∃ A, A = w1.heap.size := ⟨_, rfl⟩
  rw [← hA] at h3 k3
  replace h3 : IsBag A A w3 b 1 (agedMsgs M 0) := by simpa [agedMsgs] using h3
  have hwA : w.heap.size ≤ A := by rw [hA]; exact b1.size
  have hB : Below w.heap.size w w3 := (b1.trans (b2.mono b1.size)).trans (k3.below.mono hwA)
  have hAs : A ≤ w3.heap.size := by have := b2.size; have := k3.below.size; omega
  have H3 := Lib.hid h3
  have HB := Lib.hid hB
  clear h2 b2 k3 b1 hA h3 hB
  go_wp2_with fail
  go_loopg [9, 10] T (fun k s9 _ wr => ∃ j : Nat, j ≤ T ∧ k = T - j ∧ s9 = .int .i64 j ∧ IsBag A A wr b 1 (agedMsgs M j) ∧ Below w.heap.size w wr ∧ A ≤ wr.heap.size)
  case atStart => exact ⟨0, Nat.zero_le _, rfl, rfl, H3.out, HB.out, hAs⟩
  case round =>
    obtain ⟨j, hj, hk, rfl, hI, hb, hAr⟩ := hrel
    have HK := Lib.hid hk
    have HBR := Lib.hid hb
    by_cases hlt : j < T
    · have TK := tick_any hI hAr (by intro x hx; unfold agedMsgs at hx; split at hx <;> simp at hx; subst hx; dsimp only; omega) (M : Int)
      have j1 : (j : Int) < (T : Int) := by omega
      rcases Nat.lt_trichotomy j M with hc | hc | hc
      · rw [aged_lt hc, aged_len_le (by omega), aged_len_le (by omega)] at TK
        have hne : ((j : Int) == (M : Int)) = false := by simp; omega
        clear hI hb hk
        go_wp2_with fail
        refine TK.mono ?_
        rintro e w4 ⟨rfl, h4, k4⟩
        have H4 := Lib.hid h4
        have K4 := Lib.hid k4
        clear h4 k4 TK
        go_wp2
        go_roundg (T - (j + 1))
        case measure => rw [HK.out]; omega
        case rel => exact ⟨j + 1, by omega, rfl, by go_num, H4.out, HBR.out.trans (K4.out.below.mono hwA), Nat.le_trans hAr K4.out.below.size⟩
      · subst hc
        rw [aged_eq, aged_len_le (by omega), aged_len_gt (by omega)] at TK
        clear hI hb hk
        go_wp2_with fail
        refine TK.mono ?_
        rintro e w4 ⟨rfl, h4, k4⟩
        have H4 := Lib.hid h4
        have K4 := Lib.hid k4
        clear h4 k4 TK
        go_wp2
        go_roundg (T - (j + 1))
        case measure => rw [HK.out]; omega
        case rel => exact ⟨j + 1, by omega, rfl, by go_num, H4.out, HBR.out.trans (K4.out.below.mono hwA), Nat.le_trans hAr K4.out.below.size⟩
      · rw [aged_gt hc, aged_len_gt (by omega), aged_len_gt (by omega)] at TK
        have hne : ((j : Int) == (M : Int)) = false := by simp; omega
        clear hI hb hk
        go_wp2_with fail
        refine TK.mono ?_
        rintro e w4 ⟨rfl, h4, k4⟩
        have H4 := Lib.hid h4
        have K4 := Lib.hid k4
        clear h4 k4 TK
        go_wp2
        go_roundg (T - (j + 1))
        case measure => rw [HK.out]; omega
        case rel => exact ⟨j + 1, by omega, rfl, by go_num, H4.out, HBR.out.trans (K4.out.below.mono hwA), Nat.le_trans hAr K4.out.below.size⟩
    · obtain rfl : j = T := by omega
      have L := hI.len
      clear hI hb hk
      by_cases hc : j ≤ M
      · rw [aged_len_le hc] at L
        have hle : ¬ (M : Int) < (j : Int) := by omega
        go_wp2_with fail
        refine L.mono ?_
        rintro e w4 ⟨rfl, rfl⟩
        go_wp2
        go_ret
        exact ⟨by simp; omega, HBR.out⟩
      · rw [aged_len_gt (by omega)] at L
        have hle : (M : Int) < (j : Int) := by omega
        go_wp2_with fail
        refine L.mono ?_
        rintro e w4 ⟨rfl, rfl⟩
        go_wp2
        go_ret
        exact ⟨by simp, HBR.out⟩

set_option maxRecDepth 100000 in
theorem BagAges_lifted (os : Os) (started : os.Started) (H : Type) (enc : TypeId × Value → H) :
    ReturnsInHanded {} Try.checked os 5 .any (Rows.bagAgesSpec.pre6 enc Try.prog Try.f5 Rows.bagAgesRow.domain false) (Rows.bagAgesSpec.post enc Try.prog Try.f5 false true false false) := by
  refine returnsInHanded_of_change (C := Try.checked) own started (by kernel_rfl) Try.func5
    (ChangeSpec.witness6 (enc := enc) (C := Try.checked) false ⟨#[], #[.int .u8 0, .int .u8 0], []⟩ 8 (by kernel_rfl) (by kernel_rfl) (by kernel_rfl) (by kernel_rfl)) ?_
  intro W base args ds gs before hval0 hW hcnd _
  have hval : ∀ (j : Nat) t v, Try.f5.params[j]? = some t → args[j]? = some v → Value.okWide Try.prog W .any base t v := hval0
  have hW' := hW
  obtain ⟨p, q, hA0, hV, rfl, hfz, hnd⟩ := hW
  have hA : DataW.TrodAll enc Try.prog W 0 (fun _ => true) true Try.f5.params.toList args.toList ds p := hA0
  rw [Try.params5] at hA hval
  obtain ⟨v0, vs0, d0, ds0, p0, q0, hargs, rfl, rfl, h0, r0⟩ := trodAll_cons hA
  obtain ⟨v1, vs1, d1, ds1, p1, q1, rfl, rfl, rfl, h1, r1⟩ := trodAll_cons r0
  obtain ⟨rfl, rfl, rfl⟩ := trodAll_nil r1
  obtain rfl : args = #[v0, v1] := by cases args; simp_all
  obtain ⟨a0, rfl, rfl, rfl, w0⟩ := open_int Try.underlying5 (hval 0 5 v0 rfl rfl) h0
  obtain ⟨a1, rfl, rfl, rfl, w1⟩ := open_int Try.underlying5 (hval 1 5 v1 rfl rfl) h1
  refine (BagAges_walk a0 a1 w0 w1 W).mono fun e W' ⟨he, hb⟩ => ?_
  subst he
  exact ⟨_, rfl, law_post laidOut (by kernel_rfl) rfl rfl Try.underlying4 rfl hW' hb⟩
theorem BagAges_holds : Rows.BagAgesSaid :=
  OpenClaim.holds_of_wide 5 Try.f5 rfl rfl rfl rfl rfl rfl rfl ⟨rfl, rfl, rfl, rfl, rfl⟩ rfl rfl rfl rfl rfl (by kernel_rfl) Try.func5 (by kernel_rfl)
    (of_decide_eq_true (by kernel_rfl)) (by unfold Func.isWrapper; rw [if_neg (by decide +kernel)]; exact ⟨rfl, rfl⟩)
    (fun os started H enc _ => BagAges_lifted os started H enc)
end Go.Proofs.Ytoinlhjdmkeaeab
