/- The law ScoreBounds: points stay between the best and the worst; each thing that comes counts what it should in between. No conditions. -/
import Derived.Test.YtbbamnglnnanpaaScAw
import Derived.Deep.DeepCutAuto
import Derived.Deep.CutBlock
namespace Go.Proofs.Ytbbamnglnnanpaa
open Go.ChangeShapes Go.WideShapes Go.ChangeAt Go.RowKit

/-- A book that knows who alone, at so many points. -/
def Alone (l : List (Int × Int)) (who a : Int) : Prop := (l = [] ∧ a = 0) ∨ l = [(who, a)]
theorem Alone.pts {l : List (Int × Int)} {who a : Int} (h : Alone l who a) : pts l who = a := by
  rcases h with ⟨rfl, rfl⟩ | rfl <;> simp [Go.Proofs.Ytbbamnglnnanpaa.pts, aget]
theorem Alone.change {l : List (Int × Int)} {who a : Int} (h : Alone l who a) (more : Int) : changeDo l who more = [(who, withDo a more)] := by
  unfold changeDo
  rw [h.pts]
  rcases h with ⟨rfl, rfl⟩ | rfl <;> simp [aput]
theorem Alone.other {who a x : Int} (h : x ≠ who) : Go.Proofs.Ytbbamnglnnanpaa.pts [(who, a)] x = 0 := by
  simp [Go.Proofs.Ytbbamnglnnanpaa.pts, aget, Ne.symm h]
theorem Alone.outs (who a : Int) : Go.Proofs.Ytbbamnglnnanpaa.outs [(who, a)] = if a = -20 then [who] else [] := by
  unfold Go.Proofs.Ytbbamnglnnanpaa.outs outOf
  by_cases h : a = -20 <;> simp [h]
theorem wrap_wf (x : Int) : (Lit.int .i64 (wrap64 x)).wf = true := by
  unfold wrap64
  simp [Lit.wf, IntKind.min, IntKind.max, IntKind.signed, IntKind.bits]
  omega
theorem wrap_next {x : Int} (_h0 : -9223372036854775808 ≤ x) (_h1 : x ≤ 9223372036854775807) : wrap64 (x + 1) ≠ x := by
  unfold wrap64
  omega
theorem bounds64 {x : Int} (h : (Lit.int .i64 x).wf = true) : -9223372036854775808 ≤ x ∧ x ≤ 9223372036854775807 := by
  simpa [Lit.wf, IntKind.min, IntKind.max, IntKind.signed, IntKind.bits] using h
set_option maxHeartbeats 6000000 in
set_option maxRecDepth 100000 in
theorem ScoreBounds_walk (who : Int) (ad : Option Addr) (zs : List Int) (c : Nat) (w : World) (hw : (Lit.int .i64 who).wf = true) (hx : IntsAt w .u8 ad zs) (hz : ∀ n ∈ zs, (Lit.int .u8 n).wf = true) (hl : zs.length ≤ maxLen) :
    Calls Try.prog 3 #[.int .i64 who, .slice ad zs.length c] w fun e w' => e = .returned (.bool true) ∧ Below w.heap.size w w' := by
  have hl' : zs.length ≤ maxLen := hl
  unfold maxLen at hl'
  have X := Lib.hid hx
  have Z := Lib.hid hz
  have HW := Lib.hid hw
  obtain ⟨v0, v1⟩ := bounds64 hw
  obtain ⟨n, hn⟩ : ∃ n, n = zs.length := ⟨_, rfl⟩
  have HN := Lib.hid hn
  rw [← hn] at hl' ⊢
  clear hx hw hl hn hz
  by_cases hbig : 100 < n
  · have hb1 : (100 : Int) < (n : Int) := by omega
    go_enter Try.func3, Try.ntmps3
    go_wp2_with fail
    refine (awake_any _).mono ?_
    rintro e w1 ⟨rfl, b1⟩
    go_wp2
    go_ret
    exact ⟨rfl, b1⟩
  have hb1 : ¬ (100 : Int) < (n : Int) := by omega
  go_enter Try.func3, Try.ntmps3
  go_wp2_with fail
  refine (awake_any _).mono ?_
  rintro e w1 ⟨rfl, b1⟩
  go_wp2_with fail
  refine (new_any _).mono ?_
  rintro e w2 ⟨b, m, rfl, h2, b2, hb, hm⟩
  have hM : w.heap.size ≤ m := Nat.le_trans b1.size hm
  have B2 := Lib.hid (b1.trans (b2.mono b1.size))
  have I2 := Lib.hid h2
  clear b1 b2 hb hm h2
  go_wp2_with fail
  go_loopg [7, 8] n (fun k s7 s8 wr => ∃ (j : Nat) (l : List (Int × Int)) (a : Int), j ≤ n ∧ k = n - j ∧ s8 = .int .i64 j ∧ s7 = .int .i64 a ∧ IsBook wr b m l ∧ Alone l who a ∧ Below w.heap.size w wr)
  case atStart => exact ⟨0, [], 0, by omega, rfl, rfl, rfl, I2.out, .inl ⟨rfl, rfl⟩, B2.out⟩
  case round =>
    obtain ⟨j, l, a, hj, hk, rfl, rfl, hI, hA, hB⟩ := hrel
    have HK := Lib.hid hk
    obtain ⟨a0, a1⟩ := hI.ptsIn who
    rw [hA.pts] at a0 a1
    have AL := Lib.hid hA
    have WI := Lib.hid hI
    have BW := Lib.hid hB
    clear hk hI hA
    by_cases hlt : j < n
    · obtain ⟨bx, ox, rfl, hx1, hx2⟩ := X.out.at hB (by rw [← HN.out]; exact hlt)
      obtain ⟨z, hz⟩ : ∃ z, z = zs.getD j 0 := ⟨_, rfl⟩
      rw [← hz] at hx2
      have hzb : 0 ≤ z ∧ z ≤ 255 := by
        have : z ∈ zs := by rw [hz, List.getD_eq_getElem?_getD, List.getElem?_eq_getElem (by rw [← HN.out]; exact hlt)]; exact List.getElem_mem _
        simpa [Lit.wf, IntKind.min, IntKind.max, IntKind.signed, IntKind.bits] using Z.out z this
      obtain ⟨z0, z1⟩ := hzb
      have j0 : (0 : Int) ≤ (j : Int) := by omega
      have j1 : (j : Int) < (n : Int) := by omega
      have hrem : z.tmod 4 = z % 4 := Int.tmod_eq_emod_of_nonneg z0
      have t0 : 0 ≤ z % 4 := by omega
      have t1 : z % 4 < 4 := by omega
      have hbx : bx < wr.heap.size := Nat.lt_of_lt_of_le hx1 hB.size
      clear hz hB
      go_upto_block 2 with fail
      generalize z % 4 = t at *
      clear hrem
      go_cut [9, 10] (fun s9 s10 wx => ∃ M : Int, s9 = .int .i64 (withDo a M) ∧ s10 = .int .i64 M ∧ -10 ≤ M ∧ M ≤ 1 ∧ IsBook wx b m [(who, withDo a M)] ∧ wr.grownBy wx (some m))
      case first =>
        as_aux_lemma =>
          have four : t = 0 ∨ t = 1 ∨ t = 2 ∨ t = 3 := by omega
          clear hx2 t0 t1
          rcases four with rfl | rfl | rfl | rfl
          · go_wp2_with fail
            refine (mpass_any WI.out HW.out).mono ?_
            rintro e wx ⟨rfl, h1, g1⟩
            rw [AL.out.change] at h1
            rw [AL.out.pts]
            have H1 := Lib.hid h1
            have G1 := Lib.hid g1
            clear h1 g1
            go_wp2
            go_meet
            exact ⟨_, rfl, rfl, by omega, by omega, H1.out, G1.out⟩
          · go_wp2_with fail
            refine (mpass_any WI.out HW.out).mono ?_
            rintro e wx ⟨rfl, h1, g1⟩
            rw [AL.out.change] at h1
            rw [AL.out.pts]
            have H1 := Lib.hid h1
            have G1 := Lib.hid g1
            clear h1 g1
            go_wp2
            go_meet
            exact ⟨_, rfl, rfl, by omega, by omega, H1.out, G1.out⟩
          · go_wp2_with fail
            refine (mlate_any WI.out HW.out).mono ?_
            rintro e wx ⟨rfl, h1, g1⟩
            rw [AL.out.change] at h1
            rw [AL.out.pts]
            have H1 := Lib.hid h1
            have G1 := Lib.hid g1
            clear h1 g1
            go_wp2
            go_meet
            exact ⟨_, rfl, rfl, by omega, by omega, H1.out, G1.out⟩
          · go_wp2_with fail
            refine (mfail_any WI.out HW.out).mono ?_
            rintro e wx ⟨rfl, h1, g1⟩
            rw [AL.out.change] at h1
            rw [AL.out.pts]
            have H1 := Lib.hid h1
            have G1 := Lib.hid g1
            clear h1 g1
            go_wp2
            go_meet
            exact ⟨_, rfl, rfl, by omega, by omega, H1.out, G1.out⟩
      case rest =>
        as_aux_lemma =>
          obtain ⟨M, rfl, rfl, m0, m1, hI3, hG⟩ := hcut
          have B4 := Lib.hid (BW.out.grown hG BW.out.size (fun k hk => by cases hk; exact hM))
          have PA := points_any hI3 HW.out
          rw [show pts [(who, withDo a M)] who = withDo a M by simp [pts, aget]] at PA
          have PB : Hid (∀ x, (Lit.int .i64 x).wf = true → x ≠ who → Calls Try.prog 12 #[.pointer (some ⟨b, 0, none⟩), .int .i64 x] wc fun e w' => e = .returned (.int .i64 0) ∧ w' = wc) := fun x hx hne => by
            have := points_any hI3 hx
            rw [Alone.other hne] at this
            exact this
          have OU := out_any hI3 (by simp)
          rw [Alone.outs] at OU
          have I4 := Lib.hid hI3
          have PA := Lib.hid PA
          have OU := Lib.hid OU
          clear hI3 hG hx2 t0 t1 AL WI BW
          have five : (a = -20 ∧ withDo a M = -20) ∨ (a ≠ -20 ∧ 20 < a + M ∧ withDo a M = 20) ∨ (a ≠ -20 ∧ a + M < -20 ∧ withDo a M = -20) ∨ (a ≠ -20 ∧ ¬ 20 < a + M ∧ ¬ a + M < -20 ∧ withDo a M = a + M) := by
            unfold withDo
            split <;> omega
          generalize withDo a M = v at *
          rcases five with ⟨rfl, rfl⟩ | ⟨h1, h2, rfl⟩ | ⟨h1, h2, rfl⟩ | ⟨h1, h2, h3, rfl⟩
          · have hv : (-20 : Int) = -20 := rfl
            have q1 : ¬ (20 : Int) < -20 + M := by omega
            by_cases q2 : -20 + M < -20
            · go_wp2_with fail
              refine PA.out.mono ?_
              rintro e w4 ⟨rfl, rfl⟩
              go_wp2_with fail
              refine (PB.out (wrap64 (who + 1)) (wrap_wf _) (wrap_next v0 v1)).mono ?_
              rintro e w4 ⟨rfl, rfl⟩
              go_wp2_with fail
              refine OU.out.mono ?_
              rintro e w5 ⟨v5, rfl, y5, b5⟩
              have y5 := y5
              rw [if_pos hv] at y5
              obtain ⟨x5, c5, rfl⟩ := own_slice y5
              have I5 := Lib.hid (I4.out.below b5)
              have B5 := Lib.hid (B4.out.trans (b5.mono B4.out.size))
              clear y5 b5
              go_wp2
              go_roundg (n - (j + 1))
              case measure => rw [HK.out]; omega
              case rel => exact ⟨j + 1, _, _, by omega, rfl, by go_num, rfl, I5.out, .inr (by first | rfl | rw [hv]), B5.out⟩
            · go_wp2_with fail
              refine PA.out.mono ?_
              rintro e w4 ⟨rfl, rfl⟩
              go_wp2_with fail
              refine (PB.out (wrap64 (who + 1)) (wrap_wf _) (wrap_next v0 v1)).mono ?_
              rintro e w4 ⟨rfl, rfl⟩
              go_wp2_with fail
              refine OU.out.mono ?_
              rintro e w5 ⟨v5, rfl, y5, b5⟩
              have y5 := y5
              rw [if_pos hv] at y5
              obtain ⟨x5, c5, rfl⟩ := own_slice y5
              have I5 := Lib.hid (I4.out.below b5)
              have B5 := Lib.hid (B4.out.trans (b5.mono B4.out.size))
              clear y5 b5
              go_wp2
              go_roundg (n - (j + 1))
              case measure => rw [HK.out]; omega
              case rel => exact ⟨j + 1, _, _, by omega, rfl, by go_num, rfl, I5.out, .inr (by first | rfl | rw [hv]), B5.out⟩
          · have hv : ¬ (20 : Int) = -20 := by decide
            have q1 : (a == -20) = false := by simpa using h1
            go_wp2_with fail
            refine PA.out.mono ?_
            rintro e w4 ⟨rfl, rfl⟩
            go_wp2_with fail
            refine (PB.out (wrap64 (who + 1)) (wrap_wf _) (wrap_next v0 v1)).mono ?_
            rintro e w4 ⟨rfl, rfl⟩
            go_wp2_with fail
            refine OU.out.mono ?_
            rintro e w5 ⟨v5, rfl, y5, b5⟩
            have y5 := y5
            rw [if_neg hv] at y5
            obtain ⟨x5, c5, rfl⟩ := own_slice y5
            have I5 := Lib.hid (I4.out.below b5)
            have B5 := Lib.hid (B4.out.trans (b5.mono B4.out.size))
            clear y5 b5
            go_wp2
            go_roundg (n - (j + 1))
            case measure => rw [HK.out]; omega
            case rel => exact ⟨j + 1, _, _, by omega, rfl, by go_num, rfl, I5.out, .inr (by first | rfl | rw [hv]), B5.out⟩
          · have hv : (-20 : Int) = -20 := rfl
            have q1 : (a == -20) = false := by simpa using h1
            have q2 : ¬ (20 : Int) < a + M := by omega
            go_wp2_with fail
            refine PA.out.mono ?_
            rintro e w4 ⟨rfl, rfl⟩
            go_wp2_with fail
            refine (PB.out (wrap64 (who + 1)) (wrap_wf _) (wrap_next v0 v1)).mono ?_
            rintro e w4 ⟨rfl, rfl⟩
            go_wp2_with fail
            refine OU.out.mono ?_
            rintro e w5 ⟨v5, rfl, y5, b5⟩
            have y5 := y5
            rw [if_pos hv] at y5
            obtain ⟨x5, c5, rfl⟩ := own_slice y5
            have I5 := Lib.hid (I4.out.below b5)
            have B5 := Lib.hid (B4.out.trans (b5.mono B4.out.size))
            clear y5 b5
            go_wp2
            go_roundg (n - (j + 1))
            case measure => rw [HK.out]; omega
            case rel => exact ⟨j + 1, _, _, by omega, rfl, by go_num, rfl, I5.out, .inr (by first | rfl | rw [hv]), B5.out⟩
          · have q1 : (a == -20) = false := by simpa using h1
            by_cases hv : a + M = -20
            · have q2 : (a + M == -20) = true := by simpa using hv
              go_wp2_with fail
              refine PA.out.mono ?_
              rintro e w4 ⟨rfl, rfl⟩
              go_wp2_with fail
              refine (PB.out (wrap64 (who + 1)) (wrap_wf _) (wrap_next v0 v1)).mono ?_
              rintro e w4 ⟨rfl, rfl⟩
              go_wp2_with fail
              refine OU.out.mono ?_
              rintro e w5 ⟨v5, rfl, y5, b5⟩
              have y5 := y5
              rw [if_pos hv] at y5
              obtain ⟨x5, c5, rfl⟩ := own_slice y5
              have I5 := Lib.hid (I4.out.below b5)
              have B5 := Lib.hid (B4.out.trans (b5.mono B4.out.size))
              clear y5 b5
              go_wp2
              go_roundg (n - (j + 1))
              case measure => rw [HK.out]; omega
              case rel => exact ⟨j + 1, _, _, by omega, rfl, by go_num, rfl, I5.out, .inr (by first | rfl | rw [hv]), B5.out⟩
            · have q2 : (a + M == -20) = false := by simpa using hv
              go_wp2_with fail
              refine PA.out.mono ?_
              rintro e w4 ⟨rfl, rfl⟩
              go_wp2_with fail
              refine (PB.out (wrap64 (who + 1)) (wrap_wf _) (wrap_next v0 v1)).mono ?_
              rintro e w4 ⟨rfl, rfl⟩
              go_wp2_with fail
              refine OU.out.mono ?_
              rintro e w5 ⟨v5, rfl, y5, b5⟩
              have y5 := y5
              rw [if_neg hv] at y5
              obtain ⟨x5, c5, rfl⟩ := own_slice y5
              have I5 := Lib.hid (I4.out.below b5)
              have B5 := Lib.hid (B4.out.trans (b5.mono B4.out.size))
              clear y5 b5
              go_wp2
              go_roundg (n - (j + 1))
              case measure => rw [HK.out]; omega
              case rel => exact ⟨j + 1, _, _, by omega, rfl, by go_num, rfl, I5.out, .inr (by first | rfl | rw [hv]), B5.out⟩
    · obtain rfl : j = n := by omega
      clear hB
      go_wp2
      go_ret
      exact ⟨rfl, BW.out⟩
set_option maxRecDepth 100000 in
theorem ScoreBounds_lifted (os : Os) (started : os.Started) (H : Type) (enc : TypeId × Value → H) :
    ReturnsInHanded {} Try.checked os 3 .any (Rows.scoreBoundsSpec.pre6 enc Try.prog Try.f3 Rows.scoreBoundsRow.domain false) (Rows.scoreBoundsSpec.post enc Try.prog Try.f3 false true false false) := by
  refine returnsInHanded_of_change (C := Try.checked) own started (by kernel_rfl) Try.func3
    (ChangeSpec.witness6 (enc := enc) (C := Try.checked) false ⟨#[], #[.int .i64 0, .slice none 0 0], []⟩ 8 (by kernel_rfl) (by kernel_rfl) (by kernel_rfl) (by kernel_rfl)) ?_
  intro W base args ds gs before hval0 hW hcnd _
  have hval : ∀ (j : Nat) t v, Try.f3.params[j]? = some t → args[j]? = some v → Value.okWide Try.prog W .any base t v := hval0
  have hW' := hW
  obtain ⟨p, q, hA0, hV, rfl, hfz, hnd⟩ := hW
  have hA : DataW.TrodAll enc Try.prog W 0 (fun _ => true) true Try.f3.params.toList args.toList ds p := hA0
  rw [Try.params3] at hA hval
  obtain ⟨v0, vs0, d0, ds0, p0, q0, hargs, rfl, rfl, h0, r0⟩ := trodAll_cons hA
  obtain ⟨v1, vs1, d1, ds1, p1, q1, rfl, rfl, rfl, h1, r1⟩ := trodAll_cons r0
  obtain ⟨rfl, rfl, rfl⟩ := trodAll_nil r1
  obtain rfl : args = #[v0, v1] := by cases args; simp_all
  obtain ⟨a0, rfl, rfl, rfl, w0⟩ := open_int Try.underlying3 (hval 0 3 v0 rfl rfl) h0
  obtain ⟨a1, z1, c1, rfl, x1, y1, l1⟩ := ints_of Try.underlying22 Try.underlying5 (by kernel_rfl) (hval 1 22 v1 rfl rfl) h1
  refine (ScoreBounds_walk a0 a1 z1 c1 W w0 x1 y1 l1).mono fun e W' ⟨he, hb⟩ => ?_
  subst he
  exact ⟨_, rfl, law_post laidOut (by kernel_rfl) rfl rfl Try.underlying4 rfl hW' hb⟩
theorem ScoreBounds_holds : Rows.ScoreBoundsSaid :=
  OpenClaim.holds_of_wide 3 Try.f3 rfl rfl rfl rfl rfl rfl rfl ⟨rfl, rfl, rfl, rfl, rfl⟩ rfl rfl rfl rfl rfl (by kernel_rfl) Try.func3 (by kernel_rfl)
    (of_decide_eq_true (by kernel_rfl)) (by unfold Func.isWrapper; rw [if_neg (by decide +kernel)]; exact ⟨rfl, rfl⟩)
    (fun os started H enc _ => ScoreBounds_lifted os started H enc)
end Go.Proofs.Ytbbamnglnnanpaa
