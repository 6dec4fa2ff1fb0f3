/- The law ScoreTrusts: nobody is out who passed alone; two fails on end, from nothing on, are enough; who is out stays so; one that is none knows nobody. No conditions. -/
import Derived.Test.YtbbamnglnnanpaaScSame
import Derived.Deep.RegionHeld3
namespace Go.Proofs.Ytbbamnglnnanpaa
open Go.ChangeShapes Go.WideShapes Go.ChangeAt Go.RowKit

theorem bounds8 {x : Int} (h : (Lit.int .u8 x).wf = true) : 0 ≤ x ∧ x ≤ 255 := by
  simpa [Lit.wf, IntKind.min, IntKind.max, IntKind.signed, IntKind.bits] using h
theorem same_lit {wd : World} {B c : Nat} {x : Option Addr} {who : Int} (yd : IntsIs B wd (.slice x 1 c) [who]) :
    Calls Try.prog 18 #[.slice x 1 c, .slice (some ⟨wd.heap.size, 0, none⟩) 1 1] (wd.alloc (.cells #[.int .i64 who] 3)) fun e w' => e = .returned (.bool true) ∧ ∃ q, w' = (wd.alloc (.cells #[.int .i64 who] 3)).drewN q :=
  same_eq (own_later yd (below_alloc (Below.refl _ _) _)) (own_lit wd [who] (by simp [maxLen])) (by simp)
theorem rank_three (who : Int) : ∃ a b c, rankOf (fun _ => 0) [who, 5, 1] = [a, b, c] ∧ a ≤ b ∧ b ≤ c := by
  have hp : (rankOf (fun _ => 0) [who, 5, 1]).Pairwise (· ≤ ·) := by
    unfold rankOf
    refine (List.pairwise_mergeSort ?_ ?_ _).imp ?_
    · intro a b c h1 h2; simp only [lt_rank] at *; simp at *; omega
    · intro a b; simp only [lt_rank]; simp; omega
    · intro a b h; simp only [lt_rank] at h; simp at h; exact h
  have hl : (rankOf (fun _ => 0) [who, 5, 1]).length = 3 := by unfold rankOf; rw [List.length_mergeSort]; rfl
  generalize rankOf (fun _ => 0) [who, 5, 1] = r at *
  match r, hl with
  | [a, b, c], _ => exact ⟨a, b, c, rfl, by simp at hp; omega, by simp at hp; omega⟩
set_option maxHeartbeats 6000000 in
set_option maxRecDepth 100000 in
theorem ScoreTrusts_walk (who passes late : Int) (hw : (Lit.int .i64 who).wf = true) (hp : (Lit.int .u8 passes).wf = true) (hlt : (Lit.int .u8 late).wf = true) (w : World) :
    Calls Try.prog 5 #[.int .i64 who, .int .u8 passes, .int .u8 late] w fun e w' => e = .returned (.bool true) ∧ Below w.heap.size w w' := by
  have HW := Lib.hid hw
  obtain ⟨p0, p1⟩ := bounds8 hp
  obtain ⟨l0, l1⟩ := bounds8 hlt
  obtain ⟨P, rfl⟩ := Int.eq_ofNat_of_zero_le p0
  obtain ⟨T, hT, hT12⟩ : ∃ T : Nat, late.tmod 12 = (T : Int) ∧ T < 12 := ⟨(late.tmod 12).toNat, by rw [Int.tmod_eq_emod_of_nonneg l0]; omega, by rw [Int.tmod_eq_emod_of_nonneg l0]; omega⟩
  obtain ⟨U, hU, hU50⟩ : ∃ U : Nat, (P : Int).tmod 50 = (U : Int) ∧ U < 50 := ⟨((P : Int).tmod 50).toNat, by rw [Int.tmod_eq_emod_of_nonneg p0]; omega, by rw [Int.tmod_eq_emod_of_nonneg p0]; omega⟩
  have P1 : P ≤ 255 := by omega
  clear hw hp hlt
  go_enter Try.func5, Try.ntmps5
  go_wp2_with fail
  refine (awake_any _).mono ?_
  rintro e w1 ⟨rfl, b1⟩
  go_wp2_with fail
  refine (new_any _).mono ?_
  rintro e w2 ⟨b, m, rfl, h2, b2, hb, hm⟩
  have hM : w.heap.size ≤ m := Nat.le_trans b1.size hm
  have B2 := Lib.hid (b1.trans (b2.mono b1.size))
  have I2 := Lib.hid h2
  clear b1 b2 hb hm h2
  go_wp2_with fail
  go_loopg [9] P (fun k s9 wr => ∃ (j : Nat) (l : List (Int × Int)) (a : Int), j ≤ P ∧ k = P - j ∧ s9 = .int .i64 j ∧ IsBook wr b m l ∧ Alone l who a ∧ 0 ≤ a ∧ a ≤ 20 ∧ Below w.heap.size w wr)
  case atStart => exact ⟨0, [], 0, by omega, rfl, rfl, I2.out, .inl ⟨rfl, rfl⟩, by omega, by omega, B2.out⟩
  case round =>
    obtain ⟨j, l, a, hj, hk, rfl, hI, hA, a0, a1, hB⟩ := hrel
    have HK := Lib.hid hk
    have MP := mpass_any hI HW.out
    rw [hA.change, hA.pts] at MP
    have v0 : 1 ≤ withDo a 1 ∧ withDo a 1 ≤ 20 := by unfold withDo; split <;> omega
    obtain ⟨v0, v1⟩ := v0
    have BW := Lib.hid hB
    generalize withDo a 1 = v at *
    have MP := Lib.hid MP
    clear hk hI hA hB a0 a1 I2 B2
    by_cases hlt : j < P
    · have q1 : (j : Int) < (P : Int) := by omega
      have q2 : ¬ (20 : Int) < v := by omega
      have q3 : ¬ v < 1 := by omega
      go_wp2_with fail
      refine MP.out.mono ?_
      rintro e w3 ⟨rfl, h3, g3⟩
      have OU := out_any h3 (by simp)
      rw [Alone.outs, if_neg (by omega)] at OU
      have I3 := Lib.hid h3
      have B3 := Lib.hid (BW.out.grown g3 BW.out.size (fun k hk => by cases hk; exact hM))
      have OU := Lib.hid OU
      clear h3 g3
      go_wp2_with fail
      refine OU.out.mono ?_
      rintro e w5 ⟨v5, rfl, y5, b5⟩
      obtain ⟨x5, c5, rfl⟩ := own_slice y5
      have I5 := Lib.hid (I3.out.below b5)
      have B5 := Lib.hid (B3.out.trans (b5.mono B3.out.size))
      clear y5 b5
      go_wp2
      go_roundg (P - (j + 1))
      case measure => rw [HK.out]; omega
      case rel => exact ⟨j + 1, _, v, by omega, rfl, by go_num, I5.out, .inr rfl, by omega, by omega, B5.out⟩
    · obtain rfl : j = P := by omega
      clear hlt v0 v1 MP hM
      go_wp2_with fail
      refine (new_any _).mono ?_
      rintro e w2 ⟨b2, m2, rfl, h2, c2, hb2, hm2⟩
      have hM : w.heap.size ≤ m2 := Nat.le_trans BW.out.size hm2
      have B2 := Lib.hid (BW.out.trans (c2.mono BW.out.size))
      have I2 := Lib.hid h2
      clear c2 hb2 hm2 h2 BW
      go_wp2_with fail
      go_loopg [12] T (fun k s12 wr => ∃ (i : Nat) (l : List (Int × Int)), i ≤ T ∧ k = T - i ∧ s12 = .int .i64 i ∧ IsBook wr b2 m2 l ∧ Alone l who (max (-3 * (i : Int)) (-20)) ∧ Below w.heap.size w wr)
      case atStart => exact ⟨0, [], by omega, rfl, rfl, I2.out, .inl ⟨rfl, by decide⟩, B2.out⟩
      case round =>
        obtain ⟨i, l, hi, hk2, rfl, hI, hA, hB⟩ := hrel
        have HK2 := Lib.hid hk2
        have AL := Lib.hid hA
        have WI := Lib.hid hI
        have BW := Lib.hid hB
        clear hk2 hI hA hB I2 B2
        by_cases hlt : i < T
        · have q1 : (i : Int) < (T : Int) := by omega
          have ML := mlate_any WI.out HW.out
          rw [AL.out.change, AL.out.pts] at ML
          rw [show withDo (max (-3 * (i : Int)) (-20)) (-3) = max (-3 * ((i + 1 : Nat) : Int)) (-20) by unfold withDo; split <;> omega] at ML
          have ML := Lib.hid ML
          go_wp2_with fail
          refine ML.out.mono ?_
          rintro e w3 ⟨rfl, h3, g3⟩
          have I3 := Lib.hid h3
          have B3 := Lib.hid (BW.out.grown g3 BW.out.size (fun k hk => by cases hk; exact hM))
          clear h3 g3
          go_wp2
          go_roundg (T - (i + 1))
          case measure => rw [HK2.out]; omega
          case rel => exact ⟨i + 1, _, by omega, rfl, by go_num, I3.out, .inr rfl, B3.out⟩
        · obtain rfl : i = T := by omega
          clear hlt
          have OU := out_any WI.out AL.out.len
          rw [AL.out.outLen] at OU
          have OU := Lib.hid OU
          clear AL
          go_wp2_with fail
          refine OU.out.mono ?_
          rintro e w3 ⟨v3, rfl, y3, b3⟩
          have B3 := Lib.hid (BW.out.trans (b3.mono BW.out.size))
          clear OU WI b3
          obtain ⟨L3, hL3, hL3'⟩ : ∃ L3 : Nat, (if max (-3 * (i : Int)) (-20) = -20 then [who] else []).length = L3 ∧ (0 < L3 ↔ 7 ≤ i) := by
            by_cases h : max (-3 * (i : Int)) (-20) = -20
            · rw [if_pos h]; exact ⟨1, rfl, by omega⟩
            · rw [if_neg h]; exact ⟨0, rfl, by omega⟩
          obtain ⟨x3, c3, rfl⟩ := own_slice y3
          rw [hL3]
          clear y3 hL3
          rcases (show (0 < L3 ∧ 7 ≤ i) ∨ (¬ 0 < L3 ∧ ¬ 7 ≤ i) by omega) with ⟨h0, h7⟩ | ⟨h0, h7⟩
          · have q0 : (0 : Int) < (L3 : Int) := by omega
            have q7 : (7 : Int) ≤ (i : Int) := by omega
            have d7 : decide (7 ≤ i) = true := by simpa using h7
            have d0 : decide (0 < L3) = true := by simpa using h0
            clear hL3'
            go_wp2_with fail
            refine (new_any _).mono ?_
            rintro e w4 ⟨b3, m3, rfl, h4, c4, hb4, hm4⟩
            have hM3 : w.heap.size ≤ m3 := Nat.le_trans B3.out.size hm4
            have B4 := Lib.hid (B3.out.trans (c4.mono B3.out.size))
            have MF := mfail_any h4 HW.out
            rw [(show Alone [] who 0 from .inl ⟨rfl, rfl⟩).change, (show Alone [] who 0 from .inl ⟨rfl, rfl⟩).pts, show withDo 0 (-10) = -10 by decide] at MF
            have MF := Lib.hid MF
            clear c4 hb4 hm4 h4 B3 hM
            go_wp2_with fail
            refine MF.out.mono ?_
            rintro e w5 ⟨rfl, h5, g5⟩
            have B5 := Lib.hid (B4.out.grown g5 B4.out.size (fun k hk => by cases hk; exact hM3))
            have OU := out_any h5 (by simp)
            rw [Alone.outs, if_neg (by decide)] at OU
            have OU := Lib.hid OU
            have I5 := Lib.hid h5
            clear g5 h5 MF B4
            go_wp2_with fail
            refine OU.out.mono ?_
            rintro e w6 ⟨v6, rfl, y6, b6⟩
            obtain ⟨x6, c6, rfl⟩ := own_slice y6
            have h6 := I5.out.below b6
            have B6 := Lib.hid (B5.out.trans (b6.mono B5.out.size))
            have MF := mfail_any h6 HW.out
            rw [(show Alone [(who, -10)] who (-10) from .inr rfl).change, (show Alone [(who, -10)] who (-10) from .inr rfl).pts, show withDo (-10) (-10) = -20 by decide] at MF
            have MF := Lib.hid MF
            clear y6 b6 h6 OU I5 B5
            go_wp2_with fail
            refine MF.out.mono ?_
            rintro e w7 ⟨rfl, h7, g7⟩
            have B7 := Lib.hid (B6.out.grown g7 B6.out.size (fun k hk => by cases hk; exact hM3))
            have I7 := Lib.hid h7
            clear g7 h7 MF B6
            go_wp2_with fail
            go_loopg [14] U (fun k s14 wr => ∃ (q : Nat), q ≤ U ∧ k = U - q ∧ s14 = .int .i64 q ∧ IsBook wr b3 m3 [(who, -20)] ∧ Below w.heap.size w wr)
            case atStart => exact ⟨0, by omega, rfl, rfl, I7.out, B7.out⟩
            case round =>
              obtain ⟨q, hq, hk3, rfl, hI, hB⟩ := hrel
              have HK3 := Lib.hid hk3
              have WI := Lib.hid hI
              have BW := Lib.hid hB
              clear hk3 hI hB I7 B7
              by_cases hlt : q < U
              · have q1 : (q : Int) < (U : Int) := by omega
                have MP := mpass_any WI.out HW.out
                rw [(show Alone [(who, -20)] who (-20) from .inr rfl).change, (show Alone [(who, -20)] who (-20) from .inr rfl).pts, show withDo (-20) 1 = -20 by decide] at MP
                have MP := Lib.hid MP
                go_wp2_with fail
                refine MP.out.mono ?_
                rintro e w8 ⟨rfl, h8, g8⟩
                have I8 := Lib.hid h8
                have B8 := Lib.hid (BW.out.grown g8 BW.out.size (fun k hk => by cases hk; exact hM3))
                clear h8 g8
                go_wp2
                go_roundg (U - (q + 1))
                case measure => rw [HK3.out]; omega
                case rel => exact ⟨q + 1, by omega, rfl, by go_num, I8.out, B8.out⟩
              · obtain rfl : q = U := by omega
                clear hlt
                go_wp2_with fail
                refine (forget_none _ _).mono ?_
                rintro e w8 ⟨rfl, rfl⟩
                go_wp2_with fail
                have a8 := below_alloc (Below.refl w8.heap.size w8) (.cells #[.int .i64 who, .int .i64 5, .int .i64 1] 3)
                have hin : IntsIn (w8.alloc (.cells #[.int .i64 who, .int .i64 5, .int .i64 1] 3)).heap.size (w8.alloc (.cells #[.int .i64 who, .int .i64 5, .int .i64 1] 3)) (.slice (some ⟨w8.heap.size, 0, none⟩) 3 3) [who, 5, 1] :=
                  .inr ⟨w8.heap.size, 0, 3, rfl, by simp, fun j hj => by
                    obtain ⟨⟨q0, q1, q2⟩, _⟩ := blk3 (heap_at w8 (.cells #[.int .i64 who, .int .i64 5, .int .i64 1] 3))
                    have : j = 0 ∨ j = 1 ∨ j = 2 := by simp at hj; omega
                    rcases this with rfl | rfl | rfl
                    · exact q0
                    · exact q1
                    · exact q2⟩
                have RK := rank_any (p := none) (f := fun _ => 0) (.inl ⟨rfl, rfl⟩) hin (by intro x hx; simp at hx; rcases hx with rfl | rfl | rfl; exact HW.out; decide; decide) (by simp)
                obtain ⟨ra, rb, rc, hr, hab, hbc⟩ := rank_three who
                rw [hr] at RK
                refine RK.mono ?_
                rintro e w9 ⟨v9, rfl, y9, b9⟩
                obtain ⟨x9, c9, rfl⟩ := own_slice y9
                have b9' : Below w8.heap.size w8 w9 := a8.trans (b9.mono (by simp))
                have B9 := Lib.hid (BW.out.trans (b9'.mono BW.out.size))
                have I9 := Lib.hid (WI.out.below b9')
                obtain ⟨g9, rfl, hg9, r0⟩ := y9.at (k := 0) (z := ra) rfl
                obtain ⟨g9', e1, _, r1⟩ := y9.at (k := 1) (z := rb) rfl
                obtain ⟨g9'', e2, _, r2⟩ := y9.at (k := 2) (z := rc) rfl
                cases e1
                cases e2
                clear RK y9 b9 b9' a8 hin BW WI hr
                have OG : Hid (∀ W', Below w9.heap.size w9 W' → Calls Try.prog 13 #[.pointer (some ⟨b3, 0, none⟩)] W' fun e w' => ∃ v', e = .returned v' ∧ IntsIs W'.heap.size w' v' [who] ∧ Below W'.heap.size W' w' ∧ Below w9.heap.size w9 w') := fun W' hb => by
                  have O := out_any (I9.out.below hb) (by simp)
                  rw [Alone.outs, if_pos rfl] at O
                  exact O.mono fun e w' ⟨v', h1, h2, h3⟩ => ⟨v', h1, h2, h3, hb.trans (h3.mono hb.size)⟩
                clear I9
                go_wp2_with fail
                go_region_held3 (fun w' => w'.cell? ⟨g9, 0, none⟩ = some (.int .i64 ra) ∧ w'.cell? ⟨g9, 1, none⟩ = some (.int .i64 rb) ∧ w'.cell? ⟨g9, 2, none⟩ = some (.int .i64 rc)) (first | exact ⟨rd0, rd1, rd2⟩ | go_keep | (refine ⟨?_, ?_, ?_⟩ <;> go_keep) | (refine ⟨?_, ?_, ?_⟩ <;> (simp [*]))) (first | (go_at_call_of 13 (Value.pointer (some ⟨b3, 0, none⟩)); refine (OG.out _ (by first | exact below_drew (Below.refl _ _) | exact below_drew (below_alloc (Below.refl _ _) _))).mono ?_; rintro e wd ⟨vd, rfl, yd, bd, bd9⟩; obtain ⟨xd, cd, rfl⟩ := own_slice yd; have rd0 := (bd9.cell (p := ⟨g9, 0, none⟩) hg9).trans r0; have rd1 := (bd9.cell (p := ⟨g9, 1, none⟩) hg9).trans r1; have rd2 := (bd9.cell (p := ⟨g9, 2, none⟩) hg9).trans r2; have hzd : g9 < wd.heap.size := (Nat.lt_of_lt_of_le hg9 bd9.size); have SM := Lib.hid (same_lit yd); have YD := Lib.hid yd; have BD := Lib.hid bd; have BD9 := Lib.hid bd9; clear yd bd bd9) | (go_at_call 18; (with_reducible refine SM.out.mono ?_); rintro e we ⟨rfl, qq, rfl⟩) | (go_at_call 18; refine (same_eq (zs := [who]) (u := .slice xd 1 cd) (v := .slice (some ⟨w9.heap.size, 0, none⟩) 1 1) YD.out (own_later (w := (w9.alloc (.cells #[.int .i64 who] 3)).drew) (own_lit w9 [who] (by simp [maxLen])) BD.out) (by simp)).mono ?_; rintro e we ⟨rfl, qq, rfl⟩) | (go_at_call 9; refine (mpass_none _ _).mono ?_; rintro e we ⟨rfl, rfl⟩) | (go_at_call 12; refine (points_none _ _).mono ?_; rintro e we ⟨rfl, rfl⟩) | (go_at_call_of 13 (Value.pointer none); refine (out_none _).mono ?_; rintro e we ⟨rfl, rfl⟩))
                all_goals go_wp2
                all_goals go_ret
                all_goals
                  refine ⟨rfl, ?_⟩
                  have BF := B9.out.trans (BD9.out.mono B9.out.size)
                  first
                    | exact below_drewN (below_alloc BF _) _
                    | exact below_drewN BF _
          · have q0 : ¬ (0 : Int) < (L3 : Int) := by omega
            have q7 : ¬ (7 : Int) ≤ (i : Int) := by omega
            have d7 : decide (7 ≤ i) = false := by simpa using h7
            have d0 : decide (0 < L3) = false := by simpa using h0
            clear hL3' h0
            go_wp2_with fail
            refine (new_any _).mono ?_
            rintro e w4 ⟨b3, m3, rfl, h4, c4, hb4, hm4⟩
            have hM3 : w.heap.size ≤ m3 := Nat.le_trans B3.out.size hm4
            have B4 := Lib.hid (B3.out.trans (c4.mono B3.out.size))
            have MF := mfail_any h4 HW.out
            rw [(show Alone [] who 0 from .inl ⟨rfl, rfl⟩).change, (show Alone [] who 0 from .inl ⟨rfl, rfl⟩).pts, show withDo 0 (-10) = -10 by decide] at MF
            have MF := Lib.hid MF
            clear c4 hb4 hm4 h4 B3 hM
            go_wp2_with fail
            refine MF.out.mono ?_
            rintro e w5 ⟨rfl, h5, g5⟩
            have B5 := Lib.hid (B4.out.grown g5 B4.out.size (fun k hk => by cases hk; exact hM3))
            have OU := out_any h5 (by simp)
            rw [Alone.outs, if_neg (by decide)] at OU
            have OU := Lib.hid OU
            have I5 := Lib.hid h5
            clear g5 h5 MF B4
            go_wp2_with fail
            refine OU.out.mono ?_
            rintro e w6 ⟨v6, rfl, y6, b6⟩
            obtain ⟨x6, c6, rfl⟩ := own_slice y6
            have h6 := I5.out.below b6
            have B6 := Lib.hid (B5.out.trans (b6.mono B5.out.size))
            have MF := mfail_any h6 HW.out
            rw [(show Alone [(who, -10)] who (-10) from .inr rfl).change, (show Alone [(who, -10)] who (-10) from .inr rfl).pts, show withDo (-10) (-10) = -20 by decide] at MF
            have MF := Lib.hid MF
            clear y6 b6 h6 OU I5 B5
            go_wp2_with fail
            refine MF.out.mono ?_
            rintro e w7 ⟨rfl, h7, g7⟩
            have B7 := Lib.hid (B6.out.grown g7 B6.out.size (fun k hk => by cases hk; exact hM3))
            have I7 := Lib.hid h7
            clear g7 h7 MF B6
            go_wp2_with fail
            go_loopg [14] U (fun k s14 wr => ∃ (q : Nat), q ≤ U ∧ k = U - q ∧ s14 = .int .i64 q ∧ IsBook wr b3 m3 [(who, -20)] ∧ Below w.heap.size w wr)
            case atStart => exact ⟨0, by omega, rfl, rfl, I7.out, B7.out⟩
            case round =>
              obtain ⟨q, hq, hk3, rfl, hI, hB⟩ := hrel
              have HK3 := Lib.hid hk3
              have WI := Lib.hid hI
              have BW := Lib.hid hB
              clear hk3 hI hB I7 B7
              by_cases hlt : q < U
              · have q1 : (q : Int) < (U : Int) := by omega
                have MP := mpass_any WI.out HW.out
                rw [(show Alone [(who, -20)] who (-20) from .inr rfl).change, (show Alone [(who, -20)] who (-20) from .inr rfl).pts, show withDo (-20) 1 = -20 by decide] at MP
                have MP := Lib.hid MP
                go_wp2_with fail
                refine MP.out.mono ?_
                rintro e w8 ⟨rfl, h8, g8⟩
                have I8 := Lib.hid h8
                have B8 := Lib.hid (BW.out.grown g8 BW.out.size (fun k hk => by cases hk; exact hM3))
                clear h8 g8
                go_wp2
                go_roundg (U - (q + 1))
                case measure => rw [HK3.out]; omega
                case rel => exact ⟨q + 1, by omega, rfl, by go_num, I8.out, B8.out⟩
              · obtain rfl : q = U := by omega
                clear hlt
                go_wp2_with fail
                refine (forget_none _ _).mono ?_
                rintro e w8 ⟨rfl, rfl⟩
                go_wp2_with fail
                have a8 := below_alloc (Below.refl w8.heap.size w8) (.cells #[.int .i64 who, .int .i64 5, .int .i64 1] 3)
                have hin : IntsIn (w8.alloc (.cells #[.int .i64 who, .int .i64 5, .int .i64 1] 3)).heap.size (w8.alloc (.cells #[.int .i64 who, .int .i64 5, .int .i64 1] 3)) (.slice (some ⟨w8.heap.size, 0, none⟩) 3 3) [who, 5, 1] :=
                  .inr ⟨w8.heap.size, 0, 3, rfl, by simp, fun j hj => by
                    obtain ⟨⟨q0, q1, q2⟩, _⟩ := blk3 (heap_at w8 (.cells #[.int .i64 who, .int .i64 5, .int .i64 1] 3))
                    have : j = 0 ∨ j = 1 ∨ j = 2 := by simp at hj; omega
                    rcases this with rfl | rfl | rfl
                    · exact q0
                    · exact q1
                    · exact q2⟩
                have RK := rank_any (p := none) (f := fun _ => 0) (.inl ⟨rfl, rfl⟩) hin (by intro x hx; simp at hx; rcases hx with rfl | rfl | rfl; exact HW.out; decide; decide) (by simp)
                obtain ⟨ra, rb, rc, hr, hab, hbc⟩ := rank_three who
                rw [hr] at RK
                refine RK.mono ?_
                rintro e w9 ⟨v9, rfl, y9, b9⟩
                obtain ⟨x9, c9, rfl⟩ := own_slice y9
                have b9' : Below w8.heap.size w8 w9 := a8.trans (b9.mono (by simp))
                have B9 := Lib.hid (BW.out.trans (b9'.mono BW.out.size))
                have I9 := Lib.hid (WI.out.below b9')
                obtain ⟨g9, rfl, hg9, r0⟩ := y9.at (k := 0) (z := ra) rfl
                obtain ⟨g9', e1, _, r1⟩ := y9.at (k := 1) (z := rb) rfl
                obtain ⟨g9'', e2, _, r2⟩ := y9.at (k := 2) (z := rc) rfl
                cases e1
                cases e2
                clear RK y9 b9 b9' a8 hin BW WI hr
                have OG : Hid (∀ W', Below w9.heap.size w9 W' → Calls Try.prog 13 #[.pointer (some ⟨b3, 0, none⟩)] W' fun e w' => ∃ v', e = .returned v' ∧ IntsIs W'.heap.size w' v' [who] ∧ Below W'.heap.size W' w' ∧ Below w9.heap.size w9 w') := fun W' hb => by
                  have O := out_any (I9.out.below hb) (by simp)
                  rw [Alone.outs, if_pos rfl] at O
                  exact O.mono fun e w' ⟨v', h1, h2, h3⟩ => ⟨v', h1, h2, h3, hb.trans (h3.mono hb.size)⟩
                clear I9
                go_wp2_with fail
                go_region_held3 (fun w' => w'.cell? ⟨g9, 0, none⟩ = some (.int .i64 ra) ∧ w'.cell? ⟨g9, 1, none⟩ = some (.int .i64 rb) ∧ w'.cell? ⟨g9, 2, none⟩ = some (.int .i64 rc)) (first | exact ⟨rd0, rd1, rd2⟩ | go_keep | (refine ⟨?_, ?_, ?_⟩ <;> go_keep) | (refine ⟨?_, ?_, ?_⟩ <;> (simp [*]))) (first | (go_at_call_of 13 (Value.pointer (some ⟨b3, 0, none⟩)); refine (OG.out _ (by first | exact below_drew (Below.refl _ _) | exact below_drew (below_alloc (Below.refl _ _) _))).mono ?_; rintro e wd ⟨vd, rfl, yd, bd, bd9⟩; obtain ⟨xd, cd, rfl⟩ := own_slice yd; have rd0 := (bd9.cell (p := ⟨g9, 0, none⟩) hg9).trans r0; have rd1 := (bd9.cell (p := ⟨g9, 1, none⟩) hg9).trans r1; have rd2 := (bd9.cell (p := ⟨g9, 2, none⟩) hg9).trans r2; have hzd : g9 < wd.heap.size := (Nat.lt_of_lt_of_le hg9 bd9.size); have SM := Lib.hid (same_lit yd); have YD := Lib.hid yd; have BD := Lib.hid bd; have BD9 := Lib.hid bd9; clear yd bd bd9) | (go_at_call 18; (with_reducible refine SM.out.mono ?_); rintro e we ⟨rfl, qq, rfl⟩) | (go_at_call 18; refine (same_eq (zs := [who]) (u := .slice xd 1 cd) (v := .slice (some ⟨w9.heap.size, 0, none⟩) 1 1) YD.out (own_later (w := (w9.alloc (.cells #[.int .i64 who] 3)).drew) (own_lit w9 [who] (by simp [maxLen])) BD.out) (by simp)).mono ?_; rintro e we ⟨rfl, qq, rfl⟩) | (go_at_call 9; refine (mpass_none _ _).mono ?_; rintro e we ⟨rfl, rfl⟩) | (go_at_call 12; refine (points_none _ _).mono ?_; rintro e we ⟨rfl, rfl⟩) | (go_at_call_of 13 (Value.pointer none); refine (out_none _).mono ?_; rintro e we ⟨rfl, rfl⟩))
                all_goals go_wp2
                all_goals go_ret
                all_goals
                  refine ⟨rfl, ?_⟩
                  have BF := B9.out.trans (BD9.out.mono B9.out.size)
                  first
                    | exact below_drewN (below_alloc BF _) _
                    | exact below_drewN BF _
set_option maxRecDepth 100000 in
theorem ScoreTrusts_lifted (os : Os) (started : os.Started) (H : Type) (enc : TypeId × Value → H) :
    ReturnsInHanded {} Try.checked os 5 .any (Rows.scoreTrustsSpec.pre6 enc Try.prog Try.f5 Rows.scoreTrustsRow.domain false) (Rows.scoreTrustsSpec.post enc Try.prog Try.f5 false true false false) := by
  refine returnsInHanded_of_change (C := Try.checked) own started (by kernel_rfl) Try.func5
    (ChangeSpec.witness6 (enc := enc) (C := Try.checked) false ⟨#[], #[.int .i64 0, .int .u8 0, .int .u8 0], []⟩ 8 (by kernel_rfl) (by kernel_rfl) (by kernel_rfl) (by kernel_rfl)) ?_
  intro W base args ds gs before hval0 hW hcnd _
  have hval : ∀ (j : Nat) t v, Try.f5.params[j]? = some t → args[j]? = some v → Value.okWide Try.prog W .any base t v := hval0
  have hW' := hW
  obtain ⟨p, q, hA0, hV, rfl, hfz, hnd⟩ := hW
  have hA : DataW.TrodAll enc Try.prog W 0 (fun _ => true) true Try.f5.params.toList args.toList ds p := hA0
  rw [Try.params5] at hA hval
  obtain ⟨v0, vs0, d0, ds0, p0, q0, hargs, rfl, rfl, h0, r0⟩ := trodAll_cons hA
  obtain ⟨v1, vs1, d1, ds1, p1, q1, rfl, rfl, rfl, h1, r1⟩ := trodAll_cons r0
  obtain ⟨v2, vs2, d2, ds2, p2, q2, rfl, rfl, rfl, h2, r2⟩ := trodAll_cons r1
  obtain ⟨rfl, rfl, rfl⟩ := trodAll_nil r2
  obtain rfl : args = #[v0, v1, v2] := by cases args; simp_all
  obtain ⟨a0, rfl, rfl, rfl, w0⟩ := open_int Try.underlying3 (hval 0 3 v0 rfl rfl) h0
  obtain ⟨a1, rfl, rfl, rfl, w1⟩ := open_int Try.underlying5 (hval 1 5 v1 rfl rfl) h1
  obtain ⟨a2, rfl, rfl, rfl, w2⟩ := open_int Try.underlying5 (hval 2 5 v2 rfl rfl) h2
  refine (ScoreTrusts_walk a0 a1 a2 w0 w1 w2 W).mono fun e W' ⟨he, hb⟩ => ?_
  subst he
  exact ⟨_, rfl, law_post laidOut (by kernel_rfl) rfl rfl Try.underlying4 rfl hW' hb⟩
theorem ScoreTrusts_holds : Rows.ScoreTrustsSaid :=
  OpenClaim.holds_of_wide 5 Try.f5 rfl rfl rfl rfl rfl rfl rfl ⟨rfl, rfl, rfl, rfl, rfl⟩ rfl rfl rfl rfl rfl (by kernel_rfl) Try.func5 (by kernel_rfl)
    (of_decide_eq_true (by kernel_rfl)) (by unfold Func.isWrapper; rw [if_neg (by decide +kernel)]; exact ⟨rfl, rfl⟩)
    (fun os started H enc _ => ScoreTrusts_lifted os started H enc)
end Go.Proofs.Ytbbamnglnnanpaa
