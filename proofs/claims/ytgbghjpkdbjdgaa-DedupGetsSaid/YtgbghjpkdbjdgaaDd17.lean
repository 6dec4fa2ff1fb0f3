/- The codec: the reader's Uint. -/
import Derived.Test.YtgbghjpkdbjdgaaDd16
namespace Go.Proofs.Ytgbghjpkdbjdgaa
open Go.RowKit
open Extern.Stop (cell)

set_option maxRecDepth 100000 in
set_option maxHeartbeats 4000000 in
theorem ruint_any {w : World} {x : Nat} {zs : List UInt8} {er : Int} (h : Rdr w x zs er) :
    Calls Try.prog 26 #[.pointer (some ⟨x, 0, none⟩)] w fun e w' => e = .returned (.int .u64 (uintOf zs er).1) ∧ Rdr w' x (uintOf zs er).2.1 (uintOf zs er).2.2 ∧ w.grownBy w' (some x) := by
  have HR := Lib.hid h
  obtain ⟨U, hU⟩ : ∃ U, U = uintOf zs er := ⟨_, rfl⟩
  rw [← hU]
  have UU := Lib.hid hU
  clear h hU
  have q := eql_nil_bytes
  go_enter Try.func26, Try.ntmps26
  go_wp2
  go_step3
  go_wp2
  go_step3
  go_wp2
  go_loopg [3, 4] 10 (fun k s3 s4 wr => ∃ (i acc : Nat) (ys : List UInt8) (e2 : Int), k = 10 - i ∧ i ≤ 9 ∧ acc < 128 ^ i ∧ s3 = .int .u64 acc ∧ s4 = .int .i64 i ∧ (if e2 = 0 then getU i acc ys else (0, ys, e2)) = U ∧ Rdr wr x ys e2 ∧ w.grownBy wr (some x))
  case atStart => exact ⟨0, 0, zs, er, rfl, by omega, by decide, rfl, rfl, UU.out.symm, HR.out, grown_refl _ _⟩
  case round =>
    obtain ⟨i, acc, ys, e2, hk, hi, hacc, rfl, rfl, hu, hr, hg⟩ := hrel
    have HK := Lib.hid hk
    have HA := Lib.hid hacc
    have HU := Lib.hid hu
    have R2 := Lib.hid hr
    have G2 := Lib.hid hg
    obtain ⟨ii, hii⟩ : ∃ ii : Int, ii = (i : Int) := ⟨_, rfl⟩
    rw [← hii]
    have IE := Lib.hid hii
    have i0 : (0 : Int) ≤ ii := by omega
    have i1 : ii ≤ 9 := by omega
    have hi9 := Lib.hid hi
    clear hk hacc hu hr hg HR hii hi
    by_cases hbad : e2 ≠ 0 ∨ ys.length < 1
    · have TK := Lib.hid (take_nil R2.out 1 hbad)
      have UB : Hid (U = (0, ys, if e2 = 0 then 10 else e2)) := Lib.hid (by rw [← HU.out]; exact uint_bad hbad)
      clear hbad
      go_wp2_with fail
      refine TK.out.mono ?_
      rintro e w3 ⟨rfl, h3, g3⟩
      have H3 := Lib.hid h3
      have G3 := Lib.hid g3
      clear h3 g3 TK
      go_wp2
      rw [Exit.noGoto_ret]
      go_ret
      rw [UB.out]
      exact ⟨rfl, H3.out, grown_trans G2.out G3.out⟩
    · obtain ⟨z, r, hzr⟩ : ∃ z r, ys = z :: r := by
        cases ys with
        | nil => exact absurd (Or.inr (by simp)) hbad
        | cons z r => exact ⟨z, r, rfl⟩
      subst hzr
      obtain rfl : e2 = 0 := by
        by_cases h : e2 = 0
        · exact h
        · exact absurd (Or.inl h) hbad
      have TK := Lib.hid (take_some R2.out 1 (by simp) (Nat.le_refl _))
      obtain ⟨zn, hzn⟩ : ∃ zn, zn = z.toNat := ⟨_, rfl⟩
      have hz8 := Lib.hid (show zn < 256 by rw [hzn]; exact z.toNat_lt)
      obtain ⟨zi, hzi⟩ : ∃ zi : Int, zi = (zn : Int) := ⟨_, rfl⟩
      have ZI := Lib.hid hzi
      have U3 : Hid ((if (i = 9 ∧ 1 < zn) ∨ (0 < i ∧ zn = 0) then (0, r, 11) else if zn < 128 then (acc + zn * 128 ^ i, r, 0) else getU (i + 1) (acc + zn % 128 * 128 ^ i) r) = U) := Lib.hid (by
        have := HU.out
        rw [if_pos rfl, getU] at this
        rw [hzn]
        exact this)
      have ZN := Lib.hid hzn
      clear hbad HU hzn hzi
      go_wp2_with fail
      refine TK.out.mono ?_
      rintro e w3 ⟨b, off, rfl, h3, r3, g3⟩
      obtain ⟨b2, o2, e3, _, c3⟩ := h3 0 z rfl
      cases e3
      rw [Nat.add_zero] at c3
      have cz : w3.cell? ⟨b, off, none⟩ = some (.int .u8 zi) := by rw [ZI.out, ZN.out]; exact c3
      have R3 : Hid (Rdr w3 x r 0) := Lib.hid r3
      have G3 := Lib.hid (grown_trans G2.out g3)
      have FA := Lib.hid (fail_rd R3.out 11)
      clear h3 r3 g3 c3 TK R2 G2
      go_upto_region 8 with fail
      by_cases hb : (i = 9 ∧ 1 < zn) ∨ (0 < i ∧ zn = 0)
      · have U4 : Hid (U = (0, r, 11)) := Lib.hid (by rw [← U3.out, if_pos hb])
        have gd : ((ii == 9) = true ∧ decide (1 < zi) = true) ∨ ((ii == 9) = true ∧ decide (1 < zi) = false ∧ decide (0 < ii) = true ∧ (zi == 0) = true) ∨ ((ii == 9) = false ∧ decide (0 < ii) = true ∧ (zi == 0) = true) := by
          have := IE.out
          have := ZI.out
          simp only [beq_iff_eq, decide_eq_true_eq, decide_eq_false_iff_not, beq_eq_false_iff_ne, ne_eq]
          omega
        clear hb U3
        rcases gd with ⟨d1, d2⟩ | ⟨d1, d2, d3, d4⟩ | ⟨d1, d3, d4⟩
        all_goals
          clear i0 i1
          go_wp2_with fail
        all_goals
          refine FA.out.mono ?_
          rintro e w4 ⟨rfl, h4, g4⟩
          have H4 := Lib.hid h4
          have G4 := Lib.hid g4
          clear h4 g4 FA
          go_wp2
          rw [Exit.noGoto_ret]
          go_ret
          rw [U4.out]
          exact ⟨rfl, H4.out, grown_trans G3.out G4.out⟩
      · have U4 : Hid ((if zn < 128 then (acc + zn * 128 ^ i, r, 0) else getU (i + 1) (acc + zn % 128 * 128 ^ i) r) = U) := Lib.hid (by rw [← U3.out, if_neg hb])
        have gd : ((ii == 9) = true ∧ decide (1 < zi) = false ∧ decide (0 < ii) = true ∧ (zi == 0) = false) ∨ ((ii == 9) = false ∧ decide (0 < ii) = false) ∨ ((ii == 9) = false ∧ decide (0 < ii) = true ∧ (zi == 0) = false) := by
          have := IE.out
          have := ZI.out
          simp only [beq_iff_eq, decide_eq_true_eq, decide_eq_false_iff_not, beq_eq_false_iff_ne, ne_eq]
          omega
        have HB := Lib.hid hb
        have I0 := Lib.hid i0
        have I1 := Lib.hid i1
        clear hb i0 i1 U3
        rcases gd with ⟨d1, d2, d3, d4⟩ | ⟨d1, d3⟩ | ⟨d1, d3, d4⟩
        all_goals go_upto_region 11 with fail
        all_goals
          clear d1 d3
          have i0 := I0.out
          have i1 := I1.out
          go_upto_region 12 with fail
          have OE : bits .or .u64 (acc : Int) (IntKind.u64.wrap (IntKind.u64.wrap (bits .and .u8 zi 127) * 2 ^ (7 * ii).toNat)) = ((acc + zn % 128 * 128 ^ i : Nat) : Int) := by
            rw [ZI.out, IE.out]
            exact or_step HA.out hi9.out hz8.out (by have := HB.out; omega)
          rw [OE]
          obtain ⟨V, hV⟩ : ∃ V, V = acc + zn % 128 * 128 ^ i := ⟨_, rfl⟩
          rw [← hV]
          have VV := Lib.hid hV
          clear OE hV
          by_cases hs : zn < 128
          · have hs1 : decide (zi < 128) = true := decide_eq_true (by have := ZI.out; omega)
            have U5 : Hid (U = (V, r, 0)) := Lib.hid (by rw [← U4.out, if_pos hs, VV.out, Nat.mod_eq_of_lt hs])
            clear hs i0 i1
            go_wp2
            rw [Exit.noGoto_ret]
            go_ret
            rw [U5.out]
            exact ⟨rfl, R3.out, G3.out⟩
          · have hs1 : decide (zi < 128) = false := decide_eq_false (by have := ZI.out; omega)
            have HS := Lib.hid hs
            clear hs
            go_wp2
            go_roundg (10 - (i + 1))
            case measure => rw [HK.out]; have := hi9.out; omega
            case rel =>
              have h9 : i ≠ 9 := by
                intro e
                have := HB.out
                have := HS.out
                omega
              refine ⟨i + 1, V, r, 0, rfl, by have := hi9.out; omega, ?_, rfl, by rw [IE.out]; go_num, ?_, R3.out, G3.out⟩
              · have : zn % 128 * 128 ^ i ≤ 127 * 128 ^ i := Nat.mul_le_mul_right _ (by omega)
                have := HA.out
                rw [VV.out, Nat.pow_succ]
                omega
              · rw [if_pos rfl, ← U4.out, if_neg HS.out, VV.out]
end Go.Proofs.Ytgbghjpkdbjdgaa
