/- The example runs as told. -/
import Derived.Test.YtbbamnglnnanpaaScRank
import Derived.Test.YtbbamnglnnanpaaScMeth
namespace Go.Proofs.Ytbbamnglnnanpaa
open Go.RowKit

theorem intsIn_of {B n₀ : Nat} {w : World} {v : Value} {zs : List Int} (h : IntsIs B w v zs) (hB : ∀ k, v.ownBlock = some k → k < n₀) : IntsIn n₀ w v zs := by
  rcases h.2 with ⟨rfl, h0⟩ | ⟨g, cap, cur, rfl, hb, hg, _⟩
  · exact .inl ⟨⟨_, _, rfl⟩, List.eq_nil_of_length_eq_zero h0⟩
  · refine .inr ⟨g, 0, cap, rfl, hB g (by simp [Value.ownBlock]), fun j hj => ?_⟩
    rw [Nat.zero_add]
    exact (h.cellAt j (by simpa using hj)).trans (by simp [hj])
theorem IntsIs.at {B : Nat} {w : World} {a : Option Addr} {n c : Nat} {zs : List Int} (h : IntsIs B w (.slice a n c) zs) {k : Nat} {z : Int} (hk : zs[k]? = some z) : ∃ g, a = some ⟨g, 0, none⟩ ∧ g < w.heap.size ∧ w.cell? ⟨g, k, none⟩ = some (.int .i64 z) := own_at h (by rw [List.getElem?_map, hk]; rfl)
theorem aw_rank : rankOf (pts [(3, -20), (1, 1)]) [3, 2, 1] = [1, 2, 3] := by
  unfold rankOf
  simp [List.mergeSort, lt_rank, pts, aget]
theorem aw_outs : outs [(3, -20), (1, 1)] = [3] := by
  simp [outs, outOf]
set_option maxHeartbeats 4000000 in
set_option maxRecDepth 100000 in
theorem awake_any (w : World) : Calls Try.prog 7 #[] w fun e w' => e = .returned (.bool true) ∧ Below w.heap.size w w' := by
  go_enter Try.func7, Try.ntmps7
  go_wp2_with fail
  refine (new_any _).mono ?_
  rintro e w1 ⟨b, m, rfl, h1, hb1, hb, hm⟩
  have B1 := Lib.hid hb1
  clear hb1
  go_wp2_with fail
  refine (mfail_any h1 (who := 3) (by decide)).mono ?_
  rintro e w2 ⟨rfl, h2, g2⟩
  have B2 := Lib.hid (B1.out.grown g2 B1.out.size (fun k hk => by cases hk; exact hm))
  rw [show changeDo [] 3 (-10) = [(3, -10)] by decide] at h2
  clear h1 g2 B1
  go_wp2_with fail
  refine (mpass_any h2 (who := 1) (by decide)).mono ?_
  rintro e w3 ⟨rfl, h3, g3⟩
  have B3 := Lib.hid (B2.out.grown g3 B2.out.size (fun k hk => by cases hk; exact hm))
  rw [show changeDo [(3, -10)] 1 1 = [(3, -10), (1, 1)] by decide] at h3
  clear h2 g3 B2
  go_wp2_with fail
  refine (mfail_any h3 (who := 3) (by decide)).mono ?_
  rintro e w4 ⟨rfl, h4, g4⟩
  have B4 := Lib.hid (B3.out.grown g4 B3.out.size (fun k hk => by cases hk; exact hm))
  rw [show changeDo [(3, -10), (1, 1)] 3 (-10) = [(3, -20), (1, 1)] by decide] at h4
  rw [show withDo (pts [(3, -10), (1, 1)] 3) (-10) = -20 by decide]
  have H4 := Lib.hid h4
  clear h3 g4 B3 h4
  go_wp2_with fail
  have OU := out_any H4.out (by decide)
  rw [aw_outs] at OU
  refine OU.mono ?_
  rintro e w5 ⟨v5, rfl, y5, b5⟩
  obtain ⟨x5, c5, rfl⟩ := own_slice y5
  have H5 := Lib.hid (H4.out.below b5)
  have Y5 := Lib.hid y5
  have B5 := Lib.hid (B4.out.trans (b5.mono B4.out.size))
  clear OU y5 b5 H4 B4
  go_wp2_with fail
  have a5 := below_alloc (Below.refl w5.heap.size w5) (.cells #[.int .i64 3, .int .i64 2, .int .i64 1] 3)
  have hin : IntsIn (w5.alloc (.cells #[.int .i64 3, .int .i64 2, .int .i64 1] 3)).heap.size (w5.alloc (.cells #[.int .i64 3, .int .i64 2, .int .i64 1] 3)) (.slice (some ⟨w5.heap.size, 0, none⟩) 3 3) [3, 2, 1] :=
    .inr ⟨w5.heap.size, 0, 3, rfl, by simp, fun j hj => by
      obtain ⟨⟨q0, q1, q2⟩, _⟩ := blk3 (heap_at w5 (.cells #[.int .i64 3, .int .i64 2, .int .i64 1] 3))
      have : j = 0 ∨ j = 1 ∨ j = 2 := by simp at hj; omega
      rcases this with rfl | rfl | rfl
      · exact q0
      · exact q1
      · exact q2⟩
  have RK := rank_any (.inr ⟨b, m, _, rfl, H5.out.below a5, rfl⟩) hin (by decide) (by decide)
  rw [aw_rank] at RK
  refine RK.mono ?_
  rintro e w6 ⟨v6, rfl, y6, b6⟩
  obtain ⟨x6, c6, rfl⟩ := own_slice y6
  have b6' : Below w5.heap.size w5 w6 := a5.trans (b6.mono (by simp))
  have P6 := points_any (H5.out.below b6') (who := 1) (by decide)
  rw [show pts [(3, -20), (1, 1)] 1 = 1 by decide] at P6
  obtain ⟨g5, rfl, _, q5⟩ := (show IntsIs _ w6 _ _ from own_later Y5.out b6').at (k := 0) (z := 3) rfl
  obtain ⟨g6, rfl, _, r0⟩ := y6.at (k := 0) (z := 1) rfl
  obtain ⟨g6', e1, _, r1⟩ := y6.at (k := 1) (z := 2) rfl
  obtain ⟨g6'', e2, _, r2⟩ := y6.at (k := 2) (z := 3) rfl
  cases e1
  cases e2
  have B6 := Lib.hid (B5.out.trans (b6'.mono B5.out.size))
  have P6 := Lib.hid P6
  clear RK y6 b6 b6' a5 hin Y5
  go_wp2_with fail
  refine P6.out.mono ?_
  rintro e w7 ⟨rfl, rfl⟩
  go_wp2
  go_ret
  exact ⟨rfl, B6.out⟩
end Go.Proofs.Ytbbamnglnnanpaa
