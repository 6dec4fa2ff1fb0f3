/- The document's example runs as told. -/
import Derived.Test.YtoinlhjdmkeaeaaGrant
namespace Go.Proofs.Ytoinlhjdmkeaeaa
open Go.RowKit

theorem aw1 : grantDo [] 3 10 = ([(3, ⟨10, 0, 0⟩)], 0) := by rfl
theorem aw2 : bookDo Acc.reserve [(3, ⟨10, 0, 0⟩)] 3 4 = ([(3, ⟨10, 4, 0⟩)], 0) := by rfl
theorem aw3 : bookDo Acc.use [(3, ⟨10, 4, 0⟩)] 3 3 = ([(3, ⟨10, 1, 3⟩)], 0) := by rfl
theorem aw4 : bookDo Acc.reserve [(3, ⟨10, 1, 3⟩)] 3 7 = ([(3, ⟨10, 1, 3⟩)], 34) := by rfl
theorem aw5 : bookDo Acc.free [(3, ⟨10, 1, 3⟩)] 2 1 = ([(3, ⟨10, 1, 3⟩)], 32) := by rfl

set_option maxHeartbeats 1000000 in
set_option maxRecDepth 100000 in
theorem awake_any (w : World) : Calls Try.prog 7 #[] w fun e w' => e = .returned (.bool true) ∧ Below w.heap.size w w' := by
  go_enter Try.func7, Try.ntmps7
  go_wp2_with fail
  refine (new_any _).mono ?_
  rintro e w1 ⟨b, m, rfl, h1, hb, hb1, hb2⟩
  go_wp2_with fail
  refine (grant_meth h1 (by decide) aw1).mono ?_
  rintro e w2 ⟨rfl, h2, hg⟩
  replace hb := hb.trans (below_grown hg hb.size hb2)
  clear hg h1
  go_wp2_with fail
  refine (reserve_meth h2 (by decide) aw2).mono ?_
  rintro e w3 ⟨rfl, h3, hg⟩
  replace hb := hb.trans (below_grown hg hb.size hb2)
  clear hg h2
  go_wp2_with fail
  refine (use_meth h3 (by decide) aw3).mono ?_
  rintro e w4 ⟨rfl, h4, hg⟩
  replace hb := hb.trans (below_grown hg hb.size hb2)
  clear hg h3
  go_wp2_with fail
  refine (reserve_meth h4 (by decide) aw4).mono ?_
  rintro e w5 ⟨rfl, h5, hg⟩
  replace hb := hb.trans (below_grown hg hb.size hb2)
  clear hg h4
  go_wp2_with fail
  refine (account_some h5 (by decide) (a := ⟨10, 1, 3⟩) rfl).mono ?_
  rintro e w6 ⟨rfl, hg⟩
  have h6 := h5.below hg
  replace hb := hb.trans (hg.mono hb.size)
  clear hg h5
  go_wp2_with fail
  have hloc := heap_at w6 (.cells #[.int .u64 10, .int .u64 1, .int .u64 3] 29)
  have h7 := h6.below (below_alloc (Below.refl w6.heap.size w6) (.cells #[.int .u64 10, .int .u64 1, .int .u64 3] 29))
  refine (left_of (account_some h7 (by decide) (a := ⟨10, 1, 3⟩) rfl)).mono ?_
  rintro e w7 ⟨rfl, hg⟩
  have h8 := h7.below hg
  replace hb := (below_alloc hb _).trans (hg.mono (by have := hb.size; simp; omega))
  clear h7 h6 hg
  go_wp2_with fail
  refine (free_meth h8 (by decide) aw5).mono ?_
  rintro e w8 ⟨rfl, h9, hg⟩
  replace hb := hb.trans (below_grown hg hb.size hb2)
  go_wp2
  go_ret
  exact ⟨rfl, hb⟩
end Go.Proofs.Ytoinlhjdmkeaeaa
