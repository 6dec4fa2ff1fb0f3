/- A book of one account. -/
import Derived.Test.YtoinlhjdmkeaeaaGrant
namespace Go.Proofs.Ytoinlhjdmkeaeaa

theorem bookDo_one (F : Acc → Int → Acc × Int) (k : Int) (a : Acc) (n : Int) : bookDo F [(k, a)] k n = if (F a n).2 = 0 then ([(k, (F a n).1)], 0) else ([(k, a)], (F a n).2) := by
  simp [bookDo, aget, aput]
theorem u64_wrap {n : Int} (h : 0 ≤ n) (h' : n ≤ 18446744073709551615) : IntKind.u64.wrap n = n := by
  simp [IntKind.wrap, IntKind.signed, IntKind.bits]; omega
theorem one_grant_new {k n : Int} (h0 : 0 ≤ k) (h1 : k < 64) (hn : 0 ≤ n) : grantDo [] k n = ([(k, ⟨n, 0, 0⟩)], 0) := by
  unfold grantDo
  rw [if_neg (by omega)]
  simp only [aget, aput, if_true]
  rw [bookDo_one]
  have : Acc.grant ⟨0, 0, 0⟩ n = (⟨n, 0, 0⟩, 0) := by
    unfold Acc.grant; exact if_neg (by show ¬ n < IntKind.u64.wrap (0 + 0); rw [u64_wrap (by omega) (by omega)]; omega)
  simp [this]
theorem one_grant {k g r u n : Int} (h0 : 0 ≤ k) (h1 : k < 64) (hr : 0 ≤ r) (hu : 0 ≤ u) (hs : r + u ≤ 18446744073709551615) (hn : r + u ≤ n) : grantDo [(k, ⟨g, r, u⟩)] k n = ([(k, ⟨n, r, u⟩)], 0) := by
  unfold grantDo
  rw [if_neg (by omega), if_neg (by simp [aget]), bookDo_one]
  have : ¬ n < IntKind.u64.wrap (r + u) := by rw [u64_wrap (by omega) (by omega)]; omega
  simp [Acc.grant, this]
theorem one_grant_no {k g r u n : Int} (h0 : 0 ≤ k) (h1 : k < 64) (hr : 0 ≤ r) (hu : 0 ≤ u) (hs : r + u ≤ 18446744073709551615) (hn : n < r + u) : grantDo [(k, ⟨g, r, u⟩)] k n = ([(k, ⟨g, r, u⟩)], 34) := by
  unfold grantDo
  rw [if_neg (by omega), if_neg (by simp [aget]), bookDo_one]
  have : n < IntKind.u64.wrap (r + u) := by rw [u64_wrap (by omega) (by omega)]; omega
  simp [Acc.grant, this]
theorem left_is {g r u : Int} (hr : 0 ≤ r) (hu : 0 ≤ u) (hs : r + u ≤ g) (hg : g ≤ 18446744073709551615) : (Acc.mk g r u).left = g - r - u := by
  show IntKind.u64.wrap (IntKind.u64.wrap (g - r) - u) = _
  rw [u64_wrap (n := g - r) (by omega) (by omega), u64_wrap (by omega) (by omega)]
theorem one_reserve {k g r u n : Int} (hr : 0 ≤ r) (hu : 0 ≤ u) (hg : g ≤ 18446744073709551615) (hn0 : 0 ≤ n) (hn : r + u + n ≤ g) : bookDo Acc.reserve [(k, ⟨g, r, u⟩)] k n = ([(k, ⟨g, r + n, u⟩)], 0) := by
  rw [bookDo_one]
  have : ¬ (Acc.mk g r u).left < n := by rw [left_is hr hu (by omega) hg]; omega
  simp [Acc.reserve, this, u64_wrap (n := r + n) (by omega) (by omega)]
theorem one_reserve_no {k g r u n : Int} (hr : 0 ≤ r) (hu : 0 ≤ u) (hs : r + u ≤ g) (hg : g ≤ 18446744073709551615) (hn : g < r + u + n) : bookDo Acc.reserve [(k, ⟨g, r, u⟩)] k n = ([(k, ⟨g, r, u⟩)], 34) := by
  rw [bookDo_one]
  have : (Acc.mk g r u).left < n := by rw [left_is hr hu hs hg]; omega
  simp [Acc.reserve, this]
theorem one_use {k g r u n : Int} (hr : r ≤ 18446744073709551615) (hu : 0 ≤ u) (hn0 : 0 ≤ n) (hn : n ≤ r) (hs : u + n ≤ 18446744073709551615) : bookDo Acc.use [(k, ⟨g, r, u⟩)] k n = ([(k, ⟨g, r - n, u + n⟩)], 0) := by
  rw [bookDo_one]
  have : ¬ r < n := by omega
  simp [Acc.use, this, u64_wrap (n := r - n) (by omega) (by omega), u64_wrap (n := u + n) (by omega) (by omega)]
theorem one_use_no {k g r u n : Int} (hn : r < n) : bookDo Acc.use [(k, ⟨g, r, u⟩)] k n = ([(k, ⟨g, r, u⟩)], 36) := by
  rw [bookDo_one]
  simp [Acc.use, hn]
theorem one_release {k g r u n : Int} (hr : r ≤ 18446744073709551615) (hn0 : 0 ≤ n) (hn : n ≤ r) : bookDo Acc.release [(k, ⟨g, r, u⟩)] k n = ([(k, ⟨g, r - n, u⟩)], 0) := by
  rw [bookDo_one]
  have : ¬ r < n := by omega
  simp [Acc.release, this, u64_wrap (n := r - n) (by omega) (by omega)]
theorem one_free {k g r u n : Int} (hr : u ≤ 18446744073709551615) (hn0 : 0 ≤ n) (hn : n ≤ u) : bookDo Acc.free [(k, ⟨g, r, u⟩)] k n = ([(k, ⟨g, r, u - n⟩)], 0) := by
  rw [bookDo_one]
  have : ¬ u < n := by omega
  simp [Acc.free, this, u64_wrap (n := u - n) (by omega) (by omega)]
theorem one_get (k : Int) (a : Acc) : aget [(k, a)] k = some a := by simp [aget]
theorem wf_i64 {k : Int} (h0 : 0 ≤ k) (h1 : k < 64) : (Lit.int .i64 k).wf = true := by
  simp [Lit.wf, IntKind.min, IntKind.max, IntKind.signed, IntKind.bits]; omega
end Go.Proofs.Ytoinlhjdmkeaeaa
