/- The document's accounts, walked. -/
import Derived.Test.YtoinlhjdmkeaeaaAcc
namespace Go.Proofs.Ytoinlhjdmkeaeaa
open Go.RowKit

structure RefA where
  is : Bool
  g : Int
  r : Int
  u : Int
abbrev RefA.v (a : RefA) : Value := .agg #[.bool a.is, .int .u64 a.g, .int .u64 a.r, .int .u64 a.u]
def RefA.left (a : RefA) : Int := IntKind.u64.wrap (IntKind.u64.wrap (a.g - a.u) - a.r)
def doR (a : RefA) (k n : Int) : RefA × Int :=
  if k = 0 then (if n < IntKind.u64.wrap (a.r + a.u) then (a, 34) else (⟨true, n, a.r, a.u⟩, 0))
  else if a.is = false then (a, 32)
  else if k = 1 then (if a.left < n then (a, 34) else (⟨a.is, a.g, IntKind.u64.wrap (a.r + n), a.u⟩, 0))
  else if k = 4 then (if a.u < n then (a, 36) else (⟨a.is, a.g, a.r, IntKind.u64.wrap (a.u - n)⟩, 0))
  else if a.r < n then (a, 36)
  else if k = 3 then (⟨a.is, a.g, IntKind.u64.wrap (a.r - n), IntKind.u64.wrap (a.u + n)⟩, 0)
  else (⟨a.is, a.g, IntKind.u64.wrap (a.r - n), a.u⟩, 0)

set_option maxHeartbeats 400000 in
theorem refleft_any (is : Bool) (g r u : Int) (w : World) :
    Calls Try.prog 18 #[.agg #[.bool is, .int .u64 g, .int .u64 r, .int .u64 u]] w fun e w' => e = .returned (.int .u64 (IntKind.u64.wrap (IntKind.u64.wrap (g - u) - r))) ∧ Below w.heap.size w w' := by
  go_enter Try.func18, Try.ntmps18
  go_wp2
  go_ret
  exact ⟨rfl, below_alloc (Below.refl _ _) _⟩

/-- What 'Do' does, said of the fields. -/
abbrev DoesR (H : Bool → Int → Int → Int → Int → Int → Prop) : Prop := ∀ (is : Bool) (g r u k n : Int) (w : World), H is g r u k n →
  Calls Try.prog 17 #[.agg #[.bool is, .int .u64 g, .int .u64 r, .int .u64 u], .int .i64 k, .int .u64 n] w fun e w' => e = .returned (.tuple #[(doR ⟨is, g, r, u⟩ k n).1.v, .int .i64 (doR ⟨is, g, r, u⟩ k n).2]) ∧ Below w.heap.size w w'

set_option maxHeartbeats 1000000 in
theorem do_0a : DoesR fun _ _ r u k n => k = 0 ∧ n < IntKind.u64.wrap (r + u) := by
  rintro is g r u k n w ⟨rfl, h⟩
  rw [show doR ⟨is, g, r, u⟩ 0 n = (⟨is, g, r, u⟩, 34) by simp [doR, h]]
  go_enter Try.func17, Try.ntmps17
  go_wp2
  refine bodyPost_ret (v := .tuple #[.agg #[.bool is, .int .u64 g, .int .u64 r, .int .u64 u], .int .i64 34]) ?_ rfl ⟨rfl, ?_⟩
  · simp [results, Try.results17, go_sem, *]
  · repeat with_reducible (first | exact Below.refl _ _ | exact Below.refl _ _ | refine below_alloc ?_ _ | refine Below.setCell ?_ (by simp) _ | refine Below.drew ?_)
set_option maxHeartbeats 1000000 in
theorem do_0b : DoesR fun _ _ r u k n => k = 0 ∧ ¬ n < IntKind.u64.wrap (r + u) := by
  rintro is g r u k n w ⟨rfl, h⟩
  rw [show doR ⟨is, g, r, u⟩ 0 n = (⟨true, n, r, u⟩, 0) by simp [doR, h]]
  go_enter Try.func17, Try.ntmps17
  go_wp2
  refine bodyPost_ret (v := .tuple #[.agg #[.bool true, .int .u64 n, .int .u64 r, .int .u64 u], .int .i64 0]) ?_ rfl ⟨rfl, ?_⟩
  · simp [results, Try.results17, go_sem, *]
  · repeat with_reducible (first | exact Below.refl _ _ | exact Below.refl _ _ | refine below_alloc ?_ _ | refine Below.setCell ?_ (by simp) _ | refine Below.drew ?_)
set_option maxHeartbeats 1000000 in
theorem do_none : DoesR fun is _ _ _ k _ => is = false ∧ (k == 0) = false := by
  rintro is g r u k n w ⟨rfl, h⟩
  have h' : k ≠ 0 := by simpa using h
  rw [show doR ⟨false, g, r, u⟩ k n = (⟨false, g, r, u⟩, 32) by simp [doR, h']]
  clear h'
  go_enter Try.func17, Try.ntmps17
  go_wp2
  refine bodyPost_ret (v := .tuple #[.agg #[.bool false, .int .u64 g, .int .u64 r, .int .u64 u], .int .i64 32]) ?_ rfl ⟨rfl, ?_⟩
  · simp [results, Try.results17, go_sem, *]
  · repeat with_reducible (first | exact Below.refl _ _ | exact Below.refl _ _ | refine below_alloc ?_ _ | refine Below.setCell ?_ (by simp) _ | refine Below.drew ?_)
set_option maxHeartbeats 1000000 in
theorem do_1a : DoesR fun is g r u k n => is = true ∧ k = 1 ∧ IntKind.u64.wrap (IntKind.u64.wrap (g - u) - r) < n := by
  rintro is g r u k n w ⟨rfl, rfl, h⟩
  rw [show doR ⟨true, g, r, u⟩ 1 n = (⟨true, g, r, u⟩, 34) by simp [doR, RefA.left, h]]
  go_enter Try.func17, Try.ntmps17
  go_wp2
  refine bodyPost_ret (v := .tuple #[.agg #[.bool true, .int .u64 g, .int .u64 r, .int .u64 u], .int .i64 34]) ?_ rfl ⟨rfl, ?_⟩
  · simp [results, Try.results17, go_sem, *]
  · repeat with_reducible (first | exact Below.refl _ _ | exact Below.refl _ _ | refine below_alloc ?_ _ | refine Below.setCell ?_ (by simp) _ | refine Below.drew ?_)
set_option maxHeartbeats 1000000 in
theorem do_1b : DoesR fun is g r u k n => is = true ∧ k = 1 ∧ ¬ IntKind.u64.wrap (IntKind.u64.wrap (g - u) - r) < n := by
  rintro is g r u k n w ⟨rfl, rfl, h⟩
  rw [show doR ⟨true, g, r, u⟩ 1 n = (⟨true, g, IntKind.u64.wrap (r + n), u⟩, 0) by simp [doR, RefA.left, h]]
  go_enter Try.func17, Try.ntmps17
  go_wp2
  refine bodyPost_ret (v := .tuple #[.agg #[.bool true, .int .u64 g, .int .u64 (IntKind.u64.wrap (r + n)), .int .u64 u], .int .i64 0]) ?_ rfl ⟨rfl, ?_⟩
  · simp [results, Try.results17, go_sem, *]
  · repeat with_reducible (first | exact Below.refl _ _ | exact Below.refl _ _ | refine below_alloc ?_ _ | refine Below.setCell ?_ (by simp) _ | refine Below.drew ?_)
set_option maxHeartbeats 1000000 in
theorem do_4a : DoesR fun is _ _ u k n => is = true ∧ k = 4 ∧ u < n := by
  rintro is g r u k n w ⟨rfl, rfl, h⟩
  rw [show doR ⟨true, g, r, u⟩ 4 n = (⟨true, g, r, u⟩, 36) by simp [doR, h]]
  go_enter Try.func17, Try.ntmps17
  go_wp2
  refine bodyPost_ret (v := .tuple #[.agg #[.bool true, .int .u64 g, .int .u64 r, .int .u64 u], .int .i64 36]) ?_ rfl ⟨rfl, ?_⟩
  · simp [results, Try.results17, go_sem, *]
  · repeat with_reducible (first | exact Below.refl _ _ | exact Below.refl _ _ | refine below_alloc ?_ _ | refine Below.setCell ?_ (by simp) _ | refine Below.drew ?_)
set_option maxHeartbeats 1000000 in
theorem do_4b : DoesR fun is _ _ u k n => is = true ∧ k = 4 ∧ ¬ u < n := by
  rintro is g r u k n w ⟨rfl, rfl, h⟩
  rw [show doR ⟨true, g, r, u⟩ 4 n = (⟨true, g, r, IntKind.u64.wrap (u - n)⟩, 0) by simp [doR, h]]
  go_enter Try.func17, Try.ntmps17
  go_wp2
  refine bodyPost_ret (v := .tuple #[.agg #[.bool true, .int .u64 g, .int .u64 r, .int .u64 (IntKind.u64.wrap (u - n))], .int .i64 0]) ?_ rfl ⟨rfl, ?_⟩
  · simp [results, Try.results17, go_sem, *]
  · repeat with_reducible (first | exact Below.refl _ _ | exact Below.refl _ _ | refine below_alloc ?_ _ | refine Below.setCell ?_ (by simp) _ | refine Below.drew ?_)
set_option maxHeartbeats 1000000 in
theorem do_2a : DoesR fun is _ r _ k n => is = true ∧ k = 2 ∧ r < n := by
  rintro is g r u k n w ⟨rfl, rfl, h⟩
  rw [show doR ⟨true, g, r, u⟩ 2 n = (⟨true, g, r, u⟩, 36) by simp [doR, h]]
  go_enter Try.func17, Try.ntmps17
  go_wp2
  refine bodyPost_ret (v := .tuple #[.agg #[.bool true, .int .u64 g, .int .u64 r, .int .u64 u], .int .i64 36]) ?_ rfl ⟨rfl, ?_⟩
  · simp [results, Try.results17, go_sem, *]
  · repeat with_reducible (first | exact Below.refl _ _ | exact Below.refl _ _ | refine below_alloc ?_ _ | refine Below.setCell ?_ (by simp) _ | refine Below.drew ?_)
set_option maxHeartbeats 1000000 in
theorem do_2b : DoesR fun is _ r _ k n => is = true ∧ k = 2 ∧ ¬ r < n := by
  rintro is g r u k n w ⟨rfl, rfl, h⟩
  rw [show doR ⟨true, g, r, u⟩ 2 n = (⟨true, g, IntKind.u64.wrap (r - n), u⟩, 0) by simp [doR, h]]
  go_enter Try.func17, Try.ntmps17
  go_wp2
  refine bodyPost_ret (v := .tuple #[.agg #[.bool true, .int .u64 g, .int .u64 (IntKind.u64.wrap (r - n)), .int .u64 u], .int .i64 0]) ?_ rfl ⟨rfl, ?_⟩
  · simp [results, Try.results17, go_sem, *]
  · repeat with_reducible (first | exact Below.refl _ _ | exact Below.refl _ _ | refine below_alloc ?_ _ | refine Below.setCell ?_ (by simp) _ | refine Below.drew ?_)
set_option maxHeartbeats 1000000 in
theorem do_3a : DoesR fun is _ r _ k n => is = true ∧ k = 3 ∧ r < n := by
  rintro is g r u k n w ⟨rfl, rfl, h⟩
  rw [show doR ⟨true, g, r, u⟩ 3 n = (⟨true, g, r, u⟩, 36) by simp [doR, h]]
  go_enter Try.func17, Try.ntmps17
  go_wp2
  refine bodyPost_ret (v := .tuple #[.agg #[.bool true, .int .u64 g, .int .u64 r, .int .u64 u], .int .i64 36]) ?_ rfl ⟨rfl, ?_⟩
  · simp [results, Try.results17, go_sem, *]
  · repeat with_reducible (first | exact Below.refl _ _ | exact Below.refl _ _ | refine below_alloc ?_ _ | refine Below.setCell ?_ (by simp) _ | refine Below.drew ?_)
set_option maxHeartbeats 1000000 in
theorem do_3b : DoesR fun is _ r _ k n => is = true ∧ k = 3 ∧ ¬ r < n := by
  rintro is g r u k n w ⟨rfl, rfl, h⟩
  rw [show doR ⟨true, g, r, u⟩ 3 n = (⟨true, g, IntKind.u64.wrap (r - n), IntKind.u64.wrap (u + n)⟩, 0) by simp [doR, h]]
  go_enter Try.func17, Try.ntmps17
  go_wp2
  refine bodyPost_ret (v := .tuple #[.agg #[.bool true, .int .u64 g, .int .u64 (IntKind.u64.wrap (r - n)), .int .u64 (IntKind.u64.wrap (u + n))], .int .i64 0]) ?_ rfl ⟨rfl, ?_⟩
  · simp [results, Try.results17, go_sem, *]
  · repeat with_reducible (first | exact Below.refl _ _ | exact Below.refl _ _ | refine below_alloc ?_ _ | refine Below.setCell ?_ (by simp) _ | refine Below.drew ?_)

theorem do_any (a : RefA) (k n : Int) (h0 : 0 ≤ k) (h4 : k ≤ 4) (w : World) :
    Calls Try.prog 17 #[a.v, .int .i64 k, .int .u64 n] w fun e w' => e = .returned (.tuple #[(doR a k n).1.v, .int .i64 (doR a k n).2]) ∧ Below w.heap.size w w' := by
  obtain ⟨is, g, r, u⟩ := a
  by_cases hk : k = 0
  · by_cases h : n < IntKind.u64.wrap (r + u)
    · exact do_0a is g r u k n w ⟨hk, h⟩
    · exact do_0b is g r u k n w ⟨hk, h⟩
  cases is with
  | false => exact do_none false g r u k n w ⟨rfl, by simpa using hk⟩
  | true =>
    have : k = 1 ∨ k = 2 ∨ k = 3 ∨ k = 4 := by omega
    rcases this with hk | hk | hk | hk
    · by_cases h : IntKind.u64.wrap (IntKind.u64.wrap (g - u) - r) < n
      · exact do_1a true g r u k n w ⟨rfl, hk, h⟩
      · exact do_1b true g r u k n w ⟨rfl, hk, h⟩
    · by_cases h : r < n
      · exact do_2a true g r u k n w ⟨rfl, hk, h⟩
      · exact do_2b true g r u k n w ⟨rfl, hk, h⟩
    · by_cases h : r < n
      · exact do_3a true g r u k n w ⟨rfl, hk, h⟩
      · exact do_3b true g r u k n w ⟨rfl, hk, h⟩
    · by_cases h : u < n
      · exact do_4a true g r u k n w ⟨rfl, hk, h⟩
      · exact do_4b true g r u k n w ⟨rfl, hk, h⟩
end Go.Proofs.Ytoinlhjdmkeaeaa
