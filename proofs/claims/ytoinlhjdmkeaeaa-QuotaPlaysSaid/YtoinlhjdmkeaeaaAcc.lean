/- What an account's methods compute, and that the Go code computes it. -/
import Derived.Test.YtoinlhjdmkeaeaaRows
import Derived.Test.YtoinlhjdmkeaeaaLib
import Derived.WalkSpells
import Derived.WalkLawsBesides
namespace Go.Proofs.Ytoinlhjdmkeaeaa
open Go.RowKit

structure Acc where
  g : Int
  r : Int
  u : Int
abbrev Acc.v (a : Acc) : Value := .agg #[.int .u64 a.g, .int .u64 a.r, .int .u64 a.u]
def uw (n : Int) : Int := IntKind.u64.wrap n
def Acc.left (a : Acc) : Int := IntKind.u64.wrap (IntKind.u64.wrap (a.g - a.r) - a.u)
def Acc.grant (a : Acc) (n : Int) : Acc × Int := if n < IntKind.u64.wrap (a.r + a.u) then (a, 34) else (⟨n, a.r, a.u⟩, 0)
def Acc.reserve (a : Acc) (n : Int) : Acc × Int := if a.left < n then (a, 34) else (⟨a.g, IntKind.u64.wrap (a.r + n), a.u⟩, 0)
def Acc.release (a : Acc) (n : Int) : Acc × Int := if a.r < n then (a, 36) else (⟨a.g, IntKind.u64.wrap (a.r - n), a.u⟩, 0)
def Acc.use (a : Acc) (n : Int) : Acc × Int := if a.r < n then (a, 36) else (⟨a.g, IntKind.u64.wrap (a.r - n), IntKind.u64.wrap (a.u + n)⟩, 0)
def Acc.free (a : Acc) (n : Int) : Acc × Int := if a.u < n then (a, 36) else (⟨a.g, a.r, IntKind.u64.wrap (a.u - n)⟩, 0)

abbrev Does (f : FuncId) (F : Acc → Int → Acc × Int) : Prop := ∀ (a : Acc) (n : Int) (w : World), Calls Try.prog f #[a.v, .int .u64 n] w fun e w' => e = .returned (.tuple #[(F a n).1.v, .int .i64 (F a n).2]) ∧ Below w.heap.size w w'

/-- The number f stands for Go text that is entered when it is called. -/
abbrev Enters (f : FuncId) : Prop := ∀ (args : Array Value) (w : World), (callFunc f args).run Try.prog w = .ok (.enter f args) w
theorem enters_grant : Enters 21 := fun _ _ => by kernel_rfl
theorem enters_reserve : Enters 22 := fun _ _ => by kernel_rfl
theorem enters_release : Enters 27 := fun _ _ => by kernel_rfl
theorem enters_use : Enters 23 := fun _ _ => by kernel_rfl
theorem enters_free : Enters 28 := fun _ _ => by kernel_rfl

set_option maxHeartbeats 400000 in
theorem left_any (a : Acc) (w : World) :
    Calls Try.prog 24 #[a.v] w fun e w' => e = .returned (.int .u64 a.left) ∧ Below w.heap.size w w' := by
  go_enter Try.func24, Try.ntmps24
  go_wp2
  go_ret
  exact ⟨rfl, (Below.refl _ _).alloc (Nat.le_refl _) _⟩

theorem grant_does : Does 21 Acc.grant := by
  intro a n w
  obtain ⟨g, r, u⟩ := a
  unfold Acc.grant
  by_cases h : n < IntKind.u64.wrap (r + u)
  · rw [if_pos h]
    go_enter Try.func21, Try.ntmps21
    go_wp2
    exact bodyPost_ret (v := .tuple #[.agg #[.int .u64 g, .int .u64 r, .int .u64 u], .int .i64 34]) (by simp [results, Try.results21, go_sem]) rfl ⟨rfl, ((Below.refl _ _).alloc (Nat.le_refl _) _).alloc (by simp) _⟩
  · rw [if_neg h]
    go_enter Try.func21, Try.ntmps21
    go_wp2
    exact bodyPost_ret (v := .tuple #[.agg #[.int .u64 n, .int .u64 r, .int .u64 u], .int .i64 0]) (by simp [results, Try.results21, go_sem]) rfl ⟨rfl, ((Below.refl _ _).alloc (Nat.le_refl _) _).alloc (by simp) _⟩

theorem release_does : Does 27 Acc.release := by
  intro a n w
  obtain ⟨g, r, u⟩ := a
  unfold Acc.release
  by_cases h : r < n
  · rw [if_pos h]
    go_enter Try.func27, Try.ntmps27
    go_wp2
    exact bodyPost_ret (v := .tuple #[.agg #[.int .u64 g, .int .u64 r, .int .u64 u], .int .i64 36]) (by simp [results, Try.results27, go_sem]) rfl ⟨rfl, ((Below.refl _ _).alloc (Nat.le_refl _) _).alloc (by simp) _⟩
  · rw [if_neg h]
    go_enter Try.func27, Try.ntmps27
    go_wp2
    exact bodyPost_ret (v := .tuple #[.agg #[.int .u64 g, .int .u64 (IntKind.u64.wrap (r - n)), .int .u64 u], .int .i64 0]) (by simp [results, Try.results27, go_sem]) rfl ⟨rfl, ((Below.refl _ _).alloc (Nat.le_refl _) _).alloc (by simp) _⟩

theorem free_does : Does 28 Acc.free := by
  intro a n w
  obtain ⟨g, r, u⟩ := a
  unfold Acc.free
  by_cases h : u < n
  · rw [if_pos h]
    go_enter Try.func28, Try.ntmps28
    go_wp2
    exact bodyPost_ret (v := .tuple #[.agg #[.int .u64 g, .int .u64 r, .int .u64 u], .int .i64 36]) (by simp [results, Try.results28, go_sem]) rfl ⟨rfl, ((Below.refl _ _).alloc (Nat.le_refl _) _).alloc (by simp) _⟩
  · rw [if_neg h]
    go_enter Try.func28, Try.ntmps28
    go_wp2
    exact bodyPost_ret (v := .tuple #[.agg #[.int .u64 g, .int .u64 r, .int .u64 (IntKind.u64.wrap (u - n))], .int .i64 0]) (by simp [results, Try.results28, go_sem]) rfl ⟨rfl, ((Below.refl _ _).alloc (Nat.le_refl _) _).alloc (by simp) _⟩

theorem reserve_does : Does 22 Acc.reserve := by
  intro a n w
  obtain ⟨g, r, u⟩ := a
  unfold Acc.reserve Acc.left
  by_cases h : IntKind.u64.wrap (IntKind.u64.wrap (g - r) - u) < n
  · rw [if_pos h]
    go_enter Try.func22, Try.ntmps22
    go_wp2
    exact bodyPost_ret (v := .tuple #[.agg #[.int .u64 g, .int .u64 r, .int .u64 u], .int .i64 34]) (by simp [results, Try.results22, go_sem]) rfl ⟨rfl, (((Below.refl _ _).alloc (Nat.le_refl _) _).alloc (by simp) _).alloc (by simp; omega) _⟩
  · rw [if_neg h]
    go_enter Try.func22, Try.ntmps22
    go_wp2
    exact bodyPost_ret (v := .tuple #[.agg #[.int .u64 g, .int .u64 (IntKind.u64.wrap (r + n)), .int .u64 u], .int .i64 0]) (by simp [results, Try.results22, go_sem]) rfl ⟨rfl, (((Below.refl _ _).alloc (Nat.le_refl _) _).alloc (by simp) _).alloc (by simp; omega) _⟩

set_option maxHeartbeats 1000000 in
theorem use_does : Does 23 Acc.use := by
  intro a n w
  obtain ⟨g, r, u⟩ := a
  have R := release_does
  unfold Acc.release Does at R
  unfold Acc.use
  by_cases h : r < n
  · rw [if_pos h]
    go_enter Try.func23, Try.ntmps23
    go_wp2_with fail
    refine (R ⟨g, r, u⟩ n _).mono ?_
    simp only [if_pos h]
    rintro e w1 ⟨rfl, hb⟩
    obtain ⟨⟨c0, c1, c2⟩, c3, c4, c5⟩ := blk3 (heap_kept hb (heap_up (heap_at w _)) (by simp; omega))
    obtain ⟨⟨d0, d1, d2⟩, d3, d4, d5⟩ := blk3 (heap_kept hb (heap_at (w.alloc _) _) (by simp))
    have hz : w.heap.size + 1 < w1.heap.size := by have := hb.size; simp at this; omega
    simp only [World.size_alloc] at d0 d1 d2 d3 d4 d5
    have base : Below w.heap.size w w1 := (below_alloc (below_alloc (Below.refl _ _) _) _).trans (hb.mono (by simp; omega))
    clear hb
    go_wp2
    refine bodyPost_ret (v := .tuple #[.agg #[.int .u64 g, .int .u64 r, .int .u64 u], .int .i64 36]) ?_ rfl ⟨rfl, ?_⟩
    · simp [results, Try.results23, go_sem, *]
    · repeat with_reducible (first | exact base | exact Below.refl _ _ | refine below_alloc ?_ _ | refine Below.setCell ?_ (by simp) _ | refine Below.drew ?_)
  · rw [if_neg h]
    go_enter Try.func23, Try.ntmps23
    go_wp2_with fail
    refine (R ⟨g, r, u⟩ n _).mono ?_
    have h0 : ¬ r < n := by omega
    simp only [if_neg h0]
    clear h0
    rintro e w1 ⟨rfl, hb⟩
    obtain ⟨⟨c0, c1, c2⟩, c3, c4, c5⟩ := blk3 (heap_kept hb (heap_up (heap_at w _)) (by simp; omega))
    obtain ⟨⟨d0, d1, d2⟩, d3, d4, d5⟩ := blk3 (heap_kept hb (heap_at (w.alloc _) _) (by simp))
    have hz : w.heap.size + 1 < w1.heap.size := by have := hb.size; simp at this; omega
    simp only [World.size_alloc] at d0 d1 d2 d3 d4 d5
    have base : Below w.heap.size w w1 := (below_alloc (below_alloc (Below.refl _ _) _) _).trans (hb.mono (by simp; omega))
    clear hb
    go_wp2
    refine bodyPost_ret (v := .tuple #[.agg #[.int .u64 g, .int .u64 (IntKind.u64.wrap (r - n)), .int .u64 (IntKind.u64.wrap (u + n))], .int .i64 0]) ?_ rfl ⟨rfl, ?_⟩
    · simp [results, Try.results23, go_sem, *]
    · repeat with_reducible (first | exact base | exact Below.refl _ _ | refine below_alloc ?_ _ | refine Below.setCell ?_ (by simp) _ | refine Below.drew ?_)
end Go.Proofs.Ytoinlhjdmkeaeaa
