/- The stable sort of one pack, or none. -/
import Derived.Test.YtpmkgnnpngbfmaaRp8
namespace Go.Proofs.Ytpmkgnnpngbfmaa
open Go.RowKit

theorem insert_short {a : Option Addr} {n c : Nat} (hn : n ≤ 1) (fv : Value) (w : World) : Calls Try.prog 42 #[.slice a n c, .int .i64 0, .int .i64 n, fv] w fun e w' => e = .returned (.tuple #[]) ∧ w' = w := by
  have h0 : (0 : Int) ≤ (n : Int) := Int.natCast_nonneg _
  have h1 : ¬ (1 : Int) < (n : Int) := by omega
  go_enter Try.func42, Try.ntmps42
  go_wp2_with fail
  go_loopg [8, 9] 1 (fun _ s8 _ wr => s8 = .int .i64 (1 : Int) ∧ wr = w)
  case atStart => exact ⟨rfl, rfl⟩
  case round =>
    obtain ⟨rfl, rfl⟩ := hrel
    go_wp2
    first | go_end0 | refine bodyPost_ret (results_none rfl _ _ _) rfl ?_
    exact ⟨rfl, rfl⟩
theorem stable_short {a : Option Addr} {n c : Nat} (hn : n ≤ 1) (fv : Value) (w : World) : Calls Try.prog 34 #[.slice a n c, .int .i64 n, fv] w fun e w' => e = .returned (.tuple #[]) ∧ w' = w := by
  have h0 : (0 : Int) ≤ (n : Int) := Int.natCast_nonneg _
  have h1 : ¬ (20 : Int) ≤ (n : Int) := by omega
  have h2 : ¬ (20 : Int) < (n : Int) := by omega
  have IS := Lib.hid (insert_short (a := a) (c := c) hn fv w)
  go_enter Try.func34, Try.ntmps34
  go_wp2_with fail
  go_loopg [7, 8] 1 (fun _ s7 s8 wr => s7 = .int .i64 (0 : Int) ∧ s8 = .int .i64 (20 : Int) ∧ wr = w)
  case atStart => exact ⟨rfl, rfl, rfl⟩
  case round =>
    obtain ⟨rfl, rfl, rfl⟩ := hrel
    go_wp2_with fail
    refine IS.out.mono ?_
    rintro e w' ⟨rfl, rfl⟩
    go_wp2_with fail
    go_loopg [6, 7, 8, 9] 1 (fun _ s6 _ _ _ wr => s6 = .int .i64 (20 : Int) ∧ wr = w')
    case atStart => exact ⟨rfl, rfl⟩
    case round =>
      obtain ⟨rfl, rfl⟩ := hrel
      go_wp2
      first | go_end0 | refine bodyPost_ret (results_none rfl _ _ _) rfl ?_
      exact ⟨rfl, rfl⟩
theorem sort_short {a : Option Addr} {n c : Nat} (hn : n ≤ 1) (fv : Value) (w : World) : Calls Try.prog 18 #[.slice a n c, fv] w fun e w' => e = .returned (.tuple #[]) ∧ w' = w := by
  have SS := Lib.hid (stable_short (a := a) (c := c) hn fv w)
  go_enter Try.func18, Try.ntmps18
  go_wp2_with fail
  refine SS.out.mono ?_
  rintro e w' ⟨rfl, rfl⟩
  go_wp2
  first | go_end0 | refine bodyPost_ret (results_none rfl _ _ _) rfl ?_
  exact ⟨rfl, rfl⟩
end Go.Proofs.Ytpmkgnnpngbfmaa
