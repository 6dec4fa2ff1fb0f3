/- What the reference asks: In. -/
import Derived.Test.YtpmkgnnpngbfmaaRp9
namespace Go.Proofs.Ytpmkgnnpngbfmaa
open Go.RowKit

theorem in_any {w : World} {a : Option Addr} {c : Nat} {zs : List Int} (hr : IntsRd w a zs) (hl : zs.length ≤ 140737488355328) (x : Int) :
    Calls Try.prog 16 #[.slice a zs.length c, .int .i64 x] w fun e w' => e = .returned (.bool (decide (x ∈ zs))) ∧ w' = w := by
  have R := Lib.hid hr
  obtain ⟨n, hn⟩ : ∃ n, n = zs.length := ⟨_, rfl⟩
  have HN := Lib.hid hn
  rw [← hn] at hl ⊢
  clear hr hn
  go_enter Try.func16, Try.ntmps16
  go_wp2_with fail
  go_loopg [5] n (fun k s5 wr => ∃ j : Nat, j ≤ n ∧ k = n - j ∧ s5 = .int .i64 j ∧ wr = w ∧ ∀ y ∈ zs.take j, y ≠ x)
  case atStart => exact ⟨0, Nat.zero_le _, rfl, rfl, rfl, by simp⟩
  case round =>
    obtain ⟨j, hj, hk, rfl, rfl, hall⟩ := hrel
    have HK := Lib.hid hk
    have HA := Lib.hid hall
    clear hk hall
    by_cases hlt : j < n
    · obtain ⟨y, hy⟩ : ∃ y, zs[j]? = some y := ⟨zs[j]'(by rw [← HN.out]; exact hlt), List.getElem?_eq_getElem _⟩
      obtain ⟨b, off, rfl, hbl, hcell⟩ := R.out j y hy
      have HY := Lib.hid hy
      have j0 : (0 : Int) ≤ (j : Int) := Int.natCast_nonneg _
      have j1 : (j : Int) < (n : Int) := by omega
      clear hy
      by_cases he : y = x
      · subst he
        have MM := Lib.hid (List.mem_of_getElem? HY.out)
        go_wp2
        go_ret
        exact ⟨by rw [decide_eq_true MM.out]; rfl, rfl⟩
      · have hb : (y == x) = false := by simpa using he
        have HE := Lib.hid he
        clear he
        go_wp2
        go_roundg (n - (j + 1))
        case measure => rw [HK.out]; omega
        case rel =>
          refine ⟨j + 1, by omega, rfl, by go_num, rfl, fun z hz => ?_⟩
          rw [List.take_add_one, HY.out] at hz
          rcases List.mem_append.1 hz with hz | hz
          · exact HA.out z hz
          · have : z = y := by simpa using hz
            rw [this]; exact HE.out
    · obtain rfl : j = n := by omega
      have hno : ¬ x ∈ zs := fun hx => HA.out x (by rw [HN.out, List.take_length]; exact hx) rfl
      have NO := Lib.hid hno
      clear hno
      go_wp2
      go_ret
      exact ⟨by rw [decide_eq_false NO.out]; rfl, rfl⟩
end Go.Proofs.Ytpmkgnnpngbfmaa
