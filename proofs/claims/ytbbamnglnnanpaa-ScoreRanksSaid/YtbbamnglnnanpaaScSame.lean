/- Two rows of the same numbers are the same. -/
import Derived.Test.YtbbamnglnnanpaaScBounds
namespace Go.Proofs.Ytbbamnglnnanpaa
open Go.RowKit

set_option maxHeartbeats 1000000 in
theorem same_eq {w : World} {B B' : Nat} {u v : Value} {zs : List Int} (hu : IntsIs B w u zs) (hv : IntsIs B' w v zs) (hl : zs.length ≤ 1000000) :
    Calls Try.prog 18 #[u, v] w fun e w' => e = .returned (.bool true) ∧ ∃ q, w' = w.drewN q := by
  obtain ⟨ua, uc, rfl⟩ := own_slice hu
  obtain ⟨va, vc, rfl⟩ := own_slice hv
  have U := Lib.hid hu
  have V := Lib.hid hv
  obtain ⟨n, hn⟩ : ∃ n, n = zs.length := ⟨_, rfl⟩
  have HN := Lib.hid hn
  rw [← hn] at hl ⊢
  clear hu hv hn
  go_enter Try.func18, Try.ntmps18
  go_wp2_with fail
  go_loopg [5] n (fun k s5 wr => ∃ j q : Nat, j ≤ n ∧ k = n - j ∧ s5 = .int .i64 j ∧ wr = w.drewN q)
  case atStart => exact ⟨0, 0, by omega, rfl, rfl, rfl⟩
  case round =>
    obtain ⟨j, q, hj, hk, rfl, rfl⟩ := hrel
    have HK := Lib.hid hk
    clear hk
    by_cases hlt : j < n
    · obtain ⟨z, hz⟩ : ∃ z, zs[j]? = some z := ⟨zs[j]'(by rw [← HN.out]; exact hlt), List.getElem?_eq_getElem _⟩
      obtain ⟨g, rfl, _, c1⟩ := U.out.at hz
      obtain ⟨g', rfl, _, c2⟩ := V.out.at hz
      have j0 : (0 : Int) ≤ (j : Int) := by omega
      have j1 : (j : Int) < (n : Int) := by omega
      clear hz
      go_wp2_with fail
      go_quiet (fail)
      go_wp2
      go_roundg (n - (j + 1))
      case measure => rw [HK.out]; omega
      case rel => exact ⟨j + 1, _, by omega, rfl, by go_num, rfl⟩
    · obtain rfl : j = n := by omega
      go_wp2
      go_ret
      exact ⟨rfl, q, rfl⟩
theorem own_lit (w : World) (l : List Int) (hl : l.length ≤ maxLen) : IntsIs w.heap.size (w.alloc (.cells (l.map (Value.int .i64)).toArray 3)) (.slice (some ⟨w.heap.size, 0, none⟩) l.length l.length) l :=
  ⟨by simp, .inr ⟨w.heap.size, l.length, _, rfl, Nat.le_refl _, heap_at _ _, Nat.le_refl _, hl, by simp, by simp [List.take_of_length_le]⟩⟩
theorem Alone.outLen {l : List (Int × Int)} {who a : Int} (h : Alone l who a) : Go.Proofs.Ytbbamnglnnanpaa.outs l = if a = -20 then [who] else [] := by
  rcases h with ⟨rfl, rfl⟩ | rfl
  · rw [if_neg (by decide)]
    simp [Go.Proofs.Ytbbamnglnnanpaa.outs, outOf]
  · exact Alone.outs who a
theorem Alone.len {l : List (Int × Int)} {who a : Int} (h : Alone l who a) : l.length ≤ 1000000 := by
  rcases h with ⟨rfl, rfl⟩ | rfl <;> simp
end Go.Proofs.Ytbbamnglnnanpaa
