/- A bag's methods: New, Len, Put. -/
import Derived.Test.YtoinlhjdmkeaeabBag
namespace Go.Proofs.Ytoinlhjdmkeaeab
open Go.RowKit

theorem new_ok {nodes : Int} (h0 : 1 ≤ nodes) (h1 : nodes ≤ 64) (w : World) :
    Calls Try.prog 8 #[.int .i64 nodes] w fun e w' => ∃ b, e = .returned (.tuple #[.pointer (some ⟨b, 0, none⟩), .int .i64 0]) ∧ IsBag w.heap.size w.heap.size w' b nodes [] ∧ Below w.heap.size w w' := by
  go_enter Try.func8, Try.ntmps8
  go_wp2
  go_ret2
  refine ⟨_, rfl, ⟨.slice none 0 0, [], rfl, ⟨heap_at _ _, World.ownsRow_nil _ _ _ _, by simp, by simp, Nat.le_refl _, Nat.le_refl _⟩⟩, below_alloc (Below.refl _ _) _⟩
theorem new_no {nodes : Int} (h : nodes < 1 ∨ 64 < nodes) (w : World) :
    Calls Try.prog 8 #[.int .i64 nodes] w fun e w' => e = .returned (.tuple #[.pointer none, .int .i64 1]) ∧ w' = w := by
  rcases h with h | h
  · go_enter Try.func8, Try.ntmps8
    go_wp2
    go_ret2
    exact ⟨rfl, rfl⟩
  · by_cases h' : nodes < 1
    · go_enter Try.func8, Try.ntmps8
      go_wp2
      go_ret2
      exact ⟨rfl, rfl⟩
    · go_enter Try.func8, Try.ntmps8
      go_wp2
      go_ret2
      exact ⟨rfl, rfl⟩

def there (nodes i : Int) : Bool := decide (0 ≤ i) && decide (i < nodes)
theorem node_any {w : World} {b : Nat} {nodes : Int} {v : Value} (h : w.heap[b]? = some (.cells #[.int .i64 nodes, v] 57 (0, 0))) (i : Int) :
    Calls Try.prog 18 #[.pointer (some ⟨b, 0, none⟩), .int .i64 i] w fun e w' => e = .returned (.bool (there nodes i)) ∧ w' = w := by
  obtain ⟨⟨c0, c1⟩, c2, c3⟩ := blk2 h
  clear h
  unfold there
  by_cases h0 : 0 ≤ i
  · rw [decide_eq_true h0, Bool.true_and]
    go_enter Try.func18, Try.ntmps18
    go_wp2
    go_ret
    exact ⟨rfl, rfl⟩
  · rw [decide_eq_false h0, Bool.false_and]
    go_enter Try.func18, Try.ntmps18
    go_wp2
    go_ret
    exact ⟨rfl, rfl⟩

theorem len_any {w : World} {b n : Nat} {nodes : Int} {a : Option Addr} {c : Nat} (h : w.heap[b]? = some (.cells #[.int .i64 nodes, .slice a n c] 57 (0, 0))) :
    Calls Try.prog 16 #[.pointer (some ⟨b, 0, none⟩)] w fun e w' => e = .returned (.int .i64 n) ∧ w' = w := by
  obtain ⟨⟨c0, c1⟩, c2, c3⟩ := blk2 h
  clear h
  go_enter Try.func16, Try.ntmps16
  go_wp2
  go_ret
  exact ⟨rfl, rfl⟩
theorem len_none (w : World) : Calls Try.prog 16 #[.pointer none] w fun e w' => e = .returned (.int .i64 0) ∧ w' = w := by
  go_enter Try.func16, Try.ntmps16
  go_wp2
  go_ret
  exact ⟨rfl, rfl⟩
theorem there_any {w : World} {b n : Nat} {nodes : Int} {a : Option Addr} {c : Nat} (h : w.heap[b]? = some (.cells #[.int .i64 nodes, .slice a n c] 57 (0, 0))) (i : Int) :
    Calls Try.prog 20 #[.pointer (some ⟨b, 0, none⟩), .int .i64 i] w fun e w' => e = .returned (.bool (there n i)) ∧ w' = w := by
  have L := len_any h
  clear h
  unfold there
  by_cases h0 : 0 ≤ i
  · rw [decide_eq_true h0, Bool.true_and]
    go_enter Try.func20, Try.ntmps20
    go_wp2_with fail
    refine L.mono ?_
    rintro e w1 ⟨rfl, rfl⟩
    go_wp2
    go_ret
    exact ⟨rfl, rfl⟩
  · rw [decide_eq_false h0, Bool.false_and]
    go_enter Try.func20, Try.ntmps20
    go_wp2
    go_ret
    exact ⟨rfl, rfl⟩
theorem there_none (w : World) (i : Int) : Calls Try.prog 20 #[.pointer none, .int .i64 i] w fun e w' => e = .returned (.bool false) ∧ w' = w := by
  have L := len_none
  by_cases h0 : 0 ≤ i
  · go_enter Try.func20, Try.ntmps20
    go_wp2_with fail
    refine (L _).mono ?_
    rintro e w1 ⟨rfl, rfl⟩
    go_wp2
    go_ret
    exact ⟨by simp; omega, rfl⟩
  · go_enter Try.func20, Try.ntmps20
    go_wp2
    go_ret
    exact ⟨rfl, rfl⟩

def putCode (nodes : Int) (n : Nat) (f t : Int) (len : Nat) : Int :=
  if there nodes f = true ∧ there nodes t = true then (if 2097152 < len then 13 else if n = 256 then 31 else 0) else 1
def putDo (nodes : Int) (ms : List Msg) (f t : Int) (data : List Int) : List Msg := if putCode nodes ms.length f t data.length = 0 then ms ++ [⟨f, t, 0, data⟩] else ms
end Go.Proofs.Ytoinlhjdmkeaeab
