/- What a book of points is, and what its smaller methods do. -/
import Derived.Test.YtbbamnglnnanpaaFrame
import Derived.Test.YtbbamnglnnanpaaRange
import Derived.Test.YtbbamnglnnanpaaRow
import Derived.Deep.RegionLaw
import Derived.StillTailTactics
import Derived.IntWalk
namespace Go.Proofs.Ytbbamnglnnanpaa
open Go.RowKit

def withDo (p more : Int) : Int := if p = -20 then p else min (max (p + more) (-20)) 20
theorem withDo_in {p more : Int} (_h0 : -20 ≤ p) (_h1 : p ≤ 20) : -20 ≤ withDo p more ∧ withDo p more ≤ 20 := by
  unfold withDo
  split <;> omega
theorem ret_int {k : IntKind} {a b : Int} (h : a = b) : Ending.returned (.int k a) = .returned (.int k b) := by rw [h]
theorem with_any {p more : Int} (_h0 : -20 ≤ p) (_h1 : p ≤ 20) (m0 : -100 ≤ more) (m1 : more ≤ 100) (w : World) : Calls Try.prog 32 #[.int .i64 p, .int .i64 more] w fun e w' => e = .returned (.int .i64 (withDo p more)) ∧ w' = w := by
  unfold withDo
  by_cases h : p = -20
  · subst h
    go_enter Try.func32, Try.ntmps32
    go_wp2
    go_ret
    exact ⟨rfl, rfl⟩
  · have hn : (p == -20) = false := by simpa using h
    rw [if_neg h]
    clear h
    go_enter Try.func32, Try.ntmps32
    go_wp2
    all_goals
      go_ret
      exact ⟨ret_int (by omega), rfl⟩
theorem pass_any {p : Int} (h0 : -20 ≤ p) (h1 : p ≤ 20) (w : World) : Calls Try.prog 23 #[.int .i64 p] w fun e w' => e = .returned (.int .i64 (withDo p (1))) ∧ w' = w := by
  have C := with_any (more := 1) h0 h1 (by decide) (by decide) w
  go_enter Try.func23, Try.ntmps23
  go_wp2_with fail
  refine C.mono ?_
  rintro e w' ⟨rfl, rfl⟩
  go_wp2
  go_ret
  exact ⟨rfl, rfl⟩
theorem fail_any {p : Int} (h0 : -20 ≤ p) (h1 : p ≤ 20) (w : World) : Calls Try.prog 25 #[.int .i64 p] w fun e w' => e = .returned (.int .i64 (withDo p (-10))) ∧ w' = w := by
  have C := with_any (more := -10) h0 h1 (by decide) (by decide) w
  go_enter Try.func25, Try.ntmps25
  go_wp2_with fail
  refine C.mono ?_
  rintro e w' ⟨rfl, rfl⟩
  go_wp2
  go_ret
  exact ⟨rfl, rfl⟩
theorem late_any {p : Int} (h0 : -20 ≤ p) (h1 : p ≤ 20) (w : World) : Calls Try.prog 24 #[.int .i64 p] w fun e w' => e = .returned (.int .i64 (withDo p (-3))) ∧ w' = w := by
  have C := with_any (more := -3) h0 h1 (by decide) (by decide) w
  go_enter Try.func24, Try.ntmps24
  go_wp2_with fail
  refine C.mono ?_
  rintro e w' ⟨rfl, rfl⟩
  go_wp2
  go_ret
  exact ⟨rfl, rfl⟩

theorem keyed_int : Maps.Keyed Try.prog 3 := Maps.int_keyed Try.underlying3
theorem zero_points (w : World) : (zeroValue 51).run Try.prog w = .ok (.int .i64 0) w := by kernel_rfl
abbrev ikey (x : Int) : Value := .int .i64 x
theorem ikey_inj (x y : Int) (h : ikey x = ikey y) : x = y := by cases h; rfl
theorem ikey_ok {x : Int} (h : (Lit.int .i64 x).wf = true) : keyOf Try.prog 3 (ikey x) = some (.int .i64 x) := Maps.keyOf_int_mk Try.underlying3 h
abbrev PtMap (w : World) (m : Nat) (l : List (Int × Int)) : Prop := MapIs Try.prog 3 ikey ikey w m l

/-- The book at block b, its map at block m. -/
structure IsBook (w : World) (b m : Nat) (l : List (Int × Int)) : Prop where
  box : w.heap[b]? = some (.cells #[.map (some m)] 47 (0, 0))
  map : PtMap w m l
  few : ∀ p ∈ l, (-20 ≤ p.2 ∧ p.2 ≤ 20) ∧ (Lit.int .i64 p.1).wf = true
theorem IsBook.ne {w : World} {b m : Nat} {l : List (Int × Int)} (h : IsBook w b m l) : b ≠ m := by
  rintro rfl
  obtain ⟨es, clk, h1, _⟩ := h.map
  rw [h.box] at h1; cases h1
theorem IsBook.ltb {w : World} {b m : Nat} {l : List (Int × Int)} (h : IsBook w b m l) : b < w.heap.size := (Array.getElem?_eq_some_iff.1 h.box).1
theorem IsBook.below {w w' : World} {b m : Nat} {l : List (Int × Int)} (h : IsBook w b m l) (hb : Below w.heap.size w w') : IsBook w' b m l :=
  ⟨(hb.block b h.ltb).trans h.box, h.map.of_block (hb.block m h.map.lt), h.few⟩
theorem IsBook.drew {w : World} {b m : Nat} {l : List (Int × Int)} (h : IsBook w b m l) : IsBook w.drew b m l := ⟨h.box, h.map, h.few⟩
def pts (l : List (Int × Int)) (who : Int) : Int := (aget l who).getD 0
theorem IsBook.ptsIn {w : World} {b m : Nat} {l : List (Int × Int)} (h : IsBook w b m l) (who : Int) : -20 ≤ pts l who ∧ pts l who ≤ 20 := by
  unfold Go.Proofs.Ytbbamnglnnanpaa.pts
  cases hl : aget l who with
  | none => simp
  | some v => exact (h.few _ (aget_mem hl)).1
theorem IsBook.look {w : World} {b m : Nat} {l : List (Int × Int)} (h : IsBook w b m l) {who : Int} (hw : (Lit.int .i64 who).wf = true) : (Instr.lookup 45 (.map (some m)) (.int .i64 who) false).run Try.prog w = .ok (.int .i64 (pts l who)) w := by
  unfold Go.Proofs.Ytbbamnglnnanpaa.pts
  cases hl : aget l who with
  | none => exact h.map.look_none keyed_int ikey_inj Try.underlying45 (zero_points w) false (ikey_ok hw) hl
  | some v => exact h.map.look_some keyed_int ikey_inj Try.underlying45 false (ikey_ok hw) hl
theorem aput_mem {l : List (Int × Int)} {a v : Int} {p : Int × Int} (h : p ∈ aput l a v) : p = (a, v) ∨ p ∈ l := by
  induction l with
  | nil => simp [aput] at h; exact .inl h
  | cons q r ih =>
    obtain ⟨k, u⟩ := q
    simp only [aput] at h
    split at h
    · rcases List.mem_cons.1 h with h | h
      · exact .inl h
      · exact .inr (List.mem_cons_of_mem _ h)
    · rcases List.mem_cons.1 h with h | h
      · exact .inr (by rw [h]; exact List.mem_cons_self)
      · rcases ih h with h | h
        · exact .inl h
        · exact .inr (List.mem_cons_of_mem _ h)
theorem pts_aput (l : List (Int × Int)) (a v x : Int) : pts (aput l a v) x = if a = x then v else pts l x := by
  unfold pts
  rw [aget_aput]
  split <;> rfl
def changeDo (l : List (Int × Int)) (who more : Int) : List (Int × Int) := aput l who (withDo (pts l who) more)
theorem few_change {l : List (Int × Int)} {who more : Int} (h : ∀ p ∈ l, (-20 ≤ p.2 ∧ p.2 ≤ 20) ∧ (Lit.int .i64 p.1).wf = true) (hp : -20 ≤ pts l who ∧ pts l who ≤ 20) (hw : (Lit.int .i64 who).wf = true) : ∀ p ∈ changeDo l who more, (-20 ≤ p.2 ∧ p.2 ≤ 20) ∧ (Lit.int .i64 p.1).wf = true := fun p hm => by
  rcases aput_mem hm with rfl | hm
  · exact ⟨withDo_in hp.1 hp.2, hw⟩
  · exact h p hm
theorem new_any (w : World) : Calls Try.prog 8 #[] w fun e w' =>
    ∃ b m, e = .returned (.pointer (some ⟨b, 0, none⟩)) ∧ IsBook w' b m [] ∧ Below w.heap.size w w' ∧ w.heap.size ≤ b ∧ w.heap.size ≤ m := by
  have hmm := @run_makeMap Try.prog
  go_enter Try.func8, Try.ntmps8
  go_wp2
  go_ret
  exact ⟨w.heap.size + 1, w.heap.size, rfl, ⟨by have := heap_at (w.alloc (.map #[] 0)) (.cells #[.map (some w.heap.size)] 47); simpa using this, (MapIs.made w _ _ _ _).alloc _, by simp⟩, below_alloc (below_alloc (Below.refl _ _) _) _, by omega, Nat.le_refl _⟩
theorem points_any {w : World} {b m : Nat} {l : List (Int × Int)} (h : IsBook w b m l) {who : Int} (hw : (Lit.int .i64 who).wf = true) :
    Calls Try.prog 12 #[.pointer (some ⟨b, 0, none⟩), .int .i64 who] w fun e w' => e = .returned (.int .i64 (pts l who)) ∧ w' = w := by
  obtain ⟨e0, e1⟩ := blk1 h.box
  have hlk := h.look hw
  generalize pts l who = v at *
  clear h hw
  go_enter Try.func12, Try.ntmps12
  go_wp2
  go_ret
  exact ⟨rfl, rfl⟩
theorem points_none (w : World) (who : Value) : Calls Try.prog 12 #[.pointer none, who] w fun e w' => e = .returned (.int .i64 0) ∧ w' = w := by
  go_enter Try.func12, Try.ntmps12
  go_wp2
  go_ret
  exact ⟨rfl, rfl⟩
theorem change_none (w : World) (who : Value) (f : Value) : Calls Try.prog 22 #[.pointer none, who, f] w fun e w' => e = .returned (.int .i64 0) ∧ w' = w := by
  go_enter Try.func22, Try.ntmps22
  go_wp2
  go_ret
  exact ⟨rfl, rfl⟩
theorem forget_none (w : World) (who : Value) : Calls Try.prog 15 #[.pointer none, who] w fun e w' => e = .returned (.tuple #[]) ∧ w' = w := by
  go_enter Try.func15, Try.ntmps15
  go_wp2
  go_end0
  exact ⟨rfl, rfl⟩
end Go.Proofs.Ytbbamnglnnanpaa
