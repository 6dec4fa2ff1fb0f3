/- What a book's methods answer, and what becomes of the map. -/
import Derived.Test.YtoinlhjdmkeaeaaBook
namespace Go.Proofs.Ytoinlhjdmkeaeaa
open Go.RowKit

theorem new_any (w : World) : Calls Try.prog 8 #[] w fun e w' =>
    ∃ b m, e = .returned (.pointer (some ⟨b, 0, none⟩)) ∧ IsBook w' b m [] ∧ Below w.heap.size w w' ∧ w.heap.size ≤ b ∧ w.heap.size ≤ m := by
  have hmm := @run_makeMap Try.prog
  go_enter Try.func8, Try.ntmps8
  go_wp2
  go_ret
  exact ⟨w.heap.size + 1, w.heap.size, rfl, ⟨by have := heap_at (w.alloc (.map #[] 0)) (.cells #[.map (some w.heap.size)] 53); simpa using this, (MapIs.made w _ _ _ _).alloc _⟩, below_alloc (below_alloc (Below.refl _ _) _) _, by omega, Nat.le_refl _⟩

/-- A method that hands its work on to change. -/
abbrev Meth (f : FuncId) (D : List (Int × Acc) → Int → Int → List (Int × Acc) × Int) : Prop := ∀ {w : World} {b m : Nat} {l l' : List (Int × Acc)} {who n e0 : Int}, IsBook w b m l → (Lit.int .i64 who).wf = true → D l who n = (l', e0) →
    Calls Try.prog f #[.pointer (some ⟨b, 0, none⟩), .int .i64 who, .int .u64 n] w fun e w' => e = .returned (.int .i64 e0) ∧ IsBook w' b m l' ∧ w.grownBy w' (some m)

theorem reserve_meth : Meth 10 (bookDo Acc.reserve) := by
  intro w b m l l' who n e0 h hw hr
  have C := change_any reserve_does enters_reserve h hw n
  rw [hr] at C
  clear hr
  go_enter Try.func10, Try.ntmps10
  go_wp2_with fail
  refine C.mono ?_
  rintro e w' ⟨rfl, r1, r2⟩
  go_wp2
  go_ret
  exact ⟨rfl, r1, r2⟩
theorem release_meth : Meth 15 (bookDo Acc.release) := by
  intro w b m l l' who n e0 h hw hr
  have C := change_any release_does enters_release h hw n
  rw [hr] at C
  clear hr
  go_enter Try.func15, Try.ntmps15
  go_wp2_with fail
  refine C.mono ?_
  rintro e w' ⟨rfl, r1, r2⟩
  go_wp2
  go_ret
  exact ⟨rfl, r1, r2⟩
theorem use_meth : Meth 11 (bookDo Acc.use) := by
  intro w b m l l' who n e0 h hw hr
  have C := change_any use_does enters_use h hw n
  rw [hr] at C
  clear hr
  go_enter Try.func11, Try.ntmps11
  go_wp2_with fail
  refine C.mono ?_
  rintro e w' ⟨rfl, r1, r2⟩
  go_wp2
  go_ret
  exact ⟨rfl, r1, r2⟩
theorem free_meth : Meth 16 (bookDo Acc.free) := by
  intro w b m l l' who n e0 h hw hr
  have C := change_any free_does enters_free h hw n
  rw [hr] at C
  clear hr
  go_enter Try.func16, Try.ntmps16
  go_wp2_with fail
  refine C.mono ?_
  rintro e w' ⟨rfl, r1, r2⟩
  go_wp2
  go_ret
  exact ⟨rfl, r1, r2⟩

/-- 'Account': the account and true; or the empty one and false. -/
theorem account_some {w : World} {b m : Nat} {l : List (Int × Acc)} {who : Int} {a : Acc} (h : IsBook w b m l) (hw : (Lit.int .i64 who).wf = true) (hl : aget l who = some a) :
    Calls Try.prog 12 #[.pointer (some ⟨b, 0, none⟩), .int .i64 who] w fun e w' => e = .returned (.tuple #[a.v, .bool true]) ∧ Below w.heap.size w w' := by
  have hlk := fun w' (hm : AccMap w' m l) => hm.look_some keyed_int ikey_inj Try.underlying51 true (ikey_ok hw) hl
  have hlk0 := hlk _ (h.map.alloc (.cells #[.int .u64 0, .int .u64 0, .int .u64 0] 29))
  obtain ⟨e0, e1⟩ := blk1 h.box
  have hb := h.ltb
  clear hlk h hl hw
  obtain ⟨g, r, u⟩ := a
  dsimp only [Acc.v] at *
  go_enter Try.func12, Try.ntmps12
  go_wp2
  refine bodyPost_ret (v := .tuple #[.agg #[.int .u64 g, .int .u64 r, .int .u64 u], .bool true]) ?_ rfl ⟨rfl, ?_⟩
  · simp [results, Try.results12, go_sem, *]
  · repeat with_reducible (first | exact Below.refl _ _ | exact Below.refl _ _ | refine below_alloc ?_ _ | refine Below.setCell ?_ (by simp) _ | refine Below.drew ?_)
theorem account_none {w : World} {b m : Nat} {l : List (Int × Acc)} {who : Int} (h : IsBook w b m l) (hw : (Lit.int .i64 who).wf = true) (hl : aget l who = none) :
    Calls Try.prog 12 #[.pointer (some ⟨b, 0, none⟩), .int .i64 who] w fun e w' => e = .returned (.tuple #[(Acc.mk 0 0 0).v, .bool false]) ∧ Below w.heap.size w w' := by
  have hlk := fun w' (hm : AccMap w' m l) => hm.look_none keyed_int ikey_inj Try.underlying51 (zero_acc w') true (ikey_ok hw) hl
  have hlk0 := hlk _ (h.map.alloc (.cells #[.int .u64 0, .int .u64 0, .int .u64 0] 29))
  obtain ⟨e0, e1⟩ := blk1 h.box
  have hb := h.ltb
  clear hlk h hl hw
  dsimp only [Acc.v] at *
  go_enter Try.func12, Try.ntmps12
  go_wp2
  refine bodyPost_ret (v := .tuple #[.agg #[.int .u64 0, .int .u64 0, .int .u64 0], .bool false]) ?_ rfl ⟨rfl, ?_⟩
  · simp [results, Try.results12, go_sem, *]
  · repeat with_reducible (first | exact Below.refl _ _ | exact Below.refl _ _ | refine below_alloc ?_ _ | refine Below.setCell ?_ (by simp) _ | refine Below.drew ?_)
theorem account_nil (w : World) (x : Value) :
    Calls Try.prog 12 #[.pointer none, x] w fun e w' => e = .returned (.tuple #[(Acc.mk 0 0 0).v, .bool false]) ∧ Below w.heap.size w w' := by
  go_enter Try.func12, Try.ntmps12
  go_wp2
  refine bodyPost_ret (v := .tuple #[.agg #[.int .u64 0, .int .u64 0, .int .u64 0], .bool false]) ?_ rfl ⟨rfl, ?_⟩
  · simp [results, Try.results12, go_sem, *]
  · repeat with_reducible (first | exact Below.refl _ _ | exact Below.refl _ _ | refine below_alloc ?_ _ | refine Below.setCell ?_ (by simp) _ | refine Below.drew ?_)

theorem left_of {w : World} {p x : Value} {g r u : Int} {c : Bool}
    (C : Calls Try.prog 12 #[p, x] w fun e w' => e = .returned (.tuple #[(Acc.mk g r u).v, .bool c]) ∧ Below w.heap.size w w') :
    Calls Try.prog 13 #[p, x] w fun e w' => e = .returned (.int .u64 (Acc.mk g r u).left) ∧ Below w.heap.size w w' := by
  have CH := Lib.hid C
  clear C
  go_enter Try.func13, Try.ntmps13
  go_wp2_with fail
  refine CH.out.mono ?_
  rintro e w' ⟨rfl, hb⟩
  go_wp2_with fail
  refine (left_any ⟨g, r, u⟩ _).mono ?_
  rintro e w2 ⟨rfl, hb2⟩
  go_wp2
  go_ret
  exact ⟨rfl, (below_alloc hb _).trans (hb2.mono (by have := hb.size; simp; omega))⟩

def grantDo (l : List (Int × Acc)) (who n : Int) : List (Int × Acc) × Int :=
  if who < 0 ∨ 64 ≤ who then (l, 1) else bookDo Acc.grant (if aget l who = none then aput l who ⟨0, 0, 0⟩ else l) who n
end Go.Proofs.Ytoinlhjdmkeaeaa
