/- What goes at a tick: the function value, slices.IndexFunc, slices.DeleteFunc. -/
import Derived.Test.YtoinlhjdmkeaeabTake
import Derived.Deep.LoopGhost
namespace Go.Proofs.Ytoinlhjdmkeaeab
open Go.RowKit

theorem row_cells {B n : Nat} {w : World} {v : Value} {es : List Ent} (hrow : w.ownsRow B 61 4 v n (es.flatMap Ent.cells)) (hn : n = es.length) {i : Nat} {e : Ent} (he : es[i]? = some e) :
    ∃ g c, v = .slice (some ⟨g, 0, none⟩) n c ∧ g < w.heap.size ∧ (w.cell? ⟨g, i * 4, none⟩ = some (.int .i64 e.f) ∧ w.cell? ⟨g, i * 4 + 1, none⟩ = some (.int .i64 e.t) ∧ w.cell? ⟨g, i * 4 + 2, none⟩ = some e.bv ∧ w.cell? ⟨g, i * 4 + 3, none⟩ = some (.int .i64 e.age)) ∧ (∀ j, w.frozen? ⟨g, j, none⟩ = false) := by
  have hi := (List.getElem?_eq_some_iff.1 he).1
  rcases hrow.2 with ⟨rfl, h0⟩ | ⟨g, cap, cur, rfl, _, hg, _⟩
  · omega
  · have c := fun r (hr : r < 4) => (hrow.cellAt (i * 4 + r) (by omega)).trans (flat_get Ent.cells 4 Ent.len es i r hr he)
    exact ⟨g, cap, rfl, (Array.getElem?_eq_some_iff.1 hg).1, ⟨c 0 (by decide), c 1 (by decide), c 2 (by decide), c 3 (by decide)⟩, hrow.frozenAt⟩

theorem fn_any {w : World} {mb : Nat} {most : Int} (hm : w.cell? ⟨mb, 0, none⟩ = some (.int .i64 most)) (f t age : Int) (a : Option Addr) (n c : Nat) :
    Calls Try.prog 23 #[.agg #[.int .i64 f, .int .i64 t, .slice a n c, .int .i64 age], .pointer (some ⟨mb, 0, none⟩)] w fun e w' => e = .returned (.bool (decide (max most 0 < age))) ∧ Below w.heap.size w w' := by
  have hlt := World.block_lt_of_cell? w _ hm
  dsimp only at hlt
  have hne : ¬ mb = w.heap.size := by omega
  go_enter Try.func23, Try.ntmps23
  go_wp2
  all_goals
    go_ret
    refine ⟨?_, below_alloc (Below.refl _ _) _⟩
    simp
    omega
set_option maxHeartbeats 2000000 in
theorem index_any {B n mb : Nat} {w : World} {va : Option Addr} {vc : Nat} {es : List Ent} {most : Int} (hrow : w.ownsRow B 61 4 (.slice va n vc) n (es.flatMap Ent.cells)) (hone : ∀ e ∈ es, ∃ x y z, e.bv = .slice x y z) (hn : n = es.length) (hfew : n ≤ 256) (hm : w.cell? ⟨mb, 0, none⟩ = some (.int .i64 most)) :
    Calls Try.prog 25 #[.slice va n vc, .func (.func 23) #[] #[.pointer (some ⟨mb, 0, none⟩)]] w fun e w' =>
      ((e = .returned (.int .i64 (-1)) ∧ ∀ x ∈ es, x.age ≤ max most 0) ∨ ∃ k x, e = .returned (.int .i64 (k : Nat)) ∧ es[k]? = some x ∧ max most 0 < x.age ∧ ∀ j y, j < k → es[j]? = some y → y.age ≤ max most 0) ∧ Below w.heap.size w w' := by
  have R := Lib.hid hrow
  have O := Lib.hid hone
  have HN := Lib.hid hn
  have HM := Lib.hid hm
  have eg : ∀ args w, (callFunc 23 args).run Try.prog w = .ok (.enter 23 args) w := fun _ _ => by kernel_rfl
  clear hrow hone hn hm
  go_enter Try.func25, Try.ntmps25
  go_wp2_with fail
  go_loopg [5, 8] n (fun k _ s8 wr => ∃ j : Nat, j ≤ n ∧ k = n - j ∧ s8 = .int .i64 j ∧ Below w.heap.size w wr ∧ ∀ q y, q < j → es[q]? = some y → y.age ≤ max most 0)
  case atStart => exact ⟨0, Nat.zero_le _, rfl, rfl, Below.refl _ _, fun q y h _ => absurd h (Nat.not_lt_zero _)⟩
  case round =>
    obtain ⟨j, hj, hk, rfl, hB, hall⟩ := hrel
    have HB := Lib.hid hB
    have HK := Lib.hid hk
    have HA := Lib.hid hall
    by_cases hlt : j < n
    · obtain ⟨e, he⟩ : ∃ e, es[j]? = some e := ⟨es[j]'(by rw [← HN.out]; exact hlt), List.getElem?_eq_getElem _⟩
      obtain ⟨g, c, hv, hgl, ⟨d0, d1, d2, d3⟩, _⟩ := row_cells (own_later R.out hB) HN.out he
      cases hv
      obtain ⟨x, y, z, hbv⟩ := O.out e (List.mem_of_getElem? he)
      have hm1 : wr.cell? ⟨mb, 0, none⟩ = some (.int .i64 most) := (hB.cell (p := ⟨mb, 0, none⟩) (World.block_lt_of_cell? w _ HM.out)).trans HM.out
      have F := Lib.hid (fn_any hm1 e.f e.t e.age x y z)
      rw [hbv] at d2
      have j0 : (0 : Int) ≤ (j : Int) := Int.natCast_nonneg _
      have j1 : (j : Int) < (n : Int) := by omega
      have HE := Lib.hid he
      clear hB hk hall hm1 he hbv
      obtain ⟨f, t, age, bv, data⟩ := e
      dsimp only at d0 d1 d2 d3 F
      go_wp2_with fail
      by_cases hp : max most 0 < age
      · have F1 := F.out
        rw [decide_eq_true hp] at F1
        refine F1.mono ?_
        rintro e w2 ⟨rfl, hg⟩
        have HG := Lib.hid hg
        have HP := Lib.hid hp
        clear hg F1 hp
        go_wp2
        go_ret
        exact ⟨Or.inr ⟨j, _, rfl, HE.out, HP.out, HA.out⟩, HB.out.trans (HG.out.mono HB.out.size)⟩
      · have F1 := F.out
        rw [decide_eq_false hp] at F1
        refine F1.mono ?_
        rintro e w2 ⟨rfl, hg⟩
        have HG := Lib.hid hg
        have HP := Lib.hid hp
        clear hg F1 hp
        go_wp2
        go_roundg (n - (j + 1))
        case measure => rw [HK.out]; omega
        case rel =>
          refine ⟨j + 1, by omega, rfl, by go_num, HB.out.trans (HG.out.mono HB.out.size), fun q y hq hy => ?_⟩
          by_cases hqj : q < j
          · exact HA.out q y hqj hy
          · obtain rfl : q = j := by omega
            rw [HE.out] at hy
            cases hy
            exact HP.out
    · obtain rfl : j = n := by omega
      clear hB hk hall
      go_wp2
      go_ret
      refine ⟨Or.inl ⟨rfl, fun x hx => ?_⟩, HB.out⟩
      obtain ⟨q, hq⟩ := List.mem_iff_getElem?.1 hx
      exact HA.out q x (by rw [HN.out]; exact (List.getElem?_eq_some_iff.1 hq).1) hq

/-- How slices.DeleteFunc's row stands: i kept ones of the first j, then whatever, then the others as they were. -/
structure Kept (p : Ent → Bool) (es cs : List Ent) (i j : Nat) : Prop where
  len : cs.length = es.length
  lt : i < j
  low : cs.take i = (es.take j).filter p
  high : cs.drop j = es.drop j
theorem Kept.start {p : Ent → Bool} {es : List Ent} {k : Nat} {x : Ent} (hk : es[k]? = some x) (hx : p x = false) (h : ∀ j y, j < k → es[j]? = some y → p y = true) : Kept p es es k (k + 1) := by
  refine ⟨rfl, by omega, ?_, rfl⟩
  have hl := (List.getElem?_eq_some_iff.1 hk).1
  have e1 : es.take (k + 1) = es.take k ++ [x] := by rw [List.take_add_one, hk]; rfl
  rw [e1, List.filter_append]
  simp only [List.filter_cons, hx, List.filter_nil, Bool.false_eq_true, if_false, List.append_nil]
  rw [List.filter_eq_self.2]
  intro a ha
  obtain ⟨q, hq⟩ := List.mem_iff_getElem?.1 ha
  rw [List.getElem?_take] at hq
  split at hq
  · exact h q a (by assumption) hq
  · cases hq
theorem Kept.at {p : Ent → Bool} {es cs : List Ent} {i j : Nat} (h : Kept p es cs i j) : cs[j]? = es[j]? := by
  have := congrArg (fun l => l[0]?) h.high
  simpa using this
theorem Kept.skip {p : Ent → Bool} {es cs : List Ent} {i j : Nat} (h : Kept p es cs i j) {x : Ent} (hx : es[j]? = some x) (hp : p x = false) : Kept p es cs i (j + 1) := by
  refine ⟨h.len, by have := h.lt; omega, ?_, ?_⟩
  · rw [List.take_add_one, hx]
    simp [List.filter_append, hp, h.low]
  · have := congrArg (List.drop 1) h.high
    simpa [List.drop_drop, Nat.add_comm] using this
theorem Kept.keep {p : Ent → Bool} {es cs : List Ent} {i j : Nat} (h : Kept p es cs i j) {x : Ent} (hx : es[j]? = some x) (hp : p x = true) : Kept p es (cs.set i x) (i + 1) (j + 1) := by
  have hl := (List.getElem?_eq_some_iff.1 hx).1
  have hi : i < cs.length := by have := h.lt; rw [h.len]; omega
  refine ⟨by rw [List.length_set]; exact h.len, by have := h.lt; omega, ?_, ?_⟩
  · have e1 : es.take (j + 1) = es.take j ++ [x] := by rw [List.take_add_one, hx]; rfl
    rw [e1, List.filter_append, ← h.low, List.take_add_one]
    simp only [List.take_set_of_le (Nat.le_refl i), List.getElem?_set_self hi]
    simp [hp]
  · rw [List.drop_set_of_lt (by have := h.lt; omega)]
    have := congrArg (List.drop 1) h.high
    simpa [List.drop_drop, Nat.add_comm] using this
end Go.Proofs.Ytoinlhjdmkeaeab
