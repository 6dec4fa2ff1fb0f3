/- The codec: the reader's take. -/
import Derived.Test.YtgbghjpkdbjdgaaDd14
namespace Go.Proofs.Ytgbghjpkdbjdgaa
open Go.RowKit
open Extern.Stop (cell)

/-- take of n bytes, there being an error: nothing turns. -/
theorem take_bad {w : World} {x : Nat} {a : Option Addr} {c : Nat} {zs : List UInt8} {er : Int} (h : RdIs w x a c zs er) (he : er ≠ 0) (n : Int) :
    Calls Try.prog 43 #[.pointer (some ⟨x, 0, none⟩), .int .i64 n] w fun e w' => e = .returned (.slice none 0 0) ∧ w' = w := by
  have ER := Lib.hid (err_any h)
  have he1 : (er == 0) = false := by simpa using he
  clear h
  go_enter Try.func43, Try.ntmps43
  go_wp2_with fail
  refine ER.out.mono ?_
  rintro e w1 ⟨rfl, rfl⟩
  clear ER
  go_wp2
  go_ret
  exact ⟨rfl, rfl⟩
set_option maxRecDepth 100000 in
set_option maxHeartbeats 1000000 in
/-- .. more than there are: short. -/
theorem take_short {w : World} {x : Nat} {a : Option Addr} {c : Nat} {zs : List UInt8} (h : RdIs w x a c zs 0) (n : Nat) (hn : zs.length < n) :
    Calls Try.prog 43 #[.pointer (some ⟨x, 0, none⟩), .int .i64 n] w fun e w' => e = .returned (.slice none 0 0) ∧ RdIs w' x a c zs 10 ∧ w.grownBy w' (some x) := by
  have ER := Lib.hid (err_any h)
  have FA := Lib.hid (fail_any h 10)
  obtain ⟨y0, y1, y2, y3⟩ := rd_box h.box
  obtain ⟨m, hm⟩ : ∃ m, m = zs.length := ⟨_, rfl⟩
  rw [← hm] at y0 hn
  have n0 : (0 : Int) ≤ (n : Int) := Int.natCast_nonneg _
  have n1 : (m : Int) < (n : Int) := by omega
  clear h hm
  go_enter Try.func43, Try.ntmps43
  go_wp2_with fail
  refine ER.out.mono ?_
  rintro e w1 ⟨rfl, rfl⟩
  clear ER
  go_wp2_with fail
  refine FA.out.mono ?_
  rintro e w2 ⟨rfl, h2, g2⟩
  have H2 := Lib.hid h2
  have G2 := Lib.hid g2
  clear h2 g2 FA
  go_wp2
  go_ret
  exact ⟨rfl, H2.out, G2.out⟩
theorem rd_part {w : World} {b off : Nat} {zs : List UInt8} (h : BytesRd w (some ⟨b, off, none⟩) zs) (n : Nat) : BytesRd w (some ⟨b, off + n, none⟩) (zs.drop n) := fun j z hj => by
  rw [List.getElem?_drop] at hj
  obtain ⟨b2, o2, e, h2, h3⟩ := h _ z hj
  cases e
  exact ⟨b, off + n, rfl, h2, by rw [Nat.add_assoc]; exact h3⟩
theorem rd_set {w : World} {x : Nat} {a : Option Addr} {c : Nat} {zs : List UInt8} {er : Int} (h : RdIs w x a c zs er) (v : Value) {a2 : Option Addr} {ys : List UInt8} (hr : BytesRd w a2 ys) : BytesRd (w.setCell ⟨x, 0, none⟩ v) a2 ys := fun j z hj => by
  obtain ⟨b, off, h1, h2, h3⟩ := hr j z hj
  refine ⟨b, off, h1, by simpa using h2, cell_set h3 (fun e => ?_) _⟩
  rw [← e] at h3
  have y := (rd_box h.box).1
  rw [y] at h3
  cases h3
set_option maxRecDepth 100000 in
set_option maxHeartbeats 1000000 in
/-- .. so many as there are. -/
theorem take_yes {w : World} {x b off : Nat} {c : Nat} {zs : List UInt8} (h : RdIs w x (some ⟨b, off, none⟩) c zs 0) (hc : zs.length ≤ c) (n : Nat) (hn : n ≤ zs.length) (hn1 : 1 ≤ n) :
    Calls Try.prog 43 #[.pointer (some ⟨x, 0, none⟩), .int .i64 n] w fun e w' => e = .returned (.slice (some ⟨b, off, none⟩) n n) ∧ (∃ o', RdIs w' x (some ⟨b, o', none⟩) (c - n) (zs.drop n) 0) ∧ w.grownBy w' (some x) := by
  have ER := Lib.hid (err_any h)
  obtain ⟨y0, y1, y2, y3⟩ := rd_box h.box
  obtain ⟨m, hm⟩ : ∃ m, m = zs.length := ⟨_, rfl⟩
  rw [← hm] at y0 hc hn
  have HB := Lib.hid h
  have HM := Lib.hid hm
  have n0 : (0 : Int) ≤ (n : Int) := Int.natCast_nonneg _
  have n1 : (n : Int) ≤ (m : Int) := by omega
  have n2 : (m : Int) ≤ (c : Int) := by omega
  have n3 : (n : Int) ≤ (c : Int) := by omega
  have n4 : decide ((n : Int) < 0) = false := decide_eq_false (by omega)
  have DL : Hid (m - n = (zs.drop n).length) := Lib.hid (by rw [List.length_drop, hm])
  clear h hm
  go_enter Try.func43, Try.ntmps43
  go_wp2_with fail
  refine ER.out.mono ?_
  rintro e w1 ⟨rfl, rfl⟩
  clear ER
  by_cases hcn : c = n
  · subst hcn
    obtain rfl : m = c := by omega
    go_wp2
    all_goals go_ret
    all_goals
      refine ⟨rfl, ⟨off, ?_, ?_⟩, grown_setCell _ _ _⟩
    · have e0 : (zs.drop m).length = 0 := by rw [← DL.out, Nat.sub_self]
      show _ = some (Obj.cells #[.slice (some ⟨b, off, none⟩) (zs.drop m).length (m - m), .int .i64 0] _ _)
      rw [e0, Nat.sub_self]
      exact heap_setCell_same (.slice (some ⟨b, off, none⟩) 0 0) HB.out.box
    · refine rd_set HB.out _ ?_
      rw [List.drop_of_length_le (by rw [← HM.out]; exact Nat.le_refl _)]
      exact fun j z hj => by simp at hj
  · have hcn1 : (c : Int) ≠ (n : Int) := by omega
    have hcn2 : ¬ c - n = 0 := by omega
    go_wp2
    all_goals go_ret
    all_goals
      refine ⟨rfl, ⟨off + n, ?_, ?_⟩, grown_setCell _ _ _⟩
    all_goals first | (rw [← DL.out]; exact heap_setCell_same (.slice (some ⟨b, off + n, none⟩) (m - n) (c - n)) HB.out.box) | exact rd_set HB.out _ (rd_part HB.out.rd n)
end Go.Proofs.Ytgbghjpkdbjdgaa
