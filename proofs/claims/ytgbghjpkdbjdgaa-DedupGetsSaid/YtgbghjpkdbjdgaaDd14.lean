/- The codec: the reader's NewReader, End, fail. -/
import Derived.Test.YtgbghjpkdbjdgaaDd13
namespace Go.Proofs.Ytgbghjpkdbjdgaa
open Go.RowKit
open Extern.Stop (cell)

theorem own_room {w : World} {B : Nat} {e : TypeId} {s : Nat} {a : Option Addr} {n' c n : Nat} {xs : List Value} (h : w.ownsRow B e s (.slice a n' c) n xs) : n ≤ c := by
  rcases h.2 with ⟨_, h0⟩ | ⟨g, cap, cur, h1, _, _, hnc, _⟩
  · omega
  · cases h1
    exact hnc
theorem own_block_lt {w : World} {B : Nat} {e : TypeId} {s : Nat} {a : Option Addr} {n' c n : Nat} {xs : List Value} (h : w.ownsRow B e s (.slice a n' c) n xs) : ∀ ad, a = some ad → ad.block < w.heap.size := by
  rintro ad rfl
  rcases h.2 with ⟨h0, _⟩ | ⟨g, cap, cur, h1, _, h2, _⟩
  · cases h0
  · cases h1
    exact (Array.getElem?_eq_some_iff.1 h2).1
set_option maxRecDepth 100000 in
set_option maxHeartbeats 1000000 in
theorem newreader_any {w : World} {a : Option Addr} {zs : List UInt8} {c : Nat} (h : BytesRd w a zs) (hs : zs.length ≤ 2097152) :
    Calls Try.prog 25 #[.slice a zs.length c] w fun e w' => ∃ x a' c', e = .returned (.pointer (some ⟨x, 0, none⟩)) ∧ RdIs w' x a' c' zs 0 ∧ zs.length ≤ c' ∧ (∀ ad, a' = some ad → ad.block < x) ∧ w.heap.size ≤ x ∧ Below w.heap.size w w' := by
  have CL := Lib.hid (clone_bytes (c := c) h hs)
  clear h
  go_enter Try.func25, Try.ntmps25
  go_wp2_with fail
  refine CL.out.mono ?_
  rintro e w1 ⟨v1, rfl, h3, b3⟩
  obtain ⟨xa, xc, rfl, hr⟩ := own_rd_any h3
  have HR := Lib.hid hr
  have RM := Lib.hid (own_room h3)
  have BL := Lib.hid (own_block_lt h3)
  have B3 := Lib.hid b3
  clear h3 b3 CL hr
  go_wp2
  go_ret
  exact ⟨w1.heap.size, xa, xc, rfl, ⟨heap_at _ _, HR.out.later (below_alloc (Below.refl _ _) _)⟩, RM.out, BL.out, B3.out.size, B3.out.trans ((below_alloc (Below.refl _ _) _).mono B3.out.size)⟩
/-- What End says. -/
def endOf (zs : List UInt8) (er : Int) : Int := if er = 0 then (if zs.length = 0 then 0 else 12) else er
set_option maxRecDepth 100000 in
set_option maxHeartbeats 1000000 in
theorem end_any {w : World} {x : Nat} {a : Option Addr} {c : Nat} {zs : List UInt8} {er : Int} (h : RdIs w x a c zs er) :
    Calls Try.prog 30 #[.pointer (some ⟨x, 0, none⟩)] w fun e w' => e = .returned (.int .i64 (endOf zs er)) ∧ w' = w := by
  obtain ⟨y0, y1, y2, y3⟩ := rd_box h.box
  have ER := Lib.hid (err_any h)
  obtain ⟨n, hn⟩ : ∃ n, n = zs.length := ⟨_, rfl⟩
  have EN : endOf zs er = if er = 0 then (if n = 0 then 0 else 12) else er := by rw [hn]; rfl
  rw [EN]
  rw [← hn] at y0
  clear h hn EN
  go_enter Try.func30, Try.ntmps30
  go_wp2_with fail
  refine ER.out.mono ?_
  rintro e w1 ⟨rfl, rfl⟩
  clear ER
  by_cases he : er = 0
  · subst he
    by_cases hn : n = 0
    · subst hn
      go_wp2
      go_ret
      exact ⟨rfl, rfl⟩
    · have hn1 : (0 : Int) < (n : Int) := by omega
      go_wp2
      go_ret
      exact ⟨rfl, rfl⟩
  · have he1 : (er == 0) = false := by simpa using he
    go_wp2
    go_ret
    exact ⟨rfl, rfl⟩
set_option maxRecDepth 100000 in
set_option maxHeartbeats 1000000 in
theorem fail_any {w : World} {x : Nat} {a : Option Addr} {c : Nat} {zs : List UInt8} {er : Int} (h : RdIs w x a c zs er) (f : Int) :
    Calls Try.prog 44 #[.pointer (some ⟨x, 0, none⟩), .int .i64 f] w fun e w' => e = .returned (.tuple #[]) ∧ RdIs w' x a c zs (if er = 0 then f else er) ∧ w.grownBy w' (some x) := by
  obtain ⟨y0, y1, y2, y3⟩ := rd_box h.box
  have HB := Lib.hid h
  clear h
  by_cases he : er = 0
  · subst he
    go_enter Try.func44, Try.ntmps44
    go_wp2
    go_end0
    refine ⟨rfl, ⟨heap_setCell_same (.int .i64 f) HB.out.box, fun j z hj => ?_⟩, grown_setCell w _ _⟩
    obtain ⟨b, off, h1, h2, h3⟩ := HB.out.rd j z hj
    refine ⟨b, off, h1, by simpa using h2, cell_set h3 (fun e => ?_) _⟩
    rw [← e] at h3
    have y := (rd_box HB.out.box).2.1
    rw [y] at h3
    cases h3
  · rw [if_neg he]
    have he1 : (er == 0) = false := by simpa using he
    go_enter Try.func44, Try.ntmps44
    go_wp2
    go_end0
    exact ⟨rfl, HB.out, grown_refl _ _⟩
end Go.Proofs.Ytgbghjpkdbjdgaa
