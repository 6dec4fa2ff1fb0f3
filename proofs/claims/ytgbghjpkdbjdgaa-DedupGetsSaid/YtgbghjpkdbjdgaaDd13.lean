/- The codec: slices.Clone of bytes; the writer's Out; the reader's Err, fail. -/
import Derived.Test.YtgbghjpkdbjdgaaDd12
import Derived.Lib.SliceRun
namespace Go.Proofs.Ytgbghjpkdbjdgaa
open Go.RowKit
open Extern.Stop (cell)

theorem eql_nil_bytes (w : World) (a : Option Addr) (n c n' c' : Nat) : (binOp .eql 49 (.slice a n c) (.slice none n' c')).run Try.prog w = .ok (.bool a.isNone) w := Lib.run_eql_slice_nil w _ _ a n c n' c' Try.underlying49
theorem rd_none {w : World} {zs : List UInt8} (h : BytesRd w none zs) : zs = [] := by
  cases zs with
  | nil => rfl
  | cons z r => obtain ⟨_, _, e, _⟩ := h 0 z rfl; cases e
set_option maxRecDepth 100000 in
set_option maxHeartbeats 1000000 in
theorem clone_bytes {w : World} {a : Option Addr} {zs : List UInt8} {c : Nat} (h : BytesRd w a zs) (hs : zs.length ≤ 2097152) :
    Calls Try.prog 42 #[.slice a zs.length c] w fun e w' => ∃ v, e = .returned v ∧ w'.ownsRow w.heap.size 5 1 v zs.length (zs.map cell) ∧ Below w.heap.size w w' := by
  cases a with
  | none =>
    have e := rd_none h
    subst e
    clear h hs
    have q := eql_nil_bytes
    go_enter Try.func42, Try.ntmps42
    go_wp2
    go_ret
    exact ⟨_, rfl, World.ownsRow_nil _ _ _ _, Below.refl _ _⟩
  | some ad =>
    have NW := Lib.hid (bytes_news h)
    obtain ⟨i0, hi, hz0, hz1, hz2⟩ := info_parts info_byte
    obtain ⟨n, hn⟩ : ∃ n, n = zs.length := ⟨_, rfl⟩
    have LZ : Hid ((zs.map cell).length = n * 1) := Lib.hid (by rw [hn]; simp)
    rw [← hn] at hs
    rw [← hn]
    clear h hn
    have q := eql_nil_bytes
    go_enter Try.func42, Try.ntmps42
    go_wp2_with (at_builtin; refine wpList_append_news rfl (.tmp 5) (.tmp 6) 49 rfl w.heap.size 5 i0 _ 1 1 Try.underlying49 hi hz0 hz1 hz2 rfl (by decide) _ _ _ rfl (World.ownsRow_made w #[] 0 (Nat.le_refl _) (Nat.zero_le _) (by simp)) ad n c (zs.map cell) rfl LZ.out (fun j u hj => by have := NW.out j u hj; exact cell_up this _) (cells_one zs) (by unfold maxLen; omega) (by omega) (by simp) ?_)
    intro v1 w1 hown1 hg1 hat1
    have B1 := Lib.hid (((Below.refl _ w).alloc (Nat.le_refl _) _).grown hg1 (by simp) (by intro k hk; simp [Value.ownBlock] at hk; omega))
    have O1 := Lib.hid hown1
    clear hown1 hg1 hat1
    go_wp2
    go_ret
    exact ⟨v1, rfl, by simpa using O1.out, B1.out⟩
theorem own_rd_any {w : World} {B : Nat} {v : Value} {zs : List UInt8} (h : w.ownsRow B 5 1 v zs.length (zs.map cell)) : ∃ a c, v = .slice a zs.length c ∧ BytesRd w a zs := by
  by_cases hz : zs = []
  · subst hz
    obtain ⟨xa, xc, rfl⟩ := own_slice h
    exact ⟨xa, xc, rfl, fun j z hj => by simp at hj⟩
  · obtain ⟨ad, c, e, hr⟩ := own_rd h hz
    exact ⟨some ad, c, e, hr⟩
set_option maxRecDepth 100000 in
set_option maxHeartbeats 1000000 in
theorem out_any {w : World} {x : Nat} {bs : List UInt8} (h : WrIs w x bs) (hs : bs.length ≤ 2097152) :
    Calls Try.prog 34 #[.pointer (some ⟨x, 0, none⟩)] w fun e w' => ∃ v, e = .returned v ∧ w'.ownsRow w.heap.size 5 1 v bs.length (bs.map cell) ∧ Below w.heap.size w w' := by
  obtain ⟨v, h1, h2⟩ := h
  obtain ⟨xa, xc, rfl, hr⟩ := own_rd_any h2
  obtain ⟨y0, y1⟩ := blk1 h1
  have CL := Lib.hid (clone_bytes (c := xc) hr hs)
  clear h1 h2 hr
  go_enter Try.func34, Try.ntmps34
  go_wp2_with fail
  refine CL.out.mono ?_
  rintro e w1 ⟨v1, rfl, h3, b3⟩
  have H3 := Lib.hid h3
  have B3 := Lib.hid b3
  clear h3 b3 CL
  go_wp2
  go_ret
  exact ⟨v1, rfl, H3.out, B3.out⟩
/-- A reader at x: so many bytes are left; its error. -/
structure RdIs (w : World) (x : Nat) (a : Option Addr) (c : Nat) (zs : List UInt8) (e : Int) : Prop where
  box : w.heap[x]? = some (.cells #[.slice a zs.length c, .int .i64 e] 97 (0, 0))
  rd : BytesRd w a zs
theorem RdIs.lt {w : World} {x : Nat} {a : Option Addr} {c : Nat} {zs : List UInt8} {e : Int} (h : RdIs w x a c zs e) : x < w.heap.size := (Array.getElem?_eq_some_iff.1 h.box).1
theorem RdIs.later {w w' : World} {x : Nat} {a : Option Addr} {c : Nat} {zs : List UInt8} {e : Int} (h : RdIs w x a c zs e) (hb : Below w.heap.size w w') : RdIs w' x a c zs e := ⟨aRegionKept h.box hb, h.rd.later hb⟩
theorem rd_box {w : World} {x : Nat} {u v : Value} {t : TypeId} (h : w.heap[x]? = some (.cells #[u, v] t (0, 0))) : w.cell? ⟨x, 0, none⟩ = some u ∧ w.cell? ⟨x, 1, none⟩ = some v ∧ w.frozen? ⟨x, 0, none⟩ = false ∧ w.frozen? ⟨x, 1, none⟩ = false :=
  ⟨by rw [cell_of_row w x 0 _ t (0, 0) h]; rfl, by rw [cell_of_row w x 1 _ t (0, 0) h]; rfl, blk_free h 0, blk_free h 1⟩
set_option maxHeartbeats 1000000 in
theorem err_any {w : World} {x : Nat} {a : Option Addr} {c : Nat} {zs : List UInt8} {er : Int} (h : RdIs w x a c zs er) :
    Calls Try.prog 27 #[.pointer (some ⟨x, 0, none⟩)] w fun e w' => e = .returned (.int .i64 er) ∧ w' = w := by
  obtain ⟨y0, y1, y2, y3⟩ := rd_box h.box
  clear h
  go_enter Try.func27, Try.ntmps27
  go_wp2
  go_ret
  exact ⟨rfl, rfl⟩
end Go.Proofs.Ytgbghjpkdbjdgaa
