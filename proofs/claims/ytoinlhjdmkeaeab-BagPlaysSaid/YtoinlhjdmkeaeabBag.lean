/- A bag in memory, and what its smaller functions do. -/
import Derived.Test.YtoinlhjdmkeaeabRow
import Derived.Test.YtoinlhjdmkeaeabFrame
import Derived.Lib.SliceRun
import Derived.StillTailTactics
import Derived.RangeFuncBox
namespace Go.Proofs.Ytoinlhjdmkeaeab
open Go.RowKit Go.ChangeShapes Go.WideShapes Go.ChangeAt

structure Msg where
  f : Int
  t : Int
  age : Int
  data : List Int
structure Ent where
  f : Int
  t : Int
  age : Int
  bv : Value
  data : List Int
abbrev Ent.msg (e : Ent) : Msg := ⟨e.f, e.t, e.age, e.data⟩
def Ent.cells (e : Ent) : List Value := [.int .i64 e.f, .int .i64 e.t, e.bv, .int .i64 e.age]
theorem Ent.one {e : Ent} (h : e.bv.oneCell' = true) : ∀ u ∈ e.cells, u.oneCell' = true := by
  intro u hu
  simp only [Ent.cells, List.mem_cons, List.not_mem_nil, or_false] at hu
  rcases hu with rfl | rfl | rfl | rfl <;> first | rfl | exact h
theorem Ent.len (e : Ent) : e.cells.length = 4 := rfl
abbrev BytesIs (B : Nat) (w : World) (v : Value) (data : List Int) : Prop := w.ownsRow B 5 1 v data.length (data.map (Value.int .u8))
/-- The types of a bag's blocks. -/
abbrev bagT : List TypeId := [57, 61]

structure BagIs (A B : Nat) (w : World) (b : Nat) (nodes : Int) (v : Value) (es : List Ent) : Prop where
  box : w.heap[b]? = some (.cells #[.int .i64 nodes, v] 57 (0, 0))
  row : w.ownsRow B 61 4 v es.length (es.flatMap Ent.cells)
  bytes : ∀ e ∈ es, BytesIs B w e.bv e.data
  few : es.length ≤ 256
  hb : A ≤ b
  hB : A ≤ B
def IsBag (A B : Nat) (w : World) (b : Nat) (nodes : Int) (ms : List Msg) : Prop := ∃ v es, es.map Ent.msg = ms ∧ BagIs A B w b nodes v es
theorem BagIs.lt {A B : Nat} {w : World} {b : Nat} {nodes : Int} {v : Value} {es : List Ent} (h : BagIs A B w b nodes v es) : b < w.heap.size := (Array.getElem?_eq_some_iff.1 h.box).1
theorem BagIs.later {A B : Nat} {w w' : World} {b : Nat} {nodes : Int} {v : Value} {es : List Ent} (h : BagIs A B w b nodes v es) (hb : Below w.heap.size w w') : BagIs A B w' b nodes v es :=
  ⟨(hb.block b h.lt).trans h.box, own_later h.row hb, fun e he => own_later (h.bytes e he) hb, h.few, h.hb, h.hB⟩
theorem IsBag.later {A B : Nat} {w w' : World} {b : Nat} {nodes : Int} {ms : List Msg} (h : IsBag A B w b nodes ms) (hb : Below w.heap.size w w') : IsBag A B w' b nodes ms := by
  obtain ⟨v, es, h1, h2⟩ := h
  exact ⟨v, es, h1, h2.later hb⟩
theorem BagIs.slice {A B : Nat} {w : World} {b : Nat} {nodes : Int} {v : Value} {es : List Ent} (h : BagIs A B w b nodes v es) : ∃ a c, v = .slice a es.length c ∧ (∀ x, a = some x → x.spot = none ∧ x.off = 0) := by
  rcases h.row.2 with ⟨rfl, h0⟩ | ⟨g, cap, cur, rfl, _⟩
  · exact ⟨none, 0, by rw [h0], by simp⟩
  · exact ⟨some ⟨g, 0, none⟩, cap, rfl, by simp⟩

/-- Bytes that are handed in, wherever they lie. -/
def BytesAt (w : World) (v : Value) (data : List Int) : Prop := ∃ ad c, v = .slice ad data.length c ∧ (∀ x, ad = some x → data ≠ [] → x.spot = none) ∧ ∀ j x, data[j]? = some x → ∃ b off, ad = some ⟨b, off, none⟩ ∧ w.cell? ⟨b, off + j, none⟩ = some (.int .u8 x)
theorem BytesAt.later {w w' : World} {v : Value} {data : List Int} (h : BytesAt w v data) (hb : Below w.heap.size w w') : BytesAt w' v data := by
  obtain ⟨ad, c, h1, h2, h3⟩ := h
  refine ⟨ad, c, h1, h2, fun j x hx => ?_⟩
  obtain ⟨b, off, k1, k2⟩ := h3 j x hx
  refine ⟨b, off, k1, ?_⟩
  have hlt : b < w.heap.size := World.block_lt_of_cell? w ⟨b, off + j, none⟩ k2
  exact (hb.cell (p := ⟨b, off + j, none⟩) hlt).trans k2
theorem BytesIs.at {B : Nat} {w : World} {v : Value} {data : List Int} (h : BytesIs B w v data) : BytesAt w v data := by
  rcases h.2 with ⟨rfl, h0⟩ | ⟨g, cap, cur, rfl, hb, hg, hnc, hcm, hcs, htake⟩
  · have : data = [] := List.eq_nil_of_length_eq_zero h0
    subst this
    exact ⟨none, 0, rfl, by simp, by simp⟩
  · refine ⟨some ⟨g, 0, none⟩, cap, rfl, by simp, fun j x hx => ⟨g, 0, rfl, ?_⟩⟩
    have hj : j < data.length := (List.getElem?_eq_some_iff.1 hx).1
    have := h.cellAt j (by omega)
    rw [Nat.zero_add, this, List.getElem?_map, hx]; rfl

theorem info_byte : (Try.prog.info? 5).map (fun i => (i.zero, i.size, i.bytes)) = some (some (.int .u8 0), 1, 1) := by kernel_rfl
theorem info_old : (Try.prog.info? 61).map (fun i => (i.zero, i.size, i.bytes)) = some (some (.agg #[.int .i64 0, .int .i64 0, .slice none 0 0, .int .i64 0]), 4, 48) := by kernel_rfl

theorem eql_nil_bytes (w : World) (a : Option Addr) (n c n' c' : Nat) : (binOp .eql 29 (.slice a n c) (.slice none n' c')).run Try.prog w = .ok (.bool a.isNone) w := Lib.run_eql_slice_nil w _ _ a n c n' c' Try.underlying29

set_option maxHeartbeats 1000000 in
theorem clone_any {v : Value} {data : List Int} {w : World} (h : BytesAt w v data) (hs : data.length ≤ 2097152) :
    Calls Try.prog 24 #[v] w fun e w' => ∃ v', e = .returned v' ∧ BytesIs w.heap.size w' v' data ∧ Below w.heap.size w w' := by
  obtain ⟨ad, c, rfl, hsp, hc⟩ := h
  cases ad with
  | none =>
    have : data = [] := by
      cases data with
      | nil => rfl
      | cons x r => obtain ⟨b, off, h1, _⟩ := hc 0 x rfl; cases h1
    subst this
    clear hc hsp
    have q := eql_nil_bytes
    go_enter Try.func24, Try.ntmps24
    go_wp2
    go_ret
    exact ⟨_, rfl, World.ownsRow_nil _ _ _ _, Below.refl _ _⟩
  | some a =>
    obtain ⟨b, off, spot⟩ := a
    by_cases hd : data = []
    · subst hd
      obtain ⟨i0, hi, hz0, hz1, hz2⟩ := info_parts info_byte
      clear hc hsp hs
      have q := eql_nil_bytes
      go_enter Try.func24, Try.ntmps24
      go_wp2_with (at_builtin; refine wpList_append_own _ rfl _ _ 29 rfl w.heap.size 5 i0 _ 1 1 Try.underlying29 hi hz0 hz1 hz2 rfl (by decide) _ _ _ rfl (World.ownsRow_made w #[] 0 (Nat.le_refl _) (Nat.zero_le _) (by simp)) ⟨b, off, spot⟩ 0 c [] rfl ?qc1 ?qc2 ?qc3 ?qc4 ?qc5 ?qc6 ?_)
      case qc1 => simp
      case qc2 => simp
      case qc3 => simp
      case qc4 => unfold maxLen; omega
      case qc5 => omega
      case qc6 => simp
      intro v' w1 hown hgrow hnil
      go_wp2
      go_ret
      refine ⟨v', rfl, by unfold BytesIs; simpa using hown, ?_⟩
      exact ((Below.refl _ w).alloc (Nat.le_refl _) _).grown hgrow (by simp) (by intro k hk; simp [Value.ownBlock] at hk; omega)
    obtain rfl : spot = none := hsp _ rfl hd
    have A : Hid (∀ j x, data[j]? = some x → w.cell? ⟨b, off + j, none⟩ = some (.int .u8 x)) := fun j x hx => by
      obtain ⟨b', off', h1, h2⟩ := hc j x hx
      cases h1; exact h2
    have L := Lib.hid hs
    obtain ⟨i0, hi, hz0, hz1, hz2⟩ := info_parts info_byte
    clear hc hsp hs
    have q := eql_nil_bytes
    go_enter Try.func24, Try.ntmps24
    go_wp2_with (at_builtin; refine wpList_append_own _ rfl _ _ 29 rfl w.heap.size 5 i0 _ 1 1 Try.underlying29 hi hz0 hz1 hz2 rfl (by decide) _ _ _ rfl (World.ownsRow_made w #[] 0 (Nat.le_refl _) (Nat.zero_le _) (by simp)) ⟨b, off, none⟩ data.length c (data.map (Value.int .u8)) rfl ?qc1 ?qc2 ?qc3 ?qc4 ?qc5 ?qc6 ?_)
    case qc1 => simp
    case qc2 =>
      intro j u hj
      rw [List.getElem?_map] at hj
      obtain ⟨x, hx, rfl⟩ := Option.map_eq_some_iff.1 hj
      rw [Addr.add_lit]
      exact Lib.cell?_alloc_some _ (A.out j x hx)
    case qc3 => intro u hu; obtain ⟨x, _, rfl⟩ := List.mem_map.1 hu; rfl
    case qc4 => have := L.out; rw [Nat.zero_add]; unfold maxLen; omega
    case qc5 => have := L.out; rw [Nat.zero_add]; omega
    case qc6 => simp
    intro v' w1 hown hgrow hnil
    go_wp2
    go_ret
    refine ⟨v', rfl, by simpa using hown, ?_⟩
    exact ((Below.refl _ w).alloc (Nat.le_refl _) _).grown hgrow (by simp) (by intro k hk; simp [Value.ownBlock] at hk; omega)

set_option maxHeartbeats 1000000 in
theorem copied_any {v : Value} {data : List Int} {w : World} (f t : Int) (h : BytesAt w v data) (hs : data.length ≤ 2097152) :
    Calls Try.prog 19 #[.agg #[.int .i64 f, .int .i64 t, v]] w fun e w' => ∃ v', e = .returned (.agg #[.int .i64 f, .int .i64 t, v']) ∧ BytesIs w.heap.size w' v' data ∧ Below w.heap.size w w' := by
  have H := Lib.hid h
  have one : ∃ a n c, v = .slice a n c := by obtain ⟨ad, c, h1, _⟩ := h; exact ⟨_, _, _, h1⟩
  obtain ⟨va, vn, vc, rfl⟩ := one
  have HS := Lib.hid hs
  clear h hs
  go_enter Try.func19, Try.ntmps19
  go_wp2_with fail
  refine (clone_any (H.out.later (below_alloc (below_alloc (Below.refl _ _) _) _)) HS.out).mono ?_
  rintro e w1 ⟨v', rfl, h1, h2⟩
  have base : Below w.heap.size w w1 := (below_alloc (below_alloc (Below.refl _ _) _) _).trans (h2.mono (by simp; omega))
  have hB : BytesIs (w.heap.size + 2) w1 v' data := by simpa using h1
  have b1 : w1.heap[w.heap.size]? = some (.cells #[.int .i64 f, .int .i64 t, .slice va vn vc] 31 (0, 0)) := heap_kept h2 (heap_up (heap_at _ _)) (by simp; omega)
  have b2 : w1.heap[w.heap.size + 1]? = some (.cells #[.int .i64 0, .int .i64 0, .slice none 0 0] 31 (0, 0)) := heap_kept h2 (by have := heap_at (w.alloc (.cells #[.int .i64 f, .int .i64 t, .slice va vn vc] 31)) (.cells #[.int .i64 0, .int .i64 0, .slice none 0 0] 31); simpa using this) (by simp)
  have hv : ∃ a n c, v' = .slice a n c := by rcases hB.2 with ⟨rfl, _⟩ | ⟨g, cap, cur, rfl, _⟩ <;> exact ⟨_, _, _, rfl⟩
  obtain ⟨ua, un, uc, rfl⟩ := hv
  have HB := Lib.hid base
  have HV := Lib.hid hB
  clear h1 h2 base hB H HS
  obtain ⟨⟨c0, c1, c2⟩, c3, c4, c5⟩ := blk3 b1
  obtain ⟨⟨d0, d1, d2⟩, d3, d4, d5⟩ := blk3 b2
  clear b1 b2
  go_wp2
  refine bodyPost_ret (v := .agg #[.int .i64 f, .int .i64 t, .slice ua un uc]) ?_ rfl ⟨_, rfl, ?_, ?_⟩
  · simp [results, Try.results19, go_sem, *]
  · exact own_mono (own_low (own_low (own_low (own_low HV.out (by simp) _) (by simp) _) (by simp) _) (by simp) _) (Nat.le_add_right _ 2)
  · exact (by repeat with_reducible (first | exact HB.out | exact Below.refl _ _ | refine below_alloc ?_ _ | refine Below.setCell ?_ (by simp) _ | refine Below.drew ?_))
end Go.Proofs.Ytoinlhjdmkeaeab
