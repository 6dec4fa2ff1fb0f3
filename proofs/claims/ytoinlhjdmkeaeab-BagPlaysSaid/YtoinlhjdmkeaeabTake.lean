/- What Take and Copy do. -/
import Derived.Test.YtoinlhjdmkeaeabPut
import Derived.Test.YtoinlhjdmkeaeabDel
namespace Go.Proofs.Ytoinlhjdmkeaeab
open Go.RowKit

theorem copy_none (w : World) (i : Int) : Calls Try.prog 13 #[.pointer none, .int .i64 i] w fun e w' => e = .returned (.int .i64 1) ∧ w' = w := by
  go_enter Try.func13, Try.ntmps13
  go_wp2
  go_ret
  exact ⟨rfl, rfl⟩
theorem take_none (w : World) (i : Int) : Calls Try.prog 11 #[.pointer none, .int .i64 i] w fun e w' => e = .returned (.tuple #[.agg #[.int .i64 0, .int .i64 0, .slice none 0 0], .bool false]) ∧ Below w.heap.size w w' := by
  have L := there_none
  go_enter Try.func11, Try.ntmps11
  go_wp2_with fail
  refine (L _ _).mono ?_
  rintro e w1 ⟨rfl, rfl⟩
  go_wp2
  refine bodyPost_ret (v := .tuple #[.agg #[.int .i64 0, .int .i64 0, .slice none 0 0], .bool false]) ?_ rfl ⟨rfl, ?_⟩
  · simp [results, Try.results11, go_sem, *]
  · repeat with_reducible (first | exact Below.refl _ _ | exact Below.refl _ _ | refine below_alloc ?_ _ | refine Below.setCell ?_ (by simp) _ | refine Below.drew ?_)

variable {A B : Nat} {w : World} {b : Nat} {nodes : Int} {v : Value} {es : List Ent} {ms : List Msg}
/-- The i-th one's cells. -/
theorem BagIs.cells (h : BagIs A B w b nodes v es) {i : Nat} {e : Ent} (he : es[i]? = some e) :
    ∃ g c, v = .slice (some ⟨g, 0, none⟩) es.length c ∧ g ≠ b ∧ g < w.heap.size ∧ (w.cell? ⟨g, i * 4, none⟩ = some (.int .i64 e.f) ∧ w.cell? ⟨g, i * 4 + 1, none⟩ = some (.int .i64 e.t) ∧ w.cell? ⟨g, i * 4 + 2, none⟩ = some e.bv ∧ w.cell? ⟨g, i * 4 + 3, none⟩ = some (.int .i64 e.age)) ∧ (∀ j, w.frozen? ⟨g, j, none⟩ = false) := by
  have hi := (List.getElem?_eq_some_iff.1 he).1
  have hrow := h.row
  rcases h.row.2 with ⟨rfl, h0⟩ | ⟨g, cap, cur, rfl, _, hg, _⟩
  · omega
  · have c := fun r (hr : r < 4) => (hrow.cellAt (i * 4 + r) (by omega)).trans (flat_get Ent.cells 4 Ent.len es i r hr he)
    exact ⟨g, cap, rfl, (fun e1 => by subst e1; rw [h.box] at hg; cases hg), (Array.getElem?_eq_some_iff.1 hg).1, ⟨c 0 (by decide), c 1 (by decide), c 2 (by decide), c 3 (by decide)⟩, hrow.frozenAt⟩

theorem BagIs.keeps {T : List TypeId} {A' : Nat} {w' : World} (h : BagIs A B w b nodes v es) (hk : Keeps T A' w w') (h1 : T.contains 57 = false) (h2 : T.contains 61 = false) (h3 : T.contains 5 = false) : BagIs A B w' b nodes v es :=
  ⟨hk.old _ _ h.box h1, hk.own h.row h2, fun e he => hk.own (h.bytes e he) h3, h.few, h.hb, h.hB⟩
theorem BagIs.turn {w1 : World} {v' : Value} {es' : List Ent} (hI : BagIs A B w b nodes v es) (hg : w.grownBy w1 v.ownBlock) (hown : w1.ownsRow B 61 4 v' es'.length (es'.flatMap Ent.cells)) (hsub : ∀ e ∈ es', BytesIs B w e.bv e.data) (hfew : es'.length ≤ 256) :
    BagIs A B (w1.setCell ⟨b, 1, none⟩ v') b nodes v' es' ∧ Keeps bagT A w (w1.setCell ⟨b, 1, none⟩ v') := by
  have hA := hI.hB
  have hlt := hI.lt
  have hAb := hI.hb
  have hrow : ∀ k, v.ownBlock = some k → A ≤ k ∧ ∃ cs t fz, w.heap[k]? = some (.cells cs t fz) ∧ bagT.contains t = true := fun k hk => by
    obtain ⟨q1, cur, q2⟩ := own_row hI.row hk
    exact ⟨by omega, cur, _, _, q2, rfl⟩
  have k1 : Keeps bagT A w w1 := (Keeps.refl bagT A w).row hg (by omega) hrow
  have hbox : w1.heap[b]? = some (.cells #[.int .i64 nodes, v] 57 (0, 0)) := by
    rw [hg.block b hlt (fun e => ?_)]
    · exact hI.box
    · obtain ⟨_, cur, hc⟩ := own_row hI.row e.symm
      rw [hI.box] at hc; cases hc
  have k2 := k1.setCell (a := ⟨b, 1, none⟩) hbox rfl hI.hb v'
  have hrow2 : ∀ k, some b = some k → ∃ cs t fz, w1.heap[k]? = some (.cells cs t fz) ∧ t ≠ 61 := fun k hk => by cases hk; exact ⟨_, _, _, hbox, by decide⟩
  exact ⟨⟨heap_setCell_same _ hbox, own_grown hown (grown_setCell w1 ⟨b, 1, none⟩ v') hrow2, fun e he => k2.own (hsub e he) rfl, hfew, hI.hb, hI.hB⟩, k2⟩
theorem Keeps.fresh {T : List TypeId} {w1 : World} (h : Keeps T A w w1) {a : Addr} (ha : w.heap.size ≤ a.block) (hA : A ≤ a.block) (u : Value) : Keeps T A w (w1.setCell a u) :=
  ⟨h.below.setCell hA u, fun k o hk ho => by
    have := (Array.getElem?_eq_some_iff.1 hk).1
    rw [RowKit.Below.heap_setCell _ _ _ _ (by omega)]; exact h.old k o hk ho⟩

set_option maxHeartbeats 1000000 in
theorem copy_no (h : IsBag A B w b nodes ms) {i : Int} (hi : i < 0 ∨ (ms.length : Int) ≤ i) :
    Calls Try.prog 13 #[.pointer (some ⟨b, 0, none⟩), .int .i64 i] w fun e w' => e = .returned (.int .i64 14) ∧ w' = w := by
  obtain ⟨v, es, hms, hI⟩ := h
  obtain ⟨va, vc, rfl, _⟩ := hI.slice
  have hl : ms.length = es.length := by rw [← hms]; simp
  have T := there_any hI.box i
  rw [show there es.length i = false by unfold there; rw [hl] at hi; rcases hi with hi | hi <;> simp <;> omega] at T
  clear hI hms hl hi
  go_enter Try.func13, Try.ntmps13
  go_wp2_with fail
  refine T.mono ?_
  rintro e w1 ⟨rfl, rfl⟩
  go_wp2
  go_ret
  exact ⟨rfl, rfl⟩
set_option maxHeartbeats 1000000 in
theorem copy_yes (h : IsBag A B w b nodes ms) (hA : A ≤ w.heap.size) (hB : B ≤ w.heap.size) {i : Nat} {m : Msg} (hi : ms[i]? = some m) :
    Calls Try.prog 13 #[.pointer (some ⟨b, 0, none⟩), .int .i64 i] w (PutPost A B b nodes w ms m.f m.t m.data) := by
  have P := fun mv (hm : BytesAt w mv m.data) => put_any h hA hB hm m.f m.t
  obtain ⟨v, es, hms, hI⟩ := h
  rw [← hms, List.getElem?_map] at hi
  obtain ⟨e, he, rfl⟩ := Option.map_eq_some_iff.1 hi
  have hlt := (List.getElem?_eq_some_iff.1 he).1
  obtain ⟨g, c, rfl, hgb, _, ⟨d0, d1, d2, d3⟩, _⟩ := hI.cells he
  have T := there_any hI.box (i : Int)
  rw [show there es.length i = true by unfold there; simp; omega] at T
  have hbv := hI.bytes e (List.mem_of_getElem? he)
  have P1 := P _ hbv.at
  have hs : ∃ x y z, e.bv = .slice x y z := by obtain ⟨x, z, q, _⟩ := hbv.at; exact ⟨_, _, _, q⟩
  obtain ⟨⟨c0, c1⟩, c2, c3⟩ := blk2 hI.box
  have i0 : (0 : Int) ≤ (i : Int) := Int.natCast_nonneg _
  have i1 : (i : Int) < (es.length : Int) := by omega
  clear hI hms hi he P hbv
  obtain ⟨f, t, age, bv, data⟩ := e
  dsimp only at d0 d1 d2 d3 P1 hs ⊢
  obtain ⟨x, y, z, rfl⟩ := hs
  go_enter Try.func13, Try.ntmps13
  go_wp2_with fail
  refine T.mono ?_
  rintro e w1 ⟨rfl, rfl⟩
  go_wp2_with fail
  refine P1.mono ?_
  rintro e w1 ⟨rfl, r1, r2⟩
  have R1 := Lib.hid r1
  have R2 := Lib.hid r2
  clear r1 r2
  go_wp2
  go_ret
  exact ⟨rfl, R1.out, R2.out⟩
set_option maxHeartbeats 1000000 in
theorem take_no (h : IsBag A B w b nodes ms) {i : Int} (hi : i < 0 ∨ (ms.length : Int) ≤ i) :
    Calls Try.prog 11 #[.pointer (some ⟨b, 0, none⟩), .int .i64 i] w fun e w' => e = .returned (.tuple #[.agg #[.int .i64 0, .int .i64 0, .slice none 0 0], .bool false]) ∧ Below w.heap.size w w' := by
  obtain ⟨v, es, hms, hI⟩ := h
  obtain ⟨va, vc, rfl, _⟩ := hI.slice
  have hl : ms.length = es.length := by rw [← hms]; simp
  have T := there_any (hI.later (below_alloc (Below.refl _ _) (.cells #[.int .i64 0, .int .i64 0, .slice none 0 0] 31))).box i
  rw [show there es.length i = false by unfold there; rw [hl] at hi; rcases hi with hi | hi <;> simp <;> omega] at T
  clear hI hms hl hi
  go_enter Try.func11, Try.ntmps11
  go_wp2_with fail
  refine T.mono ?_
  rintro e w1 ⟨rfl, rfl⟩
  go_wp2
  refine bodyPost_ret (v := .tuple #[.agg #[.int .i64 0, .int .i64 0, .slice none 0 0], .bool false]) ?_ rfl ⟨rfl, ?_⟩
  · simp [results, Try.results11, go_sem, *]
  · repeat with_reducible (first | exact Below.refl _ _ | exact Below.refl _ _ | refine below_alloc ?_ _ | refine Below.setCell ?_ (by simp) _ | refine Below.drew ?_)
set_option maxHeartbeats 1000000 in
theorem take_yes (h : IsBag A B w b nodes ms) (hA : A ≤ w.heap.size) {i : Nat} {m : Msg} (hi : ms[i]? = some m) :
    Calls Try.prog 11 #[.pointer (some ⟨b, 0, none⟩), .int .i64 i] w fun e w' => ∃ bv, e = .returned (.tuple #[.agg #[.int .i64 m.f, .int .i64 m.t, bv], .bool true]) ∧ BytesIs B w' bv m.data ∧ IsBag A B w' b nodes (ms.eraseIdx i) ∧ Keeps bagT A w w' := by
  obtain ⟨v, es, hms, hI⟩ := h
  rw [← hms, List.getElem?_map] at hi
  obtain ⟨e, he, rfl⟩ := Option.map_eq_some_iff.1 hi
  have hlt := (List.getElem?_eq_some_iff.1 he).1
  obtain ⟨g, c, rfl, hgb, hgl, ⟨d0, d1, d2, d3⟩, _⟩ := hI.cells he
  have hbv := hI.bytes e (List.mem_of_getElem? he)
  have hs : ∃ x y z, e.bv = .slice x y z := by obtain ⟨x, z, q, _⟩ := hbv.at; exact ⟨_, _, _, q⟩
  have T := there_any (hI.later (below_alloc (Below.refl _ _) (.cells #[.int .i64 0, .int .i64 0, .slice none 0 0] 31))).box (i : Int)
  rw [show there es.length i = true by unfold there; simp; omega] at T
  obtain ⟨⟨c0, c1⟩, c2, c3⟩ := blk2 hI.box
  have i0 : (0 : Int) ≤ (i : Int) := Int.natCast_nonneg _
  have i1 : (i : Int) < (es.length : Int) := by omega
  have hbl := hI.lt
  have I := Lib.hid hI
  have HMS := Lib.hid hms
  have HE := Lib.hid he
  have HBV := Lib.hid hbv
  obtain ⟨n, hn⟩ : ∃ n, n = es.length := ⟨_, rfl⟩
  have HN := Lib.hid hn
  rw [← hn] at c1 i1 hlt
  have hfew := hI.few
  rw [← hn] at hfew
  clear hI hms hi he hbv hn
  obtain ⟨f, t, age, bv, data⟩ := e
  dsimp only at d0 d1 d2 d3 hs HBV ⊢
  obtain ⟨x, y, z, rfl⟩ := hs
  go_enter Try.func11, Try.ntmps11
  go_wp2_with fail
  refine T.mono ?_
  rintro e w1 ⟨rfl, rfl⟩
  go_wp2_with fail
  have z1 := below_alloc (Below.refl w.heap.size w) (.cells #[.int .i64 0, .int .i64 0, .slice none 0 0] 31)
  have z2 := below_alloc z1 (.cells #[.int .i64 f, .int .i64 t, .slice x y z] 31)
  have hI2 := I.out.later z2
  refine (delete_any (by have := hI2.row; rw [← HN.out] at this; exact this) (fun e he => own_one (hI2.bytes e he)) HN.out hlt hfew).mono ?_
  rintro e w1 ⟨rfl, hown, hg⟩
  have hl : (es.eraseIdx i).length = n - 1 := by rw [List.length_eraseIdx, if_pos (by rw [← HN.out]; exact hlt), ← HN.out]
  obtain ⟨r1, r2⟩ := hI2.turn (w1 := w1) (v' := .slice (some ⟨g, 0, none⟩) (n - 1) c) (es' := es.eraseIdx i) hg (by rw [hl]; exact hown) (fun e he => hI2.bytes e ((List.eraseIdx_sublist _ _).subset he)) (by rw [hl]; omega)
  have b1 : w1.heap[b]? = some (.cells #[.int .i64 nodes, .slice (some ⟨g, 0, none⟩) n c] 57 (0, 0)) := by
    rw [hg.block b hI2.lt (by simp; omega), hI2.box, ← HN.out]
  have b2 : w1.heap[w.heap.size]? = some (.cells #[.int .i64 0, .int .i64 0, .slice none 0 0] 31 (0, 0)) := by
    rw [hg.block w.heap.size (by simp; omega) (by simp; omega)]; exact heap_up (heap_at _ _)
  have b3 : w1.heap[w.heap.size + 1]? = some (.cells #[.int .i64 f, .int .i64 t, .slice x y z] 31 (0, 0)) := by
    rw [hg.block (w.heap.size + 1) (by simp) (by simp; omega)]
    have := heap_at (w.alloc (.cells #[.int .i64 0, .int .i64 0, .slice none 0 0] 31)) (.cells #[.int .i64 f, .int .i64 t, .slice x y z] 31)
    simpa using this
  have R1 := Lib.hid r1
  have R2 := Lib.hid r2
  have B2 := Lib.hid b2
  have Z2 := Lib.hid z2
  clear r1 r2 z1 z2 hI2 hown hg hl c0 c1 c2 c3 d0 d1 d2 d3 T i0 i1
  obtain ⟨⟨c0, c1⟩, c2, c3⟩ := blk2 b1
  obtain ⟨⟨d0, d1, d2⟩, d3, d4, d5⟩ := blk3 b2
  obtain ⟨⟨g0, g1, g2⟩, g3, g4, g5⟩ := blk3 b3
  have hbn : ¬ b = w.heap.size := by omega
  have hbn1 : ¬ b = w.heap.size + 1 := by omega
  clear b1 b2 b3
  go_wp2
  refine bodyPost_ret (v := .tuple #[.agg #[.int .i64 f, .int .i64 t, .slice x y z], .bool true]) ?_ rfl ?_
  · simp [results, Try.results11, go_sem, *]
  have q0 : ((w1.setCell ⟨b, 1, none⟩ (.slice (some ⟨g, 0, none⟩) (n - 1) c)).heap[w.heap.size]? : Option Obj) = some (.cells #[.int .i64 0, .int .i64 0, .slice none 0 0] 31 (0, 0)) := by
    rw [heap_setCell_ne (x := some _) _ B2.out (fun e => hbn e.symm)]
  have k0 := (Keeps.refl [31] 0 _).setCell (a := ⟨w.heap.size, 0, none⟩) q0 rfl (Nat.zero_le _) (.int .i64 f)
  have q1 := heap_setCell_same (i := 0) (.int .i64 f) q0
  have k1 := k0.setCell (a := ⟨w.heap.size, 1, none⟩) q1 rfl (Nat.zero_le _) (.int .i64 t)
  have q2 := heap_setCell_same (i := 1) (.int .i64 t) q1
  have k2 := k1.setCell (a := ⟨w.heap.size, 2, none⟩) q2 rfl (Nat.zero_le _) (.slice x y z)
  refine ⟨_, rfl, k2.own (R2.out.own (own_later HBV.out Z2.out) rfl) rfl, ⟨_, es.eraseIdx i, ?_, R1.out.keeps k2 rfl rfl rfl⟩, ?_⟩
  · rw [← HMS.out, ← ChangeMaps.map_eraseIdx]
  · exact ((((Keeps.of Z2.out hA).trans R2.out).fresh (Nat.le_refl _) hA _).fresh (Nat.le_refl _) hA _).fresh (Nat.le_refl _) hA _
end Go.Proofs.Ytoinlhjdmkeaeab
