/- The document's bag, walked: Take. -/
import Derived.Test.YtoinlhjdmkeaeabBagRef
import Derived.Deep.RegionLaw
import Derived.IntWalk
namespace Go.Proofs.Ytoinlhjdmkeaeab
open Go.RowKit

variable {A : Nat} {w : World} {v : Value} {ms : List Msg}
set_option maxHeartbeats 1000000 in
theorem reftake_no (hr : RefIs A w v ms) {i : Int} (hi : i < 0 ∨ (ms.length : Int) ≤ i) :
    Calls Try.prog 12 #[v, .int .i64 i] w fun e w' => e = .returned (.tuple #[v, .agg #[.int .i64 0, .int .i64 0, .string ⟨#[]⟩, .int .i64 0], .bool false]) ∧ Below w.heap.size w w' := by
  obtain ⟨va, vc, rfl⟩ := own_slice hr
  clear hr
  generalize ms.length = n at *
  have two : i < 0 ∨ (0 ≤ i ∧ (n : Int) ≤ i) := by omega
  clear hi
  rcases two with h | ⟨h, h1⟩
  · go_enter Try.func12, Try.ntmps12
    go_wp2
    refine bodyPost_ret (v := .tuple #[.slice va n vc, .agg #[.int .i64 0, .int .i64 0, .string ⟨#[]⟩, .int .i64 0], .bool false]) ?_ rfl ⟨rfl, ?_⟩
    · simp [results, Try.results12, go_sem, *]
    · repeat with_reducible (first | exact Below.refl _ _ | exact Below.refl _ _ | refine below_alloc ?_ _ | refine Below.setCell ?_ (by simp) _ | refine Below.drew ?_)
  · go_enter Try.func12, Try.ntmps12
    go_wp2
    refine bodyPost_ret (v := .tuple #[.slice va n vc, .agg #[.int .i64 0, .int .i64 0, .string ⟨#[]⟩, .int .i64 0], .bool false]) ?_ rfl ⟨rfl, ?_⟩
    · simp [results, Try.results12, go_sem, *]
    · repeat with_reducible (first | exact Below.refl _ _ | exact Below.refl _ _ | refine below_alloc ?_ _ | refine Below.setCell ?_ (by simp) _ | refine Below.drew ?_)
set_option maxHeartbeats 4000000 in
set_option maxRecDepth 100000 in
theorem reftake_yes (hr : RefIs A w v ms) (hA : A ≤ w.heap.size) (hfew : ms.length ≤ 256) {i : Nat} {m : Msg} (hm : ms[i]? = some m) :
    Calls Try.prog 12 #[v, .int .i64 i] w fun e w' => ∃ v', e = .returned (.tuple #[v', .agg #[.int .i64 m.f, .int .i64 m.t, .string (strOf m.data), .int .i64 m.age], .bool true]) ∧ RefIs A w' v' (ms.eraseIdx i) ∧ Below w.heap.size w w' := by
  have hi := (List.getElem?_eq_some_iff.1 hm).1
  obtain ⟨g, cap, rfl, hgl, hnc, hcm⟩ : ∃ g cap, v = .slice (some ⟨g, 0, none⟩) ms.length cap ∧ g < w.heap.size ∧ ms.length ≤ cap ∧ cap ≤ maxLen := by
    rcases hr.2 with ⟨rfl, h0⟩ | ⟨g, cap, cur, rfl, hb, hg, hnc, hcm, _⟩
    · omega
    · exact ⟨g, cap, rfl, (Array.getElem?_eq_some_iff.1 hg).1, hnc, hcm⟩
  unfold maxLen at hcm
  have R := Lib.hid hr
  have c := fun r (hr4 : r < 4) => (hr.cellAt (i * 4 + r) (by omega)).trans (flat_get Msg.rcells 4 Msg.rlen ms i r hr4 hm)
  have c0 : w.cell? ⟨g, i * 4, none⟩ = some (.int .i64 m.f) := c 0 (by decide)
  have c1 : w.cell? ⟨g, i * 4 + 1, none⟩ = some (.int .i64 m.t) := c 1 (by decide)
  have c2 : w.cell? ⟨g, i * 4 + 2, none⟩ = some (.string (strOf m.data)) := c 2 (by decide)
  have c3 : w.cell? ⟨g, i * 4 + 3, none⟩ = some (.int .i64 m.age) := c 3 (by decide)
  obtain ⟨n, hn⟩ : ∃ n, n = ms.length := ⟨_, rfl⟩
  have HN := Lib.hid hn
  have HM := Lib.hid hm
  rw [← hn] at hi hnc hfew ⊢
  obtain ⟨k, hk⟩ : ∃ k, n = i + 1 + k := ⟨n - (i + 1), by omega⟩
  have hi0 : (0 : Int) ≤ (i : Int) := by omega
  have hi1 : (i : Int) < (n : Int) := by omega
  have hi2 : (i : Int) ≤ (n : Int) := by omega
  have hi3 : (0 : Int) ≤ (i : Int) + 1 := by omega
  have hi4 : (i : Int) + 1 ≤ (n : Int) := by omega
  have hi5 : (i : Int) ≤ (cap : Int) := by omega
  have hi6 : (n : Int) ≤ (cap : Int) := by omega
  have HK := Lib.hid hk
  obtain ⟨s, hs⟩ : ∃ s, s = strOf m.data := ⟨_, rfl⟩
  rw [← hs] at c2 ⊢
  obtain ⟨mf, mt, ma, md⟩ := m
  dsimp only at c0 c1 c3 hs ⊢
  obtain ⟨D, hD, hsrc⟩ : ∃ D : Addr, (if cap = i + 1 then some (⟨g, 0, none⟩ : Addr) else some ⟨g, (i + 1) * 4, none⟩) = some D ∧ Hid (∀ t u, ((ms.drop (i + 1)).flatMap Msg.rcells)[t]? = some u → w.cell? (D.add t) = some u ∧ D.block = g) := by
    have hdl : ((ms.drop (i + 1)).flatMap Msg.rcells).length = k * 4 := by rw [flat_len Msg.rcells 4 Msg.rlen, List.length_drop]; omega
    by_cases hc : cap = i + 1
    · refine ⟨⟨g, 0, none⟩, by simp [hc], fun t u hu => ?_⟩
      have := (List.getElem?_eq_some_iff.1 hu).1
      rw [hdl] at this; omega
    · refine ⟨⟨g, (i + 1) * 4, none⟩, by simp [hc], fun t u hu => ?_⟩
      have ht := (List.getElem?_eq_some_iff.1 hu).1
      rw [hdl] at ht
      rw [← flat_drop Msg.rcells 4 Msg.rlen, List.getElem?_drop] at hu
      rw [Addr.add_lit]
      exact ⟨(R.out.cellAt ((i + 1) * 4 + t) (by rw [← HN.out]; omega)).trans hu, rfl⟩
  have ROW : Hid (w.ownsRow A 38 4 (.slice (some ⟨g, 0, none⟩) i cap) i ((ms.take i).flatMap Msg.rcells)) := by
    rw [← flat_take Msg.rcells 4 Msg.rlen]
    exact own_cut R.out (by rw [← HN.out]; omega)
  have HS := Lib.hid hs
  obtain ⟨i0, hi', hz0, hz1, hz2⟩ := info_parts info_m
  clear hr c hn hm hk hs
  go_enter Try.func12, Try.ntmps12
  go_wp2_with (at_builtin; refine wpList_append_rows _ rfl _ _ 28 rfl A A 38 i0 _ 4 40 Try.underlying28 hi' hz0 hz1 hz2 rfl (by decide) _ _ _ rfl (World.ownsRow_nil _ _ _ _) _ i ((ms.take i).flatMap Msg.rcells) rfl (own_later ROW.out (below_alloc (below_alloc (Below.refl _ _) _) _)) ?q1 ?q2 ?q3 ?q4 ?_)
  case q1 => intro u hu; obtain ⟨m, _, hu⟩ := List.mem_flatMap.1 hu; exact m.rone u hu
  case q2 => unfold maxLen; omega
  case q3 => omega
  case q4 => simp; omega
  intro v1 w1 hown hgrow hat
  have hg1 := below_none hgrow
  have hb1 : Below w.heap.size w w1 := (below_alloc (below_alloc (Below.refl _ _) _) _).trans (hg1.mono (by simp; omega))
  have hx1 : w1.heap[w.heap.size]? = some (.cells #[.int .i64 0, .int .i64 0, .string ⟨#[]⟩, .int .i64 0] 38 (0, 0)) := heap_kept hg1 (heap_up (heap_at _ _)) (by simp; omega)
  have hx2 : w1.heap[w.heap.size + 1]? = some (.cells #[.int .i64 mf, .int .i64 mt, .string s, .int .i64 ma] 38 (0, 0)) := heap_kept hg1 (by have := heap_at (w.alloc (.cells #[.int .i64 0, .int .i64 0, .string ⟨#[]⟩, .int .i64 0] 38)) (.cells #[.int .i64 mf, .int .i64 mt, .string s, .int .i64 ma] 38); simpa using this) (by simp)
  have hz : w.heap.size + 2 ≤ w1.heap.size := by have := hg1.size; simpa using this
  have hat' : ∀ k, v1.ownBlock = some k → w.heap.size + 2 ≤ k := fun k hk => by
    rcases hat with h | h
    · rw [h] at hk; simp [Value.ownBlock] at hk
    · rw [h] at hk; simp at hk; omega
  obtain ⟨xa, xc, rfl⟩ := own_slice hown
  have hsrc1 : Hid (∀ t u, ((ms.drop (i + 1)).flatMap Msg.rcells)[t]? = some u → w1.cell? (D.add t) = some u) := fun t u hu => by
    obtain ⟨h1, h2⟩ := hsrc.out t u hu
    exact (hb1.cell (p := D.add t) (World.block_lt_of_cell? w _ h1)).trans h1
  have O1 := Lib.hid hown
  have B1 := Lib.hid hb1
  have X1 := Lib.hid hx1
  have HAT := Lib.hid hat'
  obtain ⟨⟨d0, d1, d2, d3⟩, e0, e1, e2, e3⟩ := blk4 hx2
  obtain ⟨⟨a0, a1, a2, a3⟩, b0, b1, b2, b3⟩ := blk4 hx1
  have hne1 : (Value.slice xa i xc).ownBlock ≠ some w.heap.size := fun e => by have := hat' _ e; omega
  have hne2 : (Value.slice xa i xc).ownBlock ≠ some (w.heap.size + 1) := fun e => by have := hat' _ e; omega
  have hs0 : w.heap.size < w1.heap.size := by omega
  have hs1 : w.heap.size + 1 < w1.heap.size := by omega
  clear hown hgrow hat hg1 hb1 hx1 hat' hsrc c0 c1 c2 c3
  go_wp2_with fail
  have X2 := Lib.hid hx2
  have P1 := Lib.hid (show ((ms.drop (i + 1)).flatMap Msg.rcells).length = (n - (i + 1)) * 4 by rw [flat_len Msg.rcells 4 Msg.rlen, List.length_drop, ← HN.out])
  have P3 := Lib.hid (show ∀ u ∈ (ms.drop (i + 1)).flatMap Msg.rcells, u.oneCell' = true by intro u hu; obtain ⟨m, _, hu⟩ := List.mem_flatMap.1 hu; exact m.rone u hu)
  have P4 := Lib.hid (show i + (n - (i + 1)) ≤ maxLen by unfold maxLen; omega)
  have P5 := Lib.hid (show (i + (n - (i + 1))) * 40 ≤ 140737488355328 by omega)
  have P6 : A ≤ w1.heap.size := by omega
  have SRC := Lib.hid hsrc1
  clear hsrc1 hx2
  have S1 : IntKind.i64.wrap ((i : Int) + 1) = (i : Int) + 1 := IntWalk.i64_in _ (by omega)
  have S2 : ((i : Int) + 1).toNat = i + 1 := by omega
  go_region_law (first | (refine step_append_any rfl _ _ 28 rfl A 38 i0 _ 4 40 Try.underlying28 hi' hz0 hz1 hz2 rfl (by decide) (.slice xa i xc) i ((ms.take i).flatMap Msg.rcells) (by rfl) (own_later O1.out (Below.refl _ _).drew) D (n - (i + 1)) (cap - (i + 1)) ((ms.drop (i + 1)).flatMap Msg.rcells) (by rfl) P1.out SRC.out.out P3.out P4.out P5.out P6 ?_; intro v2 w2 hown2 hgrow2 hat2; have y2 := (hgrow2.block (w.heap.size + 1) hs1 (Ne.symm hne2)).trans X2.out; have y1 := (hgrow2.block w.heap.size hs0 (Ne.symm hne1)).trans X1.out; obtain ⟨⟨k0, k1, k2, k3⟩, l0, l1, l2, l3⟩ := blk4 y2; obtain ⟨⟨j0, j1, j2, j3⟩, q0, q1, q2, q3⟩ := blk4 y1; have O2 := Lib.hid hown2; have G2 := Lib.hid hgrow2; have Y1 := Lib.hid y1; have N2 := at_ne hat2 hne1 hs0; clear hown2 hgrow2 hat2 y1 y2))
  all_goals
    clear S1 S2
    go_wp2
    refine bodyPost_ret (v := .tuple #[v2, .agg #[.int .i64 mf, .int .i64 mt, .string s, .int .i64 ma], .bool true]) ?_ rfl ?_
    · simp [results, Try.results12, go_sem, *]
    · have e1 := HN.out
      have hlen : (ms.eraseIdx i).length = i + (n - (i + 1)) := by rw [List.length_eraseIdx, if_pos (by omega)]; omega
      have hb2 : Below w.heap.size w w2 := (below_drew B1.out).grown G2.out (by show w.heap.size ≤ w1.heap.size; omega) (fun k hk => by have := HAT.out k hk; omega)
      refine ⟨v2, by rw [HS.out], ?_, ?_⟩
      · have ho := O2.out
        rw [← List.flatMap_append, ← List.eraseIdx_eq_take_drop_succ, ← hlen] at ho
        exact own_far (own_far (own_far (own_far ho N2 _) N2 _) N2 _) N2 _
      · repeat with_reducible (first | exact hb2 | refine Below.setCell ?_ (by simp) _)
end Go.Proofs.Ytoinlhjdmkeaeab
