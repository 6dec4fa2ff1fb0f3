/- The document's bag, walked: Tick. -/
import Derived.Test.YtoinlhjdmkeaeabBagRef2
namespace Go.Proofs.Ytoinlhjdmkeaeab
open Go.RowKit

variable {A : Nat} {w : World} {v : Value} {ms : List Msg}
def tickUp (ms : List Msg) (q : Int) (j : Nat) : List Msg := ((ms.take j).map Msg.older).filter fun m => decide (m.age ≤ q)
theorem tickUp_len (ms : List Msg) (q : Int) (j : Nat) : (tickUp ms q j).length ≤ j := by
  unfold tickUp
  refine Nat.le_trans (List.length_filter_le _ _) ?_
  simp
  omega
theorem tickUp_yes {ms : List Msg} {q : Int} {j : Nat} {m : Msg} (hm : ms[j]? = some m) (h : m.age + 1 ≤ q) : tickUp ms q (j + 1) = tickUp ms q j ++ [⟨m.f, m.t, m.age + 1, m.data⟩] := by
  have hj := (List.getElem?_eq_some_iff.1 hm)
  unfold tickUp
  rw [List.take_succ_eq_append_getElem hj.1, hj.2, List.map_append, List.filter_append]
  simp [Msg.older, h]
theorem tickUp_no {ms : List Msg} {q : Int} {j : Nat} {m : Msg} (hm : ms[j]? = some m) (h : ¬ m.age + 1 ≤ q) : tickUp ms q (j + 1) = tickUp ms q j := by
  have hj := (List.getElem?_eq_some_iff.1 hm)
  unfold tickUp
  rw [List.take_succ_eq_append_getElem hj.1, hj.2, List.map_append, List.filter_append]
  simp [Msg.older, h]
set_option maxHeartbeats 4000000 in
set_option maxRecDepth 100000 in
theorem reftick_any (hr : RefIs A w v ms) (hfew : ms.length ≤ 256) (hage : ∀ m ∈ ms, -1 ≤ m.age ∧ m.age ≤ 1000000) (most : Int) :
    Calls Try.prog 15 #[v, .int .i64 most] w fun e w' => ∃ v', e = .returned (.tuple #[v', .int .i64 ((ms.length : Int) - ((tickDo ms most).length : Int))]) ∧ RefIs w.heap.size w' v' (tickDo ms most) ∧ Below w.heap.size w w' := by
  have HC : Hid (∀ j m, ms[j]? = some m → ∃ g, (∃ c, v = .slice (some ⟨g, 0, none⟩) ms.length c) ∧ g < w.heap.size ∧ w.cell? ⟨g, j * 4, none⟩ = some (.int .i64 m.f) ∧ w.cell? ⟨g, j * 4 + 1, none⟩ = some (.int .i64 m.t) ∧ w.cell? ⟨g, j * 4 + 2, none⟩ = some (.string (strOf m.data)) ∧ w.cell? ⟨g, j * 4 + 3, none⟩ = some (.int .i64 m.age)) := fun j m hm => by
    have hi := (List.getElem?_eq_some_iff.1 hm).1
    rcases hr.2 with ⟨rfl, h0⟩ | ⟨g, cap, cur, rfl, hb, hg, hnc, hcm, _⟩
    · omega
    · have c := fun r (hr4 : r < 4) => (hr.cellAt (j * 4 + r) (by omega)).trans (flat_get Msg.rcells 4 Msg.rlen ms j r hr4 hm)
      exact ⟨g, ⟨_, rfl⟩, (Array.getElem?_eq_some_iff.1 hg).1, c 0 (by decide), c 1 (by decide), c 2 (by decide), c 3 (by decide)⟩
  obtain ⟨va, vc, rfl⟩ := own_slice hr
  replace HC : Hid (∀ j m, ms[j]? = some m → ∃ g, va = some ⟨g, 0, none⟩ ∧ g < w.heap.size ∧ w.cell? ⟨g, j * 4, none⟩ = some (.int .i64 m.f) ∧ w.cell? ⟨g, j * 4 + 1, none⟩ = some (.int .i64 m.t) ∧ w.cell? ⟨g, j * 4 + 2, none⟩ = some (.string (strOf m.data)) ∧ w.cell? ⟨g, j * 4 + 3, none⟩ = some (.int .i64 m.age)) := fun j m hm => by
    obtain ⟨g, ⟨c, h1⟩, h2⟩ := HC.out j m hm
    cases h1
    exact ⟨g, rfl, h2⟩
  have AG := Lib.hid hage
  obtain ⟨n, hn⟩ : ∃ n, n = ms.length := ⟨_, rfl⟩
  rw [← hn] at hfew ⊢
  have HN := Lib.hid hn
  obtain ⟨B, hB⟩ : ∃ B, B = w.heap.size := ⟨_, rfl⟩
  rw [← hB]
  rw [← hB] at HC
  have hBl : B ≤ w.heap.size := by omega
  obtain ⟨i0, hi', hz0, hz1, hz2⟩ := info_parts info_m
  by_cases hneg : most < 0
  · have HQ : Hid (0 = max most 0) := Lib.hid (by omega)
    clear hr hage hn hB
    go_enter Try.func15, Try.ntmps15
    go_wp2_with fail
    go_loopg [6, 7, 8] n (fun k v6 v7 v8 wr => ∃ j : Nat, j ≤ n ∧ k = n - j ∧ v7 = .int .i64 j ∧ wr.ownsRow B 38 4 v6 (tickUp ms 0 j).length ((tickUp ms 0 j).flatMap Msg.rcells) ∧ Below B w wr ∧ B ≤ wr.heap.size)
    case atStart => exact ⟨0, Nat.zero_le _, rfl, rfl, World.ownsRow_nil _ _ _ _, Below.refl _ _, by omega⟩
    case round =>
      obtain ⟨j, hj, hk, rfl, hv6, hbw, hBs⟩ := hrel
      obtain ⟨xa, xc, rfl⟩ := own_slice hv6
      have HK := Lib.hid hk
      have BW := Lib.hid hbw
      have OW := Lib.hid hv6
      have hl6 := tickUp_len ms 0 j
      clear hk hv6
      by_cases hlt : j < n
      · obtain ⟨m, hm⟩ : ∃ m, ms[j]? = some m := ⟨ms[j]'(by rw [← HN.out]; exact hlt), List.getElem?_eq_getElem _⟩
        obtain ⟨g, rfl, hg, c0, c1, c2, c3⟩ := HC.out j m hm
        obtain ⟨ga0, ga1⟩ := AG.out m (List.mem_of_getElem? hm)
        have hbc := fun r => hbw.cell (p := ⟨g, r, none⟩) hg
        replace c0 := (hbc _).trans c0
        replace c1 := (hbc _).trans c1
        replace c2 := (hbc _).trans c2
        replace c3 := (hbc _).trans c3
        have hyes := fun h => tickUp_yes (q := 0) hm h
        have hno := fun h => tickUp_no (q := 0) hm h
        obtain ⟨mf, mt, ma, md⟩ := m
        dsimp only at c0 c1 c2 c3 ga0 ga1 hyes hno
        obtain ⟨s, hs⟩ : ∃ s, s = strOf md := ⟨_, rfl⟩
        rw [← hs] at c2
        have HS := Lib.hid hs
        have hgw : g < wr.heap.size := by omega
        have i0' : (0 : Int) ≤ (j : Int) := by omega
        have i1' : (j : Int) < (n : Int) := by omega
        obtain ⟨L, hL⟩ : ∃ L, L = (tickUp ms 0 j).length := ⟨_, rfl⟩
        have HL := Lib.hid hL
        rw [← hL] at OW ⊢
        rw [← hL] at hl6
        by_cases hle : ma + 1 ≤ 0
        · have YES := Lib.hid (hyes hle)
          clear hyes hno hbw hbc hm hs hL
          go_wp2_with (at_builtin; refine wpList_append_own _ rfl _ _ 28 rfl B 38 i0 _ 4 40 Try.underlying28 hi' hz0 hz1 hz2 rfl (by decide) _ _ _ rfl (own_later (own_later OW.out (below_alloc (Below.refl _ _) _)) (below_alloc (Below.refl _ _) _)) ⟨wr.heap.size + 1, 0, none⟩ 1 1 [.int .i64 mf, .int .i64 mt, .string s, .int .i64 (ma + 1)] rfl ?p1 ?p2 ?p3 ?p4 ?p5 ?p6 ?_)
          case p1 => rfl
          case p2 => exact World.news_of_block (by have := heap_at (wr.alloc (.cells #[.int .i64 mf, .int .i64 mt, .string s, .int .i64 (ma + 1)] 38)) (.cells #[.int .i64 mf, .int .i64 mt, .string s, .int .i64 (ma + 1)] 38); simpa using this)
          case p3 => intro u hu; simp only [List.mem_cons, List.not_mem_nil, or_false] at hu; rcases hu with rfl | rfl | rfl | rfl <;> rfl
          case p4 => unfold maxLen; omega
          case p5 => omega
          case p6 => simp; omega
          intro v2 w2 hown2 hgrow2 hnil2
          have hb2 : Below B w w2 := ((BW.out.alloc hBs _).alloc (by simp; omega) _).grown hgrow2 (by simp; omega) (fun k hk => (own_row OW.out hk).1)
          have hs2 : B ≤ w2.heap.size := by have := hgrow2.size; simp at this; omega
          have O2 := Lib.hid hown2
          have B2 := Lib.hid hb2
          clear hown2 hgrow2 hnil2 hb2
          go_wp2
          go_roundg (n - (j + 1))
          case measure => rw [HK.out]; omega
          case rel => exact ⟨j + 1, by omega, rfl, by go_num, by have h := O2.out; rw [YES.out]; rw [HL.out, HS.out] at h; simpa [Msg.rcells] using h, B2.out, hs2⟩
        · have NO := Lib.hid (hno hle)
          clear hyes hno hbw hbc hm hs hL
          go_wp2_with fail
          go_roundg (n - (j + 1))
          case measure => rw [HK.out]; omega
          case rel => exact ⟨j + 1, by omega, rfl, by go_num, by rw [NO.out, ← HL.out]; exact own_later (by have h := OW.out; exact h) (below_alloc (Below.refl _ _) _), BW.out.alloc hBs _, by simp; omega⟩
      · obtain rfl : j = n := by omega
        have FIN : tickUp ms 0 j = tickDo ms most := by
          unfold tickUp tickDo
          rw [List.take_of_length_le (by rw [← HN.out]; exact Nat.le_refl _), ← HQ.out]
        have HF := Lib.hid FIN
        obtain ⟨L, hL⟩ : ∃ L, L = (tickUp ms 0 j).length := ⟨_, rfl⟩
        have HL := Lib.hid hL
        rw [← hL] at OW ⊢
        rw [← hL] at hl6
        clear hbw hL FIN
        go_wp2
        go_ret2
        exact ⟨.slice xa L xc, by rw [← HF.out, ← HL.out]; rfl, by show World.ownsRow wr B _ 4 _ (tickDo ms most).length ((tickDo ms most).flatMap Msg.rcells); rw [← HF.out, ← HL.out]; exact OW.out, BW.out⟩
  · have HQ : Hid (most = max most 0) := Lib.hid (by omega)
    clear hr hage hn hB
    go_enter Try.func15, Try.ntmps15
    go_wp2_with fail
    go_loopg [6, 7, 8] n (fun k v6 v7 v8 wr => ∃ j : Nat, j ≤ n ∧ k = n - j ∧ v7 = .int .i64 j ∧ wr.ownsRow B 38 4 v6 (tickUp ms most j).length ((tickUp ms most j).flatMap Msg.rcells) ∧ Below B w wr ∧ B ≤ wr.heap.size)
    case atStart => exact ⟨0, Nat.zero_le _, rfl, rfl, World.ownsRow_nil _ _ _ _, Below.refl _ _, by omega⟩
    case round =>
      obtain ⟨j, hj, hk, rfl, hv6, hbw, hBs⟩ := hrel
      obtain ⟨xa, xc, rfl⟩ := own_slice hv6
      have HK := Lib.hid hk
      have BW := Lib.hid hbw
      have OW := Lib.hid hv6
      have hl6 := tickUp_len ms most j
      clear hk hv6
      by_cases hlt : j < n
      · obtain ⟨m, hm⟩ : ∃ m, ms[j]? = some m := ⟨ms[j]'(by rw [← HN.out]; exact hlt), List.getElem?_eq_getElem _⟩
        obtain ⟨g, rfl, hg, c0, c1, c2, c3⟩ := HC.out j m hm
        obtain ⟨ga0, ga1⟩ := AG.out m (List.mem_of_getElem? hm)
        have hbc := fun r => hbw.cell (p := ⟨g, r, none⟩) hg
        replace c0 := (hbc _).trans c0
        replace c1 := (hbc _).trans c1
        replace c2 := (hbc _).trans c2
        replace c3 := (hbc _).trans c3
        have hyes := fun h => tickUp_yes (q := most) hm h
        have hno := fun h => tickUp_no (q := most) hm h
        obtain ⟨mf, mt, ma, md⟩ := m
        dsimp only at c0 c1 c2 c3 ga0 ga1 hyes hno
        obtain ⟨s, hs⟩ : ∃ s, s = strOf md := ⟨_, rfl⟩
        rw [← hs] at c2
        have HS := Lib.hid hs
        have hgw : g < wr.heap.size := by omega
        have i0' : (0 : Int) ≤ (j : Int) := by omega
        have i1' : (j : Int) < (n : Int) := by omega
        obtain ⟨L, hL⟩ : ∃ L, L = (tickUp ms most j).length := ⟨_, rfl⟩
        have HL := Lib.hid hL
        rw [← hL] at OW ⊢
        rw [← hL] at hl6
        by_cases hle : ma + 1 ≤ most
        · have YES := Lib.hid (hyes hle)
          clear hyes hno hbw hbc hm hs hL
          go_wp2_with (at_builtin; refine wpList_append_own _ rfl _ _ 28 rfl B 38 i0 _ 4 40 Try.underlying28 hi' hz0 hz1 hz2 rfl (by decide) _ _ _ rfl (own_later (own_later OW.out (below_alloc (Below.refl _ _) _)) (below_alloc (Below.refl _ _) _)) ⟨wr.heap.size + 1, 0, none⟩ 1 1 [.int .i64 mf, .int .i64 mt, .string s, .int .i64 (ma + 1)] rfl ?p1 ?p2 ?p3 ?p4 ?p5 ?p6 ?_)
          case p1 => rfl
          case p2 => exact World.news_of_block (by have := heap_at (wr.alloc (.cells #[.int .i64 mf, .int .i64 mt, .string s, .int .i64 (ma + 1)] 38)) (.cells #[.int .i64 mf, .int .i64 mt, .string s, .int .i64 (ma + 1)] 38); simpa using this)
          case p3 => intro u hu; simp only [List.mem_cons, List.not_mem_nil, or_false] at hu; rcases hu with rfl | rfl | rfl | rfl <;> rfl
          case p4 => unfold maxLen; omega
          case p5 => omega
          case p6 => simp; omega
          intro v2 w2 hown2 hgrow2 hnil2
          have hb2 : Below B w w2 := ((BW.out.alloc hBs _).alloc (by simp; omega) _).grown hgrow2 (by simp; omega) (fun k hk => (own_row OW.out hk).1)
          have hs2 : B ≤ w2.heap.size := by have := hgrow2.size; simp at this; omega
          have O2 := Lib.hid hown2
          have B2 := Lib.hid hb2
          clear hown2 hgrow2 hnil2 hb2
          go_wp2
          go_roundg (n - (j + 1))
          case measure => rw [HK.out]; omega
          case rel => exact ⟨j + 1, by omega, rfl, by go_num, by have h := O2.out; rw [YES.out]; rw [HL.out, HS.out] at h; simpa [Msg.rcells] using h, B2.out, hs2⟩
        · have NO := Lib.hid (hno hle)
          clear hyes hno hbw hbc hm hs hL
          go_wp2_with fail
          go_roundg (n - (j + 1))
          case measure => rw [HK.out]; omega
          case rel => exact ⟨j + 1, by omega, rfl, by go_num, by rw [NO.out, ← HL.out]; exact own_later (by have h := OW.out; exact h) (below_alloc (Below.refl _ _) _), BW.out.alloc hBs _, by simp; omega⟩
      · obtain rfl : j = n := by omega
        have FIN : tickUp ms most j = tickDo ms most := by
          unfold tickUp tickDo
          rw [List.take_of_length_le (by rw [← HN.out]; exact Nat.le_refl _), ← HQ.out]
        have HF := Lib.hid FIN
        obtain ⟨L, hL⟩ : ∃ L, L = (tickUp ms most j).length := ⟨_, rfl⟩
        have HL := Lib.hid hL
        rw [← hL] at OW ⊢
        rw [← hL] at hl6
        clear hbw hL FIN
        go_wp2
        go_ret2
        exact ⟨.slice xa L xc, by rw [← HF.out, ← HL.out]; rfl, by show World.ownsRow wr B _ 4 _ (tickDo ms most).length ((tickDo ms most).flatMap Msg.rcells); rw [← HF.out, ← HL.out]; exact OW.out, BW.out⟩
end Go.Proofs.Ytoinlhjdmkeaeab
