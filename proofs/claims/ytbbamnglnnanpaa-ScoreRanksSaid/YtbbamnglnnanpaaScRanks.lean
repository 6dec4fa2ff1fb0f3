/- The law ScoreRanks: partners stand by their points, each as often as it was told; who was forgotten has none. No conditions. -/
import Derived.Test.YtbbamnglnnanpaaScRkS
import Derived.Test.YtbbamnglnnanpaaScAw
import Derived.Test.YtbbamnglnnanpaaScSame
import Derived.Deep.DeepCutAuto
import Derived.Deep.CutBlock
import Derived.Deep.RegionHeld3
import Derived.Deep.RegionWith
import Derived.Deep.QuietTactic
import Derived.BigQuiet
import Derived.Laws.BitsLemmas
import Derived.Outline
namespace Go.Proofs.Ytbbamnglnnanpaa
open Go.ChangeShapes Go.WideShapes Go.ChangeAt Go.RowKit

theorem low3 {x : Int} (h : (Lit.int .u8 x).wf = true) : ∃ q : Nat, bits .and .u8 x 7 = (q : Int) ∧ x % 8 = (q : Int) ∧ q < 8 := by
  have h' : 0 ≤ x ∧ x ≤ 255 := by simpa [Lit.wf, IntKind.min, IntKind.max, IntKind.signed, IntKind.bits] using h
  refine ⟨(x % 8).toNat, ?_, by omega, by omega⟩
  rw [u8_and7 x h'.1 (by omega)]
  omega
theorem wf8 {q : Nat} (h : q < 8) : (Lit.int .i64 (q : Int)).wf = true := by
  simp [Lit.wf, IntKind.min, IntKind.max, IntKind.signed, IntKind.bits]
  omega
theorem IsBook.grownRow {w w' : World} {b m : Nat} {l : List (Int × Int)} (h : IsBook w b m l) {row : Option Nat} (hrow : ∀ k, some k = row → ∃ cur fz, w.heap[k]? = some (.cells cur 3 fz)) (hg : w.grownBy w' row) : IsBook w' b m l := by
  refine ⟨(hg.block b h.ltb (fun e => ?_)).trans h.box, h.map.of_block (hg.block m h.map.lt (fun e => ?_)), h.few⟩
  · obtain ⟨cur, fz, hc⟩ := hrow b e
    rw [h.box] at hc; cases hc
  · obtain ⟨cur, fz, hc⟩ := hrow m e
    obtain ⟨es, clk, h1, _⟩ := h.map
    rw [h1] at hc; cases hc
set_option maxHeartbeats 6000000 in
set_option maxRecDepth 100000 in
theorem ScoreRanks_walk (la : Option Addr) (ls : List Int) (lc : Nat) (pa : Option Addr) (ps : List Int) (pc : Nat) (fa : Option Addr) (fs : List Int) (fc : Nat) (fg : Int) (w : World)
    (hlx : IntsAt w .u8 la ls) (hlw : ∀ n ∈ ls, (Lit.int .u8 n).wf = true) (hll : ls.length ≤ maxLen) (hpx : IntsAt w .u8 pa ps) (hpw : ∀ n ∈ ps, (Lit.int .u8 n).wf = true) (hpl : ps.length ≤ maxLen) (hfx : IntsAt w .u8 fa fs) (hfw : ∀ n ∈ fs, (Lit.int .u8 n).wf = true) (hfl : fs.length ≤ maxLen) (hgw : (Lit.int .u8 fg).wf = true) :
    Calls Try.prog 6 #[.slice la ls.length lc, .slice pa ps.length pc, .slice fa fs.length fc, .int .u8 fg] w fun e w' => e = .returned (.bool true) ∧ Below w.heap.size w w' := by
  have hl' : ls.length ≤ maxLen := hll
  have hp' : ps.length ≤ maxLen := hpl
  have hf' : fs.length ≤ maxLen := hfl
  unfold maxLen at hl' hp' hf'
  have LX := Lib.hid hlx
  have LW := Lib.hid hlw
  have PX := Lib.hid hpx
  have PW := Lib.hid hpw
  have FX := Lib.hid hfx
  have FW := Lib.hid hfw
  obtain ⟨n, hn⟩ : ∃ n, n = ls.length := ⟨_, rfl⟩
  obtain ⟨p, hp⟩ : ∃ n, n = ps.length := ⟨_, rfl⟩
  obtain ⟨f, hf⟩ : ∃ n, n = fs.length := ⟨_, rfl⟩
  have LN := Lib.hid hn
  have PN := Lib.hid hp
  have FN := Lib.hid hf
  rw [← hn] at hl' ⊢
  rw [← hp] at hp' ⊢
  rw [← hf] at hf' ⊢
  obtain ⟨G, hG1, hG2, hG8⟩ := low3 hgw
  clear hlx hlw hll hpx hpw hpl hfx hfw hfl hgw hn hp hf
  by_cases h1 : 30 < n
  · have h1' : (30 : Int) < (n : Int) := by omega
    go_enter Try.func6, Try.ntmps6
    go_wp2_with fail
    refine (awake_any _).mono ?_
    rintro e w1 ⟨rfl, b1⟩
    go_wp2
    go_ret
    exact ⟨rfl, b1⟩
  have h1' : ¬ (30 : Int) < (n : Int) := by omega
  by_cases h2 : 60 < p
  · have h2' : (60 : Int) < (p : Int) := by omega
    go_enter Try.func6, Try.ntmps6
    go_wp2_with fail
    refine (awake_any _).mono ?_
    rintro e w1 ⟨rfl, b1⟩
    go_wp2
    go_ret
    exact ⟨rfl, b1⟩
  have h2' : ¬ (60 : Int) < (p : Int) := by omega
  by_cases h3 : 60 < f
  · have h3' : (60 : Int) < (f : Int) := by omega
    go_enter Try.func6, Try.ntmps6
    go_wp2_with fail
    refine (awake_any _).mono ?_
    rintro e w1 ⟨rfl, b1⟩
    go_wp2
    go_ret
    exact ⟨rfl, b1⟩
  have h3' : ¬ (60 : Int) < (f : Int) := by omega
  go_enter Try.func6, Try.ntmps6
  go_wp2_with fail
  refine (awake_any _).mono ?_
  rintro e w1 ⟨rfl, b1⟩
  go_wp2_with fail
  refine (new_any _).mono ?_
  rintro e w2 ⟨b, m, rfl, h2, b2, hb, hm⟩
  have hM : w.heap.size ≤ m := Nat.le_trans b1.size hm
  have B2 := Lib.hid (b1.trans (b2.mono b1.size))
  have I2 := Lib.hid h2
  clear b1 b2 hb hm h2
  go_wp2_with fail
  go_loopg [11] p (fun k s11 wr => ∃ (j : Nat) (l : List (Int × Int)), j ≤ p ∧ k = p - j ∧ s11 = .int .i64 j ∧ IsBook wr b m l ∧ l.length ≤ j ∧ Below w.heap.size w wr)
  case atStart => exact ⟨0, [], by omega, rfl, rfl, I2.out, Nat.le_refl _, B2.out⟩
  case round =>
    obtain ⟨j, l, hj, hk, rfl, hI, hll, hB⟩ := hrel
    have HK := Lib.hid hk
    have WI := Lib.hid hI
    have BW := Lib.hid hB
    clear hk hI hB I2 B2
    by_cases hlt : j < p
    · have q0 : (j : Int) < (p : Int) := by omega
      have q1 : (0 : Int) ≤ (j : Int) := by omega
      obtain ⟨g, off, rfl, hg, hc⟩ := PX.out.at BW.out (j := j) (by rw [← PN.out]; exact hlt)
      have hzw := PW.out (ps.getD j 0) (by rw [List.getD_eq_getElem?_getD, List.getElem?_eq_getElem (by rw [← PN.out]; exact hlt)]; exact List.getElem_mem _)
      generalize ps.getD j 0 = z at *
      obtain ⟨q, hq1, hq2, hq8⟩ := low3 hzw
      have MP := Lib.hid (mpass_any WI.out (wf8 hq8))
      clear hzw hq2
      go_wp2_with fail
      refine MP.out.mono ?_
      rintro e w3 ⟨rfl, h3, g3⟩
      have I3 := Lib.hid h3
      have B3 := Lib.hid (BW.out.grown g3 BW.out.size (fun k hk => by cases hk; exact hM))
      have hln : (changeDo l q 1).length ≤ j + 1 := Nat.le_trans (length_aput _ _ _) (by omega)
      clear h3 g3 MP
      go_wp2
      go_roundg (p - (j + 1))
      case measure => rw [HK.out]; omega
      case rel => exact ⟨j + 1, _, by omega, rfl, by go_num, I3.out, hln, B3.out⟩
    · obtain rfl : j = p := by omega
      have q0 : ¬ (j : Int) < (j : Int) := by omega
      clear hlt hj PN
      go_wp2_with fail
      go_loopg [12] f (fun k s12 wr => ∃ (i : Nat) (l : List (Int × Int)), i ≤ f ∧ k = f - i ∧ s12 = .int .i64 i ∧ IsBook wr b m l ∧ l.length ≤ 60 + i ∧ Below w.heap.size w wr)
      case atStart => exact ⟨0, l, by omega, rfl, rfl, WI.out, by omega, BW.out⟩
      case round =>
        obtain ⟨i, l2, hi, hk2, rfl, hI2, hll2, hB2⟩ := hrel
        have HK2 := Lib.hid hk2
        have WI2 := Lib.hid hI2
        have BW2 := Lib.hid hB2
        clear hk2 hI2 hB2 WI BW
        by_cases hlt : i < f
        · have q0 : (i : Int) < (f : Int) := by omega
          have q1 : (0 : Int) ≤ (i : Int) := by omega
          obtain ⟨g, off, rfl, hg, hc⟩ := FX.out.at BW2.out (j := i) (by rw [← FN.out]; exact hlt)
          have hzw := FW.out (fs.getD i 0) (by rw [List.getD_eq_getElem?_getD, List.getElem?_eq_getElem (by rw [← FN.out]; exact hlt)]; exact List.getElem_mem _)
          generalize fs.getD i 0 = z at *
          obtain ⟨q, hq1, hq2, hq8⟩ := low3 hzw
          have MP := Lib.hid (mlate_any WI2.out (wf8 hq8))
          clear hzw hq2
          go_wp2_with fail
          refine MP.out.mono ?_
          rintro e w3 ⟨rfl, h3, g3⟩
          have I3 := Lib.hid h3
          have B3 := Lib.hid (BW2.out.grown g3 BW2.out.size (fun k hk => by cases hk; exact hM))
          have hln : (changeDo l2 q (-3)).length ≤ 60 + (i + 1) := Nat.le_trans (length_aput _ _ _) (by omega)
          clear h3 g3 MP
          go_wp2
          go_roundg (f - (i + 1))
          case measure => rw [HK2.out]; omega
          case rel => exact ⟨i + 1, _, by omega, rfl, by go_num, I3.out, hln, B3.out⟩
        · obtain rfl : i = f := by omega
          have q0 : ¬ (i : Int) < (i : Int) := by omega
          clear hlt hi FN
          have FG := Lib.hid (forget_any WI2.out (wf8 hG8))
          go_wp2_with fail
          refine FG.out.mono ?_
          rintro e w4 ⟨rfl, h4, g4⟩
          have B4 := Lib.hid (BW2.out.grown g4 BW2.out.size (fun k hk => by cases hk; exact hM))
          have P4 : Hid (pts (adel l2 G) G = 0) := Lib.hid (by unfold pts; rw [aget_adel2 WI2.out.map.apart, if_pos rfl]; rfl)
          have I4 := Lib.hid h4
          generalize adel l2 G = l4 at *
          clear h4 g4 FG WI2 BW2
          obtain ⟨i0, hi0, hz0, hz1, hz2⟩ := info_parts info_int
          go_wp2_with fail
          go_loopg [13, 14] n (fun k s13 s14 wr => ∃ (c : Nat), c ≤ n ∧ k = n - c ∧ s14 = .int .i64 c ∧ IntsIs w.heap.size wr s13 ((ls.take c).map (· % 8)) ∧ IsBook wr b m l4 ∧ Below w.heap.size w wr)
          case atStart => exact ⟨0, by omega, rfl, rfl, by rw [List.take_zero]; exact World.ownsRow_nil _ _ _ _, I4.out, B4.out⟩
          case round =>
            obtain ⟨c, hc, hk3, rfl, hD, hI3, hB3⟩ := hrel
            obtain ⟨xa, xc, rfl⟩ := own_slice hD
            have hcl : ((ls.take c).map (· % 8)).length = c := by rw [List.length_map, List.length_take, ← LN.out]; omega
            obtain ⟨ws, hws⟩ : ∃ ws, ws = (ls.take c).map (· % 8) := ⟨_, rfl⟩
            rw [← hws] at hD hcl ⊢
            have WS := Lib.hid hws
            have HK3 := Lib.hid hk3
            have D3 := Lib.hid hD
            have I3 := Lib.hid hI3
            have B3 := Lib.hid hB3
            clear hk3 hD hI3 hB3 I4 B4 hws
            by_cases hlt : c < n
            · have q0 : (c : Int) < (n : Int) := by omega
              have q1 : (0 : Int) ≤ (c : Int) := by omega
              obtain ⟨g, off, rfl, hg, hcc⟩ := LX.out.at B3.out (j := c) (by rw [← LN.out]; exact hlt)
              have hg' : g < wr.heap.size := Nat.lt_of_lt_of_le hg B3.out.size
              have hls : ls[c]? = some (ls.getD c 0) := by rw [List.getD_eq_getElem?_getD, List.getElem?_eq_getElem (by rw [← LN.out]; exact hlt)]; rfl
              have hzw := LW.out (ls.getD c 0) (List.mem_of_getElem? hls)
              generalize ls.getD c 0 = z at *
              obtain ⟨q, hq1, hq2, hq8⟩ := low3 hzw
              have NX : Hid ((ls.take (c + 1)).map (· % 8) = ws ++ [(q : Int)]) := Lib.hid (by rw [WS.out, List.take_add_one, hls]; simp [hq2])
              clear hzw hq2 hls
              go_wp2_with (at_builtin; refine wpList_append_own _ rfl _ _ 27 rfl w.heap.size 3 i0 _ 1 8 Try.underlying27 hi0 hz0 hz1 hz2 rfl (by decide) _ _ _ rfl (own_later D3.out (below_alloc (Below.refl _ _) _)) ⟨wr.heap.size, 0, none⟩ 1 1 [.int .i64 (q : Int)] rfl ?p1 ?p2 ?p3 ?p4 ?p5 ?p6 ?_)
              case p1 => rfl
              case p2 => exact World.news_of_block (heap_at wr _)
              case p3 => intro u hu; simp at hu; subst hu; rfl
              case p4 => unfold maxLen; omega
              case p5 => omega
              case p6 => have := B3.out.size; simp; omega
              intro v2 w2 hown2 hgrow2 hnil2
              have hb2 : Below w.heap.size w w2 := (B3.out.alloc B3.out.size _).grown hgrow2 (by have := B3.out.size; simp; omega) (fun k hk => (own_row D3.out (k := k) (by rw [hcl]; exact hk)).1)
              have hi2 : IsBook w2 b m l4 := (I3.out.below (below_alloc (Below.refl _ _) _)).grownRow (fun k hk => by obtain ⟨_, cur, h⟩ := own_row D3.out (k := k) (by rw [hcl]; exact hk.symm); exact ⟨_, _, heap_up h⟩) hgrow2
              have O2 := Lib.hid hown2
              have B2 := Lib.hid hb2
              have J2 := Lib.hid hi2
              clear hown2 hgrow2 hnil2 hb2 hi2
              go_wp2
              go_roundg (n - (c + 1))
              case measure => rw [HK3.out]; omega
              case rel => exact ⟨c + 1, by omega, rfl, by go_num, by rw [NX.out]; have := O2.out; simpa [IntsIs, hcl] using this, J2.out, B2.out⟩
            · obtain rfl : c = n := by omega
              have q0 : ¬ (c : Int) < (c : Int) := by omega
              rw [hcl] at D3 ⊢
              have hin := intsIn_of (n₀ := wr.heap.size) D3.out (fun k hk => by obtain ⟨_, cur, hh⟩ := own_row D3.out hk; exact (Array.getElem?_eq_some_iff.1 hh).1)
              have W8 : Hid (∀ x ∈ ws, 0 ≤ x ∧ x < 8) := Lib.hid (by rw [WS.out]; intro x hx; obtain ⟨y, _, rfl⟩ := List.mem_map.1 hx; omega)
              have RK := rank_any (.inr ⟨b, m, l4, rfl, I3.out, rfl⟩) hin (fun x hx => by obtain ⟨x0, x1⟩ := W8.out x hx; obtain ⟨q, rfl⟩ := Int.eq_ofNat_of_zero_le x0; exact wf8 (by omega)) (by omega)
              have hrl := (rankOf_len (pts l4) ws).trans hcl
              have PM := Lib.hid (rankOf_perm (pts l4) ws)
              have NX : Hid (∀ (j : Nat) (a b : Int), (rankOf (pts l4) ws)[j]? = some a → (rankOf (pts l4) ws)[j + 1]? = some b → ¬ pts l4 a < pts l4 b ∧ (pts l4 a = pts l4 b → ¬ b < a)) := Lib.hid fun j a b h1 h2 => rankOf_next h1 h2
              have R8 : Hid (∀ x ∈ rankOf (pts l4) ws, 0 ≤ x ∧ x < 8) := Lib.hid fun x hx => W8.out x (PM.out.mem_iff.1 hx)
              generalize rankOf (pts l4) ws = rr at *
              have RL := Lib.hid hrl
              have CL := Lib.hid hcl
              have RK := Lib.hid RK
              clear hin hlt hc LN hrl hcl LX LW WS
              go_wp2_with fail
              refine RK.out.mono ?_
              rintro e w5 ⟨v5, rfl, y5, b5⟩
              obtain ⟨x5, c5, rfl⟩ := own_slice y5
              rw [RL.out] at y5 ⊢
              have I5 := I3.out.below b5
              have PT := points_any I5 (wf8 hG8)
              rw [P4.out] at PT
              have B3s := B3.out.size
              have Y5 := Lib.hid y5
              have D5 := Lib.hid (own_later D3.out b5)
              have I5 := Lib.hid I5
              have B5 := Lib.hid (B3.out.trans (b5.mono B3.out.size))
              have PT := Lib.hid PT
              have Z5 := Lib.hid b5.size
              have hmk := make8
              clear y5 b5 RK I3 D3 B3
              go_wp2_with fail
              refine PT.out.mono ?_
              rintro e w6 ⟨rfl, rfl⟩
              clear PT
              go_wp2_with fail
              refine wp_named fun W hW => ?_
              have S0 : RkS w b m l4 w6.heap.size ws rr (.slice xa c xc) (.slice x5 c c5) (tal rr ws 0) W := by
                rw [hW]
                refine ⟨I5.out.below (below_alloc (Below.refl _ _) _), own_later D5.out (below_alloc (Below.refl _ _) _), own_mono (own_later Y5.out (below_alloc (Below.refl _ _) _)) (Nat.le_trans B3s (Nat.le_refl _)), ?_, below_alloc B5.out _, B5.out.size, ?_, ?_⟩
                · rw [tal_start]; exact heap_at _ _
                · intro k hk e; obtain ⟨_, cur, hh⟩ := own_row D5.out hk; have := (Array.getElem?_eq_some_iff.1 hh).1; omega
                · intro k hk e; obtain ⟨_, cur, hh⟩ := own_row Y5.out hk; have := (Array.getElem?_eq_some_iff.1 hh).1; omega
              have hn30 : c ≤ 30 := by omega
              have S0 := Lib.hid S0
              obtain ⟨N, hN⟩ : ∃ N, N = w6.heap.size := ⟨_, rfl⟩
              rw [← hN] at S0 ⊢
              clear hW hN I5 D5 Y5 B5 Z5 hmk
              go_loopg [17] c (fun k s17 wr => ∃ j : Nat, j ≤ c ∧ k = c - j ∧ s17 = .int .i64 j ∧ RkS w b m l4 N ws rr (.slice xa c xc) (.slice x5 c c5) (tal rr ws j) wr)
              case atStart => exact ⟨0, by omega, rfl, rfl, S0.out⟩
              case round =>
                obtain ⟨j, hj, hk4, rfl, hS⟩ := hrel
                have HK4 := Lib.hid hk4
                have SS := Lib.hid hS
                clear hk4 hS S0
                by_cases hlt : j < c
                · have q0 : (j : Int) < (c : Int) := by omega
                  have q1 : (0 : Int) ≤ (j : Int) := by omega
                  obtain ⟨x, hx⟩ : ∃ x, rr[j]? = some x := ⟨rr[j]'(by rw [RL.out]; exact hlt), List.getElem?_eq_getElem _⟩
                  obtain ⟨y, hy⟩ : ∃ y, ws[j]? = some y := ⟨ws[j]'(by rw [CL.out]; exact hlt), List.getElem?_eq_getElem _⟩
                  obtain ⟨gr, rfl, hgr, rc⟩ := SS.out.row.at hx
                  obtain ⟨gw, rfl, hgw, wc⟩ := SS.out.who.at hy
                  obtain ⟨x0, x8⟩ := R8.out x (List.mem_of_getElem? hx)
                  obtain ⟨y0, y8⟩ := W8.out y (List.mem_of_getElem? hy)
                  obtain ⟨xi, rfl⟩ := Int.eq_ofNat_of_zero_le x0
                  obtain ⟨yi, rfl⟩ := Int.eq_ofNat_of_zero_le y0
                  have tx := tal_get rr ws j (c := xi) (by omega)
                  obtain ⟨r0, r1⟩ := cnt_le rr j xi
                  obtain ⟨z0, z1⟩ := cnt_le ws j xi
                  have v0 : -100 ≤ cnt (rr.take j) xi - cnt (ws.take j) xi := by omega
                  have v1 : cnt (rr.take j) xi - cnt (ws.take j) xi ≤ 100 := by omega
                  obtain ⟨tc, tf⟩ := SS.out.cell tx
                  have HX := Lib.hid hx
                  have HY := Lib.hid hy
                  have S1 := Lib.hid (SS.out.put xi (cnt (rr.take j) xi - cnt (ws.take j) xi + 1))
                  have TS := Lib.hid (fun v hv => tal_step (r := rr) (z := ws) (j := j) (x := xi) (y := yi) (v := v) hx hy (a := xi) (b := yi) rfl rfl (by omega) (by omega) hv)
                  obtain ⟨vb, hvb⟩ : ∃ vb, ((tal rr ws j).set xi (cnt (rr.take j) xi - cnt (ws.take j) xi + 1))[yi]? = some vb := ⟨_, List.getElem?_eq_getElem (by rw [List.length_set, tal_len]; omega)⟩
                  have u0 : -200 ≤ vb ∧ vb ≤ 200 := by
                    by_cases e : xi = yi
                    · subst e
                      rw [List.getElem?_set_self (by rw [tal_len]; omega)] at hvb
                      cases hvb
                      omega
                    · rw [List.getElem?_set_ne e, tal_get rr ws j (by omega)] at hvb
                      cases hvb
                      have := cnt_le rr j yi
                      have := cnt_le ws j yi
                      omega
                  obtain ⟨u0, u1⟩ := u0
                  have S2 := Lib.hid (TS.out vb hvb)
                  have VB := Lib.hid hvb
                  generalize cnt (rr.take j) xi - cnt (ws.take j) xi = va at *
                  have xn : xi < 8 := by omega
                  have yn : yi < 8 := by omega
                  have nx0 : ¬ (xi : Int) < 0 := by omega
                  have nx7 : ¬ (7 : Int) < (xi : Int) := by omega
                  have nx7' : ¬ 7 < xi := by omega
                  clear hx hy tx hvb TS r0 r1 z0 z1 hlt
                  go_upto_region 31 with fail
                  refine wp_named fun W1 hW1 => ?_
                  rw [← hW1] at S1
                  clear hW1 tc tf SS rc wc
                  obtain ⟨tc, tf⟩ := S1.out.cell VB.out
                  have S3 := Lib.hid (S1.out.put yi (vb - 1))
                  obtain ⟨gr', e1, _, rc⟩ := S1.out.row.at HX.out
                  obtain ⟨gw', e2, _, wc⟩ := S1.out.who.at HY.out
                  cases e1
                  cases e2
                  go_upto_region 32 with fail
                  refine wp_named fun W2 hW2 => ?_
                  rw [← hW2, S2.out] at S3
                  clear hW2 tc tf rc wc S1 S2 VB
                  by_cases hj0 : j = 0
                  · subst hj0
                    go_quiet (fail)
                    go_wp2
                    go_roundg (c - (0 + 1))
                    case measure => rw [HK4.out]; omega
                    case rel => exact ⟨0 + 1, by omega, rfl, by go_num, S3.out.drewN _⟩
                  · obtain ⟨i, hi⟩ : ∃ i, j = i + 1 := ⟨j - 1, by omega⟩
                    obtain ⟨z, hz⟩ : ∃ z, rr[i]? = some z := ⟨rr[i]'(by rw [RL.out]; omega), List.getElem?_eq_getElem _⟩
                    obtain ⟨gr1, e1, _, rc0⟩ := S3.out.row.at hz
                    obtain ⟨gr2, e2, _, rc1⟩ := S3.out.row.at HX.out
                    cases e1
                    cases e2
                    have nx := NX.out i z xi hz (by rw [← hi]; exact HX.out)
                    obtain ⟨z0, z8⟩ := R8.out z (List.mem_of_getElem? hz)
                    obtain ⟨zi, rfl⟩ := Int.eq_ofNat_of_zero_le z0
                    have PA := fun q => S3.out.points (x := (zi : Int)) (wf8 (by omega)) q
                    have PB := fun q => S3.out.points (x := (xi : Int)) (wf8 xn) q
                    obtain ⟨p0, hp0⟩ : ∃ p, p = pts l4 zi := ⟨_, rfl⟩
                    obtain ⟨p1, hp1⟩ : ∃ p, p = pts l4 xi := ⟨_, rfl⟩
                    rw [← hp0] at PA nx
                    rw [← hp1] at PB nx
                    have PA := Lib.hid PA
                    have PB := Lib.hid PB
                    obtain ⟨nx1, nx2⟩ := nx
                    have HI := Lib.hid hi
                    have g0 : (0 : Int) < (j : Int) := by omega
                    have g1 : decide (0 < j) = true := by simp; omega
                    have g2 : decide ((0 : Int) < (j : Int)) = true := by simp; omega
                    have s1 : IntKind.i64.wrap ((j : Int) - 1) = (i : Int) := by rw [IntWalk.i64_in _ (by omega)]; omega
                    have s2 : (0 : Int) ≤ (i : Int) := by omega
                    have s3 : (i : Int) < (c : Int) := by omega
                    have s4 : i < c := by omega
                    clear hi hz hp0 hp1 hj0 NX HX HY
                    by_cases hpe : p0 = p1
                    · subst hpe
                      have nx3 : ¬ (xi : Int) < (zi : Int) := by have := nx2 rfl; omega
                      have nx4 : decide (xi < zi) = false := by simp; omega
                      have nx5 : decide ((xi : Int) < (zi : Int)) = false := by simp; omega
                      have nx6 : decide (p0 < p0) = false := by simp
                      clear nx2 nx1
                      go_quiet ((first | (go_at_call_of 12 (Value.int .i64 (zi : Int)); exact Calls.quiet_of_same (PA.out _)) | (go_at_call_of 12 (Value.int .i64 (xi : Int)); exact Calls.quiet_of_same (PB.out _))))
                      clear s1
                      go_wp2
                      go_roundg (c - (j + 1))
                      case measure => rw [HK4.out]; omega
                      case rel => exact ⟨j + 1, by omega, rfl, by go_num, S3.out.drewN _⟩
                    · have nx3 : (p0 == p1) = false := by simpa using hpe
                      have nx6 : decide (p0 < p1) = false := by simpa using nx1
                      clear nx2 hpe
                      go_quiet ((first | (go_at_call_of 12 (Value.int .i64 (zi : Int)); exact Calls.quiet_of_same (PA.out _)) | (go_at_call_of 12 (Value.int .i64 (xi : Int)); exact Calls.quiet_of_same (PB.out _))))
                      clear s1
                      go_wp2
                      go_roundg (c - (j + 1))
                      case measure => rw [HK4.out]; omega
                      case rel => exact ⟨j + 1, by omega, rfl, by go_num, S3.out.drewN _⟩
                · obtain rfl : j = c := by omega
                  have q0 : ¬ (j : Int) < (j : Int) := by omega
                  clear hlt hj
                  go_wp2_with fail
                  go_loopg [18] 8 (fun k s18 wr => ∃ q : Nat, q ≤ 8 ∧ k = 8 - q ∧ s18 = .int .i64 q ∧ RkS w b m l4 N ws rr (.slice xa j xc) (.slice x5 j c5) (tal rr ws j) wr)
                  case atStart => exact ⟨0, by omega, rfl, rfl, SS.out⟩
                  case round =>
                    obtain ⟨q, hq, hk5, rfl, hS⟩ := hrel
                    have HK5 := Lib.hid hk5
                    have S5 := Lib.hid hS
                    clear hk5 hS SS
                    by_cases hlt : q < 8
                    · have te := tal_end PM.out (c := q) hlt
                      rw [CL.out] at te
                      obtain ⟨tc, tf⟩ := S5.out.cell te
                      have q1 : (q : Int) < 8 := by omega
                      have q2 : (0 : Int) ≤ (q : Int) := by omega
                      clear te
                      go_wp2
                      go_roundg (8 - (q + 1))
                      case measure => rw [HK5.out]; omega
                      case rel => exact ⟨q + 1, by omega, rfl, by go_num, S5.out⟩
                    · obtain rfl : q = 8 := by omega
                      clear hlt hq
                      go_wp2
                      go_ret
                      exact ⟨rfl, S5.out.below⟩
set_option maxRecDepth 100000 in
theorem ScoreRanks_lifted (os : Os) (started : os.Started) (H : Type) (enc : TypeId × Value → H) :
    ReturnsInHanded {} Try.checked os 6 .any (Rows.scoreRanksSpec.pre6 enc Try.prog Try.f6 Rows.scoreRanksRow.domain false) (Rows.scoreRanksSpec.post enc Try.prog Try.f6 false true false false) := by
  refine returnsInHanded_of_change (C := Try.checked) own started (by kernel_rfl) Try.func6
    (ChangeSpec.witness6 (enc := enc) (C := Try.checked) false ⟨#[], #[.slice none 0 0, .slice none 0 0, .slice none 0 0, .int .u8 0], []⟩ 8 (by kernel_rfl) (by kernel_rfl) (by kernel_rfl) (by kernel_rfl)) ?_
  intro W base args ds gs before hval0 hW hcnd _
  have hval : ∀ (j : Nat) t v, Try.f6.params[j]? = some t → args[j]? = some v → Value.okWide Try.prog W .any base t v := hval0
  have hW' := hW
  obtain ⟨p, q, hA0, hV, rfl, hfz, hnd⟩ := hW
  have hA : DataW.TrodAll enc Try.prog W 0 (fun _ => true) true Try.f6.params.toList args.toList ds p := hA0
  rw [Try.params6] at hA hval
  obtain ⟨v0, vs0, d0, ds0, p0, q0, hargs, rfl, rfl, h0, r0⟩ := trodAll_cons hA
  obtain ⟨v1, vs1, d1, ds1, p1, q1, rfl, rfl, rfl, h1, r1⟩ := trodAll_cons r0
  obtain ⟨v2, vs2, d2, ds2, p2, q2, rfl, rfl, rfl, h2, r2⟩ := trodAll_cons r1
  obtain ⟨v3, vs3, d3, ds3, p3, q3, rfl, rfl, rfl, h3, r3⟩ := trodAll_cons r2
  obtain ⟨rfl, rfl, rfl⟩ := trodAll_nil r3
  obtain rfl : args = #[v0, v1, v2, v3] := by cases args; simp_all
  obtain ⟨a0, z0, c0, rfl, x0, y0, l0⟩ := ints_of Try.underlying22 Try.underlying5 (by kernel_rfl) (hval 0 22 v0 rfl rfl) h0
  obtain ⟨a1, z1, c1, rfl, x1, y1, l1⟩ := ints_of Try.underlying22 Try.underlying5 (by kernel_rfl) (hval 1 22 v1 rfl rfl) h1
  obtain ⟨a2, z2, c2, rfl, x2, y2, l2⟩ := ints_of Try.underlying22 Try.underlying5 (by kernel_rfl) (hval 2 22 v2 rfl rfl) h2
  obtain ⟨a3, rfl, rfl, rfl, w3⟩ := open_int Try.underlying5 (hval 3 5 v3 rfl rfl) h3
  refine (ScoreRanks_walk a0 z0 c0 a1 z1 c1 a2 z2 c2 a3 W x0 y0 l0 x1 y1 l1 x2 y2 l2 w3).mono fun e W' ⟨he, hb⟩ => ?_
  subst he
  exact ⟨_, rfl, law_post laidOut (by kernel_rfl) rfl rfl Try.underlying4 rfl hW' hb⟩
theorem ScoreRanks_holds : Rows.ScoreRanksSaid :=
  OpenClaim.holds_of_wide 6 Try.f6 rfl rfl rfl rfl rfl rfl rfl ⟨rfl, rfl, rfl, rfl, rfl⟩ rfl rfl rfl rfl rfl (by kernel_rfl) Try.func6 (by kernel_rfl)
    (of_decide_eq_true (by kernel_rfl)) (by unfold Func.isWrapper; rw [if_neg (by decide +kernel)]; exact ⟨rfl, rfl⟩)
    (fun os started H enc _ => ScoreRanks_lifted os started H enc)
end Go.Proofs.Ytbbamnglnnanpaa
