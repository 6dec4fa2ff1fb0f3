/- The law ScorePlays: whatever comes of whoever's questions, points, who is out, and how partners stand, are the document's. No conditions. -/
import Derived.Test.YtbbamnglnnanpaaScCalls
import Derived.Deep.DeepCutAuto
import Derived.Deep.CutBlock
import Derived.Deep.RegionHeld3
import Derived.Deep.RegionWith
import Derived.Deep.QuietTactic
import Derived.Laws.BitsLemmas
import Derived.Outline
namespace Go.Proofs.Ytbbamnglnnanpaa
open Go.ChangeShapes Go.WideShapes Go.ChangeAt Go.RowKit Go.Deep Go.Proofs.Ytbbamnglnnanpaa.PScorePlays Go.Proofs.YtbbamnglnnanpaaW.PrintWords

theorem adel_len {l : List (Int × Int)} (a : Int) : (adel l a).length ≤ l.length := by
  induction l with
  | nil => simp [adel]
  | cons p r ih =>
    simp only [adel]
    split
    · simp
    · simp only [List.length_cons]; omega
/-- What holds at the head of a round. -/
structure PlayS (w : World) (b mb j : Nat) (l : List (Int × Int)) (m : List Pt) (v : Value) (wr : World) : Prop where
  book : IsBook wr b mb l
  sim : Sim l m
  ref : RefIs wr v m
  below : Below w.heap.size w wr
  hm : w.heap.size ≤ mb
  llen : l.length ≤ j
  mlen : m.length ≤ j
theorem PlayS.later {w : World} {b mb j : Nat} {l : List (Int × Int)} {m : List Pt} {v : Value} {wr W : World} (h : PlayS w b mb j l m v wr) (hb : Below wr.heap.size wr W) : PlayS w b mb j l m v W :=
  ⟨h.book.below hb, h.sim, h.ref.later hb, h.below.trans (hb.mono h.below.size), h.hm, h.llen, h.mlen⟩
theorem PlayS.step {w : World} {b mb j : Nat} {l l' : List (Int × Int)} {m m' : List Pt} {v v' : Value} {W w1 w2 : World} (h : PlayS w b mb j l m v W) (h1 : IsBook w1 b mb l') (g1 : W.grownBy w1 (some mb)) (hs : Sim l' m') (h2 : RefIs w2 v' m') (b2 : Below w1.heap.size w1 w2) (hl : l'.length ≤ l.length + 1) (hm : m'.length ≤ m.length + 1) : PlayS w b mb (j + 1) l' m' v' w2 := by
  have b1 : Below w.heap.size w w1 := h.below.grown g1 h.below.size (fun k hk => by cases hk; exact h.hm)
  have := h.llen
  have := h.mlen
  exact ⟨h1.below b2, hs, h2, b1.trans (b2.mono b1.size), h.hm, by omega, by omega⟩
set_option maxHeartbeats 6000000 in
set_option maxRecDepth 100000 in
theorem ScorePlays_walk (ad : Option Addr) (xs : List ActS) (c : Nat) (zd : Option Addr) (zs : List Int) (zc : Nat) (w : World) (hx : ActsAt w ad xs) (_hok : ∀ x ∈ xs, x.ok) (hxm : xs.length ≤ maxLen) (hz : IntsAt w .i64 zd zs) (hwf : ∀ x ∈ zs, (Lit.int .i64 x).wf = true) (hzm : zs.length ≤ maxLen ∧ zs.length ≤ zc) :
    Calls Try.prog 4 #[.slice ad xs.length c, .slice zd zs.length zc] w fun e w' => e = .returned (.bool true) ∧ Below w.heap.size w w' := by
  have hxl : xs.length ≤ maxLen := hxm
  have hzl : zs.length ≤ maxLen := hzm.1
  unfold maxLen at hxl hzl
  have HX := Lib.hid hx
  have HZ := Lib.hid hz
  have HF := Lib.hid hwf
  have HC := Lib.hid hzm.2
  obtain ⟨n, hn⟩ : ∃ n, n = xs.length := ⟨_, rfl⟩
  have HN := Lib.hid hn
  obtain ⟨zn, hzn⟩ : ∃ n, n = zs.length := ⟨_, rfl⟩
  have HZN := Lib.hid hzn
  rw [← hn] at hxl ⊢
  rw [← hzn] at hzl ⊢
  clear hx hn hxm hz hwf hzm hzn
  by_cases hbig : 40 < zn
  · have hbig1 : (40 : Int) < (zn : Int) := by omega
    go_enter Try.func4, Try.ntmps4
    go_wp2_with fail
    refine (awake_any _).mono ?_
    rintro e w1 ⟨rfl, hb⟩
    go_wp2
    go_ret
    exact ⟨rfl, hb⟩
  have hbig1 : ¬ (40 : Int) < (zn : Int) := by omega
  go_enter Try.func4, Try.ntmps4
  go_wp2_with fail
  refine (awake_any _).mono ?_
  rintro e w1 ⟨rfl, hb⟩
  go_wp2_with fail
  refine (new_any _).mono ?_
  rintro e w2 ⟨b, mb, rfl, h2, b2, hbb, hmb⟩
  have S0 : Hid (PlayS w b mb 0 [] [] (.slice none 0 0) w2) := ⟨h2, Sim.start, RefIs.nil _, hb.trans (b2.mono hb.size), Nat.le_trans hb.size hmb, Nat.le_refl _, Nat.le_refl _⟩
  clear hb h2 b2 hbb hmb
  go_wp2_with fail
  go_loopg [7, 8] 80 (fun k s7 s8 wr => ∃ (j : Nat) (l : List (Int × Int)) (m : List Pt), j ≤ 80 ∧ k = 80 - j ∧ s8 = .int .i64 j ∧ PlayS w b mb j l m s7 wr)
  case atStart => exact ⟨0, [], [], by omega, rfl, rfl, S0.out⟩
  case round =>
    obtain ⟨j, l, m, hj, hk, rfl, hI⟩ := hrel
    obtain ⟨va, vc, rfl⟩ := Kd.R_slice hI.ref
    obtain ⟨L, hL⟩ : ∃ L, L = m.length := ⟨_, rfl⟩
    rw [← hL] at hI ⊢
    have HL := Lib.hid hL
    have HI := Lib.hid hI
    have HK := Lib.hid hk
    clear hI hk S0 hL
    by_cases hend : j < n ∧ j < 80
    · obtain ⟨e1, e2⟩ := hend
      obtain ⟨x, hxj⟩ : ∃ x, xs[j]? = some x := ⟨xs[j]'(by rw [← HN.out]; exact e1), List.getElem?_eq_getElem _⟩
      obtain ⟨bx, ox, rfl, hx1, ⟨k0, k1⟩, hkd, hww⟩ := HX.out.at HI.out.below hxj
      obtain ⟨kind, who⟩ := x
      dsimp only at k0 k1 hkd hww
      have HWW := Lib.hid hww
      have j0 : (j : Int) < (n : Int) := by omega
      have j1 : (j : Int) < 80 := by omega
      have jj0 : (0 : Int) ≤ (j : Int) := by omega
      have hbx : bx < wr.heap.size := Nat.lt_of_lt_of_le hx1 HI.out.below.size
      clear hxj hww
      go_upto_block 2 with fail
      refine wp_named fun W hW => ?_
      generalize bits BinOp.and IntKind.i64 kind 3 = tt at *
      have wA : W.heap[wr.heap.size]? = some (.cells #[.int .i64 kind, .int .i64 who] 33 (0, 0)) := by rw [hW]; exact heap_at _ _
      have wb : Below wr.heap.size wr W := by rw [hW]; exact below_alloc (Below.refl _ _) _
      have WI := Lib.hid (HI.out.later wb)
      have WA := Lib.hid wA
      generalize wr.heap.size = AA at *
      obtain ⟨⟨ca0, ca1⟩, cf0, cf1⟩ := blk2 wA
      clear hW wA wb k0 k1 HI hbx
      go_cut [7, 10] (fun s7 s10 wx => ∃ (l' : List (Int × Int)) (m' : List Pt) (nn : Int), s10 = .int .i64 nn ∧ nn = pts l' who ∧ PlayS w b mb (j + 1) l' m' s7 wx ∧ wx.heap[AA]? = some (.cells #[.int .i64 kind, .int .i64 who] 33 (0, 0)))
      case first =>
        as_aux_lemma =>
          have four : tt = 0 ∨ tt = 1 ∨ tt = 2 ∨ (tt ≠ 0 ∧ tt ≠ 1 ∧ tt ≠ 2) := by omega
          rcases four with rfl | rfl | rfl | ⟨u0, u1, u2⟩
          · have MP := mpass_any WI.out.book HWW.out
            have MR := fun w' (hr : RefIs w' (.slice va L vc) m) => refmore hr (by have := WI.out.mlen; omega) who (1) (by decide) (by decide) (by rw [WI.out.sim.pts]; exact WI.out.book.ptsIn who)
            have MP := Lib.hid MP
            have MR := Lib.hid MR
            go_wp2_with fail
            refine MP.out.mono ?_
            rintro e w3 ⟨rfl, h3, g3⟩
            have a3 : w3.heap[AA]? = some (.cells #[.int .i64 kind, .int .i64 who] 33 (0, 0)) := (g3.block AA (Array.getElem?_eq_some_iff.1 WA.out).1 (by intro e; cases e; obtain ⟨_, _, h, _⟩ := WI.out.book.map; rw [WA.out] at h; cases h)).trans WA.out
            have A3 := Lib.hid a3
            have R3 := WI.out.ref.grown WI.out.book g3
            have H3 := Lib.hid h3
            have G3 := Lib.hid g3
            have RR := Lib.hid (MR.out _ R3)
            clear h3 g3 a3 R3 MP MR ca0 ca1 cf0 cf1
            obtain ⟨⟨ca0, ca1⟩, cf0, cf1⟩ := blk2 A3.out
            go_wp2_with fail
            refine RR.out.mono ?_
            rintro e w4 ⟨v4, rfl, h4, b4⟩
            have A4 := Lib.hid (heap_kept b4 A3.out (Array.getElem?_eq_some_iff.1 A3.out).1)
            have PI := Lib.hid (WI.out.step H3.out G3.out (WI.out.sim.more who (1)) h4 b4 (length_aput _ _ _) (moreM_len _ _ _))
            clear h4 b4 RR
            go_wp2
            go_meet
            exact ⟨_, _, _, rfl, by rw [changeDo, pts_aput, if_pos rfl], PI.out, A4.out⟩
          · have MP := mfail_any WI.out.book HWW.out
            have MR := fun w' (hr : RefIs w' (.slice va L vc) m) => refmore hr (by have := WI.out.mlen; omega) who (-10) (by decide) (by decide) (by rw [WI.out.sim.pts]; exact WI.out.book.ptsIn who)
            have MP := Lib.hid MP
            have MR := Lib.hid MR
            go_wp2_with fail
            refine MP.out.mono ?_
            rintro e w3 ⟨rfl, h3, g3⟩
            have a3 : w3.heap[AA]? = some (.cells #[.int .i64 kind, .int .i64 who] 33 (0, 0)) := (g3.block AA (Array.getElem?_eq_some_iff.1 WA.out).1 (by intro e; cases e; obtain ⟨_, _, h, _⟩ := WI.out.book.map; rw [WA.out] at h; cases h)).trans WA.out
            have A3 := Lib.hid a3
            have R3 := WI.out.ref.grown WI.out.book g3
            have H3 := Lib.hid h3
            have G3 := Lib.hid g3
            have RR := Lib.hid (MR.out _ R3)
            clear h3 g3 a3 R3 MP MR ca0 ca1 cf0 cf1
            obtain ⟨⟨ca0, ca1⟩, cf0, cf1⟩ := blk2 A3.out
            go_wp2_with fail
            refine RR.out.mono ?_
            rintro e w4 ⟨v4, rfl, h4, b4⟩
            have A4 := Lib.hid (heap_kept b4 A3.out (Array.getElem?_eq_some_iff.1 A3.out).1)
            have PI := Lib.hid (WI.out.step H3.out G3.out (WI.out.sim.more who (-10)) h4 b4 (length_aput _ _ _) (moreM_len _ _ _))
            clear h4 b4 RR
            go_wp2
            go_meet
            exact ⟨_, _, _, rfl, by rw [changeDo, pts_aput, if_pos rfl], PI.out, A4.out⟩
          · have MP := mlate_any WI.out.book HWW.out
            have MR := fun w' (hr : RefIs w' (.slice va L vc) m) => refmore hr (by have := WI.out.mlen; omega) who (-3) (by decide) (by decide) (by rw [WI.out.sim.pts]; exact WI.out.book.ptsIn who)
            have MP := Lib.hid MP
            have MR := Lib.hid MR
            go_wp2_with fail
            refine MP.out.mono ?_
            rintro e w3 ⟨rfl, h3, g3⟩
            have a3 : w3.heap[AA]? = some (.cells #[.int .i64 kind, .int .i64 who] 33 (0, 0)) := (g3.block AA (Array.getElem?_eq_some_iff.1 WA.out).1 (by intro e; cases e; obtain ⟨_, _, h, _⟩ := WI.out.book.map; rw [WA.out] at h; cases h)).trans WA.out
            have A3 := Lib.hid a3
            have R3 := WI.out.ref.grown WI.out.book g3
            have H3 := Lib.hid h3
            have G3 := Lib.hid g3
            have RR := Lib.hid (MR.out _ R3)
            clear h3 g3 a3 R3 MP MR ca0 ca1 cf0 cf1
            obtain ⟨⟨ca0, ca1⟩, cf0, cf1⟩ := blk2 A3.out
            go_wp2_with fail
            refine RR.out.mono ?_
            rintro e w4 ⟨v4, rfl, h4, b4⟩
            have A4 := Lib.hid (heap_kept b4 A3.out (Array.getElem?_eq_some_iff.1 A3.out).1)
            have PI := Lib.hid (WI.out.step H3.out G3.out (WI.out.sim.more who (-3)) h4 b4 (length_aput _ _ _) (moreM_len _ _ _))
            clear h4 b4 RR
            go_wp2
            go_meet
            exact ⟨_, _, _, rfl, by rw [changeDo, pts_aput, if_pos rfl], PI.out, A4.out⟩
          · have MP := forget_any WI.out.book HWW.out
            have MR := fun w' (hr : RefIs w' (.slice va L vc) m) => refless hr (by have := WI.out.mlen; omega) who
            have MP := Lib.hid MP
            have MR := Lib.hid MR
            go_wp2_with fail
            refine MP.out.mono ?_
            rintro e w3 ⟨rfl, h3, g3⟩
            have a3 : w3.heap[AA]? = some (.cells #[.int .i64 kind, .int .i64 who] 33 (0, 0)) := (g3.block AA (Array.getElem?_eq_some_iff.1 WA.out).1 (by intro e; cases e; obtain ⟨_, _, h, _⟩ := WI.out.book.map; rw [WA.out] at h; cases h)).trans WA.out
            have A3 := Lib.hid a3
            have R3 := WI.out.ref.grown WI.out.book g3
            have H3 := Lib.hid h3
            have G3 := Lib.hid g3
            have RR := Lib.hid (MR.out _ R3)
            clear h3 g3 a3 R3 MP MR ca0 ca1 cf0 cf1
            obtain ⟨⟨ca0, ca1⟩, cf0, cf1⟩ := blk2 A3.out
            go_wp2_with fail
            refine RR.out.mono ?_
            rintro e w4 ⟨v4, rfl, h4, b4⟩
            have A4 := Lib.hid (heap_kept b4 A3.out (Array.getElem?_eq_some_iff.1 A3.out).1)
            have PI := Lib.hid (WI.out.step H3.out G3.out (WI.out.sim.less WI.out.book.map.apart who) h4 b4 (by have := adel_len (l := l) who; omega) (by have := lessM_len m who; omega))
            clear h4 b4 RR
            go_wp2
            go_meet
            exact ⟨_, _, _, rfl, by unfold pts; rw [aget_adel WI.out.book.map.apart, if_pos rfl]; rfl, PI.out, A4.out⟩
      case rest =>
        as_aux_lemma =>
          obtain ⟨l', m', nn, rfl, hnn, hP, hA2⟩ := hcut
          obtain ⟨xa, xc, rfl⟩ := Kd.R_slice hP.ref
          obtain ⟨L', hL'⟩ : ∃ L, L = m'.length := ⟨_, rfl⟩
          rw [← hL'] at hP ⊢
          have ml : m'.length ≤ 100000 := by have := hP.mlen; omega
          have RP := fun W' (hb : Below wc.heap.size wc W') => refpts (hP.later hb).ref ml who
          rw [hP.sim.pts, ← hnn] at RP
          have BP := fun W' (hb : Below wc.heap.size wc W') => points_any (hP.later hb).book HWW.out
          rw [← hnn] at BP
          have BO := fun W' (hb : Below wc.heap.size wc W') => out_any (hP.later hb).book (by have := hP.llen; omega)
          have RO := fun W' (hb : Below wc.heap.size wc W') => refout (hP.later hb).ref ml
          rw [hP.sim.out hP.book.map.apart] at RO
          have OL : (outs l').length ≤ 1000000 := by unfold outs; rw [List.length_mergeSort]; have := outOf_len l'; have := hP.llen; omega
          have RP := Lib.hid RP
          have BP := Lib.hid BP
          have BO := Lib.hid BO
          have RO := Lib.hid RO
          have PP := Lib.hid hP
          obtain ⟨⟨ca0, ca1⟩, cf0, cf1⟩ := blk2 hA2
          have hAA : AA < wc.heap.size := (Array.getElem?_eq_some_iff.1 hA2).1
          clear hP hA2 hnn WI WA hL'
          go_wp2_with fail
          refine (RP.out _ (Below.refl _ _)).mono ?_
          rintro e w4 ⟨rfl, q4, rfl⟩
          have B4 := Lib.hid (below_drewN (Below.refl wc.heap.size wc) q4)
          clear RP
          go_wp2_with fail
          refine (BP.out _ B4.out).mono ?_
          rintro e w5 ⟨rfl, rfl⟩
          clear BP
          go_wp2_with fail
          refine (BO.out _ B4.out).mono ?_
          rintro e w6 ⟨v6, rfl, y6, b6⟩
          obtain ⟨x6, c6, rfl⟩ := own_slice y6
          have B6 := Lib.hid (B4.out.trans (b6.mono B4.out.size))
          have Y6 := Lib.hid y6
          clear y6 b6 BO
          go_wp2_with fail
          refine (RO.out _ B6.out).mono ?_
          rintro e w7 ⟨v7, rfl, y7, b7⟩
          obtain ⟨x7, c7, rfl⟩ := own_slice y7
          have B7 := Lib.hid (B6.out.trans (b7.mono B6.out.size))
          have SM := Lib.hid (same_eq (own_later Y6.out b7) y7 OL)
          clear y7 b7 RO Y6
          go_wp2_with fail
          refine SM.out.mono ?_
          rintro e w8 ⟨rfl, q8, rfl⟩
          have P8 := Lib.hid (PP.out.later (below_drewN B7.out q8))
          clear SM PP
          go_wp2
          go_roundg (80 - (j + 1))
          case measure => rw [HK.out]; omega
          case rel => exact ⟨j + 1, l', m', by omega, rfl, by go_num, P8.out⟩
    · have hout : ¬ (j < n ∧ j < 80) := hend
      have two : n ≤ j ∨ (j < n ∧ j = 80) := by omega
      clear hend hout
      have hL : L = m.length := HL.out
      have ml : m.length ≤ 100000 := by have := HI.out.mlen; omega
      have hz40 : zs.length ≤ 40 := by have := HZN.out; omega
      have RK := rank_any (.inr ⟨b, mb, l, rfl, HI.out.book, rfl⟩) (ints_In (c := zc) (HZ.out.later HI.out.below)) HF.out (by omega)
      have RR := fun W' (hb : Below wr.heap.size wr W') => refrank (HI.out.later hb).ref ml (HZ.out.later (HI.out.later hb).below) (by omega) HC.out
      rw [HI.out.sim.ptsF, rank_eq] at RR
      have OL : (rankOf (pts l) zs).length ≤ 1000000 := by unfold rankOf; rw [List.length_mergeSort]; omega
      rw [← HZN.out] at RK RR
      have RK := Lib.hid RK
      have RR := Lib.hid RR
      have W0 := HI.out.below
      clear hL ml hz40 HL
      have h1 : ¬ ((j : Int) < (n : Int) ∧ (j : Int) < 80) := by omega
      rcases two with h | ⟨h, h'⟩
      · have h1 : ¬ (j : Int) < (n : Int) := by omega
        go_wp2_with fail
        refine RK.out.mono ?_
        rintro e w5 ⟨v5, rfl, y5, b5⟩
        obtain ⟨x5, c5, rfl⟩ := own_slice y5
        have B5 := Lib.hid b5
        have Y5 := Lib.hid y5
        clear y5 b5 RK
        go_wp2_with fail
        refine (RR.out _ B5.out).mono ?_
        rintro e w6 ⟨v6, rfl, y6, b6⟩
        obtain ⟨x6, c6, rfl⟩ := own_slice y6
        have B6 := Lib.hid (B5.out.trans (b6.mono B5.out.size))
        have SM := Lib.hid (same_eq (own_later Y5.out b6) y6 OL)
        clear y6 b6 RR Y5
        go_wp2_with fail
        refine SM.out.mono ?_
        rintro e w7 ⟨rfl, q7, rfl⟩
        have BE := below_drewN (W0.trans (B6.out.mono W0.size)) q7
        clear SM
        go_wp2
        go_ret
        exact ⟨rfl, BE⟩
      · subst h'
        have h1 : (80 : Int) < (n : Int) := by omega
        go_wp2_with fail
        refine RK.out.mono ?_
        rintro e w5 ⟨v5, rfl, y5, b5⟩
        obtain ⟨x5, c5, rfl⟩ := own_slice y5
        have B5 := Lib.hid b5
        have Y5 := Lib.hid y5
        clear y5 b5 RK
        go_wp2_with fail
        refine (RR.out _ B5.out).mono ?_
        rintro e w6 ⟨v6, rfl, y6, b6⟩
        obtain ⟨x6, c6, rfl⟩ := own_slice y6
        have B6 := Lib.hid (B5.out.trans (b6.mono B5.out.size))
        have SM := Lib.hid (same_eq (own_later Y5.out b6) y6 OL)
        clear y6 b6 RR Y5
        go_wp2_with fail
        refine SM.out.mono ?_
        rintro e w7 ⟨rfl, q7, rfl⟩
        have BE := below_drewN (W0.trans (B6.out.mono W0.size)) q7
        clear SM
        go_wp2
        go_ret
        exact ⟨rfl, BE⟩
set_option maxRecDepth 100000 in
theorem ScorePlays_lifted (os : Os) (started : os.Started) (H : Type) (enc : TypeId × Value → H) :
    ReturnsInHanded {} Try.checked os 4 .any (Rows.scorePlaysSpec.pre6 enc Try.prog Try.f4 Rows.scorePlaysRow.domain false) (Rows.scorePlaysSpec.post enc Try.prog Try.f4 false true false false) := by
  refine returnsInHanded_of_change (C := Try.checked) own started (by kernel_rfl) Try.func4
    (ChangeSpec.witness6 (enc := enc) (C := Try.checked) false ⟨#[], #[.slice none 0 0, .slice none 0 0], []⟩ 8 (by kernel_rfl) (by kernel_rfl) (by kernel_rfl) (by kernel_rfl)) ?_
  intro W base args ds gs before hval0 hW hcnd _
  have hval : ∀ (j : Nat) t v, Try.f4.params[j]? = some t → args[j]? = some v → Value.okWide Try.prog W .any base t v := hval0
  have hW' := hW
  obtain ⟨p, q, hA0, hV, rfl, hfz, hnd⟩ := hW
  have hA : DataW.TrodAll enc Try.prog W 0 (fun _ => true) true Try.f4.params.toList args.toList ds p := hA0
  rw [Try.params4] at hA hval
  obtain ⟨v0, vs0, d0, ds0, p0, q0, hargs, rfl, rfl, h0, r0⟩ := trodAll_cons hA
  obtain ⟨v1, vs1, d1, ds1, p1, q1, rfl, rfl, rfl, h1, r1⟩ := trodAll_cons r0
  obtain ⟨rfl, rfl, rfl⟩ := trodAll_nil r1
  obtain rfl : args = #[v0, v1] := by cases args; simp_all
  obtain ⟨a0, z0, c0, rfl, x0, y0, l0⟩ := acts_of (hval 0 30 v0 rfl rfl) h0
  obtain ⟨a1, z1, c1, rfl, x1, y1, l1⟩ := ints_ofc Try.underlying27 Try.underlying3 (by kernel_rfl) (hval 1 27 v1 rfl rfl) h1
  refine (ScorePlays_walk a0 z0 c0 a1 z1 c1 W x0 y0 l0 x1 y1 l1).mono fun e W' ⟨he, hb⟩ => ?_
  subst he
  exact ⟨_, rfl, law_post laidOut (by kernel_rfl) rfl rfl Try.underlying4 rfl hW' hb⟩
theorem ScorePlays_holds : Rows.ScorePlaysSaid :=
  OpenClaim.holds_of_wide 4 Try.f4 rfl rfl rfl rfl rfl rfl rfl ⟨rfl, rfl, rfl, rfl, rfl⟩ rfl rfl rfl rfl rfl (by kernel_rfl) Try.func4 (by kernel_rfl)
    (of_decide_eq_true (by kernel_rfl)) (by unfold Func.isWrapper; rw [if_neg (by decide +kernel)]; exact ⟨rfl, rfl⟩)
    (fun os started H enc _ => ScorePlays_lifted os started H enc)
end Go.Proofs.Ytbbamnglnnanpaa
