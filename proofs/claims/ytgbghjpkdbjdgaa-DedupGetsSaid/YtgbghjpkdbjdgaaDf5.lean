/- The reference's Get. -/
import Derived.Test.YtgbghjpkdbjdgaaDf1
import Derived.Laws.Cover1
namespace Go.Proofs.Ytgbghjpkdbjdgaa
open Go.RowKit Go.Lib
open Extern.Stop (cell)

theorem below_alloc' {w w' : World} (h : Below w.heap.size w w') (o : Obj) : Below w.heap.size w (w'.alloc o) := h.alloc h.size o
theorem getN_stop {n f i : Nat} {s : GS} (h : ¬ (i < n ∧ s.er = 0)) : getN n f i s = s := by
  cases f with
  | zero => rfl
  | succ f => rw [getN, if_neg h]
set_option linter.unusedSimpArgs false in
set_option maxRecDepth 100000 in
set_option maxHeartbeats 16000000 in
theorem rget_any (w : World) (bs : List UInt8) (hs : bs.length ≤ 10000) :
    Calls Try.prog 20 #[.string (strOf bs)] w fun e w' => ∃ v, e = .returned (.tuple #[v, .int .i64 (getErr (getAll bs))]) ∧ (getErr (getAll bs) = 0 → EV w' v (getAll bs).m) ∧ Below w.heap.size w w' := by
  obtain ⟨S, hS⟩ : ∃ S, S = getAll bs := ⟨_, rfl⟩
  rw [← hS]
  have SS := Lib.hid hS
  obtain ⟨U, hU⟩ : ∃ U, U = uintOf bs 0 := ⟨_, rfl⟩
  have UL := uintOf_lt bs 0
  have UN := Lib.hid (uintOf_len bs 0)
  have I0 := Lib.hid (inv_zero bs)
  have UC := refuint_any w bs 0
  unfold rR at UC
  rw [← hU] at UL UN I0 UC
  have UC1 := Lib.hid UC
  have S0 : Hid (getN U.1 (bs.length + 1) 0 ⟨true, zid, [], U.2.1, U.2.2⟩ = S) := Lib.hid (by rw [SS.out, hU]; rfl)
  obtain ⟨n, hn⟩ : ∃ n, n = U.1 := ⟨_, rfl⟩
  rw [← hn] at UC1 UL S0 I0
  obtain ⟨ni, hni⟩ : ∃ ni : Int, ni = (n : Int) := ⟨_, rfl⟩
  rw [← hni] at UC1
  have NI := Lib.hid hni
  have HL := Lib.hid hs
  obtain ⟨g0, hi0, hz0, hz1, hz2⟩ := info_parts info_e
  clear hU hn hni UC hS hs
  go_enter Try.func20, Try.ntmps20
  go_wp2_with fail
  refine UC1.out.mono ?_
  rintro e w1 ⟨rfl, b1⟩
  obtain ⟨L, hL⟩ : ∃ L, L = w1.heap.size := ⟨_, rfl⟩
  have hLw : w.heap.size ≤ L := by rw [hL]; exact b1.size
  have B1 := Lib.hid b1
  have HLL := Lib.hid hL
  clear b1 UC1 hL
  go_upto_region 2 with fail
  rw [← HLL.out]
  refine wp_named fun w2 hw2 => ?_
  have e2 : w2.heap[L]? = some (.cells #[.string (strOf U.2.1), .int .i64 U.2.2] 82 (0, 0)) := by rw [hw2, HLL.out]; first | exact heap_at _ _ | exact heap_setCell_same _ (heap_setCell_same _ (heap_at _ _))
  have b2 : Below w.heap.size w w2 := by
    rw [hw2]
    repeat (first | exact B1.out | refine below_alloc' ?_ _ | refine Below.setCell ?_ (by simp; omega) _)
  have E2 := Lib.hid e2
  have B2 := Lib.hid b2
  clear hw2 e2 b2 B1 HLL
  go_wp2_with fail
  go_loopg [6, 7, 8] (bs.length + 1) (fun k s6 s7 s8 wr => ∃ (i : Nat) (s : GS) (out : List Ent), s7 = .bool s.fine ∧ s8 = .int .u64 i ∧ out.length = i ∧ InvG bs n i s ∧ getN n k i s = S ∧ (s.er = 0 → s.zs.length < k) ∧ i + k ≤ bs.length + 1 ∧ (0 < i → ∃ e, out[i - 1]? = some e ∧ e.1 = s.last) ∧ (s.fine = true → out = s.m) ∧ wr.heap[L]? = some (.cells #[.string (strOf s.zs), .int .i64 s.er] 82 (0, 0)) ∧ wr.ownsRow (L + 1) 41 65 s6 i (out.flatMap ecells) ∧ Below w.heap.size w wr)
  case atStart => exact ⟨0, ⟨true, zid, [], U.2.1, U.2.2⟩, [], rfl, rfl, rfl, I0.out, S0.out, fun _ => Nat.lt_succ_of_le UN.out, by omega, fun h => absurd h (by omega), fun _ => rfl, E2.out, World.ownsRow_nil _ _ _ _, B2.out⟩
  case round =>
    obtain ⟨i, s, out, rfl, rfl, hq, hinv, hS, hf, hik, hlast, hfo, hbox, hown, hbel⟩ := hrel
    obtain ⟨xa, xc, rfl⟩ := own_slice hown
    have QQ := Lib.hid hq
    have INV := Lib.hid hinv
    have HS := Lib.hid hS
    have HF := Lib.hid hf
    have HIK := Lib.hid hik
    have LAST := Lib.hid hlast
    have FO := Lib.hid hfo
    have BOX := Lib.hid hbox
    have OWN := Lib.hid hown
    have BW := Lib.hid hbel
    have UL2 := Lib.hid UL
    have hi1 : i ≤ 10001 := by have := HL.out; omega
    have hin1 : i ≤ n := hinv.1
    have IB : i < 18446744073709551615 := by omega
    obtain ⟨ii, hii⟩ : ∃ ii : Int, ii = (i : Int) := ⟨_, rfl⟩
    rw [← hii]
    have II := Lib.hid hii
    obtain ⟨fb, hfb⟩ : ∃ fb, fb = s.fine := ⟨_, rfl⟩
    rw [← hfb]
    have FB := Lib.hid hfb
    obtain ⟨er, her⟩ : ∃ er, er = s.er := ⟨_, rfl⟩
    have ER := Lib.hid her
    clear hq hinv hS hf hik hlast hfo hbox hown hbel hii hfb her E2 B2 S0 I0 UN UL hin1
    by_cases hin : i < n
    · have l1 : decide (ii < ni) = true := decide_eq_true (by have := II.out; have := NI.out; omega)
      by_cases he0 : er = 0
      · have l2 : (er == 0) = true := by simpa using he0
        subst he0
        obtain ⟨f, hgk⟩ : ∃ f, gk = f + 1 := ⟨gk - 1, by have := HF.out ER.out.symm; omega⟩
        have GK := Lib.hid hgk
        have HS2 : Hid (getN n f (i + 1) (stepG i s) = S) := Lib.hid (by
          have := HS.out
          rw [hgk, getN, if_pos ⟨hin, ER.out.symm⟩] at this
          exact this)
        have HF2 : Hid ((stepG i s).er = 0 → (stepG i s).zs.length < f) := Lib.hid (fun h => by
          have h1 := stepG_len h
          have h2 := HF.out ER.out.symm
          omega)
        have INV2 := Lib.hid (inv_step INV.out hin ER.out.symm)
        obtain ⟨A, hA⟩ : ∃ A, A = idOf s.zs s.er := ⟨_, rfl⟩
        obtain ⟨Bv, hB⟩ : ∃ Bv, Bv = idOf A.2.1 A.2.2 := ⟨_, rfl⟩
        obtain ⟨K, hK⟩ : ∃ K, K = uintOf Bv.2.1 Bv.2.2 := ⟨_, rfl⟩
        have KL : K.1 < 18446744073709551616 := by rw [hK]; exact uintOf_lt _ _
        have SG : Hid ((stepG i s).fine = (s.fine && !(decide (0 < i) && decide (0 ≤ compareBytes s.last.1 A.1.1) || decide (1023 < K.1)))) := Lib.hid (by rw [hK, hB, hA]; rfl)
        have LST : Hid ((stepG i s).last = A.1) := Lib.hid (by rw [hA]; rfl)
        have SZ : Hid ((stepG i s).zs = K.2.1) := Lib.hid (by rw [hK, hB, hA]; rfl)
        have SE : Hid ((stepG i s).er = K.2.2) := Lib.hid (by rw [hK, hB, hA]; rfl)
        have EG : Hid (entG s = (A.1, ⟨Bv.1, ((if 1023 < K.1 then 0 else K.1 : Nat) : Int)⟩)) := Lib.hid (by rw [hK, hB, hA]; rfl)
        have HA := Lib.hid hA
        have HB := Lib.hid hB
        have HK := Lib.hid hK
        have HIN := Lib.hid hin
        obtain ⟨zs0, hzs0⟩ : ∃ zs0, zs0 = s.zs := ⟨_, rfl⟩
        have ZS := Lib.hid hzs0
        have BX := BOX.out
        rw [← hzs0, ← ER.out] at BX
        obtain ⟨c1, c2, c3, c4⟩ := box_cells BX
        have XB := Lib.hid BX
        clear hA hB hK hgk HS HF hzs0 BX BOX hin
        go_upto_region 8 with fail
        refine wp_named fun w7 hw7 => ?_
        obtain ⟨T, hT⟩ : ∃ T, T = wr.heap.size := ⟨_, rfl⟩
        rw [← hT]
        have R7 : Hid (RG w w7 L T zs0 0 (zid, zpl) (.slice xa i xc) i (out.flatMap ecells)) := Lib.hid (by
          have ba : Below wr.heap.size wr w7 := by rw [hw7]; exact below_alloc (Below.refl _ _) _
          refine ⟨aRegionKept XB.out ba, ?_, own_later OWN.out ba, ?_, BW.out.trans (ba.mono BW.out.size), hLw, ?_⟩
          · rw [hw7, hT]; exact heap_at _ _
          · intro h
            obtain ⟨_, cur, hc⟩ := own_row OWN.out h
            have := (Array.getElem?_eq_some_iff.1 hc).1
            omega
          · rw [hT]; exact (Array.getElem?_eq_some_iff.1 XB.out).1)
        clear hw7 hT XB OWN BW c1 c2 c3 c4
        obtain ⟨c1, c2, c3, c4⟩ := box_cells R7.out.box
        have C1 := refid_any w7 zs0 0
        rw [show idOf zs0 0 = A by rw [HA.out, ZS.out, ← ER.out]] at C1
        unfold rR at C1
        have C1' := Lib.hid C1
        clear C1
        go_wp2_with fail
        refine C1'.out.mono ?_
        rintro e w8 ⟨rfl, b8⟩
        have R8 := R7.out.later b8
        obtain ⟨c1, c2, c3, c4⟩ := box_cells R8.box
        have R8r := Lib.hid (R8.read A.2.1 A.2.2)
        have R8i := Lib.hid (R8r.out.id A.1)
        clear R8 R7 b8 C1'
        go_upto_region 10 with (refine wpList_store_mid rfl 31 (.tmp 33) (.tmp 32) rfl T 0 (encId A.1).toArray rfl rfl (R8r.out.there (by omega) A.1) (sizei A.1.1) (all_oneCell_toArray (encId_one A.1)) ?_)
        refine wp_named fun w9 hw9 => ?_
        rw [← hw9] at R8i
        clear hw9 R8r c1 c2 c3 c4
        obtain ⟨c1, c2, c3, c4⟩ := box_cells R8i.out.box
        have C1 := refid_any w9 A.2.1 A.2.2
        rw [← HB.out] at C1
        unfold rR at C1
        have C1' := Lib.hid C1
        clear C1
        go_wp2_with fail
        refine C1'.out.mono ?_
        rintro e w10 ⟨rfl, b10⟩
        have R10 := R8i.out.later b10
        obtain ⟨c1, c2, c3, c4⟩ := box_cells R10.box
        have R10r := Lib.hid (R10.read Bv.2.1 Bv.2.2)
        have R10i : Hid (RG w _ L T Bv.2.1 Bv.2.2 (A.1, ⟨Bv.1, zpl.n⟩) (.slice xa i xc) i (out.flatMap ecells)) := Lib.hid (RG.pack (b := zpl.pack) (n := zpl.n) R10r.out Bv.1)
        clear R10 R8i b10 C1'
        go_upto_region 11 with (refine wpList_store_mid rfl 31 (.tmp 39) (.tmp 38) rfl T 32 (encId Bv.1).toArray rfl rfl (R10r.out.there (by omega) Bv.1) (sizei Bv.1.1) (all_oneCell_toArray (encId_one Bv.1)) ?_)
        refine wp_named fun w11 hw11 => ?_
        rw [← hw11] at R10i
        clear hw11 R10r c1 c2 c3 c4
        obtain ⟨c1, c2, c3, c4⟩ := box_cells R10i.out.box
        have C1 := refuint_any w11 Bv.2.1 Bv.2.2
        rw [← HK.out] at C1
        unfold rR at C1
        obtain ⟨ki, hki⟩ : ∃ ki : Int, ki = (K.1 : Int) := ⟨_, rfl⟩
        rw [← hki] at C1
        have KI := Lib.hid hki
        have C1' := Lib.hid C1
        clear C1 hki
        go_wp2_with fail
        refine C1'.out.mono ?_
        rintro e w12 ⟨rfl, b12⟩
        have R12 := R10i.out.later b12
        obtain ⟨c1, c2, c3, c4⟩ := box_cells R12.box
        have R12r := Lib.hid (R12.read K.2.1 K.2.2)
        clear R12 R10i b12 C1'
        go_upto_region 12 with fail
        refine wp_named fun w13 hw13 => ?_
        rw [← hw13] at R12r
        have R12 := R12r
        clear hw13 R12r c1 c2 c3 c4 l1 l2
        by_cases hb : 1023 < K.1
        · have d1 : decide (1023 < ki) = true := decide_eq_true (by rw [KI.out]; omega)
          have dk := decide_eq_true hb
          have KM : Hid ((if 1023 < K.1 then 0 else K.1 : Nat) = 0) := Lib.hid (if_pos hb)
          clear hb
          have WK : IntKind.i64.wrap (0 : Int) = (0 : Int) := by rw [IntKind.wrap_i64]; omega
          have cn := (e_lies (lies_block R12.out.ent)).2.2
          have fn := blk_free R12.out.ent 64
          have R13 := Lib.hid (R12.out.num (0 : Int))
          clear R12
          go_upto_region 16 with fail
          refine wp_named fun w13 hw13 => ?_
          rw [← hw13] at R13
          obtain ⟨en, hen⟩ : ∃ en : Ent, en = (A.1, ⟨Bv.1, (0 : Int)⟩) := ⟨_, rfl⟩
          have EN := Lib.hid hen
          rw [← hen] at R13
          have KMF : Hid ((stepG i s).fine = true → entG s = en) := Lib.hid (fun hf => by
            rw [hen, EG.out, KM.out] <;> rfl)
          clear hw13 hen cn fn WK
          by_cases hi0' : i = 0
          · have dz : decide (0 < ii) = false := decide_eq_false (by rw [II.out]; omega)
            have F2 : Hid ((stepG i s).fine = false) := Lib.hid (by rw [SG.out]; simp [hi0', dk])
            clear hi0'
            refine wp_region_quiet_lit (by kernel_rfl) (by kernel_rfl) ?_
            repeat go_big_quiet_step (fail)
            refine wpQuiet_nil ?_
            intro _ hw9
            obtain ⟨nq, hw9⟩ := hw9
            subst hw9
            go_upto_region 18 with fail
            refine wp_named fun wp hwp => ?_
            have RP : Hid (RG w wp L T K.2.1 K.2.2 en (.slice xa i xc) i (out.flatMap ecells)) := Lib.hid (by rw [hwp]; exact R13.out.later (below_drewN (Below.refl _ _) _))
            clear hwp R13 dz
            have LE := Lib.hid (lies_block RP.out.ent)
            have OW := Lib.hid RP.out.own
            have BS := Lib.hid (show L + 1 ≤ wp.heap.size by have := (Array.getElem?_eq_some_iff.1 RP.out.box).1; omega)
            have LO := Lib.hid RP.out.lo
            go_wp2_with (first | (refine wpList_load_agg rfl 41 (.tmp 9) rfl T 0 rfl (ecells en).toArray _ LE.out Try.underlying41 rfl (sizee en) ?_) | (refine wpList_row_one rfl 26 41 (.tmp 66) rfl (ecells en).toArray rfl 65 g0 _ Try.underlying26 hi0 hz0 hz1 (by decide) (by simp [ecells_len]) (by decide) ?_) | (at_builtin; refine wpList_append_opt rfl (.tmp 65) (.tmp 67) 26 rfl (L + 1) 41 g0 _ 65 72 Try.underlying26 hi0 hz0 hz1 hz2 (by simp [Value.cells, ecells_len]) (by decide) (.slice xa i xc) i (out.flatMap ecells) rfl (own_later OW.out (below_alloc (Below.refl _ _) _)) (some ⟨wp.heap.size, 0, none⟩) 1 1 (ecells en) rfl (fun h => by cases h) (by rw [ecells_len]) (fun ad' h => by cases h; exact e_news wp en _) (ecells_one en) (by unfold maxLen; omega) (by omega) (by have := BS.out; simp; omega) ?_; intro v6 w6 hown6 hg6 hat6))
            have RB : Hid (w6.heap[L]? = some (.cells #[.string (strOf (stepG i s).zs), .int .i64 (stepG i s).er] 82 (0, 0))) := Lib.hid (by
              have h1 := heap_up (o := .cells (ecells en).toArray 41) RP.out.box
              rw [SZ.out, SE.out]
              refine (hg6.block L (Array.getElem?_eq_some_iff.1 h1).1 (fun e => ?_)).trans h1
              have := (own_row OW.out e.symm).1
              omega)
            have B6 := Lib.hid ((below_alloc' RP.out.below (.cells (ecells en).toArray 41)).grown hg6 (by have := RP.out.below.size; simp; omega) (fun k hk => by have := (own_row OW.out hk).1; have := LO.out; omega))
            have O6 : Hid (w6.ownsRow (L + 1) 41 65 v6 (i + 1) ((out ++ [en]).flatMap ecells)) := Lib.hid (by
              rw [List.flatMap_append]
              simpa using hown6)
            clear hown6 hg6 hat6 LE OW RP BS
            go_wp2
            go_roundg f
            case measure => rw [GK.out]; omega
            case rel =>
              refine ⟨i + 1, stepG i s, out ++ [en], by rw [F2.out], by rw [show IntKind.u64.wrap (ii + 1) = ((i + 1 : Nat) : Int) by rw [IntKind.wrap_u64, II.out]; omega], by rw [List.length_append, QQ.out]; rfl, INV2.out, HS2.out, HF2.out, by have := HIK.out; have := GK.out; omega, fun _ => ⟨en, by rw [List.getElem?_append_right (by rw [QQ.out]; omega), QQ.out]; simp, by rw [EN.out, LST.out]⟩, fun hf => ?_, RB.out, O6.out, B6.out⟩
              obtain ⟨f1, f2, _, f4, _⟩ := fine_step INV.out hf
              rw [f2, FO.out f1]
              congr 1
              exact congrArg (fun x => [x]) (KMF.out hf).symm
          · have dz : decide (0 < ii) = true := decide_eq_true (by rw [II.out]; omega)
            obtain ⟨e1, he1, hl1⟩ := LAST.out (by omega)
            have WS : IntKind.u64.wrap (ii - 1) = ((i - 1 : Nat) : Int) := by rw [IntKind.wrap_u64, II.out]; omega
            have j1 : ((i - 1 : Nat) : Int) < (i : Int) := by omega
            have j0 : (0 : Int) ≤ ((i - 1 : Nat) : Int) := Int.natCast_nonneg _
            obtain ⟨b, off, rfl, hb2, hL⟩ := erow_elem (rowAt_own R13.out.own) he1
            have c1 := conv_id hb2 (e_lies hL).1
            have eT := lies_block R13.out.ent
            have c2 := conv_id (Array.getElem?_eq_some_iff.1 R13.out.ent).1 (e_lies eT).1
            have hen1 : en.1 = A.1 := by rw [EN.out]
            rw [hen1] at c2
            rw [hl1] at c1
            have DI : Hid (decide (0 < i) = true) := Lib.hid (decide_eq_true (by omega))
            generalize hj : i - 1 = j at WS j1 j0 c1
            by_cases hcmp : compareBytes s.last.1 A.1.1 < 0
            · have hless : Op.bytesLess s.last.1 A.1.1 = true := by rw [less_bytes]; exact decide_eq_true hcmp
              have F2 : Hid ((stepG i s).fine = false) := Lib.hid (by rw [SG.out, decide_eq_false (show ¬ 0 ≤ compareBytes s.last.1 A.1.1 by omega)]; simp [dk])
              clear hcmp hi0' he1 hL eT hen1 hl1 hj
              refine wp_region_quiet_lit (by kernel_rfl) (by kernel_rfl) ?_
              repeat go_big_quiet_step (fail)
              refine wpQuiet_nil ?_
              intro _ hw9
              obtain ⟨nq, hw9⟩ := hw9
              subst hw9
              go_upto_region 18 with fail
              refine wp_named fun wp hwp => ?_
              have RP : Hid (RG w wp L T K.2.1 K.2.2 en (.slice (some ⟨b, off, none⟩) i xc) i (out.flatMap ecells)) := Lib.hid (by rw [hwp]; exact R13.out.later (below_drewN (Below.refl _ _) _))
              clear hwp R13 dz WS j1 j0 c1 c2 hless
              have LE := Lib.hid (lies_block RP.out.ent)
              have OW := Lib.hid RP.out.own
              have BS := Lib.hid (show L + 1 ≤ wp.heap.size by have := (Array.getElem?_eq_some_iff.1 RP.out.box).1; omega)
              have LO := Lib.hid RP.out.lo
              go_wp2_with (first | (refine wpList_load_agg rfl 41 (.tmp 9) rfl T 0 rfl (ecells en).toArray _ LE.out Try.underlying41 rfl (sizee en) ?_) | (refine wpList_row_one rfl 26 41 (.tmp 66) rfl (ecells en).toArray rfl 65 g0 _ Try.underlying26 hi0 hz0 hz1 (by decide) (by simp [ecells_len]) (by decide) ?_) | (at_builtin; refine wpList_append_opt rfl (.tmp 65) (.tmp 67) 26 rfl (L + 1) 41 g0 _ 65 72 Try.underlying26 hi0 hz0 hz1 hz2 (by simp [Value.cells, ecells_len]) (by decide) (.slice (some ⟨b, off, none⟩) i xc) i (out.flatMap ecells) rfl (own_later OW.out (below_alloc (Below.refl _ _) _)) (some ⟨wp.heap.size, 0, none⟩) 1 1 (ecells en) rfl (fun h => by cases h) (by rw [ecells_len]) (fun ad' h => by cases h; exact e_news wp en _) (ecells_one en) (by unfold maxLen; omega) (by omega) (by have := BS.out; simp; omega) ?_; intro v6 w6 hown6 hg6 hat6))
              have RB : Hid (w6.heap[L]? = some (.cells #[.string (strOf (stepG i s).zs), .int .i64 (stepG i s).er] 82 (0, 0))) := Lib.hid (by
                have h1 := heap_up (o := .cells (ecells en).toArray 41) RP.out.box
                rw [SZ.out, SE.out]
                refine (hg6.block L (Array.getElem?_eq_some_iff.1 h1).1 (fun e => ?_)).trans h1
                have := (own_row OW.out e.symm).1
                omega)
              have B6 := Lib.hid ((below_alloc' RP.out.below (.cells (ecells en).toArray 41)).grown hg6 (by have := RP.out.below.size; simp; omega) (fun k hk => by have := (own_row OW.out hk).1; have := LO.out; omega))
              have O6 : Hid (w6.ownsRow (L + 1) 41 65 v6 (i + 1) ((out ++ [en]).flatMap ecells)) := Lib.hid (by
                rw [List.flatMap_append]
                simpa using hown6)
              clear hown6 hg6 hat6 LE OW RP BS
              go_wp2
              go_roundg f
              case measure => rw [GK.out]; omega
              case rel =>
                refine ⟨i + 1, stepG i s, out ++ [en], by rw [F2.out], by rw [show IntKind.u64.wrap (ii + 1) = ((i + 1 : Nat) : Int) by rw [IntKind.wrap_u64, II.out]; omega], by rw [List.length_append, QQ.out]; rfl, INV2.out, HS2.out, HF2.out, by have := HIK.out; have := GK.out; omega, fun _ => ⟨en, by rw [List.getElem?_append_right (by rw [QQ.out]; omega), QQ.out]; simp, by rw [EN.out, LST.out]⟩, fun hf => ?_, RB.out, O6.out, B6.out⟩
                obtain ⟨f1, f2, _, f4, _⟩ := fine_step INV.out hf
                rw [f2, FO.out f1]
                congr 1
                exact congrArg (fun x => [x]) (KMF.out hf).symm
            · have hless : Op.bytesLess s.last.1 A.1.1 = false := by rw [less_bytes]; exact decide_eq_false hcmp
              have F2 : Hid ((stepG i s).fine = false) := Lib.hid (by rw [SG.out, decide_eq_true (show 0 ≤ compareBytes s.last.1 A.1.1 by omega), DI.out]; simp)
              clear hcmp hi0' he1 hL eT hen1 hl1 hj
              refine wp_region_quiet_lit (by kernel_rfl) (by kernel_rfl) ?_
              repeat go_big_quiet_step (fail)
              refine wpQuiet_nil ?_
              intro _ hw9
              obtain ⟨nq, hw9⟩ := hw9
              subst hw9
              go_upto_region 18 with fail
              refine wp_named fun wp hwp => ?_
              have RP : Hid (RG w wp L T K.2.1 K.2.2 en (.slice (some ⟨b, off, none⟩) i xc) i (out.flatMap ecells)) := Lib.hid (by rw [hwp]; exact R13.out.later (below_drewN (Below.refl _ _) _))
              clear hwp R13 dz WS j1 j0 c1 c2 hless
              have LE := Lib.hid (lies_block RP.out.ent)
              have OW := Lib.hid RP.out.own
              have BS := Lib.hid (show L + 1 ≤ wp.heap.size by have := (Array.getElem?_eq_some_iff.1 RP.out.box).1; omega)
              have LO := Lib.hid RP.out.lo
              go_wp2_with (first | (refine wpList_load_agg rfl 41 (.tmp 9) rfl T 0 rfl (ecells en).toArray _ LE.out Try.underlying41 rfl (sizee en) ?_) | (refine wpList_row_one rfl 26 41 (.tmp 66) rfl (ecells en).toArray rfl 65 g0 _ Try.underlying26 hi0 hz0 hz1 (by decide) (by simp [ecells_len]) (by decide) ?_) | (at_builtin; refine wpList_append_opt rfl (.tmp 65) (.tmp 67) 26 rfl (L + 1) 41 g0 _ 65 72 Try.underlying26 hi0 hz0 hz1 hz2 (by simp [Value.cells, ecells_len]) (by decide) (.slice (some ⟨b, off, none⟩) i xc) i (out.flatMap ecells) rfl (own_later OW.out (below_alloc (Below.refl _ _) _)) (some ⟨wp.heap.size, 0, none⟩) 1 1 (ecells en) rfl (fun h => by cases h) (by rw [ecells_len]) (fun ad' h => by cases h; exact e_news wp en _) (ecells_one en) (by unfold maxLen; omega) (by omega) (by have := BS.out; simp; omega) ?_; intro v6 w6 hown6 hg6 hat6))
              have RB : Hid (w6.heap[L]? = some (.cells #[.string (strOf (stepG i s).zs), .int .i64 (stepG i s).er] 82 (0, 0))) := Lib.hid (by
                have h1 := heap_up (o := .cells (ecells en).toArray 41) RP.out.box
                rw [SZ.out, SE.out]
                refine (hg6.block L (Array.getElem?_eq_some_iff.1 h1).1 (fun e => ?_)).trans h1
                have := (own_row OW.out e.symm).1
                omega)
              have B6 := Lib.hid ((below_alloc' RP.out.below (.cells (ecells en).toArray 41)).grown hg6 (by have := RP.out.below.size; simp; omega) (fun k hk => by have := (own_row OW.out hk).1; have := LO.out; omega))
              have O6 : Hid (w6.ownsRow (L + 1) 41 65 v6 (i + 1) ((out ++ [en]).flatMap ecells)) := Lib.hid (by
                rw [List.flatMap_append]
                simpa using hown6)
              clear hown6 hg6 hat6 LE OW RP BS
              go_wp2
              go_roundg f
              case measure => rw [GK.out]; omega
              case rel =>
                refine ⟨i + 1, stepG i s, out ++ [en], by rw [F2.out], by rw [show IntKind.u64.wrap (ii + 1) = ((i + 1 : Nat) : Int) by rw [IntKind.wrap_u64, II.out]; omega], by rw [List.length_append, QQ.out]; rfl, INV2.out, HS2.out, HF2.out, by have := HIK.out; have := GK.out; omega, fun _ => ⟨en, by rw [List.getElem?_append_right (by rw [QQ.out]; omega), QQ.out]; simp, by rw [EN.out, LST.out]⟩, fun hf => ?_, RB.out, O6.out, B6.out⟩
                obtain ⟨f1, f2, _, f4, _⟩ := fine_step INV.out hf
                rw [f2, FO.out f1]
                congr 1
                exact congrArg (fun x => [x]) (KMF.out hf).symm
        · have d1 : decide (1023 < ki) = false := decide_eq_false (by rw [KI.out]; omega)
          have dk := decide_eq_false hb
          obtain ⟨km, hkm⟩ : ∃ km, km = K.1 := ⟨_, rfl⟩
          have KM : Hid ((if 1023 < K.1 then 0 else K.1 : Nat) = km) := Lib.hid (by rw [if_neg hb, hkm])
          have hk1 : km ≤ 1023 := by omega
          obtain rfl : ki = (km : Int) := by rw [KI.out, hkm]
          clear hb hkm
          have WK : IntKind.i64.wrap (km : Int) = (km : Int) := by rw [IntKind.wrap_i64]; omega
          have cn := (e_lies (lies_block R12.out.ent)).2.2
          have fn := blk_free R12.out.ent 64
          have R13 := Lib.hid (R12.out.num (km : Int))
          clear R12
          go_upto_region 16 with fail
          refine wp_named fun w13 hw13 => ?_
          rw [← hw13] at R13
          obtain ⟨en, hen⟩ : ∃ en : Ent, en = (A.1, ⟨Bv.1, (km : Int)⟩) := ⟨_, rfl⟩
          have EN := Lib.hid hen
          rw [← hen] at R13
          have KMF : Hid ((stepG i s).fine = true → entG s = en) := Lib.hid (fun hf => by
            rw [hen, EG.out, KM.out] <;> rfl)
          clear hw13 hen cn fn WK
          by_cases hi0' : i = 0
          · have dz : decide (0 < ii) = false := decide_eq_false (by rw [II.out]; omega)
            have F2 : Hid ((stepG i s).fine = fb) := Lib.hid (by rw [SG.out]; simp [hi0', dk, FB.out])
            clear hi0'
            refine wp_region_quiet_lit (by kernel_rfl) (by kernel_rfl) ?_
            repeat go_big_quiet_step (fail)
            refine wpQuiet_nil ?_
            intro _ hw9
            obtain ⟨nq, hw9⟩ := hw9
            subst hw9
            go_upto_region 18 with fail
            refine wp_named fun wp hwp => ?_
            have RP : Hid (RG w wp L T K.2.1 K.2.2 en (.slice xa i xc) i (out.flatMap ecells)) := Lib.hid (by rw [hwp]; exact R13.out.later (below_drewN (Below.refl _ _) _))
            clear hwp R13 dz
            have LE := Lib.hid (lies_block RP.out.ent)
            have OW := Lib.hid RP.out.own
            have BS := Lib.hid (show L + 1 ≤ wp.heap.size by have := (Array.getElem?_eq_some_iff.1 RP.out.box).1; omega)
            have LO := Lib.hid RP.out.lo
            go_wp2_with (first | (refine wpList_load_agg rfl 41 (.tmp 9) rfl T 0 rfl (ecells en).toArray _ LE.out Try.underlying41 rfl (sizee en) ?_) | (refine wpList_row_one rfl 26 41 (.tmp 66) rfl (ecells en).toArray rfl 65 g0 _ Try.underlying26 hi0 hz0 hz1 (by decide) (by simp [ecells_len]) (by decide) ?_) | (at_builtin; refine wpList_append_opt rfl (.tmp 65) (.tmp 67) 26 rfl (L + 1) 41 g0 _ 65 72 Try.underlying26 hi0 hz0 hz1 hz2 (by simp [Value.cells, ecells_len]) (by decide) (.slice xa i xc) i (out.flatMap ecells) rfl (own_later OW.out (below_alloc (Below.refl _ _) _)) (some ⟨wp.heap.size, 0, none⟩) 1 1 (ecells en) rfl (fun h => by cases h) (by rw [ecells_len]) (fun ad' h => by cases h; exact e_news wp en _) (ecells_one en) (by unfold maxLen; omega) (by omega) (by have := BS.out; simp; omega) ?_; intro v6 w6 hown6 hg6 hat6))
            have RB : Hid (w6.heap[L]? = some (.cells #[.string (strOf (stepG i s).zs), .int .i64 (stepG i s).er] 82 (0, 0))) := Lib.hid (by
              have h1 := heap_up (o := .cells (ecells en).toArray 41) RP.out.box
              rw [SZ.out, SE.out]
              refine (hg6.block L (Array.getElem?_eq_some_iff.1 h1).1 (fun e => ?_)).trans h1
              have := (own_row OW.out e.symm).1
              omega)
            have B6 := Lib.hid ((below_alloc' RP.out.below (.cells (ecells en).toArray 41)).grown hg6 (by have := RP.out.below.size; simp; omega) (fun k hk => by have := (own_row OW.out hk).1; have := LO.out; omega))
            have O6 : Hid (w6.ownsRow (L + 1) 41 65 v6 (i + 1) ((out ++ [en]).flatMap ecells)) := Lib.hid (by
              rw [List.flatMap_append]
              simpa using hown6)
            clear hown6 hg6 hat6 LE OW RP BS
            go_wp2
            go_roundg f
            case measure => rw [GK.out]; omega
            case rel =>
              refine ⟨i + 1, stepG i s, out ++ [en], by rw [F2.out], by rw [show IntKind.u64.wrap (ii + 1) = ((i + 1 : Nat) : Int) by rw [IntKind.wrap_u64, II.out]; omega], by rw [List.length_append, QQ.out]; rfl, INV2.out, HS2.out, HF2.out, by have := HIK.out; have := GK.out; omega, fun _ => ⟨en, by rw [List.getElem?_append_right (by rw [QQ.out]; omega), QQ.out]; simp, by rw [EN.out, LST.out]⟩, fun hf => ?_, RB.out, O6.out, B6.out⟩
              obtain ⟨f1, f2, _, f4, _⟩ := fine_step INV.out hf
              rw [f2, FO.out f1]
              congr 1
              exact congrArg (fun x => [x]) (KMF.out hf).symm
          · have dz : decide (0 < ii) = true := decide_eq_true (by rw [II.out]; omega)
            obtain ⟨e1, he1, hl1⟩ := LAST.out (by omega)
            have WS : IntKind.u64.wrap (ii - 1) = ((i - 1 : Nat) : Int) := by rw [IntKind.wrap_u64, II.out]; omega
            have j1 : ((i - 1 : Nat) : Int) < (i : Int) := by omega
            have j0 : (0 : Int) ≤ ((i - 1 : Nat) : Int) := Int.natCast_nonneg _
            obtain ⟨b, off, rfl, hb2, hL⟩ := erow_elem (rowAt_own R13.out.own) he1
            have c1 := conv_id hb2 (e_lies hL).1
            have eT := lies_block R13.out.ent
            have c2 := conv_id (Array.getElem?_eq_some_iff.1 R13.out.ent).1 (e_lies eT).1
            have hen1 : en.1 = A.1 := by rw [EN.out]
            rw [hen1] at c2
            rw [hl1] at c1
            have DI : Hid (decide (0 < i) = true) := Lib.hid (decide_eq_true (by omega))
            generalize hj : i - 1 = j at WS j1 j0 c1
            by_cases hcmp : compareBytes s.last.1 A.1.1 < 0
            · have hless : Op.bytesLess s.last.1 A.1.1 = true := by rw [less_bytes]; exact decide_eq_true hcmp
              have F2 : Hid ((stepG i s).fine = fb) := Lib.hid (by rw [SG.out, decide_eq_false (show ¬ 0 ≤ compareBytes s.last.1 A.1.1 by omega)]; simp [dk, FB.out])
              clear hcmp hi0' he1 hL eT hen1 hl1 hj
              refine wp_region_quiet_lit (by kernel_rfl) (by kernel_rfl) ?_
              repeat go_big_quiet_step (fail)
              refine wpQuiet_nil ?_
              intro _ hw9
              obtain ⟨nq, hw9⟩ := hw9
              subst hw9
              go_upto_region 18 with fail
              refine wp_named fun wp hwp => ?_
              have RP : Hid (RG w wp L T K.2.1 K.2.2 en (.slice (some ⟨b, off, none⟩) i xc) i (out.flatMap ecells)) := Lib.hid (by rw [hwp]; exact R13.out.later (below_drewN (Below.refl _ _) _))
              clear hwp R13 dz WS j1 j0 c1 c2 hless
              have LE := Lib.hid (lies_block RP.out.ent)
              have OW := Lib.hid RP.out.own
              have BS := Lib.hid (show L + 1 ≤ wp.heap.size by have := (Array.getElem?_eq_some_iff.1 RP.out.box).1; omega)
              have LO := Lib.hid RP.out.lo
              go_wp2_with (first | (refine wpList_load_agg rfl 41 (.tmp 9) rfl T 0 rfl (ecells en).toArray _ LE.out Try.underlying41 rfl (sizee en) ?_) | (refine wpList_row_one rfl 26 41 (.tmp 66) rfl (ecells en).toArray rfl 65 g0 _ Try.underlying26 hi0 hz0 hz1 (by decide) (by simp [ecells_len]) (by decide) ?_) | (at_builtin; refine wpList_append_opt rfl (.tmp 65) (.tmp 67) 26 rfl (L + 1) 41 g0 _ 65 72 Try.underlying26 hi0 hz0 hz1 hz2 (by simp [Value.cells, ecells_len]) (by decide) (.slice (some ⟨b, off, none⟩) i xc) i (out.flatMap ecells) rfl (own_later OW.out (below_alloc (Below.refl _ _) _)) (some ⟨wp.heap.size, 0, none⟩) 1 1 (ecells en) rfl (fun h => by cases h) (by rw [ecells_len]) (fun ad' h => by cases h; exact e_news wp en _) (ecells_one en) (by unfold maxLen; omega) (by omega) (by have := BS.out; simp; omega) ?_; intro v6 w6 hown6 hg6 hat6))
              have RB : Hid (w6.heap[L]? = some (.cells #[.string (strOf (stepG i s).zs), .int .i64 (stepG i s).er] 82 (0, 0))) := Lib.hid (by
                have h1 := heap_up (o := .cells (ecells en).toArray 41) RP.out.box
                rw [SZ.out, SE.out]
                refine (hg6.block L (Array.getElem?_eq_some_iff.1 h1).1 (fun e => ?_)).trans h1
                have := (own_row OW.out e.symm).1
                omega)
              have B6 := Lib.hid ((below_alloc' RP.out.below (.cells (ecells en).toArray 41)).grown hg6 (by have := RP.out.below.size; simp; omega) (fun k hk => by have := (own_row OW.out hk).1; have := LO.out; omega))
              have O6 : Hid (w6.ownsRow (L + 1) 41 65 v6 (i + 1) ((out ++ [en]).flatMap ecells)) := Lib.hid (by
                rw [List.flatMap_append]
                simpa using hown6)
              clear hown6 hg6 hat6 LE OW RP BS
              go_wp2
              go_roundg f
              case measure => rw [GK.out]; omega
              case rel =>
                refine ⟨i + 1, stepG i s, out ++ [en], by rw [F2.out], by rw [show IntKind.u64.wrap (ii + 1) = ((i + 1 : Nat) : Int) by rw [IntKind.wrap_u64, II.out]; omega], by rw [List.length_append, QQ.out]; rfl, INV2.out, HS2.out, HF2.out, by have := HIK.out; have := GK.out; omega, fun _ => ⟨en, by rw [List.getElem?_append_right (by rw [QQ.out]; omega), QQ.out]; simp, by rw [EN.out, LST.out]⟩, fun hf => ?_, RB.out, O6.out, B6.out⟩
                obtain ⟨f1, f2, _, f4, _⟩ := fine_step INV.out hf
                rw [f2, FO.out f1]
                congr 1
                exact congrArg (fun x => [x]) (KMF.out hf).symm
            · have hless : Op.bytesLess s.last.1 A.1.1 = false := by rw [less_bytes]; exact decide_eq_false hcmp
              have F2 : Hid ((stepG i s).fine = false) := Lib.hid (by rw [SG.out, decide_eq_true (show 0 ≤ compareBytes s.last.1 A.1.1 by omega), DI.out]; simp)
              clear hcmp hi0' he1 hL eT hen1 hl1 hj
              refine wp_region_quiet_lit (by kernel_rfl) (by kernel_rfl) ?_
              repeat go_big_quiet_step (fail)
              refine wpQuiet_nil ?_
              intro _ hw9
              obtain ⟨nq, hw9⟩ := hw9
              subst hw9
              go_upto_region 18 with fail
              refine wp_named fun wp hwp => ?_
              have RP : Hid (RG w wp L T K.2.1 K.2.2 en (.slice (some ⟨b, off, none⟩) i xc) i (out.flatMap ecells)) := Lib.hid (by rw [hwp]; exact R13.out.later (below_drewN (Below.refl _ _) _))
              clear hwp R13 dz WS j1 j0 c1 c2 hless
              have LE := Lib.hid (lies_block RP.out.ent)
              have OW := Lib.hid RP.out.own
              have BS := Lib.hid (show L + 1 ≤ wp.heap.size by have := (Array.getElem?_eq_some_iff.1 RP.out.box).1; omega)
              have LO := Lib.hid RP.out.lo
              go_wp2_with (first | (refine wpList_load_agg rfl 41 (.tmp 9) rfl T 0 rfl (ecells en).toArray _ LE.out Try.underlying41 rfl (sizee en) ?_) | (refine wpList_row_one rfl 26 41 (.tmp 66) rfl (ecells en).toArray rfl 65 g0 _ Try.underlying26 hi0 hz0 hz1 (by decide) (by simp [ecells_len]) (by decide) ?_) | (at_builtin; refine wpList_append_opt rfl (.tmp 65) (.tmp 67) 26 rfl (L + 1) 41 g0 _ 65 72 Try.underlying26 hi0 hz0 hz1 hz2 (by simp [Value.cells, ecells_len]) (by decide) (.slice (some ⟨b, off, none⟩) i xc) i (out.flatMap ecells) rfl (own_later OW.out (below_alloc (Below.refl _ _) _)) (some ⟨wp.heap.size, 0, none⟩) 1 1 (ecells en) rfl (fun h => by cases h) (by rw [ecells_len]) (fun ad' h => by cases h; exact e_news wp en _) (ecells_one en) (by unfold maxLen; omega) (by omega) (by have := BS.out; simp; omega) ?_; intro v6 w6 hown6 hg6 hat6))
              have RB : Hid (w6.heap[L]? = some (.cells #[.string (strOf (stepG i s).zs), .int .i64 (stepG i s).er] 82 (0, 0))) := Lib.hid (by
                have h1 := heap_up (o := .cells (ecells en).toArray 41) RP.out.box
                rw [SZ.out, SE.out]
                refine (hg6.block L (Array.getElem?_eq_some_iff.1 h1).1 (fun e => ?_)).trans h1
                have := (own_row OW.out e.symm).1
                omega)
              have B6 := Lib.hid ((below_alloc' RP.out.below (.cells (ecells en).toArray 41)).grown hg6 (by have := RP.out.below.size; simp; omega) (fun k hk => by have := (own_row OW.out hk).1; have := LO.out; omega))
              have O6 : Hid (w6.ownsRow (L + 1) 41 65 v6 (i + 1) ((out ++ [en]).flatMap ecells)) := Lib.hid (by
                rw [List.flatMap_append]
                simpa using hown6)
              clear hown6 hg6 hat6 LE OW RP BS
              go_wp2
              go_roundg f
              case measure => rw [GK.out]; omega
              case rel =>
                refine ⟨i + 1, stepG i s, out ++ [en], by rw [F2.out], by rw [show IntKind.u64.wrap (ii + 1) = ((i + 1 : Nat) : Int) by rw [IntKind.wrap_u64, II.out]; omega], by rw [List.length_append, QQ.out]; rfl, INV2.out, HS2.out, HF2.out, by have := HIK.out; have := GK.out; omega, fun _ => ⟨en, by rw [List.getElem?_append_right (by rw [QQ.out]; omega), QQ.out]; simp, by rw [EN.out, LST.out]⟩, fun hf => ?_, RB.out, O6.out, B6.out⟩
                obtain ⟨f1, f2, _, f4, _⟩ := fine_step INV.out hf
                rw [f2, FO.out f1]
                congr 1
                exact congrArg (fun x => [x]) (KMF.out hf).symm
      · have l2 : (er == 0) = false := by simpa using he0
        have hstop : ¬ (i < n ∧ s.er = 0) := fun h => he0 (by rw [ER.out]; exact h.2)
        clear he0
        have SS0 : Hid (S = s) := Lib.hid (by rw [← HS.out]; exact getN_stop hstop)
        clear hstop
        obtain ⟨zs0, hzs0⟩ : ∃ zs0, zs0 = s.zs := ⟨_, rfl⟩
        have BX := BOX.out
        rw [← hzs0, ← ER.out] at BX
        obtain ⟨c1, c2, c3, c4⟩ := box_cells BX
        have EN := rend_any wr zs0 er
        unfold rR at EN
        obtain ⟨F, hF⟩ : ∃ F, F = endOf zs0 er := ⟨_, rfl⟩
        rw [← hF] at EN
        have END := Lib.hid EN
        have GE : Hid (getErr S = if F = 0 then (if fb = true then 0 else 11) else F) := Lib.hid (by
          rw [SS0.out, hF, hzs0, ER.out, FB.out]
          rfl)
        clear BX EN hF hzs0
        go_upto_region 19 with fail
        go_wp2_with fail
        refine END.out.mono ?_
        rintro e w7 ⟨rfl, b7⟩
        have B7 := Lib.hid (BW.out.trans (b7.mono BW.out.size))
        have O7 := Lib.hid (own_later OWN.out b7)
        clear b7 END BOX BW OWN c1 c2 c3 c4
        by_cases hF0 : F = 0
        · have d2 : (F != 0) = false := by simpa using hF0
          have HF0 := Lib.hid hF0
          clear hF0
          cases fb
          · go_wp2
            go_ret2
            have ge : getErr S = 11 := by rw [GE.out, if_pos HF0.out]; rfl
            exact ⟨_, by rw [ge]; rfl, fun h => by rw [ge] at h; exact absurd h (by decide), B7.out⟩
          · go_wp2
            go_ret2
            have ge : getErr S = 0 := by rw [GE.out, if_pos HF0.out]; rfl
            refine ⟨_, by rw [ge]; rfl, fun _ => ?_, B7.out⟩
            have hm : out = S.m := by rw [SS0.out]; exact FO.out FB.out.symm
            rw [← hm]
            refine EV.own (B := L + 1) ?_
            rw [QQ.out]
            exact O7.out
        · have d2 : (F != 0) = true := by simpa using hF0
          have HF0 := Lib.hid hF0
          clear hF0
          go_wp2
          go_ret2
          have ge : getErr S = F := by rw [GE.out, if_neg HF0.out]
          exact ⟨_, by rw [ge]; rfl, fun h => absurd (ge.symm.trans h) HF0.out, B7.out⟩
    · have l1 : decide (ii < ni) = false := decide_eq_false (by have := II.out; have := NI.out; omega)
      have hstop : ¬ (i < n ∧ s.er = 0) := fun h => hin h.1
      clear hin
      have SS0 : Hid (S = s) := Lib.hid (by rw [← HS.out]; exact getN_stop hstop)
      clear hstop
      obtain ⟨zs0, hzs0⟩ : ∃ zs0, zs0 = s.zs := ⟨_, rfl⟩
      have BX := BOX.out
      rw [← hzs0, ← ER.out] at BX
      obtain ⟨c1, c2, c3, c4⟩ := box_cells BX
      have EN := rend_any wr zs0 er
      unfold rR at EN
      obtain ⟨F, hF⟩ : ∃ F, F = endOf zs0 er := ⟨_, rfl⟩
      rw [← hF] at EN
      have END := Lib.hid EN
      have GE : Hid (getErr S = if F = 0 then (if fb = true then 0 else 11) else F) := Lib.hid (by
        rw [SS0.out, hF, hzs0, ER.out, FB.out]
        rfl)
      clear BX EN hF hzs0
      go_upto_region 19 with fail
      go_wp2_with fail
      refine END.out.mono ?_
      rintro e w7 ⟨rfl, b7⟩
      have B7 := Lib.hid (BW.out.trans (b7.mono BW.out.size))
      have O7 := Lib.hid (own_later OWN.out b7)
      clear b7 END BOX BW OWN c1 c2 c3 c4
      by_cases hF0 : F = 0
      · have d2 : (F != 0) = false := by simpa using hF0
        have HF0 := Lib.hid hF0
        clear hF0
        cases fb
        · go_wp2
          go_ret2
          have ge : getErr S = 11 := by rw [GE.out, if_pos HF0.out]; rfl
          exact ⟨_, by rw [ge]; rfl, fun h => by rw [ge] at h; exact absurd h (by decide), B7.out⟩
        · go_wp2
          go_ret2
          have ge : getErr S = 0 := by rw [GE.out, if_pos HF0.out]; rfl
          refine ⟨_, by rw [ge]; rfl, fun _ => ?_, B7.out⟩
          have hm : out = S.m := by rw [SS0.out]; exact FO.out FB.out.symm
          rw [← hm]
          refine EV.own (B := L + 1) ?_
          rw [QQ.out]
          exact O7.out
      · have d2 : (F != 0) = true := by simpa using hF0
        have HF0 := Lib.hid hF0
        clear hF0
        go_wp2
        go_ret2
        have ge : getErr S = F := by rw [GE.out, if_neg HF0.out]
        exact ⟨_, by rw [ge]; rfl, fun h => absurd (ge.symm.trans h) HF0.out, B7.out⟩
end Go.Proofs.Ytgbghjpkdbjdgaa
