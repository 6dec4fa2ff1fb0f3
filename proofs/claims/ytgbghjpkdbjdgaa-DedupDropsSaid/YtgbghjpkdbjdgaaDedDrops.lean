/- The law DedupDrops: dropping packs leaves just the objects of others; each pack has as many as were added to it. No conditions. -/
import Derived.Test.YtgbghjpkdbjdgaaDd24
namespace Go.Proofs.Ytgbghjpkdbjdgaa
open Go.RowKit Go.ChangeShapes Go.WideShapes
open Extern.Stop (cell)

set_option linter.unusedSimpArgs false in
set_option maxRecDepth 100000 in
set_option maxHeartbeats 16000000 in
theorem drops_law {W : World} {ad : Option Addr} {l : List Id32} {c : Nat} (hrow : RowAt W ad (l.flatMap encId)) (hlen : l.length < 9223372036854775808) {adp : Option Addr} {ps : List Int} {cp : Nat} (hx : IntsAt W .u8 adp ps) (hz : ∀ n ∈ ps, 0 ≤ n ∧ n ≤ 255) (hlp : ps.length < 9223372036854775808) (dr : Int) (hd : 0 ≤ dr ∧ dr ≤ 255) :
    Calls Try.prog 6 #[.slice ad l.length c, .slice adp ps.length cp, .int .u8 dr] W fun e w' => e = .returned (.bool true) ∧ Below W.heap.size W w' := by
  have ROW := Lib.hid hrow
  have PS := Lib.hid hx
  have PZ := Lib.hid hz
  obtain ⟨d0, d1⟩ := hd
  obtain ⟨m, hm⟩ : ∃ m, m = l.length := ⟨_, rfl⟩
  have LM := Lib.hid hm
  obtain ⟨np, hnp⟩ : ∃ np, np = ps.length := ⟨_, rfl⟩
  have LP := Lib.hid hnp
  rw [← hm] at hlen
  rw [← hnp] at hlp
  rw [← hm, ← hnp]
  have hmk := make4
  clear hrow hm hx hz hnp
  go_enter Try.func6, Try.ntmps6
  go_wp2_with fail
  refine (awake_any _).mono ?_
  rintro e w1 ⟨rfl, b1⟩
  have B1 := Lib.hid b1
  clear b1
  by_cases h20 : 30 < m
  · have h20' : (30 : Int) < (m : Int) := by omega
    go_wp2
    go_ret
    exact ⟨rfl, B1.out⟩
  have h20' : (m : Int) ≤ 30 := by omega
  by_cases hpm : np < m
  · have hpm' : (np : Int) < (m : Int) := by omega
    go_wp2
    go_ret
    exact ⟨rfl, B1.out⟩
  have hpm' : (m : Int) ≤ (np : Int) := by omega
  have h20n : m ≤ 30 := by omega
  go_wp2_with fail
  refine (new_any _).mono ?_
  rintro e w2 ⟨x, M, rfl, x2, hx2, hM2, b2⟩
  have X2 := Lib.hid x2
  have B2 := Lib.hid (B1.out.trans (b2.mono B1.out.size))
  have hWM : W.heap.size ≤ M := Nat.le_trans B1.out.size hM2
  have hxs : x < w2.heap.size := (Array.getElem?_eq_some_iff.1 x2.box).1
  have hMs : M < w2.heap.size := x2.map.lt
  clear x2 b2 B1 hM2 hx2
  go_upto_region 8 with fail
  refine wp_named fun w3 hw3 => ?_
  obtain ⟨NB, hNB⟩ : ∃ NB, NB = w2.heap.size := ⟨_, rfl⟩
  rw [← hNB] at hxs hMs ⊢
  have D3 : Hid (DS W x M NB (([] : List Nat).map (entK l ps)) (talK ps []) (.slice none 0 0) [] w3) := Lib.hid (by
    have b3 : Below w2.heap.size w2 w3 := by rw [hw3]; exact below_alloc (Below.refl _ _) _
    refine ⟨X2.out.later b3, ?_, World.ownsRow_nil _ _ _ _, B2.out.trans (b3.mono B2.out.size)⟩
    rw [hw3, hNB]
    exact heap_at _ _)
  have hWN : W.heap.size ≤ NB := by rw [hNB]; exact B2.out.size
  clear hw3 hNB X2 B2 hmk
  obtain ⟨i0, hi, hz0, hz1, hz2⟩ := info_parts info_int
  go_wp2_with fail
  go_loopg [10, 11] m (fun k s10 s11 wr => ∃ (i : Nat) (ins : List Nat), i ≤ m ∧ k = m - i ∧ s11 = .int .i64 i ∧ ins.length ≤ i ∧ (∀ j ∈ ins, j < i) ∧ DS W x M NB (ins.map (entK l ps)) (talK ps ins) s10 ins wr)
  case atStart => exact ⟨0, [], Nat.zero_le _, rfl, rfl, Nat.le_refl _, (fun j hj => absurd hj (by simp)), D3.out⟩
  case round =>
    obtain ⟨i, ins, hi', hk, rfl, hil, hij, d4⟩ := hrel
    have HK := Lib.hid hk
    have IJ := Lib.hid hij
    have IL := Lib.hid hil
    have i00 : (0 : Int) ≤ (i : Int) := Int.natCast_nonneg _
    obtain ⟨va, vc, rfl⟩ := own_slice d4.row
    obtain ⟨n, hn⟩ : ∃ n, n = ins.length := ⟨_, rfl⟩
    have NN := Lib.hid hn
    rw [← hn] at hil d4 ⊢
    have D4 := Lib.hid d4
    clear hk d4 hij D3 hn
    by_cases hlt : i < m
    · have hlt' : (i : Int) < (m : Int) := by omega
      have hltp : (i : Int) < (np : Int) := by omega
      obtain ⟨a, hia⟩ : ∃ a, l[i]? = some a := ⟨l[i]'(by rw [← LM.out]; exact hlt), List.getElem?_eq_getElem _⟩
      obtain ⟨b, off, rfl, hb, hL⟩ := rowAt_elem encId_len (by decide) (ROW.out.later D4.out.below) hia
      obtain ⟨b2, off2, rfl, hb2, hc2⟩ := PS.out.at D4.out.below (j := i) (by rw [← LP.out]; omega)
      obtain ⟨z, hz⟩ : ∃ z, z = ps.getD i 0 := ⟨_, rfl⟩
      rw [← hz] at hc2
      obtain ⟨kq, hkq⟩ : ∃ kq, kq = kk ps i := ⟨_, rfl⟩
      have zb : 0 ≤ z ∧ z ≤ 255 := by
        rw [hz, List.getD_eq_getElem?_getD, List.getElem?_eq_getElem (by rw [← LP.out]; omega)]
        exact PZ.out _ (List.getElem_mem _)
      have AND : bits .and .u8 z 3 = (kq : Int) := by rw [and3 zb.1 zb.2, hkq, hz]; rfl
      have hkq4 : kq < 4 := by rw [hkq]; exact kk_lt _ _
      have kq0 : (0 : Int) ≤ (kq : Int) := Int.natCast_nonneg _
      have kq1 : (kq : Int) < 4 := by omega
      have WK : IntKind.i64.wrap (kq : Int) = (kq : Int) := by rw [IntKind.wrap_i64]; omega
      have WU : (kq : Int) % 256 = (kq : Int) := by omega
      obtain ⟨pk, hpk⟩ : ∃ pk, pk = pkn kq := ⟨_, rfl⟩
      have BI := Lib.hid (built_pkn hkq4)
      rw [← hpk] at BI
      have LL := Lib.hid hL
      have AD := Lib.hid (add_any D4.out.ix a ⟨pk, (i : Int)⟩)
      have EA : Hid (entK l ps i = (a, ⟨pk, (i : Int)⟩)) := Lib.hid (by
        unfold entK
        rw [hpk, hkq, List.getD_eq_getElem?_getD, hia]
        rfl)
      have KQ := Lib.hid hkq
      have KQ4 := Lib.hid hkq4
      clear hia hL hz zb hkq hpk hkq4
      go_wp2_with (first | (refine wpList_load_agg rfl 31 (.tmp 50) rfl b (off + i * 32) rfl (encId a).toArray _ LL.out Try.underlying31 rfl (sizei a.1) ?_) | (refine wpList_build_eq rfl 31 #[(0, .tmp 53)] rfl (encId pk).toArray ?hb1 ?_) | (refine wpList_build_eq rfl 37 #[(0, .tmp 54), (1, .tmp 55)] rfl (plcells ⟨pk, (i : Int)⟩).toArray ?hb2 ?_))
      case hb1 => exact BI.out
      case hb2 => exact built_pl pk i
      refine AD.out.mono ?_
      rintro e w5 ⟨rfl, x5, g5⟩
      obtain ⟨bb, hbb⟩ : ∃ bb, bb = addB (ins.map (entK l ps)) a ⟨pk, (i : Int)⟩ := ⟨_, rfl⟩
      rw [← hbb]
      have D5 := Lib.hid (D4.out.turn hMs hWM x5 g5)
      have BB := Lib.hid hbb
      clear x5 g5 AD hbb D4 hc2
      cases bb
      · have e1 := addL_no BB.out.symm
        rw [e1] at D5
        go_wp2
        go_roundg (m - (i + 1))
        case measure => rw [HK.out]; omega
        case rel =>
          refine ⟨i + 1, ins, by omega, rfl, by go_num, by have := IL.out; omega, fun j hj => Nat.lt_succ_of_lt (IJ.out j hj), ?_⟩
          exact D5.out
      · have e1 := addL_yes BB.out.symm
        rw [e1, ← EA.out, show ins.map (entK l ps) ++ [entK l ps i] = (ins ++ [i]).map (entK l ps) by simp] at D5
        obtain ⟨cn, hcn⟩ : ∃ cn : Int, cn = (cnK ps ins kq : Int) := ⟨_, rfl⟩
        have cb : 0 ≤ cn ∧ cn ≤ 30 := by
          have h1 := cnK_le ps ins kq
          have h2 := IL.out
          omega
        obtain ⟨cb0, cb1⟩ := cb
        obtain ⟨y0, y1⟩ := D5.out.cell (i := kq) (n := cn) (by rw [hcn]; exact tal_get KQ4.out)
        have CN := Lib.hid hcn
        clear e1 hcn
        go_upto_region 15 with fail
        refine wp_named fun w6 hw6 => ?_
        have D6 : Hid (DS W x M NB ((ins ++ [i]).map (entK l ps)) (talK ps (ins ++ [i])) (.slice va n vc) ins w6) := Lib.hid (by
          rw [hw6, tal_put, ← KQ.out, ← CN.out]
          exact D5.out.put hxs hMs hWN kq (cn + 1))
        clear hw6 y0 y1 D5
        go_wp2_with (at_builtin; refine wpList_append_own _ rfl _ _ 57 rfl (NB + 1) 3 i0 _ 1 8 Try.underlying57 hi hz0 hz1 hz2 rfl (by decide) _ _ _ rfl (own_later D6.out.row (below_alloc (Below.refl _ _) _)) ⟨w6.heap.size, 0, none⟩ 1 1 [.int .i64 (i : Int)] rfl ?p1 ?p2 ?p3 ?p4 ?p5 ?p6 ?_)
        case p1 => rfl
        case p2 => exact World.news_of_block (heap_at w6 _)
        case p3 => intro u hu; simp at hu; subst hu; rfl
        case p4 => have := IL.out; unfold maxLen; omega
        case p5 => have := IL.out; omega
        case p6 => have := (Array.getElem?_eq_some_iff.1 D6.out.tally).1; simp; omega
        intro v2 w7 hown7 hg7 hat7
        have b67 : Below (NB + 1) w6 w7 := ((below_alloc (Below.refl w6.heap.size w6) (.cells #[.int .i64 (i : Int)] 3)).mono (show NB + 1 ≤ w6.heap.size from (Array.getElem?_eq_some_iff.1 D6.out.tally).1)).grown hg7 (by have := (Array.getElem?_eq_some_iff.1 D6.out.tally).1; simp; omega) (fun k hk => (own_row D6.out.row hk).1)
        have D7 : Hid (DS W x M NB ((ins ++ [i]).map (entK l ps)) (talK ps (ins ++ [i])) v2 (ins ++ [i]) w7) := Lib.hid ⟨D6.out.ix.low b67 (by omega) (by omega), (b67.block NB (Nat.lt_succ_self NB)).trans D6.out.tally, by
          rw [List.length_append, List.map_append]
          exact hown7, D6.out.below.trans (b67.mono (by omega))⟩
        clear hown7 hg7 hat7 b67 D6
        go_wp2
        go_roundg (m - (i + 1))
        case measure => rw [HK.out]; omega
        case rel =>
          refine ⟨i + 1, ins ++ [i], by omega, rfl, by go_num, by have := IL.out; simp; omega, fun j hj => ?_, D7.out⟩
          rcases List.mem_append.1 hj with hj | hj
          · exact Nat.lt_succ_of_lt (IJ.out j hj)
          · simp only [List.mem_singleton] at hj
            omega
    · obtain rfl : i = m := by omega
      have hlt' : ¬ (i : Int) < (i : Int) := by omega
      have n30 : n ≤ 30 := by omega
      have PK := Lib.hid (packs_any D4.out.ix (by rw [List.length_map, ← NN.out]; omega))
      obtain ⟨ids, hids⟩ : ∃ ids, ids = packsOf (ins.map (entK l ps)) := ⟨_, rfl⟩
      have ID := Lib.hid hids
      rw [← hids] at PK
      have il : ids.length ≤ 30 := by rw [hids]; have := packs_len (ins.map (entK l ps)); rw [List.length_map, ← NN.out] at this; omega
      obtain ⟨q, hq⟩ : ∃ q, q = ids.length := ⟨_, rfl⟩
      have QQ := Lib.hid hq
      rw [← hq] at PK il
      clear hids hq
      go_wp2_with fail
      refine PK.out.mono ?_
      rintro e w5 ⟨v5, u5, rfl, hv5, hu5, b5⟩
      have D5 := Lib.hid (D4.out.later b5)
      obtain ⟨xa, xc, rfl⟩ := own_slice hv5
      obtain ⟨ya, yc, rfl⟩ := own_slice hu5
      have V5 := Lib.hid hv5
      have U5 := Lib.hid hu5
      clear hv5 hu5 b5 D4 PK
      go_wp2_with fail
      go_loopg [15] q (fun k s15 wr => ∃ j : Nat, j ≤ q ∧ k = q - j ∧ s15 = .int .i64 j ∧ Below w5.heap.size w5 wr)
      case atStart => exact ⟨0, Nat.zero_le _, rfl, rfl, Below.refl _ _⟩
      case round =>
        obtain ⟨j, hj, hk, rfl, b6⟩ := hrel
        have HK2 := Lib.hid hk
        have B6 := Lib.hid b6
        have D6 := Lib.hid (D5.out.later b6)
        have V6 := Lib.hid (own_later V5.out b6)
        have U6 := Lib.hid (own_later U5.out b6)
        have j0 : (0 : Int) ≤ (j : Int) := Int.natCast_nonneg _
        clear hk b6
        by_cases hjq : j < q
        · have hjq' : (j : Int) < (q : Int) := by omega
          obtain ⟨p, hp⟩ : ∃ p, ids[j]? = some p := ⟨ids[j]'(by rw [← QQ.out]; exact hjq), List.getElem?_eq_getElem _⟩
          obtain ⟨k4, hk4, hpk, hpos⟩ := pack_four (l := l) (ps := ps) (ins := ins) (p := p) (by rw [← ID.out]; exact List.mem_of_getElem? hp)
          have v6 := V6.out
          rw [QQ.out] at v6
          obtain ⟨g, cap, e, hg, hL⟩ := ids_elem v6 hp
          obtain rfl : xa = some ⟨g, 0, none⟩ := by cases e; rfl
          clear e
          obtain ⟨cn, hcn⟩ : ∃ cn : Int, cn = (cnK ps ins k4 : Int) := ⟨_, rfl⟩
          obtain ⟨g2, rfl, hg2, hc2⟩ := own_at U6.out (k := j) (u := .int .i64 cn) (by
            rw [List.getElem?_map, hp]
            show some (cntv (cntOf p _)) = _
            rw [hpk, cnt_ent l ps hk4, hcn]
            rfl)
          have hc1 : wr.cell? ⟨g, j * 32, none⟩ = some (.int .u8 (k4 : Int)) := by
            have h := hL 0 (cell (UInt8.ofNat k4)) (by
              rw [hpk]
              rfl)
            rw [Nat.add_zero, cell_ofNat (by omega)] at h
            exact h
          obtain ⟨y0, y1⟩ := D6.out.cell (i := k4) (n := cn) (by rw [hcn]; exact tal_get hk4)
          have cpos : 0 < cn := by omega
          have cne : (cn == 0) = false := by simp; omega
          have k40 : (0 : Int) ≤ (k4 : Int) := Int.natCast_nonneg _
          have k41 : (k4 : Int) < 4 := by omega
          have AND : bits .and .u8 (k4 : Int) 3 = (k4 : Int) := by
            rw [and3 (by omega) (by omega)]
            omega
          have WK : IntKind.i64.wrap (k4 : Int) = (k4 : Int) := by rw [IntKind.wrap_i64]; omega
          clear v6 hp hpk hL hcn cpos hk4 hpos
          go_upto_region 22 with fail
          refine wp_region_quiet_lit (by kernel_rfl) (by kernel_rfl) ?_
          repeat go_big_quiet_step (fail)
          refine wpQuiet_nil ?_
          intro _ hw9
          obtain ⟨nq, hw9⟩ := hw9
          subst hw9
          go_wp2
          go_roundg (q - (j + 1))
          case measure => rw [HK2.out]; omega
          case rel => exact ⟨j + 1, by omega, rfl, by go_num, below_drewN B6.out _⟩
        · obtain rfl : j = q := by omega
          have hjq' : ¬ (j : Int) < (j : Int) := by omega
          obtain ⟨dq, hdq⟩ : ∃ dq, dq = dr.toNat % 4 := ⟨_, rfl⟩
          have hdq4 : dq < 4 := by rw [hdq]; exact Nat.mod_lt _ (by decide)
          have AND : bits .and .u8 dr 3 = (dq : Int) := by rw [and3 d0 d1, hdq]
          have dq0 : (0 : Int) ≤ (dq : Int) := Int.natCast_nonneg _
          have dq1 : (dq : Int) < 4 := by omega
          have WK : IntKind.i64.wrap (dq : Int) = (dq : Int) := by rw [IntKind.wrap_i64]; omega
          have WU : (dq : Int) % 256 = (dq : Int) := by omega
          have WU2 : IntKind.u8.wrap (dq : Int) = (dq : Int) := by simp [IntKind.wrap, IntKind.bits, IntKind.signed]; omega
          obtain ⟨pd, hpd⟩ : ∃ pd, pd = pkn dq := ⟨_, rfl⟩
          have BI := Lib.hid (built_pkn hdq4)
          rw [← hpd] at BI
          obtain ⟨cd, hcd⟩ : ∃ cd, cd = cnK ps ins dq := ⟨_, rfl⟩
          have cdn : cd ≤ n := by rw [hcd, NN.out]; exact cnK_le _ _ _
          have cd0 : (0 : Int) ≤ (cd : Int) := Int.natCast_nonneg _
          have cd1 : (cd : Int) ≤ 30 := by omega
          have cd2 : (cd : Int) ≤ (n : Int) := by omega
          have WS : IntKind.i64.wrap ((n : Int) - (cd : Int)) = (n : Int) - (cd : Int) := by rw [IntKind.wrap_i64]; omega
          have YD : Hid (wr.cell? ⟨NB, dq, none⟩ = some (.int .i64 (cd : Int))) := Lib.hid (by
            rw [hcd]
            exact (D6.out.cell (tal_get hdq4)).1)
          have DR := Lib.hid (drop_any (w := wr.drew) ⟨D6.out.ix.box, D6.out.ix.map.drew⟩ (by rw [List.length_map, ← NN.out]; omega) pd)
          have e1 : cntOf pd (ins.map (entK l ps)) = cd := by rw [hpd, cnt_ent l ps hdq4, hcd]
          have e2 : (ins.map (entK l ps)).filter (fun e => !decide (e.2.pack = pd)) = restK (ins.map (entK l ps)) dq := by rw [hpd]; rfl
          rw [e1, e2] at DR
          have RC : Hid (cntOf pd (restK (ins.map (entK l ps)) dq) = 0) := Lib.hid (by rw [hpd]; exact rest_cnt _ _)
          have RR : Hid ((restK (ins.map (entK l ps)) dq).filter (fun e => !decide (e.2.pack = pd)) = restK (ins.map (entK l ps)) dq) := Lib.hid (by rw [hpd]; exact rest_rest _ _)
          have RL : Hid ((restK (ins.map (entK l ps)) dq).length + cd = n) := Lib.hid (by rw [hcd, NN.out]; exact rest_len l ps ins hdq4)
          have AP := Lib.hid D6.out.ix.map.apart
          have DQ := Lib.hid hdq4
          clear hdq hpd hcd e1 e2 V6 U6 V5 U5 D5 hdq4
          go_upto_region 25 with fail
          refine wp_region_held_drew (S := fun w' => w'.cell? ⟨NB, dq, none⟩ = some (.int .i64 (cd : Int))) (by kernel_rfl) (show wr.drew.cell? _ = _ from YD.out) (fun hHeld => ?_)
          refine wpAnyH_take (i := 0) (v := ?_) rfl (by kernel_rfl) (by kernel_rfl) (by kernel_rfl) (fun _ _ _ h => h) (Or.inl ⟨by kernel_rfl, ?_⟩) (by assumption) ?_
          rotate_left
          · (intro w hSw; (go_simp; try with_reducible rfl))
          try simp only [Act.put, List.getElem_toArray, List.getElem_cons_succ, List.getElem_cons_zero, List.setIfInBounds_toArray, List.set_cons_zero, List.set_cons_succ]
          refine wpAnyH_take (i := 1) (v := ?_) rfl (by kernel_rfl) (by kernel_rfl) (by kernel_rfl) (fun _ _ _ h => h) (Or.inl ⟨by kernel_rfl, ?_⟩) (by assumption) ?_
          rotate_left
          · (intro w hSw; (go_simp; try with_reducible rfl))
          try simp only [Act.put, List.getElem_toArray, List.getElem_cons_succ, List.getElem_cons_zero, List.setIfInBounds_toArray, List.set_cons_zero, List.set_cons_succ]
          refine wpAnyH_take (i := 2) (v := ?_) rfl (by kernel_rfl) (by kernel_rfl) (by kernel_rfl) (fun _ _ _ h => h) (Or.inl ⟨by kernel_rfl, ?_⟩) (by assumption) ?_
          rotate_left
          · (intro w hSw; (go_simp; try with_reducible rfl))
          try simp only [Act.put, List.getElem_toArray, List.getElem_cons_succ, List.getElem_cons_zero, List.setIfInBounds_toArray, List.set_cons_zero, List.set_cons_succ]
          refine' wpAnyH_take (i := 3) (v := _) rfl (by kernel_rfl) (by kernel_rfl) (by kernel_rfl) (fun _ _ _ h => h) (yieldsIf_build2 (by kernel_rfl) 31 _ rfl [(0, .int .u8 (dq : Int))] (by kernel_rfl) (encId pd).toArray BI.out) (by assumption) ?_
          try simp only [Act.put, List.getElem_toArray, List.getElem_cons_succ, List.getElem_cons_zero, List.setIfInBounds_toArray, List.set_cons_zero, List.set_cons_succ]
          refine wpAnyH_take (i := 5) (v := ?_) rfl (by kernel_rfl) (by kernel_rfl) (by kernel_rfl) (fun _ _ _ h => h) (Or.inl ⟨by kernel_rfl, ?_⟩) (by assumption) ?_
          rotate_left
          · (intro w hSw; (have q9 := hSw; go_simp; try with_reducible rfl))
          try simp only [Act.put, List.getElem_toArray, List.getElem_cons_succ, List.getElem_cons_zero, List.setIfInBounds_toArray, List.set_cons_zero, List.set_cons_succ]
          refine wpAnyH_take (i := 6) (v := ?_) rfl (by kernel_rfl) (by kernel_rfl) (by kernel_rfl) (fun _ _ _ h => h) (Or.inl ⟨by kernel_rfl, ?_⟩) (by assumption) ?_
          rotate_left
          · (intro w hSw; (have q9 := hSw; go_simp; try with_reducible rfl))
          try simp only [Act.put, List.getElem_toArray, List.getElem_cons_succ, List.getElem_cons_zero, List.setIfInBounds_toArray, List.set_cons_zero, List.set_cons_succ]
          refine wpAnyH_take (i := 7) (v := ?_) rfl (by kernel_rfl) (by kernel_rfl) (by kernel_rfl) (fun _ _ _ h => h) (Or.inl ⟨by kernel_rfl, ?_⟩) (by assumption) ?_
          rotate_left
          · (intro w hSw; (have q9 := hSw; go_simp; try with_reducible rfl))
          try simp only [Act.put, List.getElem_toArray, List.getElem_cons_succ, List.getElem_cons_zero, List.setIfInBounds_toArray, List.set_cons_zero, List.set_cons_succ]
          refine wpAnyH_take (i := 8) (v := ?_) rfl (by kernel_rfl) (by kernel_rfl) (by kernel_rfl) (fun _ _ _ h => h) (Or.inl ⟨by kernel_rfl, ?_⟩) (by assumption) ?_
          rotate_left
          · (intro w hSw; (have q9 := hSw; go_simp; try with_reducible rfl))
          try simp only [Act.put, List.getElem_toArray, List.getElem_cons_succ, List.getElem_cons_zero, List.setIfInBounds_toArray, List.set_cons_zero, List.set_cons_succ]
          refine wpAnyH_ready (rs := [4]) (by kernel_rfl) (by simp) (AllReadyH.cons rfl (fun K1 hK1 => ?_) AllReadyH.nil)
          go_simp
          go_at_call 10
          refine DR.out.mono ?_
          rintro e w7 ⟨rfl, x7, g7⟩
          have D7 := Lib.hid ((D6.out.drew).turn hMs hWM x7 g7)
          have Y7 : w7.cell? ⟨NB, dq, none⟩ = some (.int .i64 (cd : Int)) := cell_grown (w := wr.drew) YD.out g7 (fun e => by have := Option.some.inj e; simp at this; omega)
          refine hK1.out _ _ Y7 (fun hH => ?_)
          have Y7' := Lib.hid Y7
          clear hHeld hK1 x7 g7 Y7 DR D6 YD
          try simp only [Act.put, List.getElem_toArray, List.getElem_cons_succ, List.getElem_cons_zero, List.setIfInBounds_toArray, List.set_cons_zero, List.set_cons_succ]
          refine wpAnyH_take (i := 9) (v := ?_) rfl (by kernel_rfl) (by kernel_rfl) (by kernel_rfl) (fun _ _ _ h => h) (Or.inl ⟨by kernel_rfl, ?_⟩) (by assumption) ?_
          rotate_left
          · (intro w hSw; (go_simp; try with_reducible rfl))
          try simp only [Act.put, List.getElem_toArray, List.getElem_cons_succ, List.getElem_cons_zero, List.setIfInBounds_toArray, List.set_cons_zero, List.set_cons_succ]
          refine wpAnyH_take (i := 10) (v := ?_) rfl (by kernel_rfl) (by kernel_rfl) (by kernel_rfl) (fun _ _ _ h => h) (Or.inl ⟨by kernel_rfl, ?_⟩) (by assumption) ?_
          rotate_left
          · (intro w hSw; (go_simp; try with_reducible rfl))
          try simp only [Act.put, List.getElem_toArray, List.getElem_cons_succ, List.getElem_cons_zero, List.setIfInBounds_toArray, List.set_cons_zero, List.set_cons_succ]
          refine wpAnyH_take (i := 11) (v := ?_) rfl (by kernel_rfl) (by kernel_rfl) (by kernel_rfl) (fun _ _ _ h => h) (Or.inl ⟨by kernel_rfl, ?_⟩) (by assumption) ?_
          rotate_left
          · (intro w hSw; (go_simp; try with_reducible rfl))
          try simp only [Act.put, List.getElem_toArray, List.getElem_cons_succ, List.getElem_cons_zero, List.setIfInBounds_toArray, List.set_cons_zero, List.set_cons_succ]
          refine wpAnyH_take (i := 12) (v := ?_) rfl (by kernel_rfl) (by kernel_rfl) (by kernel_rfl) (fun _ _ _ h => h) (Or.inl ⟨by kernel_rfl, ?_⟩) (by assumption) ?_
          rotate_left
          · (intro w hSw; (go_simp; try with_reducible rfl))
          try simp only [Act.put, List.getElem_toArray, List.getElem_cons_succ, List.getElem_cons_zero, List.setIfInBounds_toArray, List.set_cons_zero, List.set_cons_succ]
          refine wpAnyH_take (i := 13) (v := ?_) rfl (by kernel_rfl) (by kernel_rfl) (by kernel_rfl) (fun _ _ _ h => h) (Or.inl ⟨by kernel_rfl, ?_⟩) (by assumption) ?_
          rotate_left
          · (intro w hSw; (go_simp; try with_reducible rfl))
          try simp only [Act.put, List.getElem_toArray, List.getElem_cons_succ, List.getElem_cons_zero, List.setIfInBounds_toArray, List.set_cons_zero, List.set_cons_succ]
          refine' wpAnyH_take (i := 14) (v := _) rfl (by kernel_rfl) (by kernel_rfl) (by kernel_rfl) (fun _ _ _ h => h) (yieldsIf_build2 (by kernel_rfl) 31 _ rfl [(0, .int .u8 (dq : Int))] (by kernel_rfl) (encId pd).toArray BI.out) (by assumption) ?_
          try simp only [Act.put, List.getElem_toArray, List.getElem_cons_succ, List.getElem_cons_zero, List.setIfInBounds_toArray, List.set_cons_zero, List.set_cons_succ]
          have DR2 := drop_any D7.out.ix (by have := RL.out; omega) pd
          rw [RC.out, RR.out] at DR2
          have DR2' := Lib.hid DR2
          clear DR2
          refine wpAnyH_ready (rs := [15]) (by kernel_rfl) (by simp) (AllReadyH.cons rfl (fun K1 hK1 => ?_) AllReadyH.nil)
          go_simp
          go_at_call 10
          refine DR2'.out.mono ?_
          rintro e w8 ⟨rfl, x8, g8⟩
          have D8 := Lib.hid (D7.out.turn hMs hWM x8 g8)
          have Y8 := cell_grown Y7'.out g8 (fun e => by have := Option.some.inj e; simp at this; omega)
          refine hK1.out _ _ Y8 (fun hH8 => ?_)
          have Y8' := Lib.hid Y8
          clear hH hK1 x8 g8 Y8 DR2' D7 Y7'
          try simp only [Act.put, List.getElem_toArray, List.getElem_cons_succ, List.getElem_cons_zero, List.setIfInBounds_toArray, List.set_cons_zero, List.set_cons_succ]
          refine wpAnyH_take (i := 16) (v := ?_) rfl (by kernel_rfl) (by kernel_rfl) (by kernel_rfl) (fun _ _ _ h => h) (Or.inl ⟨by kernel_rfl, ?_⟩) (by assumption) ?_
          rotate_left
          · (intro w hSw; (have q9 := hSw; go_simp; try with_reducible rfl))
          try simp only [Act.put, List.getElem_toArray, List.getElem_cons_succ, List.getElem_cons_zero, List.setIfInBounds_toArray, List.set_cons_zero, List.set_cons_succ]
          refine wpAnyH_take (i := 17) (v := ?_) rfl (by kernel_rfl) (by kernel_rfl) (by kernel_rfl) (fun _ _ _ h => h) (Or.inl ⟨by kernel_rfl, ?_⟩) (by assumption) ?_
          rotate_left
          · (intro w hSw; (have q9 := hSw; go_simp; try with_reducible rfl))
          try simp only [Act.put, List.getElem_toArray, List.getElem_cons_succ, List.getElem_cons_zero, List.setIfInBounds_toArray, List.set_cons_zero, List.set_cons_succ]
          refine wpAnyH_take (i := 18) (v := ?_) rfl (by kernel_rfl) (by kernel_rfl) (by kernel_rfl) (fun _ _ _ h => h) (Or.inl ⟨by kernel_rfl, ?_⟩) (by assumption) ?_
          rotate_left
          · (intro w hSw; (have q9 := hSw; go_simp; try with_reducible rfl))
          try simp only [Act.put, List.getElem_toArray, List.getElem_cons_succ, List.getElem_cons_zero, List.setIfInBounds_toArray, List.set_cons_zero, List.set_cons_succ]
          refine wpAnyH_take (i := 19) (v := ?_) rfl (by kernel_rfl) (by kernel_rfl) (by kernel_rfl) (fun _ _ _ h => h) (Or.inl ⟨by kernel_rfl, ?_⟩) (by assumption) ?_
          rotate_left
          · (intro w hSw; (have q9 := hSw; go_simp; try with_reducible rfl))
          try simp only [Act.put, List.getElem_toArray, List.getElem_cons_succ, List.getElem_cons_zero, List.setIfInBounds_toArray, List.set_cons_zero, List.set_cons_succ]
          refine wpAnyH_take (i := 22) (v := ?_) rfl (by kernel_rfl) (by kernel_rfl) (by kernel_rfl) (fun _ _ _ h => h) (Or.inl ⟨by kernel_rfl, ?_⟩) (by assumption) ?_
          rotate_left
          · (intro w hSw; (have q9 := hSw; go_simp; try with_reducible rfl))
          try simp only [Act.put, List.getElem_toArray, List.getElem_cons_succ, List.getElem_cons_zero, List.setIfInBounds_toArray, List.set_cons_zero, List.set_cons_succ]
          refine wpAnyH_take (i := 23) (v := ?_) rfl (by kernel_rfl) (by kernel_rfl) (by kernel_rfl) (fun _ _ _ h => h) (Or.inl ⟨by kernel_rfl, ?_⟩) (by assumption) ?_
          rotate_left
          · (intro w hSw; (have q9 := hSw; go_simp; try with_reducible rfl))
          try simp only [Act.put, List.getElem_toArray, List.getElem_cons_succ, List.getElem_cons_zero, List.setIfInBounds_toArray, List.set_cons_zero, List.set_cons_succ]
          refine wpAnyH_take (i := 24) (v := ?_) rfl (by kernel_rfl) (by kernel_rfl) (by kernel_rfl) (fun _ _ _ h => h) (Or.inl ⟨by kernel_rfl, ?_⟩) (by assumption) ?_
          rotate_left
          · (intro w hSw; (have q9 := hSw; go_simp; try with_reducible rfl))
          try simp only [Act.put, List.getElem_toArray, List.getElem_cons_succ, List.getElem_cons_zero, List.setIfInBounds_toArray, List.set_cons_zero, List.set_cons_succ]
          refine wpAnyH_take (i := 25) (v := ?_) rfl (by kernel_rfl) (by kernel_rfl) (by kernel_rfl) (fun _ _ _ h => h) (Or.inl ⟨by kernel_rfl, ?_⟩) (by assumption) ?_
          rotate_left
          · (intro w hSw; (have q9 := hSw; go_simp; try with_reducible rfl))
          try simp only [Act.put, List.getElem_toArray, List.getElem_cons_succ, List.getElem_cons_zero, List.setIfInBounds_toArray, List.set_cons_zero, List.set_cons_succ]
          refine wpAnyH_take (i := 26) (v := ?_) rfl (by kernel_rfl) (by kernel_rfl) (by kernel_rfl) (fun _ _ _ h => h) (Or.inl ⟨by kernel_rfl, ?_⟩) (by assumption) ?_
          rotate_left
          · (intro w hSw; (have q9 := hSw; go_simp; try with_reducible rfl))
          try simp only [Act.put, List.getElem_toArray, List.getElem_cons_succ, List.getElem_cons_zero, List.setIfInBounds_toArray, List.set_cons_zero, List.set_cons_succ]
          refine wpAnyH_take (i := 27) (v := ?_) rfl (by kernel_rfl) (by kernel_rfl) (by kernel_rfl) (fun _ _ _ h => h) (Or.inl ⟨by kernel_rfl, ?_⟩) (by assumption) ?_
          rotate_left
          · (intro w hSw; (have q9 := hSw; go_simp; try with_reducible rfl))
          try simp only [Act.put, List.getElem_toArray, List.getElem_cons_succ, List.getElem_cons_zero, List.setIfInBounds_toArray, List.set_cons_zero, List.set_cons_succ]
          refine wpAnyH_take (i := 28) (v := ?_) rfl (by kernel_rfl) (by kernel_rfl) (by kernel_rfl) (fun _ _ _ h => h) (Or.inl ⟨by kernel_rfl, ?_⟩) (by assumption) ?_
          rotate_left
          · (intro w hSw; (have q9 := hSw; go_simp; try with_reducible rfl))
          try simp only [Act.put, List.getElem_toArray, List.getElem_cons_succ, List.getElem_cons_zero, List.setIfInBounds_toArray, List.set_cons_zero, List.set_cons_succ]
          have IA := Lib.hid (ids_any D8.out.ix (by have := RL.out; omega))
          refine wpAnyH_ready (rs := [20]) (by kernel_rfl) (by simp) (AllReadyH.cons rfl (fun K1 hK1 => ?_) AllReadyH.nil)
          go_simp
          go_at_call 22
          refine IA.out.mono ?_
          rintro e w9 ⟨v9, rfl, h9, b9⟩
          rw [sortIds_len, List.length_map] at h9
          obtain ⟨na, nc, rfl⟩ := own_slice h9
          have D9 := Lib.hid (D8.out.later b9)
          have RN : (((restK (ins.map (entK l ps)) dq).length : Nat) : Int) = (n : Int) - (cd : Int) := by have := RL.out; omega
          obtain ⟨rn, hrn⟩ : ∃ rn, rn = (restK (ins.map (entK l ps)) dq).length := ⟨_, rfl⟩
          rw [← hrn] at RN ⊢
          refine hK1.out _ _ (cell_below Y8'.out b9) (fun hH9 => ?_)
          clear hH8 hK1 h9 b9 IA D8 Y8' hrn
          try simp only [Act.put, List.getElem_toArray, List.getElem_cons_succ, List.getElem_cons_zero, List.setIfInBounds_toArray, List.set_cons_zero, List.set_cons_succ]
          refine wpAnyH_take (i := 21) (v := ?_) rfl (by kernel_rfl) (by kernel_rfl) (by kernel_rfl) (fun _ _ _ h => h) (Or.inl ⟨by kernel_rfl, ?_⟩) (by assumption) ?_
          rotate_left
          · (intro w hSw; (go_simp; try with_reducible rfl))
          try simp only [Act.put, List.getElem_toArray, List.getElem_cons_succ, List.getElem_cons_zero, List.setIfInBounds_toArray, List.set_cons_zero, List.set_cons_succ]
          refine wpAnyH_take (i := 29) (v := ?_) rfl (by kernel_rfl) (by kernel_rfl) (by kernel_rfl) (fun _ _ _ h => h) (Or.inl ⟨by kernel_rfl, ?_⟩) (by assumption) ?_
          rotate_left
          · (intro w hSw; (go_simp; try with_reducible rfl))
          try simp only [Act.put, List.getElem_toArray, List.getElem_cons_succ, List.getElem_cons_zero, List.setIfInBounds_toArray, List.set_cons_zero, List.set_cons_succ]
          refine wpAnyH_take (i := 30) (v := ?_) rfl (by kernel_rfl) (by kernel_rfl) (by kernel_rfl) (fun _ _ _ h => h) (Or.inl ⟨by kernel_rfl, ?_⟩) (by assumption) ?_
          rotate_left
          · (intro w hSw; (go_simp; try with_reducible rfl))
          try simp only [Act.put, List.getElem_toArray, List.getElem_cons_succ, List.getElem_cons_zero, List.setIfInBounds_toArray, List.set_cons_zero, List.set_cons_succ]
          refine wpAnyH_done (by kernel_rfl) ?_ _
          clear hH9
          go_wp2_with fail
          obtain ⟨L9, hL9⟩ : ∃ L9, L9 = restK (ins.map (entK l ps)) dq := ⟨_, rfl⟩
          rw [← hL9] at D9
          have LL9 := Lib.hid hL9
          obtain ⟨wo, hwo⟩ : ∃ wo : World, wo = wr := ⟨_, rfl⟩
          subst hwo
          clear hL9 RN RL RC RR B6 WS
          go_loopg [17] n (fun k s17 wr => ∃ f : Nat, f ≤ n ∧ k = n - f ∧ s17 = .int .i64 f ∧ DS W x M NB L9 (talK ps ins) (.slice va n vc) ins wr)
          case atStart => exact ⟨0, Nat.zero_le _, rfl, rfl, D9.out⟩
          case round =>
            obtain ⟨f, hf, hk, rfl, d10⟩ := hrel
            have HK3 := Lib.hid hk
            have D10 := Lib.hid d10
            have f0 : (0 : Int) ≤ (f : Int) := Int.natCast_nonneg _
            clear hk d10 D9
            by_cases hfn : f < n
            · have hfn' : (f : Int) < (n : Int) := by omega
              obtain ⟨s, hs⟩ : ∃ s, ins[f]? = some s := ⟨ins[f]'(by rw [← NN.out]; exact hfn), List.getElem?_eq_getElem _⟩
              have hsm := IJ.out s (List.mem_of_getElem? hs)
              obtain ⟨g, gc, e, hg, hcs⟩ := D10.out.inAt hs
              rw [← NN.out] at e
              obtain ⟨rfl, rfl⟩ : va = some ⟨g, 0, none⟩ ∧ vc = gc := by cases e; exact ⟨rfl, rfl⟩
              clear e
              have s0 : (0 : Int) ≤ (s : Int) := Int.natCast_nonneg _
              have s1 : (s : Int) < (i : Int) := by omega
              have s2 : (s : Int) < (np : Int) := by omega
              obtain ⟨a, hia⟩ : ∃ a, l[s]? = some a := ⟨l[s]'(by rw [← LM.out]; exact hsm), List.getElem?_eq_getElem _⟩
              obtain ⟨b, off, rfl, hb, hL⟩ := rowAt_elem encId_len (by decide) (ROW.out.later D10.out.below) hia
              have LL := Lib.hid hL
              have FI := find_any D10.out.ix a
              obtain ⟨kq, hkq⟩ : ∃ kq, kq = kk ps s := ⟨_, rfl⟩
              have GT : aget L9 a = if kq = dq then none else some ⟨pkn kq, (s : Int)⟩ := by
                have h := rest_get (d := dq) (j := s) AP.out DQ.out (List.mem_of_getElem? hs)
                rw [← LL9.out, ← hkq, List.getD_eq_getElem?_getD, hia] at h
                exact h
              rw [GT] at FI
              obtain ⟨pl, hpl⟩ : ∃ pl, pl = ((if kq = dq then none else some ⟨pkn kq, (s : Int)⟩ : Option Pl)).getD zpl := ⟨_, rfl⟩
              obtain ⟨iss, hiss⟩ : ∃ iss, iss = ((if kq = dq then none else some ⟨pkn kq, (s : Int)⟩ : Option Pl)).isSome := ⟨_, rfl⟩
              rw [← hpl, ← hiss] at FI
              have FI1 := Lib.hid FI
              have HPL := Lib.hid hpl
              have HIS := Lib.hid hiss
              have HS := Lib.hid hs
              have HKQ := Lib.hid hkq
              clear hia hL FI GT hpl hiss hs hkq
              go_wp2_with (refine wpList_load_agg rfl 31 (.tmp 153) rfl b (off + s * 32) rfl (encId a).toArray _ LL.out Try.underlying31 rfl (sizei a.1) ?_)
              refine FI1.out.mono ?_
              rintro e w11 ⟨rfl, b11⟩
              have D11 := Lib.hid (D10.out.later b11)
              clear b11 FI1 D10 hcs
              go_upto_region 31 with (refine wpList_store_new rfl 37 (.tmp 18) (.tmp 156) rfl _ (plcells pl).toArray rfl rfl (sizepl pl) (by simp [plcells_len]) (all_oneCell_toArray (plcells_one pl)) ?_)
              refine wp_named fun w12 hw12 => ?_
              obtain ⟨T, hT⟩ : ∃ T, T = w11.heap.size := ⟨_, rfl⟩
              rw [← hT]
              have e12 : w12.heap[T]? = some (.cells (plcells pl).toArray 37 (0, 0)) := by rw [hw12, hT]; exact heap_at _ _
              have b12 : Below w11.heap.size w11 w12 := by rw [hw12]; exact below_alloc (Below.refl _ _) _
              have D12 := Lib.hid (D11.out.later b12)
              have cn := pl_n e12
              obtain ⟨g', gc', e, _, hcs⟩ := D12.out.inAt HS.out
              rw [← NN.out] at e
              cases e
              obtain ⟨b2, off2, rfl, hb2, hc2⟩ := PS.out.at D12.out.below (j := s) (by rw [← LP.out]; omega)
              obtain ⟨z, hz⟩ : ∃ z, z = ps.getD s 0 := ⟨_, rfl⟩
              rw [← hz] at hc2
              have zb : 0 ≤ z ∧ z ≤ 255 := by
                rw [hz, List.getD_eq_getElem?_getD, List.getElem?_eq_getElem (by rw [← LP.out]; omega)]
                exact PZ.out _ (List.getElem_mem _)
              have AND2 : bits .and .u8 z 3 = (kq : Int) := by rw [and3 zb.1 zb.2, HKQ.out, hz]; rfl
              have kq4 : kq < 4 := by rw [HKQ.out]; exact kk_lt _ _
              have kq0 : (0 : Int) ≤ (kq : Int) := Int.natCast_nonneg _
              have kq1 : (kq : Int) < 4 := by omega
              have WK2 : IntKind.i64.wrap (kq : Int) = (kq : Int) := by rw [IntKind.wrap_i64]; omega
              obtain ⟨ki, hki⟩ : ∃ ki : Int, ki = (kq : Int) := ⟨_, rfl⟩
              obtain ⟨di, hdi⟩ : ∃ di : Int, di = (dq : Int) := ⟨_, rfl⟩
              rw [← hki] at AND2 WK2
              clear hw12 hT e12 b12 hz zb D11 kq4 kq0 kq1
              by_cases hkd : kq = dq
              · have hkd2 : ki = (dq : Int) := by rw [hki, hkd]
                have his : iss = false := by rw [HIS.out, if_pos hkd]; rfl
                subst his
                rw [hkd2] at AND2 WK2
                clear hki hdi hkd hkd2 cn
                refine wp_region_quiet_lit (by kernel_rfl) (by kernel_rfl) ?_
                repeat go_big_quiet_step (fail)
                refine wpQuiet_nil ?_
                intro _ hw9
                obtain ⟨nq, hw9⟩ := hw9
                subst hw9
                go_wp2
                go_roundg (n - (f + 1))
                case measure => rw [HK3.out]; omega
                case rel => exact ⟨f + 1, by omega, rfl, by go_num, D12.out.later (below_drewN (Below.refl _ _) _)⟩
              · have hne : (ki == (dq : Int)) = false := by simp; omega
                have hne2 : (ki != (dq : Int)) = true := by simp; omega
                have his : iss = true := by rw [HIS.out, if_neg hkd]; rfl
                have hpn : pl.n = (s : Int) := by rw [HPL.out, if_neg hkd]; rfl
                subst his
                rw [hpn] at cn
                clear hki hdi hkd hpn
                refine wp_region_quiet_lit (by kernel_rfl) (by kernel_rfl) ?_
                repeat go_big_quiet_step (fail)
                refine wpQuiet_nil ?_
                intro _ hw9
                obtain ⟨nq, hw9⟩ := hw9
                subst hw9
                go_wp2
                go_roundg (n - (f + 1))
                case measure => rw [HK3.out]; omega
                case rel => exact ⟨f + 1, by omega, rfl, by go_num, D12.out.later (below_drewN (Below.refl _ _) _)⟩
            · have hfn' : ¬ (f : Int) < (n : Int) := by omega
              go_wp2
              go_ret
              exact ⟨rfl, D10.out.below⟩
theorem u8_of {n : Int} (h : (Lit.int .u8 n).wf = true) : 0 ≤ n ∧ n ≤ 255 := by simpa [Lit.wf, IntKind.min, IntKind.max, IntKind.signed, IntKind.bits] using h
open Go.ChangeAt in
theorem DedupDrops_walk (ad : Option Addr) (l : List Id32) (c : Nat) (adp : Option Addr) (ps : List Int) (cp : Nat) (dr : Int) (W : World) (hrow : RowAt W ad (l.flatMap encId)) (_hraw : ∀ p ∈ l, True) (hl : l.length ≤ c) (hc : c ≤ maxLen) (_hb : c * Try.prog.bytesOf 31 ≤ 140737488351232) (_hn : ad = none → c = 0)
    (hx : IntsAt W .u8 adp ps) (hz : ∀ n ∈ ps, (Lit.int .u8 n).wf = true) (hlp : ps.length ≤ maxLen) (hd : (Lit.int .u8 dr).wf = true) :
    Calls Try.prog 6 #[.slice ad l.length c, .slice adp ps.length cp, .int .u8 dr] W fun e w' => e = .returned (.bool true) ∧ Below W.heap.size W w' :=
  drops_law hrow (by unfold maxLen at hc; omega) hx (fun n hn => u8_of (hz n hn)) (by unfold maxLen at hlp; omega) dr (u8_of hd)
open Go.ChangeAt
set_option maxRecDepth 100000 in
theorem DedupDrops_lifted (os : Os) (started : os.Started) (H : Type) (enc : TypeId × Value → H) :
    ReturnsInHanded {} Try.checked os 6 .any (Rows.dedupDropsSpec.pre6 enc Try.prog Try.f6 Rows.dedupDropsRow.domain false) (Rows.dedupDropsSpec.post enc Try.prog Try.f6 false true false false) := by
  refine returnsInHanded_of_change_sized (C := Try.checked) own started (by kernel_rfl) Try.func6
    (ChangeSpec.witness6 (enc := enc) (C := Try.checked) false ⟨#[], #[.slice none 0 0, .slice none 0 0, .int .u8 0], []⟩ 8 (by kernel_rfl) (by kernel_rfl) (by kernel_rfl) (by kernel_rfl)) ?_
  intro W base args ds gs before hval0 hW hcnd hsz0 _
  have hval : ∀ (j : Nat) t v, Try.f6.params[j]? = some t → args[j]? = some v → Value.okWide Try.prog W .any base t v := hval0
  have hW' := hW
  obtain ⟨p, q, hA0, hV, rfl, hfz, hnd⟩ := hW
  have hA : DataW.TrodAll enc Try.prog W 0 (fun _ => true) true Try.f6.params.toList args.toList ds p := hA0
  have hsz : (DataW.weightsEach Try.prog (Try.f6.params.toList ++ Rows.dedupDropsSpec.plain.varTypes Try.prog) (ds ++ gs)).all (· ≤ reachBytes) = true := hsz0
  rw [Try.params6] at hA hval hsz
  obtain ⟨v0, vs0, d0, ds0, p0, q0, hargs, rfl, rfl, h0, r0⟩ := trodAll_cons hA
  obtain ⟨v1, vs1, d1, ds1, p1, q1, rfl, rfl, rfl, h1, r1⟩ := trodAll_cons r0
  obtain ⟨v2, vs2, d2, ds2, p2, q2, rfl, rfl, rfl, h2, r2⟩ := trodAll_cons r1
  obtain ⟨rfl, rfl, rfl⟩ := trodAll_nil r2
  obtain rfl : args = #[v0, v1, v2] := by cases args; simp_all
  obtain ⟨a0, z0, c0, rfl, x0, y0, l0, m0, b0, n0⟩ := rows_of encId_len cells_id (by decide) Try.underlying55 (fun _ h => rz_id h) (hval 0 55 v0 rfl rfl) (RZ.of h0 hsz (j := 0) rfl rfl)
  obtain ⟨a1, z1, c1, rfl, x1, y1, l1⟩ := ints_of Try.underlying49 Try.underlying5 (by kernel_rfl) (hval 1 49 v1 rfl rfl) h1
  obtain ⟨a2, rfl, rfl, rfl, w2⟩ := open_int Try.underlying5 (hval 2 5 v2 rfl rfl) h2
  refine (DedupDrops_walk a0 z0 c0 a1 z1 c1 a2 W x0 y0 l0 m0 b0 n0 x1 y1 l1 w2).mono fun e W' ⟨he, hb⟩ => ?_
  subst he
  exact ⟨_, rfl, law_post laidOut (by kernel_rfl) rfl rfl Try.underlying4 rfl hW' hb⟩
theorem DedupDrops_holds : Rows.DedupDropsSaid :=
  OpenClaim.holds_of_wide 6 Try.f6 rfl rfl rfl rfl rfl rfl rfl ⟨rfl, rfl, rfl, rfl, rfl⟩ rfl rfl rfl rfl rfl (by kernel_rfl) Try.func6 (by kernel_rfl)
    (of_decide_eq_true (by kernel_rfl)) (by unfold Func.isWrapper; rw [if_neg (by decide +kernel)]; exact ⟨rfl, rfl⟩)
    (fun os started H enc _ => DedupDrops_lifted os started H enc)
end Go.Proofs.Ytgbghjpkdbjdgaa
