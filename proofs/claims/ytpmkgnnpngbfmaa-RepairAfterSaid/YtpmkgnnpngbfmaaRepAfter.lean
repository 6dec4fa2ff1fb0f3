/- RepairAfter, walked: it answers yes, and changes nothing that was there. -/
import Derived.Test.YtpmkgnnpngbfmaaRp15
import Derived.Deep.DeepCutAuto
namespace Go.Proofs.Ytpmkgnnpngbfmaa
open Go.ChangeShapes Go.WideShapes Go.ChangeAt Go.RowKit
open Extern.Stop (cell)

theorem PkRaw.later {w w' : World} {p : Pk} (h : PkRaw w p) (hb : Below w.heap.size w w') : PkRaw w' p := ⟨h.id, h.rd.later hb, h.big, h.wf, h.size⟩
theorem PkRaw.ok {w : World} {p : Pk} (h : PkRaw w p) (hf : p.hs.length ≤ 1000) : PkOk w p := ⟨h.id, h.rd, hf, h.wf⟩
theorem in_drawn {w : World} {a : Option Addr} {c : Nat} {zs : List Int} (hr : IntsRd w a zs) (hl : zs.length ≤ 140737488355328) (x : Int) (q : Nat) :
    Calls Try.prog 16 #[.slice a zs.length c, .int .i64 x] (w.drewN q) fun e w' => e = .returned (.bool (decide (x ∈ zs))) ∧ w' = w.drewN q :=
  in_any (hr.later (below_drewN (Below.refl _ _) q)) hl x
theorem lies_q {w : World} {b i : Nat} {cs : Array Value} (h : Lies w b i cs) (q : Nat) : Lies (w.drewN q) b i cs := lies_drewN h _ ⟨q, rfl⟩
set_option linter.unusedSimpArgs false in
set_option maxRecDepth 1000000 in
set_option maxHeartbeats 4000000 in
theorem after_law {ad adm : Option Addr} {c cm : Nat} {l : List Pk} {ms : List Mv} (W : World) (hrow : RowAt W ad (l.flatMap pcells)) (hraw : ∀ p ∈ l, PkRaw W p) (hl : l.length ≤ 9223372036854775807) (hrm : RowAt W adm (ms.flatMap mcells)) (hmo : ∀ x ∈ ms, MvOk x) (hml : ms.length ≤ 9223372036854775807) :
    Calls Try.prog 5 #[.slice ad l.length c, .slice adm ms.length cm] W fun e w' => e = .returned (.bool true) ∧ Below W.heap.size W w' := by
  have R := Lib.hid hrow
  have RW := Lib.hid hraw
  have RM := Lib.hid hrm
  have MO := Lib.hid hmo
  obtain ⟨n, hn⟩ : ∃ n, n = l.length := ⟨_, rfl⟩
  obtain ⟨m, hm⟩ : ∃ m, m = ms.length := ⟨_, rfl⟩
  have HN := Lib.hid hn
  have HM := Lib.hid hm
  rw [← hn] at hl ⊢
  rw [← hm] at hml ⊢
  clear hrow hraw hrm hmo hn hm
  go_enter Try.func5, Try.ntmps5
  go_wp2_with fail
  refine (awake_any _).mono ?_
  rintro e w1 ⟨rfl, b1⟩
  have B1 := Lib.hid b1
  clear b1
  obtain ⟨fb, hfb⟩ : ∃ fb, fb = fewB l 0 := ⟨_, rfl⟩
  have FW := few_any (c := c) (adf := none) (cf := 0) (m := 0) (R.out.later B1.out) (by rw [← HN.out]; exact hl) (fun p hp => (RW.out p hp).later B1.out) (by omega)
  rw [← hfb, ← HN.out] at FW
  have FW' := Lib.hid FW
  have HFB := Lib.hid hfb
  clear FW hfb
  go_wp2_with fail
  refine FW'.out.mono ?_
  rintro e w2 ⟨rfl, h2⟩
  obtain rfl : w1 = w2 := h2.symm
  clear h2
  cases fb
  · go_wp2
    go_ret
    exact ⟨rfl, B1.out⟩
  by_cases h30 : 30 < m
  · have d30 : (30 : Int) < (m : Int) := by omega
    go_wp2
    go_ret
    exact ⟨rfl, B1.out⟩
  have d30 : ¬ (30 : Int) < (m : Int) := by omega
  have hfew : l.length ≤ 12 ∧ sumHs l ≤ 60 := by
    have := HFB.out
    unfold fewB at this
    simp only [Bool.true_eq, Bool.and_eq_true, decide_eq_true_eq] at this
    exact this.1
  have hpk : ∀ p ∈ l, p.hs.length ≤ 60 := fun p hp => Nat.le_trans (sumHs_mem hp) hfew.2
  have n12 : n ≤ 12 := by rw [HN.out]; exact hfew.1
  have HPK := Lib.hid hpk
  have AF := after_any (c := c) (cm := cm) (R.out.later B1.out) (by rw [← HN.out]; omega) (fun p hp => ((RW.out p hp).later B1.out).ok (by have := HPK.out p hp; omega)) (RM.out.later B1.out) (by rw [← HM.out]; omega) MO.out
  rw [← HN.out, ← HM.out] at AF
  have AF' := Lib.hid AF
  clear AF hfew hpk FW'
  go_wp2_with fail
  refine AF'.out.mono ?_
  rintro e w3 ⟨v, ps, rfl, hps, hP, hH, b3⟩
  obtain ⟨xa, xc, rfl⟩ := own_slice hP
  have hpl : ps.length = n := by have := congrArg List.length hps; simpa [afts_len] using this
  unfold PacksIs at hP
  rw [hpl] at hP
  rw [hpl]
  have PS := Lib.hid hps
  have PP := Lib.hid hP
  have HH := Lib.hid hH
  have B3 := Lib.hid (B1.out.trans (b3.mono B1.out.size))
  have R3 := Lib.hid (R.out.later B3.out)
  have RM3 := Lib.hid (RM.out.later B3.out)
  clear hps hP hH b3 hpl AF' B1
  go_wp2_with fail
  go_loopg [8, 9, 10, 11, 12, 13, 14, 15, 16] n (fun k s8 _ _ _ _ _ _ _ _ wr => ∃ (i q : Nat), i ≤ n ∧ k = n - i ∧ s8 = .int .i64 i ∧ wr = w3.drewN q)
  case atStart => exact ⟨0, 0, Nat.zero_le _, rfl, rfl, rfl⟩
  case round =>
    obtain ⟨i, q0, hi, hk, rfl, rfl⟩ := hrel
    have HK := Lib.hid hk
    clear hk
    by_cases hlt : i < n
    · obtain ⟨p, hp⟩ : ∃ p, l[i]? = some p := ⟨l[i]'(by rw [← HN.out]; exact hlt), List.getElem?_eq_getElem _⟩
      obtain ⟨hs, he, hok⟩ := aft_ok (m := ms) hp
      obtain ⟨qk, hq, hqs⟩ : ∃ qk, ps[i]? = some qk ∧ says qk = (p.id, p.size, hs) := by
        have h1 : (ps.map says)[i]? = some (p.id, p.size, hs) := by rw [PS.out, afts_get hlt, he]
        rw [List.getElem?_map] at h1
        obtain ⟨qk, h2, h3⟩ := Option.map_eq_some_iff.1 h1
        exact ⟨qk, h2, h3⟩
      unfold says at hqs
      simp only [Prod.mk.injEq] at hqs
      obtain ⟨q1, q2, q3⟩ := hqs
      obtain ⟨b, off, rfl, hbl, hlp⟩ := rowAt_elem pcells_len (by decide) R3.out hp
      obtain ⟨lp, sp, cp⟩ := pk_lies hlp
      obtain ⟨gq, rfl, hgl, hlq, hnc⟩ := own_elem pcells_len (by decide) PP.out hq
      obtain ⟨lq, sq, cq⟩ := pk_lies hlq
      rw [q1] at lq
      rw [q2] at sq
      rw [q3] at cq
      have hrq : IntsRd w3 qk.ad hs := by rw [← q3]; exact (HH.out qk (List.mem_of_getElem? hq)).rd
      have hrp : IntsRd w3 p.ad p.hs := (RW.out p (List.mem_of_getElem? hp)).rd.later B3.out
      have hpid := (RW.out p (List.mem_of_getElem? hp)).id
      have hp60 : p.hs.length ≤ 60 := HPK.out p (List.mem_of_getElem? hp)
      have hh1000 : hs.length ≤ 1060 := by
        have h1 := he
        unfold aft at h1
        simp only [Prod.mk.injEq] at h1
        have e3 : l.getD i default = p := by rw [List.getD_eq_getElem?_getD, hp]; rfl
        rw [← h1.2.2, e3]
        unfold keysOf
        rw [List.length_mergeSort, List.length_map]
        have := behind_len ms (aget (seenIds (l.take i)) p.id).isSome p
        rw [← HM.out] at this
        omega
      obtain ⟨pa, hpa⟩ : ∃ pa, pa = p.ad := ⟨_, rfl⟩
      obtain ⟨qa, hqa⟩ : ∃ qa, qa = qk.ad := ⟨_, rfl⟩
      obtain ⟨np, hnp⟩ : ∃ np, np = p.hs.length := ⟨_, rfl⟩
      obtain ⟨nq0, hnq⟩ : ∃ nq0, nq0 = hs.length := ⟨_, rfl⟩
      rw [← hpa, ← hnp] at cp
      rw [← hqa, ← hnq] at cq
      rw [← hpa] at hrp
      rw [← hqa] at hrq
      rw [← hnp] at hp60
      rw [← hnq] at hh1000
      have LP := Lib.hid lp
      have LQ := Lib.hid lq
      have RP := Lib.hid hrp
      have RQ := Lib.hid hrq
      have OKP := Lib.hid hok
      have PID := Lib.hid hpid
      have HNP := Lib.hid hnp
      have HNQ := Lib.hid hnq
      have i0 : (0 : Int) ≤ (i : Int) := Int.natCast_nonneg _
      have i1 : (i : Int) < (n : Int) := by omega
      clear hp he hq q1 q2 q3 hlp lp hlq lq hrq hrp hpa hqa hnp hnq hok hpid hbl hgl
      go_wp2_with fail
      go_loopg [9, 10] i (fun k s9 s10 wr => ∃ (j q : Nat), j ≤ i ∧ k = i - j ∧ s10 = .int .i64 j ∧ s9 = .bool (firstB (l.take j) p.id) ∧ wr = w3.drewN q)
      case atStart => exact ⟨0, q0, Nat.zero_le _, rfl, rfl, rfl, rfl⟩
      case round =>
        obtain ⟨j, q, hj, hkj, rfl, rfl, rfl⟩ := hrel
        have HKJ := Lib.hid hkj
        clear hkj
        by_cases hlj : j < i
        · obtain ⟨x, hx⟩ : ∃ x, l[j]? = some x := ⟨l[j]'(by rw [← HN.out]; omega), List.getElem?_eq_getElem _⟩
          obtain ⟨b2, off2, e2, _, hlx⟩ := rowAt_elem pcells_len (by decide) R3.out hx
          cases e2
          have LX := Lib.hid (pk_lies hlx).1
          have hq := eqi_ids (RW.out x (List.mem_of_getElem? hx)).id PID.out
          generalize hbq : (x.id == p.id) = bq at hq
          obtain ⟨fb, hfb⟩ : ∃ fb, fb = firstB (l.take j) p.id := ⟨_, rfl⟩
          rw [← hfb]
          have SN : Hid (firstB (l.take (j + 1)) p.id = (fb && !bq)) := Lib.hid (by
            rw [List.take_add_one, hx]
            show firstB (l.take j ++ [x]) p.id = _
            rw [firstB_snoc, hbq, hfb])
          have j0 : (0 : Int) ≤ (j : Int) := Int.natCast_nonneg _
          have j1 : (j : Int) < (i : Int) := by omega
          have j2 : (j : Int) < (n : Int) := by omega
          clear hx hlx hbq hfb
          cases fb
          · go_wp2_with fail
            refine wp_region_quiet_lit (by kernel_rfl) (by kernel_rfl) ?_
            repeat go_big_quiet_step (fail)
            refine wpQuiet_nil ?_
            intro _ hw9
            obtain ⟨nq, hw9⟩ := hw9
            subst hw9
            go_wp2
            go_roundg (i - (j + 1))
            case measure => rw [HKJ.out]; omega
            case rel => exact ⟨j + 1, q + nq, by omega, rfl, by go_num, by rw [SN.out]; rfl, rfl⟩
          · cases bq
            · go_wp2_with fail
              refine wp_region_quiet_lit (by kernel_rfl) (by kernel_rfl) ?_
              iterate 6 go_big_quiet_step (fail)
              refine wpQuiet_load (by kernel_rfl) 37 (.tmp 53) rfl b (off + j * 34) rfl (idCells x.id).toArray _ (lies_drewN (lies_q LX.out q)) Try.underlying37 rfl (sizei x.id) ?_
              try simp only [Act.put, List.setIfInBounds_toArray, List.set_cons_zero, List.set_cons_succ]
              iterate 4 go_big_quiet_step (fail)
              refine wpQuiet_load (by kernel_rfl) 37 (.tmp 58) rfl b (off + i * 34) rfl (idCells p.id).toArray _ (lies_drewN (lies_q LP.out q)) Try.underlying37 rfl (sizei p.id) ?_
              try simp only [Act.put, List.setIfInBounds_toArray, List.set_cons_zero, List.set_cons_succ]
              repeat go_big_quiet_step (fail)
              refine wpQuiet_nil ?_
              intro _ hw9
              obtain ⟨nq, hw9⟩ := hw9
              subst hw9
              go_wp2
              go_roundg (i - (j + 1))
              case measure => rw [HKJ.out]; omega
              case rel => exact ⟨j + 1, q + nq, by omega, rfl, by go_num, by rw [SN.out]; rfl, rfl⟩
            · go_wp2_with fail
              refine wp_region_quiet_lit (by kernel_rfl) (by kernel_rfl) ?_
              iterate 6 go_big_quiet_step (fail)
              refine wpQuiet_load (by kernel_rfl) 37 (.tmp 53) rfl b (off + j * 34) rfl (idCells x.id).toArray _ (lies_drewN (lies_q LX.out q)) Try.underlying37 rfl (sizei x.id) ?_
              try simp only [Act.put, List.setIfInBounds_toArray, List.set_cons_zero, List.set_cons_succ]
              iterate 4 go_big_quiet_step (fail)
              refine wpQuiet_load (by kernel_rfl) 37 (.tmp 58) rfl b (off + i * 34) rfl (idCells p.id).toArray _ (lies_drewN (lies_q LP.out q)) Try.underlying37 rfl (sizei p.id) ?_
              try simp only [Act.put, List.setIfInBounds_toArray, List.set_cons_zero, List.set_cons_succ]
              repeat go_big_quiet_step (fail)
              refine wpQuiet_nil ?_
              intro _ hw9
              obtain ⟨nq, hw9⟩ := hw9
              subst hw9
              go_wp2
              go_roundg (i - (j + 1))
              case measure => rw [HKJ.out]; omega
              case rel => exact ⟨j + 1, q + nq, by omega, rfl, by go_num, by rw [SN.out]; rfl, rfl⟩
        · obtain rfl : i = j := by omega
          obtain ⟨fb, hfb⟩ : ∃ fb, fb = firstB (l.take i) p.id := ⟨_, rfl⟩
          have OK2 : Hid (AftOk ms fb p hs) := Lib.hid (by rw [hfb]; exact OKP.out)
          rw [← hfb]
          clear hlj hfb OKP
          go_wp2_with fail
          go_loopg [11, 12, 13, 14] nq0 (fun k s11 _ _ _ wr => ∃ (i3 q : Nat), i3 ≤ nq0 ∧ k = nq0 - i3 ∧ s11 = .int .i64 i3 ∧ wr = w3.drewN q)
          case atStart => exact ⟨0, q, Nat.zero_le _, rfl, rfl, rfl⟩
          case round =>
            obtain ⟨r, q, hr, hkr, rfl, rfl⟩ := hrel
            have HKR := Lib.hid hkr
            clear hkr
            by_cases hlr : r < nq0
            · obtain ⟨z, hz⟩ : ∃ z, hs[r]? = some z := ⟨hs[r]'(by rw [← HNQ.out]; exact hlr), List.getElem?_eq_getElem _⟩
              obtain ⟨bq, oq, e4, _, cz⟩ := RQ.out r z hz
              have HZ := Lib.hid hz
              have e4' := e4
              subst e4
              have r0 : (0 : Int) ≤ (r : Int) := Int.natCast_nonneg _
              have r1 : (r : Int) < (nq0 : Int) := by omega
              clear hz
              go_upto_region 22 with fail
              go_cut [94] (fun s94 wx => s94 = .bool false ∧ wx = w3.drewN q)
              case first =>
                as_aux_lemma =>
                  by_cases hr0 : r = 0
                  · subst hr0
                    have d0 : decide (((0 : Nat) : Int) > 0) = false := by decide
                    have d1 : ¬ ((0 : Nat) : Int) > 0 := by decide
                    go_wp2
                    go_meet
                    case rel => exact ⟨rfl, rfl⟩
                  · obtain ⟨r, rfl⟩ : ∃ r', r = r' + 1 := ⟨r - 1, by omega⟩
                    obtain ⟨y, hy⟩ : ∃ y, hs[r]? = some y := ⟨hs[r]'(by rw [← HNQ.out]; omega), List.getElem?_eq_getElem _⟩
                    obtain ⟨_, _, e5, _, cy⟩ := RQ.out r y hy
                    cases e5
                    have hyz := OK2.out.lt r y z hy HZ.out
                    have r2 : (0 : Int) ≤ (r : Int) := Int.natCast_nonneg _
                    have r3 : (r : Int) < (nq0 : Int) := by omega
                    have r4 : ((r + 1 : Nat) : Int) = (r : Int) + 1 := by omega
                    have r5 : (0 : Int) < (r : Int) + 1 := by omega
                    have r6 : ¬ z ≤ y := by omega
                    rw [r4]
                    clear hy hr0 r4
                    go_wp2
                    go_meet
                    case rel => exact ⟨rfl, rfl⟩
              case rest =>
                as_aux_lemma =>
                obtain ⟨rfl, rfl⟩ := hcut
                obtain ⟨ib, hib⟩ : ∃ ib, ib = decide (z ∈ p.hs) := ⟨_, rfl⟩
                have IN1 : Calls Try.prog 16 #[.slice pa np p.cap, .int .i64 z] (w3.drewN q) fun e w' => e = .returned (.bool ib) ∧ w' = w3.drewN q := by
                  rw [HNP.out, hib]
                  exact in_drawn RP.out (by rw [← HNP.out]; omega) z q
                have ISK := Lib.hid (show (ib || (fb && ms.any fun y => y.pack == p.id && y.to == z)) = true by rw [hib]; exact OK2.out.of z (List.mem_of_getElem? HZ.out))
                have IN1' := Lib.hid IN1
                clear IN1 hib cz
                go_wp2_with fail
                refine IN1'.out.mono ?_
                rintro e w4 ⟨rfl, h4⟩
                obtain rfl : w3.drewN q = w4 := h4.symm
                clear h4 IN1'
                go_wp2_with fail
                go_loopg [13, 14] m (fun k s13 s14 wr => ∃ (k4 q : Nat), k4 ≤ m ∧ k = m - k4 ∧ s14 = .int .i64 k4 ∧ s13 = .bool (ib || (fb && (ms.take k4).any fun y => y.pack == p.id && y.to == z)) ∧ wr = w3.drewN q)
                case atStart => exact ⟨0, q, Nat.zero_le _, rfl, rfl, by simp, rfl⟩
                case round =>
                  obtain ⟨k4, q, hk4, hkk, rfl, rfl, rfl⟩ := hrel
                  have HKK := Lib.hid hkk
                  clear hkk
                  by_cases hlk : k4 < m
                  · obtain ⟨x, hx⟩ : ∃ x, ms[k4]? = some x := ⟨ms[k4]'(by rw [← HM.out]; exact hlk), List.getElem?_eq_getElem _⟩
                    obtain ⟨bm, om, rfl, _, hlx⟩ := rowAt_elem mcells_len (by decide) RM3.out hx
                    obtain ⟨lx, tx⟩ := mv_lies hlx
                    have LX := Lib.hid lx
                    have hq := eqi_ids (MO.out x (List.mem_of_getElem? hx)).id PID.out
                    generalize hbq : (x.pack == p.id) = bq at hq
                    generalize hbt : (x.to == z) = bt at *
                    obtain ⟨cur, hcur⟩ : ∃ cur, cur = (ib || (fb && (ms.take k4).any fun y => y.pack == p.id && y.to == z)) := ⟨_, rfl⟩
                    have SN : Hid ((ib || (fb && (ms.take (k4 + 1)).any fun y => y.pack == p.id && y.to == z)) = (cur || (fb && (bq && bt)))) := Lib.hid (by
                      rw [List.take_add_one, hx]
                      show (ib || (fb && (ms.take k4 ++ [x]).any _)) = _
                      rw [List.any_append, hcur]
                      simp only [List.any_cons, List.any_nil, hbq, hbt, Bool.or_false]
                      cases ib <;> cases fb <;> simp)
                    rw [← hcur]
                    have k0 : (0 : Int) ≤ (k4 : Int) := Int.natCast_nonneg _
                    have k1 : (k4 : Int) < (m : Int) := by omega
                    clear hx hlx hbq lx hcur
                    cases cur
                    · cases fb
                      · go_wp2_with fail
                        refine wp_region_quiet_lit (by kernel_rfl) (by kernel_rfl) ?_
                        repeat go_big_quiet_step (fail)
                        refine wpQuiet_nil ?_
                        intro _ hw9
                        obtain ⟨nq, hw9⟩ := hw9
                        subst hw9
                        go_wp2
                        go_roundg (m - (k4 + 1))
                        case measure => rw [HKK.out]; omega
                        case rel =>
                          refine ⟨k4 + 1, q + nq, by omega, rfl, ?_, ?_, rfl⟩
                          · go_num
                          · rw [SN.out]; rfl
                      · cases bq
                        · go_wp2_with fail
                          refine wp_region_quiet_lit (by kernel_rfl) (by kernel_rfl) ?_
                          iterate 8 go_big_quiet_step (fail)
                          refine wpQuiet_load (by kernel_rfl) 37 (.tmp 115) rfl bm (om + k4 * 33) rfl (idCells x.pack).toArray _ (lies_drewN (lies_q LX.out q)) Try.underlying37 rfl (sizei x.pack) ?_
                          try simp only [Act.put, List.setIfInBounds_toArray, List.set_cons_zero, List.set_cons_succ]
                          iterate 4 go_big_quiet_step (fail)
                          refine wpQuiet_load (by kernel_rfl) 37 (.tmp 120) rfl b (off + i * 34) rfl (idCells p.id).toArray _ (lies_drewN (lies_q LP.out q)) Try.underlying37 rfl (sizei p.id) ?_
                          try simp only [Act.put, List.setIfInBounds_toArray, List.set_cons_zero, List.set_cons_succ]
                          repeat go_big_quiet_step (fail)
                          refine wpQuiet_nil ?_
                          intro _ hw9
                          obtain ⟨nq, hw9⟩ := hw9
                          subst hw9
                          go_wp2
                          go_roundg (m - (k4 + 1))
                          case measure => rw [HKK.out]; omega
                          case rel =>
                            refine ⟨k4 + 1, q + nq, by omega, rfl, ?_, ?_, rfl⟩
                            · go_num
                            · rw [SN.out]; rfl
                        · cases bt
                          · go_wp2_with fail
                            refine wp_region_quiet_lit (by kernel_rfl) (by kernel_rfl) ?_
                            iterate 8 go_big_quiet_step (fail)
                            refine wpQuiet_load (by kernel_rfl) 37 (.tmp 115) rfl bm (om + k4 * 33) rfl (idCells x.pack).toArray _ (lies_drewN (lies_q LX.out q)) Try.underlying37 rfl (sizei x.pack) ?_
                            try simp only [Act.put, List.setIfInBounds_toArray, List.set_cons_zero, List.set_cons_succ]
                            iterate 4 go_big_quiet_step (fail)
                            refine wpQuiet_load (by kernel_rfl) 37 (.tmp 120) rfl b (off + i * 34) rfl (idCells p.id).toArray _ (lies_drewN (lies_q LP.out q)) Try.underlying37 rfl (sizei p.id) ?_
                            try simp only [Act.put, List.setIfInBounds_toArray, List.set_cons_zero, List.set_cons_succ]
                            repeat go_big_quiet_step (fail)
                            refine wpQuiet_nil ?_
                            intro _ hw9
                            obtain ⟨nq, hw9⟩ := hw9
                            subst hw9
                            go_wp2
                            go_roundg (m - (k4 + 1))
                            case measure => rw [HKK.out]; omega
                            case rel =>
                              refine ⟨k4 + 1, q + nq, by omega, rfl, ?_, ?_, rfl⟩
                              · go_num
                              · rw [SN.out]; rfl
                          · go_wp2_with fail
                            refine wp_region_quiet_lit (by kernel_rfl) (by kernel_rfl) ?_
                            iterate 8 go_big_quiet_step (fail)
                            refine wpQuiet_load (by kernel_rfl) 37 (.tmp 115) rfl bm (om + k4 * 33) rfl (idCells x.pack).toArray _ (lies_drewN (lies_q LX.out q)) Try.underlying37 rfl (sizei x.pack) ?_
                            try simp only [Act.put, List.setIfInBounds_toArray, List.set_cons_zero, List.set_cons_succ]
                            iterate 4 go_big_quiet_step (fail)
                            refine wpQuiet_load (by kernel_rfl) 37 (.tmp 120) rfl b (off + i * 34) rfl (idCells p.id).toArray _ (lies_drewN (lies_q LP.out q)) Try.underlying37 rfl (sizei p.id) ?_
                            try simp only [Act.put, List.setIfInBounds_toArray, List.set_cons_zero, List.set_cons_succ]
                            repeat go_big_quiet_step (fail)
                            refine wpQuiet_nil ?_
                            intro _ hw9
                            obtain ⟨nq, hw9⟩ := hw9
                            subst hw9
                            go_wp2
                            go_roundg (m - (k4 + 1))
                            case measure => rw [HKK.out]; omega
                            case rel =>
                              refine ⟨k4 + 1, q + nq, by omega, rfl, ?_, ?_, rfl⟩
                              · go_num
                              · rw [SN.out]; rfl
                    · go_wp2_with fail
                      refine wp_region_quiet_lit (by kernel_rfl) (by kernel_rfl) ?_
                      repeat go_big_quiet_step (fail)
                      refine wpQuiet_nil ?_
                      intro _ hw9
                      obtain ⟨nq, hw9⟩ := hw9
                      subst hw9
                      go_wp2
                      go_roundg (m - (k4 + 1))
                      case measure => rw [HKK.out]; omega
                      case rel =>
                        refine ⟨k4 + 1, q + nq, by omega, rfl, ?_, ?_, rfl⟩
                        · go_num
                        · rw [SN.out]; rfl
                  · obtain rfl : k4 = m := by omega
                    have hfin : (ib || (fb && (ms.take k4).any fun y => y.pack == p.id && y.to == z)) = true := by rw [HM.out, List.take_length]; exact ISK.out
                    rw [hfin]
                    clear hfin hlk
                    go_wp2
                    go_roundg (nq0 - (r + 1))
                    case measure => rw [HKR.out]; omega
                    case rel => exact ⟨r + 1, q, by omega, rfl, by go_num, rfl⟩
            · obtain rfl : r = nq0 := by omega
              clear hlr
              go_wp2_with fail
              go_loopg [15] np (fun k s15 wr => ∃ (j5 q : Nat), j5 ≤ np ∧ k = np - j5 ∧ s15 = .int .i64 j5 ∧ wr = w3.drewN q)
              case atStart => exact ⟨0, q, Nat.zero_le _, rfl, rfl, rfl⟩
              case round =>
                obtain ⟨j5, q, hj5, hk5, rfl, rfl⟩ := hrel
                have HK5 := Lib.hid hk5
                clear hk5
                by_cases hl5 : j5 < np
                · obtain ⟨z, hz⟩ : ∃ z, p.hs[j5]? = some z := ⟨p.hs[j5]'(by rw [← HNP.out]; exact hl5), List.getElem?_eq_getElem _⟩
                  obtain ⟨bp, op, e5, _, cz⟩ := RP.out j5 z hz
                  subst e5
                  have IN2 : Hid (∀ q, Calls Try.prog 16 #[.slice qa r qk.cap, .int .i64 z] (w3.drewN q) fun e w' => e = .returned (.bool true) ∧ w' = w3.drewN q) := Lib.hid (fun q => by
                    have h1 := in_drawn (c := qk.cap) RQ.out (by rw [← HNQ.out]; omega) z q
                    rw [decide_eq_true (OK2.out.old z (List.mem_of_getElem? hz)), ← HNQ.out] at h1
                    exact h1)
                  have z0 : (0 : Int) ≤ (j5 : Int) := Int.natCast_nonneg _
                  have z1 : (j5 : Int) < (np : Int) := by omega
                  clear hz
                  go_wp2_with fail
                  refine wp_region_quiet_lit (by kernel_rfl) (by kernel_rfl) ?_
                  repeat go_big_quiet_step ((exact quiet_same_add (IN2.out _)))
                  refine wpQuiet_nil ?_
                  intro _ hw9
                  obtain ⟨nq, hw9⟩ := hw9
                  subst hw9
                  go_wp2
                  go_roundg (np - (j5 + 1))
                  case measure => rw [HK5.out]; omega
                  case rel => exact ⟨j5 + 1, q + nq, by omega, rfl, by go_num, rfl⟩
                · obtain rfl : j5 = np := by omega
                  clear hl5
                  go_wp2_with fail
                  go_loopg [16] m (fun k s16 wr => ∃ (j6 q : Nat), j6 ≤ m ∧ k = m - j6 ∧ s16 = .int .i64 j6 ∧ wr = w3.drewN q)
                  case atStart => exact ⟨0, q, Nat.zero_le _, rfl, rfl, rfl⟩
                  case round =>
                    obtain ⟨j6, q, hj6, hk6, rfl, rfl⟩ := hrel
                    have HK6 := Lib.hid hk6
                    clear hk6
                    have z0 : (0 : Int) ≤ (j6 : Int) := Int.natCast_nonneg _
                    by_cases hl6 : j6 < m
                    · have z1 : (j6 : Int) < (m : Int) := by omega
                      cases fb
                      · have hq := eqi_ids PID.out PID.out
                        simp only [beq_self_eq_true] at hq
                        go_wp2_with fail
                        refine wp_region_quiet_lit (by kernel_rfl) (by kernel_rfl) ?_
                        iterate 4 go_big_quiet_step (fail)
                        refine wpQuiet_load (by kernel_rfl) 37 (.tmp 198) rfl gq (i * 34) rfl (idCells p.id).toArray _ (lies_drewN (lies_q LQ.out q)) Try.underlying37 rfl (sizei p.id) ?_
                        try simp only [Act.put, List.setIfInBounds_toArray, List.set_cons_zero, List.set_cons_succ]
                        iterate 4 go_big_quiet_step (fail)
                        refine wpQuiet_load (by kernel_rfl) 37 (.tmp 203) rfl b (off + i * 34) rfl (idCells p.id).toArray _ (lies_drewN (lies_q LP.out q)) Try.underlying37 rfl (sizei p.id) ?_
                        try simp only [Act.put, List.setIfInBounds_toArray, List.set_cons_zero, List.set_cons_succ]
                        repeat go_big_quiet_step (fail)
                        refine wpQuiet_nil ?_
                        intro _ hw9
                        obtain ⟨nq, hw9⟩ := hw9
                        subst hw9
                        go_wp2
                        go_roundg (n - (i + 1))
                        case measure => rw [HK.out]; omega
                        case rel => exact ⟨i + 1, q + nq, by omega, rfl, by go_num, rfl⟩
                      · obtain ⟨x, hx⟩ : ∃ x, ms[j6]? = some x := ⟨ms[j6]'(by rw [← HM.out]; exact hl6), List.getElem?_eq_getElem _⟩
                        obtain ⟨bm, om, rfl, _, hlx⟩ := rowAt_elem mcells_len (by decide) RM3.out hx
                        obtain ⟨lx, tx⟩ := mv_lies hlx
                        have LX := Lib.hid lx
                        have hq := eqi_ids (MO.out x (List.mem_of_getElem? hx)).id PID.out
                        generalize hbq : (x.pack == p.id) = bq at hq
                        cases bq
                        · clear hx hlx lx hbq
                          go_wp2_with fail
                          refine wp_region_quiet_lit (by kernel_rfl) (by kernel_rfl) ?_
                          iterate 4 go_big_quiet_step (fail)
                          refine wpQuiet_load (by kernel_rfl) 37 (.tmp 173) rfl bm (om + j6 * 33) rfl (idCells x.pack).toArray _ (lies_drewN (lies_q LX.out q)) Try.underlying37 rfl (sizei x.pack) ?_
                          try simp only [Act.put, List.setIfInBounds_toArray, List.set_cons_zero, List.set_cons_succ]
                          iterate 4 go_big_quiet_step (fail)
                          refine wpQuiet_load (by kernel_rfl) 37 (.tmp 178) rfl b (off + i * 34) rfl (idCells p.id).toArray _ (lies_drewN (lies_q LP.out q)) Try.underlying37 rfl (sizei p.id) ?_
                          try simp only [Act.put, List.setIfInBounds_toArray, List.set_cons_zero, List.set_cons_succ]
                          repeat go_big_quiet_step (fail)
                          refine wpQuiet_nil ?_
                          intro _ hw9
                          obtain ⟨nq, hw9⟩ := hw9
                          subst hw9
                          go_wp2
                          go_roundg (m - (j6 + 1))
                          case measure => rw [HK6.out]; omega
                          case rel => exact ⟨j6 + 1, q + nq, by omega, rfl, by go_num, rfl⟩
                        · have IN3 : Hid (∀ q, Calls Try.prog 16 #[.slice qa r qk.cap, .int .i64 x.to] (w3.drewN q) fun e w' => e = .returned (.bool true) ∧ w' = w3.drewN q) := Lib.hid (fun q => by
                            have h1 := in_drawn (c := qk.cap) RQ.out (by rw [← HNQ.out]; omega) x.to q
                            rw [decide_eq_true (OK2.out.new rfl x (List.mem_of_getElem? hx) (by simpa using hbq)), ← HNQ.out] at h1
                            exact h1)
                          clear hx hlx lx hbq
                          go_wp2_with fail
                          refine wp_region_quiet_lit (by kernel_rfl) (by kernel_rfl) ?_
                          iterate 4 go_big_quiet_step ((exact quiet_same_add (IN3.out _)))
                          refine wpQuiet_load (by kernel_rfl) 37 (.tmp 173) rfl bm (om + j6 * 33) rfl (idCells x.pack).toArray _ (lies_drewN (lies_q LX.out q)) Try.underlying37 rfl (sizei x.pack) ?_
                          try simp only [Act.put, List.setIfInBounds_toArray, List.set_cons_zero, List.set_cons_succ]
                          iterate 4 go_big_quiet_step ((exact quiet_same_add (IN3.out _)))
                          refine wpQuiet_load (by kernel_rfl) 37 (.tmp 178) rfl b (off + i * 34) rfl (idCells p.id).toArray _ (lies_drewN (lies_q LP.out q)) Try.underlying37 rfl (sizei p.id) ?_
                          try simp only [Act.put, List.setIfInBounds_toArray, List.set_cons_zero, List.set_cons_succ]
                          repeat go_big_quiet_step ((exact quiet_same_add (IN3.out _)))
                          refine wpQuiet_nil ?_
                          intro _ hw9
                          obtain ⟨nq, hw9⟩ := hw9
                          subst hw9
                          go_wp2
                          go_roundg (m - (j6 + 1))
                          case measure => rw [HK6.out]; omega
                          case rel => exact ⟨j6 + 1, q + nq, by omega, rfl, by go_num, rfl⟩
                    · have z1 : ¬ (j6 : Int) < (m : Int) := by omega
                      have hq := eqi_ids PID.out PID.out
                      simp only [beq_self_eq_true] at hq
                      go_wp2_with fail
                      refine wp_region_quiet_lit (by kernel_rfl) (by kernel_rfl) ?_
                      iterate 4 go_big_quiet_step (fail)
                      refine wpQuiet_load (by kernel_rfl) 37 (.tmp 198) rfl gq (i * 34) rfl (idCells p.id).toArray _ (lies_drewN (lies_q LQ.out q)) Try.underlying37 rfl (sizei p.id) ?_
                      try simp only [Act.put, List.setIfInBounds_toArray, List.set_cons_zero, List.set_cons_succ]
                      iterate 4 go_big_quiet_step (fail)
                      refine wpQuiet_load (by kernel_rfl) 37 (.tmp 203) rfl b (off + i * 34) rfl (idCells p.id).toArray _ (lies_drewN (lies_q LP.out q)) Try.underlying37 rfl (sizei p.id) ?_
                      try simp only [Act.put, List.setIfInBounds_toArray, List.set_cons_zero, List.set_cons_succ]
                      repeat go_big_quiet_step (fail)
                      refine wpQuiet_nil ?_
                      intro _ hw9
                      obtain ⟨nq, hw9⟩ := hw9
                      subst hw9
                      go_wp2
                      go_roundg (n - (i + 1))
                      case measure => rw [HK.out]; omega
                      case rel => exact ⟨i + 1, q + nq, by omega, rfl, by go_num, rfl⟩
    · obtain rfl : i = n := by omega
      go_wp2
      go_ret
      exact ⟨rfl, B3.out.trans (below_drewN (Below.refl _ _) _)⟩
end Go.Proofs.Ytpmkgnnpngbfmaa
