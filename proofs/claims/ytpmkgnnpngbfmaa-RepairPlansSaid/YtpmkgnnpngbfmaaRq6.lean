/- The reference's Plan, walked. -/
import Derived.Test.YtpmkgnnpngbfmaaRq5
namespace Go.Proofs.Ytpmkgnnpngbfmaa
open Go.RowKit
open Extern.Stop (cell)

set_option linter.unusedSimpArgs false in
set_option maxRecDepth 1000000 in
set_option maxHeartbeats 8000000 in
theorem rplan_any {w : World} {ad adf : Option Addr} {c cf : Nat} {l : List Pk} {f : List (Int × Int)} {k : Int} (hrow : RowAt w ad (l.flatMap pcells)) (hfew : l.length ≤ 12) (hsum : sumHs l ≤ 60) (hok : ∀ p ∈ l, PkOk w p) (hsz : ∀ p ∈ l, 0 ≤ p.size ∧ p.size ≤ 18446744073709551615)
    (hrf : RowAt w adf (f.flatMap fcells)) (hff : f.length ≤ 30) (hfo : LeftOk f) (k0 : -1000 ≤ k) (k1 : k ≤ 1000) :
    Calls Try.prog 11 #[.slice ad l.length c, .int .i64 k, .slice adf f.length cf] w fun e w' => ∃ v, e = .returned v ∧ RmRow w.heap.size w' v (planOf k (frees f) (isort keyOfPk l)).2 ∧ Below w.heap.size w w' := by
  have R := Lib.hid hrow
  have OK := Lib.hid hok
  have SZ := Lib.hid hsz
  have RF := Lib.hid hrf
  have FO := Lib.hid hfo
  have SUM := Lib.hid hsum
  obtain ⟨nl, hn⟩ : ∃ nl, nl = l.length := ⟨_, rfl⟩
  obtain ⟨m, hm⟩ : ∃ m, m = f.length := ⟨_, rfl⟩
  have HN := Lib.hid hn
  have HM := Lib.hid hm
  rw [← hn] at hfew ⊢
  rw [← hm] at hff ⊢
  clear hrow hok hsz hn hrf hfo hm hsum
  go_enter Try.func11, Try.ntmps11
  go_wp2_with fail
  go_loopg [7, 8, 9, 10] m (fun kk s7 s8 s9 _ wr => ∃ j : Nat, j ≤ m ∧ kk = m - j ∧ s9 = .int .i64 j ∧ RfRow w.heap.size wr s7 (frees (f.take j)) ∧ IntsIs w.heap.size wr s8 ((frees (f.take j)).map Prod.fst) ∧ Below w.heap.size w wr)
  case atStart => exact ⟨0, Nat.zero_le _, rfl, rfl, ⟨rfl, .inl ⟨rfl, rfl⟩⟩, ⟨rfl, .inl ⟨rfl, rfl⟩⟩, Below.refl _ _⟩
  case round =>
    obtain ⟨j, hj, hk, rfl, hG, hS, hB⟩ := hrel
    obtain ⟨wo, rfl⟩ : ∃ wo : World, wo = wr := ⟨_, rfl⟩
    have HK := Lib.hid hk
    have GG := Lib.hid hG
    have BB := Lib.hid hB
    clear hk hG hB
    by_cases hlt : j < m
    · as_aux_lemma =>
      obtain ⟨x, hx⟩ : ∃ x, f[j]? = some x := ⟨f[j]'(by rw [← HM.out]; exact hlt), List.getElem?_eq_getElem _⟩
      obtain ⟨b, off, rfl, hbl, hl'⟩ := rowAt_elem fcells_len (by decide) (RF.out.later BB.out) hx
      obtain ⟨cx0, cx1⟩ := fr_cells hl'
      have LX := Lib.hid hl'
      have TK : Hid (f.take (j + 1) = f.take j ++ [x]) := Lib.hid (by rw [List.take_add_one, hx]; rfl)
      have fl : (frees (f.take j)).length ≤ 30 := by have := frees_len (f.take j); rw [List.length_take] at this; omega
      obtain ⟨gl, hgl⟩ : ∃ gl, gl = frees (f.take j) := ⟨_, rfl⟩
      have GL := Lib.hid hgl
      rw [← hgl] at hS fl
      obtain ⟨ks, hks⟩ : ∃ ks, ks = gl.map Prod.fst := ⟨_, rfl⟩
      have KS := Lib.hid hks
      rw [← hks] at hS
      obtain ⟨xa, xc, rfl⟩ := own_slice hS
      have kl : ks.length = gl.length := by rw [hks, List.length_map]
      have IN := in_any (c := xc) (IntsIs.rd hS) (by omega) x.1
      obtain ⟨q, hq⟩ : ∃ q, q = gl.length := ⟨_, rfl⟩
      have HQ := Lib.hid hq
      rw [kl, ← hq] at IN ⊢
      rw [← hq] at fl
      have IN' := Lib.hid IN
      have SS : Hid (wo.ownsRow w.heap.size 3 1 (.slice xa q xc) q (ks.map (Value.int .i64))) := Lib.hid (by have := hS; unfold IntsIs at this; rw [kl, ← hq] at this; exact this)
      have G0 : Hid (wo.ownsRow w.heap.size 59 2 u7 q (gl.flatMap fcells)) := Lib.hid (by have := GG.out; unfold RfRow at this; rw [← hgl, ← hq] at this; exact this)
      have j0 : (0 : Int) ≤ (j : Int) := Int.natCast_nonneg _
      have j1 : (j : Int) < (m : Int) := by omega
      clear hx hl' hgl hks hS kl IN hq GG
      go_wp2_with fail
      refine IN'.out.mono ?_
      rintro e w1 ⟨rfl, h1⟩
      obtain rfl : wo = w1 := h1.symm
      clear h1 IN'
      by_cases hin : x.1 ∈ ks
      · have FS : Hid (frees (f.take (j + 1)) = gl) := Lib.hid (by rw [TK.out, frees_had (by rw [← GL.out, ← KS.out]; exact hin), GL.out])
        have D1 : decide (x.1 ∈ ks) = true := decide_eq_true hin
        clear hin
        go_wp2
        go_roundg (m - (j + 1))
        case measure => rw [HK.out]; omega
        case rel =>
          refine ⟨j + 1, by omega, rfl, by go_num, ?_, ?_, BB.out⟩
          · rw [FS.out]; unfold RfRow; rw [← HQ.out]; exact G0.out
          · rw [FS.out, ← KS.out]; unfold IntsIs; rw [show ks.length = q by rw [KS.out, List.length_map, HQ.out]]; exact SS.out
      · have FS : Hid (frees (f.take (j + 1)) = gl ++ [x]) := Lib.hid (by rw [TK.out, frees_new (by rw [← GL.out, ← KS.out]; exact hin), GL.out])
        have D1 : decide (x.1 ∈ ks) = false := decide_eq_false hin
        obtain ⟨g0, hg0, hg1, hg2, hg3⟩ := info_parts info_int
        have II := Lib.hid (⟨hg0, hg1, hg2, hg3⟩ : Try.prog.info? 3 = some g0 ∧ g0.zero = some (.int .i64 0) ∧ g0.size = 1 ∧ g0.bytes = 8)
        obtain ⟨i0, hi', hz0, hz1, hz2⟩ := info_parts info_rf
        have PW := Lib.hid (⟨hi', hz0, hz1, hz2⟩ : Try.prog.info? 59 = some i0 ∧ i0.zero = some (.agg (fcells (0, 0)).toArray) ∧ i0.size = 2 ∧ i0.bytes = 16)
        have ba := below_alloc (Below.refl wo.heap.size wo) (.cells #[.int .i64 x.1] 3)
        have OW1 : Hid ((wo.alloc (.cells #[.int .i64 x.1] 3)).ownsRow w.heap.size 3 1 (.slice xa q xc) q (ks.map (Value.int .i64))) := Lib.hid (own_later SS.out ba)
        have G1 := Lib.hid (own_later G0.out ba)
        have BA := Lib.hid (BB.out.trans (ba.mono BB.out.size))
        have BS1 : Hid (w.heap.size ≤ (wo.alloc (.cells #[.int .i64 x.1] 3)).heap.size) := Lib.hid BA.out.size
        have NEWS1 : Hid (∀ (q : Nat) (u : Value), ([.int .i64 x.1] : List Value)[q]? = some u → (wo.alloc (.cells #[.int .i64 x.1] 3)).cell? ((⟨wo.heap.size, 0, none⟩ : Addr).add q) = some u) := Lib.hid (news_made wo [.int .i64 x.1] 3)
        clear hin hg0 hg1 hg2 hg3 hi' hz0 hz1 hz2 ba
        go_upto_region 9 with (at_builtin; refine wpList_append_news rfl (.tmp 35) (.tmp 41) 44 rfl w.heap.size 3 g0 _ 1 8 Try.underlying44 II.out.1 II.out.2.1 II.out.2.2.1 II.out.2.2.2 rfl (by decide) (.slice xa q xc) q (ks.map (Value.int .i64)) rfl OW1.out ⟨wo.heap.size, 0, none⟩ 1 1 [.int .i64 x.1] rfl rfl NEWS1.out (fun u hu => by simp at hu; subst hu; rfl) (by unfold maxLen; omega) (by omega) BS1.out ?_; intro v2 w2 hown2 hg2 hat2)
        clear hat2
        have G2 := Lib.hid (own_other G1.out hg2 (fun _ hk => (own_row OW1.out hk).2) (by decide))
        have B2 := Lib.hid (BA.out.grown hg2 BS1.out (fun k hk => (own_row OW1.out hk).1))
        have O2 := Lib.hid hown2
        obtain ⟨_, _, e3, _, hl3⟩ := rowAt_elem fcells_len (by decide) (RF.out.later B2.out) (i := j) (x := x) (by
          have := TK.out; exact (by
            have h1 := congrArg (fun l => l[j]?) this
            rw [List.getElem?_take_of_lt (Nat.lt_succ_self j)] at h1
            have hjl : (f.take j).length = j := by rw [List.length_take, ← HM.out]; omega
            rw [h1, List.getElem?_append_right (by omega), hjl]; simp))
        cases e3
        have L3 := Lib.hid hl3
        have ba := below_alloc (Below.refl w2.heap.size w2) (.cells (fcells x).toArray 59)
        have OW2 := Lib.hid (own_later G2.out ba)
        have O3 := Lib.hid (own_later O2.out ba)
        have B3 := Lib.hid (B2.out.trans (ba.mono B2.out.size))
        have NEWS2 := Lib.hid (news_made w2 (fcells x) 59)
        have BS2 : Hid (w.heap.size ≤ (w2.alloc (.cells (fcells x).toArray 59)).heap.size) := Lib.hid B3.out.size
        clear hown2 hg2 hl3 ba cx0 cx1
        have hfi : (Try.prog.info? 59).map (·.size) = some (fcells x).toArray.size := by rw [PW.out.1]; simp [PW.out.2.2.1, fcells_len]
        have HFI := Lib.hid hfi
        clear hfi
        go_wp2_with (first | (refine wpList_load_agg rfl 59 (.tmp 46) rfl b (off + j * 2) rfl (fcells x).toArray _ L3.out Try.underlying59 rfl HFI.out ?_) | (refine wpList_row_one rfl 27 59 (.tmp 47) rfl (fcells x).toArray rfl 2 i0 _ Try.underlying27 PW.out.1 PW.out.2.1 PW.out.2.2.1 (by decide) (by simp [fcells_len]) (by decide) ?_) | (at_builtin; refine wpList_append_news rfl (.tmp 43) (.tmp 48) 27 rfl w.heap.size 59 i0 _ 2 16 Try.underlying27 PW.out.1 PW.out.2.1 PW.out.2.2.1 PW.out.2.2.2 (by simp [Value.cells, fcells_len]) (by decide) u7 q (gl.flatMap fcells) rfl OW2.out ⟨w2.heap.size, 0, none⟩ 1 1 (fcells x) rfl (by rw [fcells_len]) NEWS2.out (fcells_one _) (by unfold maxLen; omega) (by omega) BS2.out ?_; intro v4 w4 hown4 hg4 hat4))
        clear hat4
        have O4 := Lib.hid (own_other O3.out hg4 (fun _ hk => (own_row OW2.out hk).2) (by decide))
        have B4 := Lib.hid (B3.out.grown hg4 BS2.out (fun k hk => (own_row OW2.out hk).1))
        have G4 : Hid (RfRow w.heap.size w4 v4 (gl ++ [x])) := Lib.hid (row_snoc HQ.out hown4)
        clear hown4 hg4
        go_roundg (m - (j + 1))
        case measure => rw [HK.out]; omega
        case rel =>
          refine ⟨j + 1, by omega, rfl, by go_num, ?_, ?_, B4.out⟩
          · rw [FS.out]; exact G4.out
          · rw [FS.out]
            unfold IntsIs
            rw [List.map_append, ← KS.out, List.length_append, show ks.length = q by rw [KS.out, List.length_map, HQ.out], List.map_append]
            exact O4.out
    · obtain rfl : j = m := by omega
      have G1 : Hid (RfRow w.heap.size wo u7 (frees f)) := Lib.hid (by have := GG.out; rw [HM.out, List.take_length] at this; exact this)
      clear GG hS hlt
      go_wp2_with fail
      go_loopg [12, 13] nl (fun kk s12 s13 wr => ∃ i : Nat, i ≤ nl ∧ kk = nl - i ∧ s13 = .int .i64 i ∧ s12 = .int .i64 (sumHs (l.take i) : Nat) ∧ wr = wo)
      case atStart => exact ⟨0, Nat.zero_le _, rfl, rfl, rfl, rfl⟩
      case round =>
        obtain ⟨i, hi, hk, rfl, rfl, h1⟩ := hrel
        obtain rfl : wo = wr := h1.symm
        have HKI := Lib.hid hk
        clear h1 hk
        by_cases hli : i < nl
        · as_aux_lemma =>
          obtain ⟨p, hp⟩ : ∃ p, l[i]? = some p := ⟨l[i]'(by rw [← HN.out]; exact hli), List.getElem?_eq_getElem _⟩
          obtain ⟨b, off, rfl, hbl, hl'⟩ := rowAt_elem pcells_len (by decide) (R.out.later BB.out) hp
          have c33 := (pk_lies hl').2.2
          have hT : sumHs (l.take (i + 1)) = sumHs (l.take i) + p.hs.length := by
            rw [List.take_add_one, hp]
            exact sumHs_snoc _ _
          have hle : sumHs (l.take (i + 1)) ≤ 60 := by
            have : sumHs l = sumHs (l.take (i + 1)) + sumHs (l.drop (i + 1)) := by
              conv => lhs; rw [← List.take_append_drop (i + 1) l]
              unfold sumHs
              rw [List.map_append, List.sum_append]
            have := SUM.out
            omega
          obtain ⟨s, hs⟩ : ∃ s, s = sumHs (l.take i) := ⟨_, rfl⟩
          obtain ⟨np, hnp⟩ : ∃ np, np = p.hs.length := ⟨_, rfl⟩
          rw [← hs, ← hnp] at hT
          rw [hT] at hle
          rw [← hnp] at c33
          rw [← hs]
          have HT := Lib.hid hT
          have i0 : (0 : Int) ≤ (i : Int) := Int.natCast_nonneg _
          have i1 : (i : Int) < (nl : Int) := by omega
          have s0 : (0 : Int) ≤ (s : Int) := Int.natCast_nonneg _
          have s1 : (0 : Int) ≤ (np : Int) := Int.natCast_nonneg _
          have s2 : (s : Int) ≤ 60 := by omega
          have s3 : (np : Int) ≤ 60 := by omega
          clear hp hl' hT hs hnp hle
          go_wp2
          go_roundg (nl - (i + 1))
          case measure => rw [HKI.out]; omega
          case rel => exact ⟨i + 1, by omega, rfl, by go_num, by rw [HT.out]; go_num, rfl⟩
        · obtain rfl : i = nl := by omega
          obtain ⟨most, hmost⟩ : ∃ most, most = sumHs l := ⟨_, rfl⟩
          have hm60 : most ≤ 60 := by rw [hmost]; exact SUM.out
          have e1 : sumHs (l.take i) = most := by rw [HN.out, List.take_length, hmost]
          have MOST := Lib.hid hmost
          rw [e1]
          clear hli e1 hmost
          have FL : Hid ((frees f).length ≤ 30) := Lib.hid (Nat.le_trans (frees_len f) (by rw [← HM.out]; exact hff))
          have P0 : Hid (RPl w.heap.size wo u7 (stAt k f l 0 0).1 (.slice none 0 0) (stAt k f l 0 0).2) := Lib.hid ⟨G1.out, ⟨rfl, .inl ⟨rfl, rfl⟩⟩⟩
          have FA := Lib.hid (frees_is_apart f)
          have FO2 := Lib.hid FO.out.frees
          have P0' : Hid (StOk k f l 0 0) := Lib.hid ⟨FA.out, FO2.out, FL.out, Nat.zero_le _⟩
          clear G1
          go_wp2_with fail
          go_loopg [7, 11, 14, 15, 16, 17, 18, 19] (most + 1) (fun kk s7 s11 s14 _ _ _ _ _ wr => ∃ n : Nat, n ≤ most + 1 ∧ kk = most + 1 - n ∧ s14 = .int .i64 n ∧ RPl w.heap.size wr s7 (stAt k f l n 0).1 s11 (stAt k f l n 0).2 ∧ StOk k f l n 0 ∧ Below w.heap.size w wr)
          case atStart => exact ⟨0, Nat.zero_le _, rfl, rfl, P0.out, P0'.out, BB.out⟩
          case round =>
            obtain ⟨n, hn, hk, rfl, hP, hS, hB⟩ := hrel
            have HKN := Lib.hid hk
            have PN := Lib.hid hP
            have SN := Lib.hid hS
            have BN := Lib.hid hB
            have n0 : (0 : Int) ≤ (n : Int) := Int.natCast_nonneg _
            have n61 : (n : Int) ≤ 61 := by omega
            clear hk hP hS hB P0 P0' FL FA FO2
            by_cases hlt : n ≤ most
            · have n1 : (n : Int) ≤ (most : Int) := by omega
              go_wp2_with fail
              go_loopg [7, 11, 15, 16, 17, 18, 19] i (fun kk s7 s11 s15 _ _ _ _ wr => ∃ j : Nat, j ≤ i ∧ kk = i - j ∧ s15 = .int .i64 j ∧ RPl w.heap.size wr s7 (stAt k f l n j).1 s11 (stAt k f l n j).2 ∧ StOk k f l n j ∧ Below w.heap.size w wr)
              case atStart => exact ⟨0, Nat.zero_le _, rfl, rfl, PN.out, SN.out, BN.out⟩
              case round =>
                obtain ⟨j, hj, hk, rfl, hP, hS, hB⟩ := hrel
                obtain ⟨wj, rfl⟩ : ∃ wj : World, wj = wr := ⟨_, rfl⟩
                have HKJ := Lib.hid hk
                have PJ := Lib.hid hP
                have SJ := Lib.hid hS
                have BJ := Lib.hid hB
                have j0 : (0 : Int) ≤ (j : Int) := Int.natCast_nonneg _
                clear hk hP hS hB PN SN BN
                by_cases hlj : j < i
                · as_aux_lemma =>
                  obtain ⟨p, hp⟩ : ∃ p, l[j]? = some p := ⟨l[j]'(by rw [← HN.out]; exact hlj), List.getElem?_eq_getElem _⟩
                  have j1 : (j : Int) < (i : Int) := by omega
                  have HP := Lib.hid hp
                  obtain ⟨b, off, rfl, hbW, hl0⟩ := rowAt_elem pcells_len (by decide) R.out hp
                  obtain ⟨_, _, e9, hbl, hl'⟩ := rowAt_elem pcells_len (by decide) (R.out.later BJ.out) hp
                  cases e9
                  have c33 := (pk_lies hl').2.2
                  have LID := Lib.hid (show w.rangeAt b (off + j * 34) (idCells p.id) from (pk_lies hl0).1)
                  clear hl0
                  have PO := Lib.hid (OK.out p (List.mem_of_getElem? hp))
                  have PZ := Lib.hid (SZ.out p (List.mem_of_getElem? hp))
                  have SA := set_any (c := p.cap) (PO.out.later BJ.out).rd (by have := PO.out.few; omega)
                  obtain ⟨pa, hpa⟩ : ∃ pa, pa = p.ad := ⟨_, rfl⟩
                  obtain ⟨np, hnp⟩ : ∃ np, np = p.hs.length := ⟨_, rfl⟩
                  obtain ⟨so, hso⟩ : ∃ so, so = setOf p.hs := ⟨_, rfl⟩
                  rw [← hpa, ← hnp] at c33 SA
                  rw [← hso] at SA
                  have SA' := Lib.hid SA
                  have SO := Lib.hid hso
                  clear hp hl' hpa hnp hso SA
                  go_wp2_with fail
                  refine SA'.out.mono ?_
                  rintro e w2 ⟨v, rfl, hI, hB2⟩
                  obtain ⟨xa, xc, rfl⟩ := own_slice hI
                  obtain ⟨m2, hm2⟩ : ∃ m2, m2 = so.length := ⟨_, rfl⟩
                  have KN : Hid (m2 = keyN p) := Lib.hid (by rw [hm2, SO.out, setOf_len])
                  rw [← hm2]
                  have M2 := Lib.hid hm2
                  have I2 := Lib.hid (own_mono (show IntsIs wj.heap.size w2 _ so from hI) BJ.out.size)
                  have B2 := Lib.hid (BJ.out.trans (hB2.mono BJ.out.size))
                  have P2 := Lib.hid (PJ.out.later hB2)
                  clear hI hB2 hm2 SA' c33 PJ hbl
                  by_cases hmn : m2 = n
                  · subst hmn
                    obtain ⟨g0, hg0⟩ : ∃ g0, g0 = (stAt k f l m2 j).1 := ⟨_, rfl⟩
                    obtain ⟨o0, ho0⟩ : ∃ o0, o0 = (stAt k f l m2 j).2 := ⟨_, rfl⟩
                    have NXT : Hid (∀ s : Pl, give p (k - (m2 : Int)).toNat ⟨g0, [], o0⟩ = s → stAt k f l m2 (j + 1) = (s.left, s.out)) := Lib.hid (fun s h => stAt_on HP.out KN.out.symm (by rw [← hg0, ← ho0]; exact h))
                    have P3 : Hid (RPl w.heap.size w2 u7 g0 u11 o0) := Lib.hid (by rw [hg0, ho0]; exact P2.out)
                    have GA : Hid (Apart g0) := Lib.hid (by rw [hg0]; exact SJ.out.apart)
                    have GO : Hid (LeftOk g0) := Lib.hid (by rw [hg0]; exact SJ.out.ok)
                    have GL : Hid (g0.length ≤ 30) := Lib.hid (by rw [hg0]; exact SJ.out.few)
                    have OL : Hid (o0.length ≤ 2000 * (m2 * 12 + j)) := Lib.hid (by rw [ho0]; exact SJ.out.short)
                    have ENDJ : Hid (∀ (s : Pl) (t : Nat), give p (k - (m2 : Int)).toNat ⟨g0, [], o0⟩ = s → Apart s.left → LeftOk s.left → s.left.length ≤ 30 → s.out.length ≤ o0.length + t → t ≤ 2000 → StOk k f l m2 (j + 1)) := Lib.hid (fun s t h1 h2 h3 h4 h5 h6 => by
                      have e := NXT.out s h1
                      have := OL.out
                      refine ⟨by rw [e]; exact h2, by rw [e]; exact h3, by rw [e]; exact h4, ?_⟩
                      rw [e]
                      show s.out.length ≤ _
                      omega)
                    clear hg0 ho0 P2 SJ
                    obtain ⟨q, hq⟩ : ∃ q, q = (k - (m2 : Int)).toNat := ⟨_, rfl⟩
                    have HQ := Lib.hid hq
                    have q1 : q ≤ 2000 := by omega
                    rw [← hq] at NXT ENDJ
                    have I3 : Hid (IntsIs w.heap.size w2 (.slice xa m2 xc) (so ++ [])) := Lib.hid (by rw [List.append_nil]; have := I2.out; rw [← M2.out] at this; show World.ownsRow _ _ _ _ _ so.length _; rw [← M2.out]; exact this)
                    have IN0 : Hid (InOk g0 o0 0 ⟨g0, [], o0⟩) := Lib.hid ⟨GA.out, GO.out, GL.out, Nat.le_refl _, Nat.le_refl _⟩
                    have m0 : (0 : Int) ≤ (m2 : Int) := Int.natCast_nonneg _
                    have SL : Hid (so.length ≤ 1000) := Lib.hid (by rw [SO.out]; have := setOf_le p.hs; have := PO.out.few; omega)
                    have SM : Hid (∀ x, x ∈ so ↔ x ∈ p.hs) := Lib.hid (fun x => by rw [SO.out]; exact setOf_mem)
                    clear hq I2
                    go_wp2_with fail
                    go_loopg [7, 11, 16, 17, 18, 19] q (fun kk s7 s11 s16 s17 _ _ wr => ∃ (t : Nat) (z : Int) (s : Pl), kk = q - t ∧ t ≤ q ∧ s17 = .int .i64 z ∧ z = (m2 : Int) + (t : Int) ∧ give p q ⟨g0, [], o0⟩ = give p (q - t) s ∧ RPl w.heap.size wr s7 s.left s11 s.out ∧ IntsIs w.heap.size wr s16 (so ++ s.gs) ∧ InOk g0 o0 t s ∧ Below w.heap.size w wr)
                    case atStart => exact ⟨0, (m2 : Int), ⟨g0, [], o0⟩, rfl, Nat.zero_le _, rfl, by simp, rfl, P3.out, I3.out, IN0.out, B2.out⟩
                    case round =>
                      obtain ⟨t, z, s, hkt, htq, rfl, hz, hgv, hP, hI, hO, hB⟩ := hrel
                      obtain ⟨wt, rfl⟩ : ∃ wt : World, wt = wr := ⟨_, rfl⟩
                      have HKT := Lib.hid hkt
                      have HZ := Lib.hid hz
                      have GV := Lib.hid hgv
                      have OO := Lib.hid hO
                      have BT := Lib.hid hB
                      have OUT := Lib.hid hP.out
                      have hG := hP.g
                      clear hkt hgv hO hB hP P3 I3 IN0 B2 GA GO GL
                      by_cases hzk : z < k
                      · obtain ⟨ga, gc, rfl⟩ := own_slice hG
                        obtain ⟨ha, hc, rfl⟩ := own_slice hI
                        have htq' : t < q := by have := HQ.out; omega
                        obtain ⟨gn, hgn⟩ : ∃ gn, gn = s.left.length := ⟨_, rfl⟩
                        obtain ⟨hn', hhn⟩ : ∃ hn', hn' = (so ++ s.gs).length := ⟨_, rfl⟩
                        have gn30 : gn ≤ 30 := by rw [hgn]; exact OO.out.few
                        have hn3 : hn' ≤ 4000 := by rw [hhn, List.length_append]; have := SL.out; have := OO.out.gl; omega
                        obtain ⟨_, _, e4, _, hl4⟩ := rowAt_elem pcells_len (by decide) (R.out.later BT.out) HP.out
                        cases e4
                        have c32 := (pk_lies hl4).2.1
                        have hbt : b < wt.heap.size := by
                          have := World.block_lt_of_cell? wt _ c32
                          exact this
                        obtain ⟨sz, hsz'⟩ : ∃ sz, sz = p.size := ⟨_, rfl⟩
                        rw [← hsz'] at c32
                        have BE := best_any (c := gc) (ch := hc) (size := sz) (rowAt_own hG) (by omega) (IntsIs.rd hI) (by omega)
                        rw [← hgn, ← hhn] at BE
                        rw [← hgn, ← hhn]
                        have BE' := Lib.hid BE
                        have GROW : Hid (wt.ownsRow w.heap.size 59 2 (.slice ga gn gc) gn (s.left.flatMap fcells)) := Lib.hid (by have := hG; unfold RfRow at this; rw [← hgn] at this; exact this)
                        have HROW : Hid (wt.ownsRow w.heap.size 3 1 (.slice ha hn' hc) hn' ((so ++ s.gs).map (Value.int .i64))) := Lib.hid (by have := hI; unfold IntsIs at this; rw [← hhn] at this; exact this)
                        have GN := Lib.hid hgn
                        have HHN := Lib.hid hhn
                        have SZP := Lib.hid hsz'
                        clear hz hG hI hl4 BE hgn hhn hsz'
                        go_wp2_with fail
                        refine BE'.out.mono ?_
                        rintro e w5 ⟨r, q5, rfl, hbest, h5⟩
                        have B5 := Lib.hid (show Below wt.heap.size wt w5 by rw [h5]; exact below_drewN (Below.refl _ _) _)
                        have hmem : ∀ x, x ∈ so ++ s.gs ↔ x ∈ p.hs ++ s.gs := fun x => by rw [List.mem_append, List.mem_append, SM.out x]
                        have HME := Lib.hid hmem
                        clear h5 BE' hmem
                        rcases Classical.em (r = -1) with hr1 | hr1
                        · subst hr1
                          have GS := Lib.hid (give_stop (best_none OO.out.apart HME.out (by rw [← SZP.out]; exact hbest)) (q - t))
                          have NX := Lib.hid (NXT.out s (GV.out.trans GS.out))
                          have EX := Lib.hid (ENDJ.out s t (GV.out.trans GS.out) OO.out.apart OO.out.ok OO.out.few OO.out.short (by omega))
                          have PF : Hid (RPl w.heap.size w5 (.slice ga gn gc) s.left u11 s.out) := Lib.hid ⟨by unfold RfRow; rw [← GN.out]; exact own_later GROW.out B5.out, own_later OUT.out B5.out⟩
                          have BF := Lib.hid (BT.out.trans (B5.out.mono BT.out.size))
                          clear hbest c32
                          go_wp2
                          go_roundg (i - (j + 1))
                          case measure => rw [HKJ.out]; omega
                          case rel => exact ⟨j + 1, by omega, rfl, by go_num, by rw [NX.out]; exact PF.out, EX.out, BF.out⟩
                        · obtain ⟨bi, rfl⟩ : ∃ bi : Nat, r = (bi : Int) := by
                            rcases hbest with ⟨h1, _⟩ | ⟨bi, _, h1, _⟩
                            · exact absurd h1 hr1
                            · exact ⟨bi, h1⟩
                          obtain ⟨x, hx, hfx, hgo⟩ := give_next OO.out.apart HME.out (by rw [← SZP.out]; exact hbest)
                          obtain ⟨xw, xl⟩ := x
                          have hle := fitq_le hfx
                          simp only at hle hgo
                          rw [← SZP.out] at hgo
                          have hro := OO.out.ok _ (List.mem_of_getElem? hx)
                          simp only at hro
                          have hbl2 : bi < gn := by rw [GN.out]; exact (List.getElem?_eq_some_iff.1 hx).1
                          have pz0 : 0 ≤ sz := by rw [SZP.out]; exact PZ.out.1
                          obtain ⟨_, xl0, xl1⟩ := hro
                          have b0 : (0 : Int) ≤ (bi : Int) := Int.natCast_nonneg _
                          have b1 : (bi : Int) < (gn : Int) := by omega
                          have b2 : decide ((bi : Int) < 0) = false := decide_eq_false (by omega)
                          have b3 : ¬ (bi : Int) < 0 := by omega
                          have G5 := Lib.hid (own_later GROW.out B5.out)
                          have H5 := Lib.hid (own_later HROW.out B5.out)
                          have O5 := Lib.hid (own_later OUT.out B5.out)
                          have BT5 := Lib.hid (BT.out.trans (B5.out.mono BT.out.size))
                          have BZ5 := Lib.hid BT5.out.size
                          have GST := Lib.hid (GV.out.trans (hgo (q - t) (by omega)))
                          have HX := Lib.hid hx
                          obtain ⟨i0, hi', hz0, hz1, hz2⟩ := info_parts info_rf
                          have PW := Lib.hid (⟨hi', hz0, hz1, hz2⟩ : Try.prog.info? 59 = some i0 ∧ i0.zero = some (.agg (fcells (0, 0)).toArray) ∧ i0.size = 2 ∧ i0.bytes = 16)
                          have ONES : Hid (∀ u ∈ s.left.flatMap fcells, u.oneCell' = true) := Lib.hid (fun u hu => by
                            obtain ⟨y, _, hy⟩ := List.mem_flatMap.1 hu
                            exact fcells_one y u hy)
                          have c32' := cell_below c32 B5.out
                          have hle' : sz ≤ xl := by rw [SZP.out]; exact hle
                          clear hbest hfx hgo hx hi' hz0 hz1 hz2 GROW HROW OUT BT B5 c32 hle hr1
                          go_upto_region 31 with (at_builtin; refine wpList_append_rows _ rfl (.tmp 101) (.tmp 102) 27 rfl w.heap.size w.heap.size 59 i0 _ 2 16 Try.underlying27 PW.out.1 PW.out.2.1 PW.out.2.2.1 PW.out.2.2.2 (by simp [Value.cells, fcells_len]) (by decide) (.slice none 0 0) 0 [] rfl ⟨rfl, .inl ⟨rfl, rfl⟩⟩ (.slice ga gn gc) gn (s.left.flatMap fcells) rfl G5.out ONES.out (by unfold maxLen; omega) (by omega) BZ5.out ?_; intro v6 w6 hown6 hg6 hat6)
                          clear hat6
                          rw [Nat.zero_add, List.nil_append] at hown6
                          have hb6 := below_none hg6
                          obtain ⟨xm, cm, rfl⟩ := own_slice hown6
                          have G6' : RfRow w.heap.size w6 (.slice xm gn cm) s.left := by unfold RfRow; rw [← GN.out]; exact hown6
                          obtain ⟨mb, rfl, hmb, hlm, hgc⟩ := own_elem fcells_len (by decide) hown6 HX.out
                          obtain ⟨cm0, cm1⟩ := fr_cells hlm
                          have G6 := Lib.hid G6'
                          have H6 := Lib.hid (own_later H5.out hb6)
                          have O6 := Lib.hid (own_later O5.out hb6)
                          have BT6 := Lib.hid (BT5.out.trans (hb6.mono BT5.out.size))
                          have c326 := cell_below c32' hb6
                          have fz := (World.ownsRow.frozenAt hown6 (bi * 2 + 1))
                          have ws : IntKind.u64.wrap (xl - sz) = xl - sz := by
                            have h1 : IntKind.u64.min = 0 := rfl
                            exact IntWalk.u64_in _ (by omega)
                          have hbm : b ≠ mb := by
                            have h1 : w.heap.size ≤ mb := (own_row hown6 rfl).1
                            have h2 : b < w.heap.size := hbW
                            omega
                          have MB : Hid (w.heap.size ≤ mb) := Lib.hid (own_row hown6 rfl).1
                          obtain ⟨g7, g7g⟩ := fr_store (v' := xl - sz) G6' GN.out HX.out
                          have c7 := cell_set (q := ⟨mb, bi * 2 + 1, none⟩) c326 (by first | (simp; done) | (simp; exact fun h => absurd h hbm)) (.int .u64 (xl - sz))
                          have G7 := Lib.hid g7
                          have H7 := Lib.hid (own_other H6.out g7g (fun _ hk => (own_row hown6 hk).2) (by decide))
                          have O7 := Lib.hid (own_other O6.out g7g (fun _ hk => (own_row hown6 hk).2) (by decide))
                          have BT7 := Lib.hid (BT6.out.setCell MB.out (.int .u64 (xl - sz)) : Below w.heap.size w (w6.setCell ⟨mb, bi * 2 + 1, none⟩ (.int .u64 (xl - sz))))
                          have cw7 := cell_set (q := ⟨mb, bi * 2 + 1, none⟩) cm0 (by simp) (.int .u64 (xl - sz))
                          clear hg6 hb6 hown6 G6' hlm G5 H5 O5 BT5 c32' g7 g7g
                          refine wp_region_held_drew (S := fun w' => w'.cell? ⟨b, off + j * 34 + 32, none⟩ = some (.int .u64 sz)) (by kernel_rfl) (show w6.drew.cell? _ = _ from c326) (fun hHeld => ?_)
                          refine wpAnyH_take (i := 0) (v := ?_) rfl (by kernel_rfl) (by kernel_rfl) (by kernel_rfl) (fun _ _ _ h => h) (Or.inl ⟨by kernel_rfl, ?_⟩) (by assumption) ?_
                          rotate_left
                          · (intro w hSw; ((try dsimp only at hSw); go_simp; try with_reducible rfl))
                          try simp only [Act.put, List.getElem_toArray, List.getElem_cons_succ, List.getElem_cons_zero, List.setIfInBounds_toArray, List.set_cons_zero, List.set_cons_succ]
                          refine wpAnyH_take (i := 1) (v := ?_) rfl (by kernel_rfl) (by kernel_rfl) (by kernel_rfl) (fun _ _ _ h => h) (Or.inl ⟨by kernel_rfl, ?_⟩) (by assumption) ?_
                          rotate_left
                          · (intro w hSw; ((try dsimp only at hSw); go_simp; try with_reducible rfl))
                          try simp only [Act.put, List.getElem_toArray, List.getElem_cons_succ, List.getElem_cons_zero, List.setIfInBounds_toArray, List.set_cons_zero, List.set_cons_succ]
                          refine wpAnyH_take (i := 2) (v := ?_) rfl (by kernel_rfl) (by kernel_rfl) (by kernel_rfl) (fun _ _ _ h => h) (Or.inl ⟨by kernel_rfl, ?_⟩) (by assumption) ?_
                          rotate_left
                          · (intro w hSw; ((try dsimp only at hSw); go_simp; try with_reducible rfl))
                          try simp only [Act.put, List.getElem_toArray, List.getElem_cons_succ, List.getElem_cons_zero, List.setIfInBounds_toArray, List.set_cons_zero, List.set_cons_succ]
                          refine wpAnyH_take (i := 3) (v := ?_) rfl (by kernel_rfl) (by kernel_rfl) (by kernel_rfl) (fun _ _ _ h => h) (Or.inl ⟨by kernel_rfl, ?_⟩) (by assumption) ?_
                          rotate_left
                          · (intro w hSw; ((try dsimp only at hSw); go_simp; try with_reducible rfl))
                          try simp only [Act.put, List.getElem_toArray, List.getElem_cons_succ, List.getElem_cons_zero, List.setIfInBounds_toArray, List.set_cons_zero, List.set_cons_succ]
                          refine wpAnyH_take (i := 5) (v := ?_) rfl (by kernel_rfl) (by kernel_rfl) (by kernel_rfl) (fun _ _ _ h => h) (Or.inl ⟨by kernel_rfl, ?_⟩) (by assumption) ?_
                          rotate_left
                          · (intro w hSw; ((try dsimp only at hSw); go_simp; try with_reducible rfl))
                          try simp only [Act.put, List.getElem_toArray, List.getElem_cons_succ, List.getElem_cons_zero, List.setIfInBounds_toArray, List.set_cons_zero, List.set_cons_succ]
                          refine wpAnyH_take (i := 6) (v := ?_) rfl (by kernel_rfl) (by kernel_rfl) (by kernel_rfl) (fun _ _ _ h => h) (Or.inl ⟨by kernel_rfl, ?_⟩) (by assumption) ?_
                          rotate_left
                          · (intro w hSw; ((try dsimp only at hSw); go_simp; try with_reducible rfl))
                          try simp only [Act.put, List.getElem_toArray, List.getElem_cons_succ, List.getElem_cons_zero, List.setIfInBounds_toArray, List.set_cons_zero, List.set_cons_succ]
                          refine wpAnyH_take (i := 7) (v := ?_) rfl (by kernel_rfl) (by kernel_rfl) (by kernel_rfl) (fun _ _ _ h => h) (Or.inl ⟨by kernel_rfl, ?_⟩) (by assumption) ?_
                          rotate_left
                          · (intro w hSw; ((try dsimp only at hSw); go_simp; try with_reducible rfl))
                          try simp only [Act.put, List.getElem_toArray, List.getElem_cons_succ, List.getElem_cons_zero, List.setIfInBounds_toArray, List.set_cons_zero, List.set_cons_succ]
                          refine wpAnyH_take (i := 8) (v := ?_) rfl (by kernel_rfl) (by kernel_rfl) (by kernel_rfl) (fun _ _ _ h => h) (Or.inl ⟨by kernel_rfl, ?_⟩) (by assumption) ?_
                          rotate_left
                          · (intro w hSw; ((try dsimp only at hSw); go_simp; try with_reducible rfl))
                          try simp only [Act.put, List.getElem_toArray, List.getElem_cons_succ, List.getElem_cons_zero, List.setIfInBounds_toArray, List.set_cons_zero, List.set_cons_succ]
                          refine wpAnyH_take (i := 9) (v := ?_) rfl (by kernel_rfl) (by kernel_rfl) (by kernel_rfl) (fun _ _ _ h => h) (Or.inl ⟨by kernel_rfl, ?_⟩) (by assumption) ?_
                          rotate_left
                          · (intro w hSw; ((try dsimp only at hSw); go_simp; try with_reducible rfl))
                          try simp only [Act.put, List.getElem_toArray, List.getElem_cons_succ, List.getElem_cons_zero, List.setIfInBounds_toArray, List.set_cons_zero, List.set_cons_succ]
                          refine wpAnyH_ready (rs := [4]) (by kernel_rfl) (by simp) (AllReadyH.cons rfl (fun K hK => ?_) AllReadyH.nil)
                          go_simp
                          refine hK.out _ _ hHeld (fun hH => ?_)
                          clear hHeld hK
                          try simp only [Act.put, List.getElem_toArray, List.getElem_cons_succ, List.getElem_cons_zero, List.setIfInBounds_toArray, List.set_cons_zero, List.set_cons_succ]
                          refine wpAnyH_take (i := 10) (v := ?_) rfl (by kernel_rfl) (by kernel_rfl) (by kernel_rfl) (fun _ _ _ h => h) (Or.inl ⟨by kernel_rfl, ?_⟩) (by assumption) ?_
                          rotate_left
                          · (intro w hSw; ((try dsimp only at hSw); go_simp; try with_reducible rfl))
                          try simp only [Act.put, List.getElem_toArray, List.getElem_cons_succ, List.getElem_cons_zero, List.setIfInBounds_toArray, List.set_cons_zero, List.set_cons_succ]
                          refine wpAnyH_take (i := 11) (v := ?_) rfl (by kernel_rfl) (by kernel_rfl) (by kernel_rfl) (fun _ _ _ h => h) (Or.inl ⟨by kernel_rfl, ?_⟩) (by assumption) ?_
                          rotate_left
                          · (intro w hSw; ((try dsimp only at hSw); go_simp; try with_reducible rfl))
                          try simp only [Act.put, List.getElem_toArray, List.getElem_cons_succ, List.getElem_cons_zero, List.setIfInBounds_toArray, List.set_cons_zero, List.set_cons_succ]
                          refine wpAnyH_take (i := 12) (v := ?_) rfl (by kernel_rfl) (by kernel_rfl) (by kernel_rfl) (fun _ _ _ h => h) (Or.inl ⟨by kernel_rfl, ?_⟩) (by assumption) ?_
                          rotate_left
                          · (intro w hSw; ((try dsimp only at hSw); go_simp; try with_reducible rfl))
                          try simp only [Act.put, List.getElem_toArray, List.getElem_cons_succ, List.getElem_cons_zero, List.setIfInBounds_toArray, List.set_cons_zero, List.set_cons_succ]
                          refine wpAnyH_ready (rs := [13]) (by kernel_rfl) (by simp) (AllReadyH.cons rfl (fun K hK => ?_) AllReadyH.nil)
                          go_simp
                          refine hK.out _ _ (show (w6.drew.setCell _ _).cell? _ = _ from c7) (fun hHeld => ?_)
                          clear hH hK
                          try simp only [Act.put, List.getElem_toArray, List.getElem_cons_succ, List.getElem_cons_zero, List.setIfInBounds_toArray, List.set_cons_zero, List.set_cons_succ]
                          refine wpAnyH_done (by kernel_rfl) ?_ _
                          clear hHeld ws fz c326 cm0 cm1
                          generalize w6.setCell ⟨mb, bi * 2 + 1, none⟩ (.int .u64 (xl - sz)) = w7 at G7 H7 O7 BT7 c7 cw7 ⊢
                          clear c7 G6 H6 O6 BT6
                          have z0 : 0 ≤ z := by have := HZ.out; omega
                          obtain ⟨g1, hg0, hg1, hg2, hg3⟩ := info_parts info_int
                          have IF := Lib.hid (⟨hg0, hg1, hg2, hg3⟩ : Try.prog.info? 3 = some g1 ∧ g1.zero = some (.int .i64 0) ∧ g1.size = 1 ∧ g1.bytes = 8)
                          have ba8 := (below_drew (Below.refl w7.heap.size w7)).trans (below_alloc (Below.refl w7.drew.heap.size w7.drew) (.cells #[.int .i64 xw] 3))
                          have H8 := Lib.hid (own_later H7.out ba8)
                          have G8 := Lib.hid (own_later G7.out ba8)
                          have O8 := Lib.hid (own_later O7.out ba8)
                          have B8 := Lib.hid (BT7.out.trans (ba8.mono BT7.out.size))
                          have BS8 := Lib.hid B8.out.size
                          have NEWS8 : Hid (∀ (q : Nat) (u : Value), ([.int .i64 xw] : List Value)[q]? = some u → (w7.drew.alloc (.cells #[.int .i64 xw] 3)).cell? ((⟨w7.drew.heap.size, 0, none⟩ : Addr).add q) = some u) := Lib.hid (news_made w7.drew [.int .i64 xw] 3)
                          clear hg0 hg1 hg2 hg3 ba8 G7 H7 O7 BT7
                          go_upto_region 34 with (at_builtin; refine wpList_append_news rfl (.tmp 118) (.tmp 124) 44 rfl w.heap.size 3 g1 _ 1 8 Try.underlying44 IF.out.1 IF.out.2.1 IF.out.2.2.1 IF.out.2.2.2 rfl (by decide) (.slice ha hn' hc) hn' ((so ++ s.gs).map (Value.int .i64)) rfl H8.out ⟨w7.drew.heap.size, 0, none⟩ 1 1 [.int .i64 xw] rfl rfl NEWS8.out (fun u hu => by simp at hu; subst hu; rfl) (by unfold maxLen; omega) (by omega) BS8.out ?_; intro v9 w9 hown9 hg9 hat9)
                          clear hat9
                          have G9 := Lib.hid (own_other G8.out hg9 (fun _ hk => (own_row H8.out hk).2) (by decide) : RfRow w.heap.size w9 (.slice (some ⟨mb, 0, none⟩) gn cm) (s.left.set bi (xw, xl - sz)))
                          have O9 := Lib.hid (own_other O8.out hg9 (fun _ hk => (own_row H8.out hk).2) (by decide) : RmRow w.heap.size w9 u11 s.out)
                          have B9 := Lib.hid (B8.out.grown hg9 BS8.out (fun k hk => (own_row H8.out hk).1))
                          have I9 : Hid (IntsIs w.heap.size w9 v9 (so ++ (s.gs ++ [xw]))) := Lib.hid (by
                            unfold IntsIs
                            rw [← List.append_assoc, List.length_append, ← HHN.out, List.map_append]
                            exact hown9)
                          clear hown9 hg9 cw7 G8 O8 H8 B8
                          have hxs : (s.left.set bi (xw, xl - sz))[bi]? = some (xw, xl - sz) := List.getElem?_set_self (by rw [← GN.out]; exact hbl2)
                          obtain ⟨_, e10, _, hl10, _⟩ := own_elem fcells_len (by decide) (show w9.ownsRow w.heap.size 59 2 (.slice (some ⟨mb, 0, none⟩) gn cm) gn ((s.left.set bi (xw, xl - sz)).flatMap fcells) by have := G9.out; unfold RfRow at this; rw [List.length_set, ← GN.out] at this; exact this) hxs
                          cases e10
                          have cw9 := (fr_cells hl10).1
                          have CW9 := Lib.hid cw9
                          obtain ⟨j0', hj0, hj1, hj2, hj3⟩ := info_parts info_rm
                          have PM := Lib.hid (⟨hj0, hj1, hj2, hj3⟩ : Try.prog.info? 40 = some j0' ∧ j0'.zero = some (.agg (mcells ⟨[], 0⟩).toArray) ∧ j0'.size = 33 ∧ j0'.bytes = 40)
                          have ba := (below_drew (Below.refl w9.heap.size w9)).trans (below_alloc (Below.refl w9.drew.heap.size w9.drew) (.cells (mcells ⟨p.id, xw⟩).toArray 40))
                          obtain ⟨on, hon⟩ : ∃ on, on = s.out.length := ⟨_, rfl⟩
                          have onl : on ≤ 3000000 := by
                            rw [hon]
                            have h1 := OO.out.short
                            have h2 := OL.out
                            omega
                          have O10 : Hid ((w9.drew.alloc (.cells (mcells ⟨p.id, xw⟩).toArray 40)).ownsRow w.heap.size 40 33 u11 on (s.out.flatMap mcells)) := Lib.hid (by have := own_later O9.out ba; rw [hon]; exact this)
                          have G10 := Lib.hid (own_later G9.out ba)
                          have I10 := Lib.hid (own_later I9.out ba)
                          have B10 := Lib.hid (B9.out.trans (ba.mono B9.out.size))
                          have CW10 := Lib.hid (cell_below cw9 ba)
                          have BS10 := Lib.hid B10.out.size
                          have NEWS10 := Lib.hid (news_made w9.drew (mcells ⟨p.id, xw⟩) 40)
                          have ON := Lib.hid hon
                          clear hj0 hj1 hj2 hj3 ba hon hl10 hxs cw9
                          go_wp2_with fail
                          refine wp_region_held_drew (S := fun w' => Below w.heap.size w w' ∧ w'.cell? ⟨mb, bi * 2, none⟩ = some (.int .i64 xw)) (by kernel_rfl) ⟨B9.out.trans (below_drew (Below.refl _ _)), (show w9.drew.cell? _ = _ from CW9.out)⟩ (fun hHeld => ?_)
                          refine wpAnyH_take (i := 0) (v := ?_) rfl (by kernel_rfl) (by kernel_rfl) (by kernel_rfl) (fun _ _ _ h => h) (Or.inl ⟨by kernel_rfl, ?_⟩) (by assumption) ?_
                          rotate_left
                          · (intro w hSw; (go_simp; try with_reducible rfl))
                          try simp only [Act.put, List.getElem_toArray, List.getElem_cons_succ, List.getElem_cons_zero, List.setIfInBounds_toArray, List.set_cons_zero, List.set_cons_succ]
                          refine wpAnyH_take (i := 1) (v := ?_) rfl (by kernel_rfl) (by kernel_rfl) (by kernel_rfl) (fun _ _ _ h => h) (Or.inl ⟨by kernel_rfl, ?_⟩) (by assumption) ?_
                          rotate_left
                          · (intro w hSw; (go_simp; try with_reducible rfl))
                          try simp only [Act.put, List.getElem_toArray, List.getElem_cons_succ, List.getElem_cons_zero, List.setIfInBounds_toArray, List.set_cons_zero, List.set_cons_succ]
                          refine wpAnyH_take (i := 2) (v := ?_) rfl (by kernel_rfl) (by kernel_rfl) (by kernel_rfl) (fun _ _ _ h => h) (Or.inl ⟨by kernel_rfl, ?_⟩) (by assumption) ?_
                          rotate_left
                          · (intro w hSw; (go_simp; try with_reducible rfl))
                          try simp only [Act.put, List.getElem_toArray, List.getElem_cons_succ, List.getElem_cons_zero, List.setIfInBounds_toArray, List.set_cons_zero, List.set_cons_succ]
                          refine wpAnyH_take (i := 3) (v := ?_) rfl (by kernel_rfl) (by kernel_rfl) (by kernel_rfl) (fun _ _ _ h => h) (Or.inl ⟨by kernel_rfl, ?_⟩) (by assumption) ?_
                          rotate_left
                          · (intro w hSw; (go_simp; try with_reducible rfl))
                          try simp only [Act.put, List.getElem_toArray, List.getElem_cons_succ, List.getElem_cons_zero, List.setIfInBounds_toArray, List.set_cons_zero, List.set_cons_succ]
                          refine wpAnyH_take (i := 4) (v := ?_) rfl (by kernel_rfl) (by kernel_rfl) (by kernel_rfl) (fun _ _ _ h => h) (Or.inl ⟨by kernel_rfl, ?_⟩) (by assumption) ?_
                          rotate_left
                          · (intro w hSw; (go_simp; try with_reducible rfl))
                          try simp only [Act.put, List.getElem_toArray, List.getElem_cons_succ, List.getElem_cons_zero, List.setIfInBounds_toArray, List.set_cons_zero, List.set_cons_succ]
                          refine' wpAnyH_take (i := 5) (v := _) rfl (by kernel_rfl) (by kernel_rfl) (by kernel_rfl) (fun _ _ _ h => h) (yieldsIf_load_mid (by kernel_rfl) _ _ rfl _ _ rfl (idCells p.id) _ ?hS5 Try.underlying37 rfl (by rw [size_id, idCells_len])) (by assumption) ?rest5
                          case hS5 => exact fun w' hw => rangeAt_below LID.out hw.1
                          case rest5 =>
                          try simp only [Act.put, List.getElem_toArray, List.getElem_cons_succ, List.getElem_cons_zero, List.setIfInBounds_toArray, List.set_cons_zero, List.set_cons_succ]
                          refine wpAnyH_take (i := 6) (v := ?_) rfl (by kernel_rfl) (by kernel_rfl) (by kernel_rfl) (fun _ _ _ h => h) (Or.inl ⟨by kernel_rfl, ?_⟩) (by assumption) ?_
                          rotate_left
                          · (intro w hSw; (have q9 := hSw.2; go_simp; try with_reducible rfl))
                          try simp only [Act.put, List.getElem_toArray, List.getElem_cons_succ, List.getElem_cons_zero, List.setIfInBounds_toArray, List.set_cons_zero, List.set_cons_succ]
                          refine wpAnyH_take (i := 7) (v := ?_) rfl (by kernel_rfl) (by kernel_rfl) (by kernel_rfl) (fun _ _ _ h => h) (Or.inl ⟨by kernel_rfl, ?_⟩) (by assumption) ?_
                          rotate_left
                          · (intro w hSw; (have q9 := hSw.2; go_simp; try with_reducible rfl))
                          try simp only [Act.put, List.getElem_toArray, List.getElem_cons_succ, List.getElem_cons_zero, List.setIfInBounds_toArray, List.set_cons_zero, List.set_cons_succ]
                          refine wpAnyH_take (i := 8) (v := ?_) rfl (by kernel_rfl) (by kernel_rfl) (by kernel_rfl) (fun _ _ _ h => h) (Or.inl ⟨by kernel_rfl, ?_⟩) (by assumption) ?_
                          rotate_left
                          · (intro w hSw; (have q9 := hSw.2; go_simp; try with_reducible rfl))
                          try simp only [Act.put, List.getElem_toArray, List.getElem_cons_succ, List.getElem_cons_zero, List.setIfInBounds_toArray, List.set_cons_zero, List.set_cons_succ]
                          refine wpAnyH_take (i := 9) (v := ?_) rfl (by kernel_rfl) (by kernel_rfl) (by kernel_rfl) (fun _ _ _ h => h) (Or.inl ⟨by kernel_rfl, ?_⟩) (by assumption) ?_
                          rotate_left
                          · (intro w hSw; (have q9 := hSw.2; go_simp; try with_reducible rfl))
                          try simp only [Act.put, List.getElem_toArray, List.getElem_cons_succ, List.getElem_cons_zero, List.setIfInBounds_toArray, List.set_cons_zero, List.set_cons_succ]
                          refine wpAnyH_take (i := 10) (v := ?_) rfl (by kernel_rfl) (by kernel_rfl) (by kernel_rfl) (fun _ _ _ h => h) (Or.inl ⟨by kernel_rfl, ?_⟩) (by assumption) ?_
                          rotate_left
                          · (intro w hSw; (have q9 := hSw.2; go_simp; try with_reducible rfl))
                          try simp only [Act.put, List.getElem_toArray, List.getElem_cons_succ, List.getElem_cons_zero, List.setIfInBounds_toArray, List.set_cons_zero, List.set_cons_succ]
                          refine' wpAnyH_take (i := 11) (v := _) rfl (by kernel_rfl) (by kernel_rfl) (by kernel_rfl) (fun _ _ _ h => h) (yieldsIf_build (by kernel_rfl) 40 _ rfl [(0, .agg (idCells p.id).toArray), (1, .int .i64 xw)] (by kernel_rfl) (mcells ⟨p.id, xw⟩).toArray (built_rm p.id xw)) (by assumption) ?_
                          try simp only [Act.put, List.getElem_toArray, List.getElem_cons_succ, List.getElem_cons_zero, List.setIfInBounds_toArray, List.set_cons_zero, List.set_cons_succ]
                          refine wpAnyH_ready (rs := [12]) (by kernel_rfl) (by simp) (AllReadyH.cons rfl (fun K hK => ?_) AllReadyH.nil)
                          refine step_row_one rfl 32 40 (.tmp 137) rfl (mcells ⟨p.id, xw⟩).toArray rfl 33 j0' _ Try.underlying32 PM.out.1 PM.out.2.1 PM.out.2.2.1 (by decide) (by simp [mcells_len]) (by decide) ?_
                          refine hK.out _ _ ⟨B10.out, CW10.out⟩ (fun hH => ?_)
                          clear hHeld hK
                          try simp only [Act.put, List.getElem_toArray, List.getElem_cons_succ, List.getElem_cons_zero, List.setIfInBounds_toArray, List.set_cons_zero, List.set_cons_succ]
                          refine wpAnyH_ready (rs := [13]) (by kernel_rfl) (by simp) (AllReadyH.cons rfl (fun K hK => ?_) AllReadyH.nil)
                          refine step_append_any rfl (.tmp 126) (.tmp 138) 32 rfl w.heap.size 40 j0' _ 33 40 Try.underlying32 PM.out.1 PM.out.2.1 PM.out.2.2.1 PM.out.2.2.2 (by simp [Value.cells, mcells_len]) (by decide) u11 on (s.out.flatMap mcells) rfl O10.out ⟨w9.drew.heap.size, 0, none⟩ 1 1 (mcells ⟨p.id, xw⟩) rfl (by rw [mcells_len]) NEWS10.out (mcells_one _) (by unfold maxLen; omega) (by omega) BS10.out ?_
                          intro v11 w11 hown11 hg11 hat11
                          clear hat11
                          have B11 := Lib.hid (B10.out.grown hg11 BS10.out (fun k hk => (own_row O10.out hk).1))
                          have G11 := Lib.hid (own_other G10.out hg11 (fun _ hk => (own_row O10.out hk).2) (by decide) : RfRow w.heap.size w11 (.slice (some ⟨mb, 0, none⟩) gn cm) (s.left.set bi (xw, xl - sz)))
                          have I11 := Lib.hid (own_other I10.out hg11 (fun _ hk => (own_row O10.out hk).2) (by decide) : IntsIs w.heap.size w11 v9 (so ++ (s.gs ++ [xw])))
                          have O11 : Hid (RmRow w.heap.size w11 v11 (s.out ++ [⟨p.id, xw⟩])) := Lib.hid (row_snoc ON.out hown11)
                          clear hown11 hg11
                          obtain ⟨_, e12, _, hl12, _⟩ := own_elem fcells_len (by decide) (show w11.ownsRow w.heap.size 59 2 (.slice (some ⟨mb, 0, none⟩) gn cm) gn ((s.left.set bi (xw, xl - sz)).flatMap fcells) by have := G11.out; unfold RfRow at this; rw [List.length_set, ← GN.out] at this; exact this) (List.getElem?_set_self (a := (xw, xl - sz)) (by rw [← GN.out]; exact hbl2))
                          cases e12
                          have cw12 := (fr_cells hl12).1
                          clear hl12
                          refine hK.out _ _ ⟨B11.out, cw12⟩ (fun hHeld => ?_)
                          clear hH hK
                          try simp only [Act.put, List.getElem_toArray, List.getElem_cons_succ, List.getElem_cons_zero, List.setIfInBounds_toArray, List.set_cons_zero, List.set_cons_succ]
                          refine wpAnyH_ready (rs := [14]) (by kernel_rfl) (by simp) (AllReadyH.cons rfl (fun K hK => ?_) AllReadyH.nil)
                          go_simp
                          refine hK.out _ _ ⟨B11.out, cw12⟩ (fun hH => ?_)
                          clear hHeld hK hH cw12
                          try simp only [Act.put, List.getElem_toArray, List.getElem_cons_succ, List.getElem_cons_zero, List.setIfInBounds_toArray, List.set_cons_zero, List.set_cons_succ]
                          refine wpAnyH_done (by kernel_rfl) ?_ _
                          have IN11 : Hid (InOk g0 o0 (t + 1) ⟨s.left.set bi (xw, xl - sz), s.gs ++ [xw], s.out ++ [⟨p.id, xw⟩]⟩) := Lib.hid ⟨apart_set OO.out.apart HX.out _, OO.out.ok.set HX.out (by omega) (by omega), by rw [List.length_set]; exact OO.out.few, by rw [List.length_append]; have := OO.out.short; simp; omega, by rw [List.length_append]; have := OO.out.gl; simp; omega⟩
                          go_wp2
                          go_roundg (q - (t + 1))
                          case measure => rw [HKT.out]; omega
                          case rel =>
                            obtain ⟨s', hs'⟩ : ∃ s' : Pl, s' = ⟨s.left.set bi (xw, xl - sz), s.gs ++ [xw], s.out ++ [⟨p.id, xw⟩]⟩ := ⟨_, rfl⟩
                            have E1 : s.left.set bi (xw, xl - sz) = s'.left := by rw [hs']
                            have E2 : s.gs ++ [xw] = s'.gs := by rw [hs']
                            have E3 : s.out ++ [⟨p.id, xw⟩] = s'.out := by rw [hs']
                            have F1 := G11.out
                            have F2 := I11.out
                            have F3 := O11.out
                            have F4 := IN11.out
                            have F5 := GST.out
                            rw [E1] at F1
                            rw [E2] at F2
                            rw [E3] at F3
                            rw [← hs'] at F4 F5
                            have F6 : q - t - 1 = q - (t + 1) := by omega
                            rw [F6] at F5
                            have F7 : z + 1 = (m2 : Int) + ((t + 1 : Nat) : Int) := by have := HZ.out; omega
                            exact ⟨t + 1, z + 1, s', rfl, htq', rfl, F7, F5, ⟨F1, F3⟩, F2, F4, B11.out⟩
                      · have htq' : t = q := by have := HQ.out; omega
                        have NX := Lib.hid (NXT.out s (by rw [GV.out, htq', Nat.sub_self]; rfl))
                        have EX := Lib.hid (ENDJ.out s t (by rw [GV.out, htq', Nat.sub_self]; rfl) OO.out.apart OO.out.ok OO.out.few OO.out.short (by omega))
                        have PF : Hid (RPl w.heap.size wt u7 s.left u11 s.out) := Lib.hid ⟨hG, OUT.out⟩
                        clear htq' hz hG hI
                        go_wp2
                        go_roundg (i - (j + 1))
                        case measure => rw [HKJ.out]; omega
                        case rel => exact ⟨j + 1, by omega, rfl, by go_num, by rw [NX.out]; exact PF.out, EX.out, BT.out⟩
                  · have HNE := Lib.hid hmn
                    have hb1 : ((m2 : Int) == (m2 : Int)) = true := by simp
                    have hb2 : ((m2 : Int) == (n : Int)) = false := by simp; omega
                    have OFF : Hid (stAt k f l n (j + 1) = stAt k f l n j) := Lib.hid (stAt_off HP.out (by rw [← KN.out]; exact HNE.out))
                    clear hmn
                    go_wp2
                    go_roundg (i - (j + 1))
                    case measure => rw [HKJ.out]; omega
                    case rel =>
                      refine ⟨j + 1, by omega, rfl, by go_num, by rw [OFF.out]; exact P2.out, ?_, B2.out⟩
                      refine ⟨by rw [OFF.out]; exact SJ.out.apart, by rw [OFF.out]; exact SJ.out.ok, by rw [OFF.out]; exact SJ.out.few, ?_⟩
                      rw [OFF.out]
                      have := SJ.out.short
                      omega
                · obtain rfl : i = j := by omega
                  have NX : Hid (stAt k f l n i = stAt k f l (n + 1) 0) := Lib.hid (by have := stAt_next k f l n; rw [← HN.out] at this; exact this)
                  clear hlj
                  go_wp2
                  go_roundg (most + 1 - (n + 1))
                  case measure => rw [HKN.out]; omega
                  case rel =>
                    refine ⟨n + 1, by omega, rfl, by go_num, by rw [← NX.out]; exact PJ.out, ?_, BJ.out⟩
                    refine ⟨by rw [← NX.out]; exact SJ.out.apart, by rw [← NX.out]; exact SJ.out.ok, by rw [← NX.out]; exact SJ.out.few, ?_⟩
                    rw [← NX.out]
                    have := SJ.out.short
                    omega
            · have n1 : ¬ (n : Int) ≤ (most : Int) := by omega
              have hne : n = most + 1 := by omega
              have EN : Hid (stAt k f l n 0 = planOf k (frees f) (isort keyOfPk l)) := Lib.hid (by
                rw [hne]
                refine stAt_end _ (fun p hp => ?_)
                have h1 := keyN_le p
                have h2 := sumHs_mem hp
                have h3 := MOST.out
                omega)
              clear hne
              go_wp2
              go_ret
              exact ⟨_, rfl, by rw [← EN.out]; exact PN.out.out, BN.out⟩
end Go.Proofs.Ytpmkgnnpngbfmaa
