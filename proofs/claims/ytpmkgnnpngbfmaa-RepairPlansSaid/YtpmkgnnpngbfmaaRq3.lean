/- The reference's Lack and best, walked. -/
import Derived.Test.YtpmkgnnpngbfmaaRq2
namespace Go.Proofs.Ytpmkgnnpngbfmaa
open Go.RowKit
open Extern.Stop (cell)

theorem lackP_one (k : Int) (p : Pk) : max (k - ((hset p.hs).length : Int)) 0 = if (setOf p.hs).length < k then k - ((setOf p.hs).length : Int) else 0 := by
  rw [setOf_len]
  split <;> omega
set_option maxRecDepth 100000 in
set_option maxHeartbeats 2000000 in
theorem rlack_any {w : World} {ad : Option Addr} {c : Nat} {l : List Pk} (hrow : RowAt w ad (l.flatMap pcells)) (hfew : l.length ≤ 100) (hok : ∀ p ∈ l, PkOk w p) {k : Int} (k0 : -1000 ≤ k) (k1 : k ≤ 1000) :
    Calls Try.prog 13 #[.slice ad l.length c, .int .i64 k] w fun e w' => e = .returned (.int .i64 (lackOf k l)) ∧ Below w.heap.size w w' := by
  have R := Lib.hid hrow
  have OK := Lib.hid hok
  obtain ⟨n, hn⟩ : ∃ n, n = l.length := ⟨_, rfl⟩
  have HN := Lib.hid hn
  rw [← hn] at hfew ⊢
  clear hrow hok hn
  go_enter Try.func13, Try.ntmps13
  go_wp2_with fail
  go_loopg [5, 6, 7] n (fun kk s5 s6 _ wr => ∃ j : Nat, j ≤ n ∧ kk = n - j ∧ s6 = .int .i64 j ∧ s5 = .int .i64 (lackOf k (l.take j)) ∧ Below w.heap.size w wr)
  case atStart => exact ⟨0, Nat.zero_le _, rfl, rfl, rfl, Below.refl _ _⟩
  case round =>
    obtain ⟨j, hj, hk, rfl, rfl, hB⟩ := hrel
    have BB := Lib.hid hB
    have HK := Lib.hid hk
    clear hB hk
    by_cases hlt : j < n
    · obtain ⟨p, hp⟩ : ∃ p, l[j]? = some p := ⟨l[j]'(by rw [← HN.out]; exact hlt), List.getElem?_eq_getElem _⟩
      obtain ⟨b, off, rfl, hbl, hl⟩ := rowAt_elem pcells_len (by decide) (R.out.later BB.out) hp
      have c33 := (pk_lies hl).2.2
      have HP := Lib.hid hp
      have PO := (OK.out p (List.mem_of_getElem? hp)).later BB.out
      have SA := set_any (c := p.cap) PO.rd (by have := PO.few; omega)
      have L0 := (lack_in k1 (l.take j)).1
      have L1 := (lack_in k1 (l.take j)).2
      rw [List.length_take] at L1
      obtain ⟨s, hs⟩ : ∃ s, s = lackOf k (l.take j) := ⟨_, rfl⟩
      have s0 : 0 ≤ s := by rw [hs]; exact L0
      have s1 : s ≤ 1000000 := by omega
      obtain ⟨pa, hpa⟩ : ∃ pa, pa = p.ad := ⟨_, rfl⟩
      obtain ⟨np, hnp⟩ : ∃ np, np = p.hs.length := ⟨_, rfl⟩
      obtain ⟨so, hso⟩ : ∃ so, so = setOf p.hs := ⟨_, rfl⟩
      have hsl : so.length ≤ 1000 := by rw [hso]; have := setOf_le p.hs; have := PO.few; omega
      have STEP : Hid (lackOf k (l.take (j + 1)) = s + if (so.length : Int) < k then k - (so.length : Int) else 0) := Lib.hid (by
        rw [List.take_add_one, hp]
        show lackOf k (l.take j ++ [p]) = _
        rw [lack_snoc, ← hs, lackP_one, ← hso])
      rw [← hs]
      rw [← hpa, ← hnp] at c33 SA
      rw [← hso] at SA
      have SA' := Lib.hid SA
      have j0 : (0 : Int) ≤ (j : Int) := Int.natCast_nonneg _
      have j1 : (j : Int) < (n : Int) := by omega
      clear hl hp L0 L1 hs hpa hnp hso SA PO
      go_wp2_with fail
      refine SA'.out.mono ?_
      rintro e w2 ⟨v, rfl, hI, hB2⟩
      obtain ⟨xa, xc, rfl⟩ := own_slice hI
      obtain ⟨m, hm⟩ : ∃ m, m = so.length := ⟨_, rfl⟩
      rw [← hm] at hsl ⊢
      have B2 := Lib.hid (BB.out.trans (hB2.mono BB.out.size))
      have STEP2 : Hid (lackOf k (l.take (j + 1)) = s + if (m : Int) < k then k - (m : Int) else 0) := Lib.hid (by rw [STEP.out, hm])
      have m0 : (0 : Int) ≤ (m : Int) := Int.natCast_nonneg _
      have m1 : (m : Int) ≤ 1000 := by omega
      clear hI hB2 hm SA' c33
      by_cases hmk : (m : Int) < k
      · have E : Hid (lackOf k (l.take (j + 1)) = s + (k - (m : Int))) := Lib.hid (by rw [STEP2.out, if_pos hmk])
        go_wp2
        go_roundg (n - (j + 1))
        case measure => rw [HK.out]; omega
        case rel => exact ⟨j + 1, by omega, rfl, by go_num, by rw [E.out], B2.out⟩
      · have E : Hid (lackOf k (l.take (j + 1)) = s) := Lib.hid (by rw [STEP2.out, if_neg hmk]; omega)
        go_wp2
        go_roundg (n - (j + 1))
        case measure => rw [HK.out]; omega
        case rel => exact ⟨j + 1, by omega, rfl, by go_num, by rw [E.out], B2.out⟩
    · obtain rfl : j = n := by omega
      go_wp2
      go_ret
      refine ⟨?_, BB.out⟩
      rw [HN.out, List.take_length]
      rfl

theorem in_drew {w : World} {a : Option Addr} {c : Nat} {zs : List Int} (hr : IntsRd w a zs) (hl : zs.length ≤ 140737488355328) (x : Int) (q : Nat) :
    Calls Try.prog 16 #[.slice a zs.length c, .int .i64 x] (w.drewN q) fun e w' => e = .returned (.bool (decide (x ∈ zs))) ∧ w' = w.drewN q :=
  in_any (hr.later (below_drewN (Below.refl _ _) q)) hl x
theorem fr_cells {w : World} {b i : Nat} {x : Int × Int} (h : Lies w b i (fcells x).toArray) : w.cell? ⟨b, i, none⟩ = some (.int .i64 x.1) ∧ w.cell? ⟨b, i + 1, none⟩ = some (.int .u64 x.2) :=
  ⟨by have := lies_one h (j := 0) (v := .int .i64 x.1) rfl; simpa using this, lies_one h (j := 1) (v := .int .u64 x.2) rfl⟩
set_option maxRecDepth 100000 in
set_option maxHeartbeats 4000000 in
theorem best_any {w : World} {ad ah : Option Addr} {c ch : Nat} {g : List (Int × Int)} {has : List Int} {size : Int} (hrow : RowAt w ad (g.flatMap fcells)) (hg : g.length ≤ 100000) (hh : IntsRd w ah has) (hl : has.length ≤ 1000000) :
    Calls Try.prog 31 #[.slice ad g.length c, .slice ah has.length ch, .int .u64 size] w fun e w' => ∃ r q, e = .returned (.int .i64 r) ∧ BestAt g has size r ∧ w' = w.drewN q := by
  have R := Lib.hid hrow
  have HH := Lib.hid hh
  obtain ⟨n, hn⟩ : ∃ n, n = g.length := ⟨_, rfl⟩
  obtain ⟨m, hm⟩ : ∃ m, m = has.length := ⟨_, rfl⟩
  have HN := Lib.hid hn
  have HM := Lib.hid hm
  have IN : Hid (∀ (q : Nat) (x : Int), Calls Try.prog 16 #[.slice ah m ch, .int .i64 x] (w.drewN q) fun e w' => e = .returned (.bool (decide (x ∈ has))) ∧ w' = w.drewN q) := Lib.hid (fun q x => by
    rw [hm]; exact in_drew hh (by omega) x q)
  rw [← hn] at hg ⊢
  rw [← hm] at hl ⊢
  clear hrow hh hn hm
  go_enter Try.func31, Try.ntmps31
  go_wp2_with fail
  go_loopg [7, 8, 9] n (fun k s7 s8 _ wr => ∃ (i : Nat) (r : Int) (q : Nat), i ≤ n ∧ k = n - i ∧ s8 = .int .i64 i ∧ s7 = .int .i64 r ∧ wr = w.drewN q ∧ BestAt (g.take i) has size r)
  case atStart => exact ⟨0, -1, 0, Nat.zero_le _, rfl, rfl, rfl, rfl, BestAt.start _ _⟩
  case round =>
    obtain ⟨i, r, q, hi, hk, rfl, rfl, rfl, hba⟩ := hrel
    have HK := Lib.hid hk
    have BA := Lib.hid hba
    clear hk hba
    by_cases hlt : i < n
    · obtain ⟨x, hx⟩ : ∃ x, g[i]? = some x := ⟨g[i]'(by rw [← HN.out]; exact hlt), List.getElem?_eq_getElem _⟩
      obtain ⟨b, off, rfl, hbl, hl'⟩ := rowAt_elem fcells_len (by decide) R.out hx
      obtain ⟨cx0, cx1⟩ := fr_cells hl'
      have TK : Hid (g.take (i + 1) = g.take i ++ [x]) := Lib.hid (by rw [List.take_add_one, hx]; rfl)
      have TL : Hid (i = (g.take i).length) := Lib.hid (by rw [List.length_take, ← HN.out]; omega)
      have i0 : (0 : Int) ≤ (i : Int) := Int.natCast_nonneg _
      have i1 : (i : Int) < (n : Int) := by omega
      obtain ⟨xw, hxw⟩ : ∃ xw, xw = x.1 := ⟨_, rfl⟩
      obtain ⟨xl, hxl⟩ : ∃ xl, xl = x.2 := ⟨_, rfl⟩
      rw [← hxw] at cx0
      rw [← hxl] at cx1
      have XW := Lib.hid hxw
      have XL := Lib.hid hxl
      have IX := Lib.hid (IN.out q xw)
      obtain ⟨d, hd⟩ : ∃ d, d = decide (xw ∈ has) := ⟨_, rfl⟩
      rw [← hd] at IX
      have DD := Lib.hid hd
      clear hl' hxw hxl hx hd
      go_wp2_with fail
      refine IX.out.mono ?_
      rintro e w1 ⟨rfl, h1⟩
      subst h1
      clear IX
      cases d
      · by_cases hls : xl < size
        · have FQ : Hid (fitq has size x = false) := Lib.hid (by unfold fitq; rw [← XW.out, ← XL.out, decide_eq_true hls]; simp)
          go_wp2_with fail
          go_roundg (n - (i + 1))
          case measure => rw [HK.out]; omega
          case rel => exact ⟨i + 1, r, q + 0, by omega, rfl, by go_num, rfl, rfl, by rw [TK.out]; exact BA.out.skip FQ.out⟩
        · have FQ : Hid (fitq has size x = true) := Lib.hid (by unfold fitq; rw [← XW.out, ← XL.out, decide_eq_false hls, ← DD.out]; rfl)
          by_cases hr0 : r < 0
          · have TB : Hid (r < 0 ∨ ∃ (b : Nat) (y : Int × Int), r = (b : Int) ∧ (g.take i)[b]? = some y ∧ (y.2 < x.2 ∨ (y.2 = x.2 ∧ x.1 < y.1))) := Lib.hid (.inl hr0)
            go_wp2_with fail
            refine wp_region_quiet_lit (by kernel_rfl) (by kernel_rfl) ?_
            repeat go_big_quiet_step (fail)
            refine wpQuiet_nil ?_
            intro _ hw9
            obtain ⟨nq, hw9⟩ := hw9
            subst hw9
            go_wp2
            go_roundg (n - (i + 1))
            case measure => rw [HK.out]; omega
            case rel => exact ⟨i + 1, (i : Int), q + nq, by omega, rfl, by go_num, rfl, rfl, by rw [TK.out]; exact BA.out.take FQ.out TB.out TL.out⟩
          · have hba := BA.out
            rcases hba with ⟨h1, _⟩ | ⟨bb, y, h1, h2, _, _⟩
            · omega
            · subst h1
              have hbi : bb < i := by
                have := (List.getElem?_eq_some_iff.1 h2).1
                rw [List.length_take] at this
                omega
              have hy : g[bb]? = some y := by rw [List.getElem?_take_of_lt hbi] at h2; exact h2
              obtain ⟨_, _, e2, _, hl2⟩ := rowAt_elem fcells_len (by decide) R.out hy
              cases e2
              obtain ⟨cy0, cy1⟩ := fr_cells hl2
              obtain ⟨yw, hyw⟩ : ∃ yw, yw = y.1 := ⟨_, rfl⟩
              obtain ⟨yl, hyl⟩ : ∃ yl, yl = y.2 := ⟨_, rfl⟩
              rw [← hyw] at cy0
              rw [← hyl] at cy1
              have YW := Lib.hid hyw
              have YL := Lib.hid hyl
              have H2 := Lib.hid h2
              have b0 : (0 : Int) ≤ (bb : Int) := Int.natCast_nonneg _
              have b1 : (bb : Int) < (n : Int) := by omega
              have d0 : decide ((bb : Int) < 0) = false := decide_eq_false (by omega)
              clear h2 hy hl2 hyw hyl
              by_cases hgt : yl < xl
              · have TB : Hid ((bb : Int) < 0 ∨ ∃ (b : Nat) (y : Int × Int), (bb : Int) = (b : Int) ∧ (g.take i)[b]? = some y ∧ (y.2 < x.2 ∨ (y.2 = x.2 ∧ x.1 < y.1))) := Lib.hid (.inr ⟨bb, y, rfl, H2.out, .inl (by rw [← XL.out, ← YL.out]; exact hgt)⟩)
                go_wp2_with fail
                refine wp_region_quiet_lit (by kernel_rfl) (by kernel_rfl) ?_
                repeat go_big_quiet_step (fail)
                refine wpQuiet_nil ?_
                intro _ hw9
                obtain ⟨nq, hw9⟩ := hw9
                subst hw9
                go_wp2
                go_roundg (n - (i + 1))
                case measure => rw [HK.out]; omega
                case rel => exact ⟨i + 1, (i : Int), q + nq, by omega, rfl, by go_num, rfl, rfl, by rw [TK.out]; exact BA.out.take FQ.out TB.out TL.out⟩
              · have d1 : decide (yl < xl) = false := decide_eq_false hgt
                by_cases heq : xl = yl
                · have hb1 : (xl == yl) = true := by simpa using heq
                  by_cases hwl : xw < yw
                  · have TB : Hid ((bb : Int) < 0 ∨ ∃ (b : Nat) (y : Int × Int), (bb : Int) = (b : Int) ∧ (g.take i)[b]? = some y ∧ (y.2 < x.2 ∨ (y.2 = x.2 ∧ x.1 < y.1))) := Lib.hid (.inr ⟨bb, y, rfl, H2.out, .inr ⟨by rw [← XL.out, ← YL.out, heq], by rw [← XW.out, ← YW.out]; exact hwl⟩⟩)
                    have HE := Lib.hid heq
                    clear heq
                    go_wp2_with fail
                    refine wp_region_quiet_lit (by kernel_rfl) (by kernel_rfl) ?_
                    repeat go_big_quiet_step (fail)
                    refine wpQuiet_nil ?_
                    intro _ hw9
                    obtain ⟨nq, hw9⟩ := hw9
                    subst hw9
                    go_wp2
                    go_roundg (n - (i + 1))
                    case measure => rw [HK.out]; omega
                    case rel => exact ⟨i + 1, (i : Int), q + nq, by omega, rfl, by go_num, rfl, rfl, by rw [TK.out]; exact BA.out.take FQ.out TB.out TL.out⟩
                  · have KP : Hid (BestAt (g.take (i + 1)) has size (bb : Int)) := Lib.hid (by rw [TK.out]; exact BA.out.keep H2.out (by rw [← XL.out, ← YL.out, ← XW.out, ← YW.out]; omega))
                    have HE := Lib.hid heq
                    have d2 : decide (xw < yw) = false := decide_eq_false hwl
                    clear heq
                    go_wp2_with fail
                    refine wp_region_quiet_lit (by kernel_rfl) (by kernel_rfl) ?_
                    repeat go_big_quiet_step (fail)
                    refine wpQuiet_nil ?_
                    intro _ hw9
                    obtain ⟨nq, hw9⟩ := hw9
                    subst hw9
                    go_wp2
                    go_roundg (n - (i + 1))
                    case measure => rw [HK.out]; omega
                    case rel => exact ⟨i + 1, (bb : Int), q + nq, by omega, rfl, by go_num, rfl, rfl, KP.out⟩
                · have hb1 : (xl == yl) = false := by simpa using heq
                  have KP : Hid (BestAt (g.take (i + 1)) has size (bb : Int)) := Lib.hid (by rw [TK.out]; exact BA.out.keep H2.out (by rw [← XL.out, ← YL.out, ← XW.out, ← YW.out]; omega))
                  go_wp2_with fail
                  refine wp_region_quiet_lit (by kernel_rfl) (by kernel_rfl) ?_
                  repeat go_big_quiet_step (fail)
                  refine wpQuiet_nil ?_
                  intro _ hw9
                  obtain ⟨nq, hw9⟩ := hw9
                  subst hw9
                  go_wp2
                  go_roundg (n - (i + 1))
                  case measure => rw [HK.out]; omega
                  case rel => exact ⟨i + 1, (bb : Int), q + nq, by omega, rfl, by go_num, rfl, rfl, KP.out⟩
      · have FQ : Hid (fitq has size x = false) := Lib.hid (by unfold fitq; rw [← XW.out, ← DD.out]; rfl)
        go_wp2_with fail
        go_roundg (n - (i + 1))
        case measure => rw [HK.out]; omega
        case rel => exact ⟨i + 1, r, q + 0, by omega, rfl, by go_num, rfl, rfl, by rw [TK.out]; exact BA.out.skip FQ.out⟩
    · obtain rfl : i = n := by omega
      have BE : Hid (BestAt g has size r) := Lib.hid (by have := BA.out; rw [HN.out, List.take_length] at this; exact this)
      clear BA
      go_wp2
      go_ret
      exact ⟨r, q, rfl, BE.out, rfl⟩
end Go.Proofs.Ytpmkgnnpngbfmaa
