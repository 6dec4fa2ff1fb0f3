/- The insertion sort of packs. -/
import Derived.Test.YtpmkgnnpngbfmaaRp11
namespace Go.Proofs.Ytpmkgnnpngbfmaa
open Go.RowKit Go.Lib
open Extern.Stop (cell)

theorem swap_list {s rest : List Pk} {x y : Pk} {m : Nat} (hm : s[m]? = some y) : ((s.take (m + 1) ++ x :: s.drop (m + 1) ++ rest).set (m + 1) y).set m x = s.take m ++ x :: s.drop m ++ rest := by
  obtain ⟨hlt, e⟩ := List.getElem?_eq_some_iff.1 hm
  have h1 : s.take (m + 1) = s.take m ++ [y] := by rw [List.take_add_one, hm]; rfl
  have h2 : s.drop m = y :: s.drop (m + 1) := by rw [List.drop_eq_getElem_cons hlt, e]
  have l1 : (s.take m).length = m := by rw [List.length_take]; omega
  rw [h1, h2]
  apply List.ext_getElem?
  intro i
  have A : s.take m ++ [y] ++ x :: s.drop (m + 1) ++ rest = s.take m ++ (y :: x :: (s.drop (m + 1) ++ rest)) := by simp
  have B : s.take m ++ x :: y :: s.drop (m + 1) ++ rest = s.take m ++ (x :: y :: (s.drop (m + 1) ++ rest)) := by simp
  rw [A, B]
  rw [List.set_append, if_neg (by omega), l1, List.set_append, if_neg (by omega), l1]
  simp
theorem mid_at {s rest : List Pk} {x : Pk} {j : Nat} (hj : j ≤ s.length) : (s.take j ++ x :: s.drop j ++ rest)[j]? = some x := by
  have l1 : (s.take j).length = j := by rw [List.length_take]; omega
  rw [List.append_assoc, List.getElem?_append_right (by omega), l1]
  simp
theorem mid_ahead {s rest : List Pk} {x y : Pk} {m : Nat} (hm : s[m]? = some y) : (s.take (m + 1) ++ x :: s.drop (m + 1) ++ rest)[m]? = some y := by
  obtain ⟨hlt, _⟩ := List.getElem?_eq_some_iff.1 hm
  rw [List.append_assoc, List.getElem?_append_left (by rw [List.length_take]; omega), List.getElem?_take_of_lt (by omega), hm]
theorem cmp_lt {a b : Int} : Lib.compareInt a b < 0 ↔ a < b := by
  unfold Lib.compareInt
  by_cases h : a < b
  · simp [h]
  · by_cases h2 : a > b <;> simp [h, h2]
abbrev PkRow (B : Nat) (w : World) (v : Value) (es : List Pk) : Prop := w.ownsRow B 46 34 v es.length (es.flatMap pcells)
set_option linter.unusedSimpArgs false in
set_option maxRecDepth 100000 in
set_option maxHeartbeats 2000000 in
theorem insert_any {w0 w : World} {B g n c : Nat} {l : List Pk} (hb : Below w0.heap.size w0 w) (hB : w0.heap.size ≤ B) (hok : ∀ p ∈ l, PkOk w0 p) (hn : n = l.length) (h2 : 2 ≤ n) (hl : n ≤ 1000)
    (hrow : PkRow B w (.slice (some ⟨g, 0, none⟩) n c) l) :
    Calls Try.prog 42 #[.slice (some ⟨g, 0, none⟩) n c, .int .i64 0, .int .i64 n, .func (.func 19) #[] #[]] w fun e w' =>
      e = .returned (.tuple #[]) ∧ PkRow B w' (.slice (some ⟨g, 0, none⟩) n c) (isort keyOfPk l) ∧ w.grownBy w' (some g) := by
  have OK := Lib.hid hok
  have HN := Lib.hid hn
  have R := Lib.hid hrow
  have B0 := Lib.hid hb
  have hgB : B ≤ g := (own_row hrow rfl).1
  have hnc : n ≤ c := by
    obtain ⟨p, hp⟩ : ∃ p, l[0]? = some p := ⟨l[0]'(by omega), List.getElem?_eq_getElem _⟩
    obtain ⟨_, _, _, _, h⟩ := own_elem pcells_len (by decide) (show w.ownsRow B 46 34 (.slice (some ⟨g, 0, none⟩) n c) n (l.flatMap pcells) by rw [hn] at hrow ⊢; exact hrow) hp
    exact h
  have n0 : (0 : Int) ≤ (n : Int) := Int.natCast_nonneg _
  have n1 : (n : Int) ≤ 1000 := by omega
  clear hok hrow hn hb
  go_enter Try.func42, Try.ntmps42
  go_wp2_with fail
  go_loopg [8, 9] (n - 1) (fun k s8 _ wr => ∃ i : Nat, 1 ≤ i ∧ i ≤ n ∧ k = n - i ∧ s8 = .int .i64 i ∧ PkRow B wr (.slice (some ⟨g, 0, none⟩) n c) (isort keyOfPk (l.take i) ++ l.drop i) ∧ w.grownBy wr (some g))
  case atStart =>
    refine ⟨1, by omega, by omega, rfl, rfl, ?_, grown_refl _ _⟩
    have : isort keyOfPk (l.take 1) ++ l.drop 1 = l := by
      have hlen := HN.out
      match l, hlen with
      | x :: r, _ => simp [isort, insR]
      | [], h => simp at h; omega
    rw [this]
    exact R.out
  case round =>
    obtain ⟨i, hi1, hi, hk, rfl, hR, hG⟩ := hrel
    obtain ⟨wo, rfl⟩ : ∃ wo : World, wo = wr := ⟨_, rfl⟩
    have HK := Lib.hid hk
    have RR := Lib.hid hR
    have GG := Lib.hid hG
    clear hk hR hG R
    by_cases hlt : i < n
    · obtain ⟨x, hx⟩ : ∃ x, l[i]? = some x := ⟨l[i]'(by rw [← HN.out]; exact hlt), List.getElem?_eq_getElem _⟩
      obtain ⟨s, hs⟩ : ∃ s, s = isort keyOfPk (l.take i) := ⟨_, rfl⟩
      obtain ⟨rest, hrest⟩ : ∃ rest, rest = l.drop (i + 1) := ⟨_, rfl⟩
      have hsl : s.length = i := by rw [hs, (isort_perm keyOfPk _).length_eq, List.length_take, ← HN.out]; omega
      have hsr : Rising keyOfPk s := by rw [hs]; exact isort_rising _ _
      have hdrop : l.drop i = x :: rest := by
        obtain ⟨h1, e⟩ := List.getElem?_eq_some_iff.1 hx
        rw [hrest, List.drop_eq_getElem_cons h1, e]
      have hrl : i + 1 + rest.length = n := by rw [hrest, List.length_drop, ← HN.out]; omega
      have hsok : ∀ p ∈ s, PkOk w0 p := fun p hp => OK.out p (List.mem_of_mem_take ((isort_perm keyOfPk (l.take i)).mem_iff.1 (by rw [← hs]; exact hp)))
      have hxok := OK.out x (List.mem_of_getElem? hx)
      have htake : isort keyOfPk (l.take (i + 1)) = insR keyOfPk x s := by
        rw [List.take_add_one, hx]
        show isort keyOfPk (l.take i ++ [x]) = _
        rw [isort_snoc, ← hs]
      have R1 : PkRow B wo (.slice (some ⟨g, 0, none⟩) n c) (s.take i ++ x :: s.drop i ++ rest) := by
        have := RR.out
        rw [← hs, hdrop] at this
        rw [← hsl, List.take_length, List.drop_length]
        simpa using this
      replace R1 := Lib.hid R1
      have HS := Lib.hid hs
      have HSL := Lib.hid hsl
      have HSR := Lib.hid hsr
      have HRL := Lib.hid hrl
      have SOK := Lib.hid hsok
      have XOK := Lib.hid hxok
      have TK := Lib.hid htake
      have HRE := Lib.hid hrest
      have i0 : (0 : Int) ≤ (i : Int) := Int.natCast_nonneg _
      have i1 : (i : Int) < (n : Int) := by omega
      clear hx hs hsl hsr hdrop hrl hsok hxok htake hrest RR
      go_wp2_with fail
      go_loopg [9] (i + 1) (fun k s9 wi => ∃ j : Nat, j ≤ i ∧ k = j + 1 ∧ s9 = .int .i64 j ∧ PkRow B wi (.slice (some ⟨g, 0, none⟩) n c) (s.take j ++ x :: s.drop j ++ rest) ∧ (∀ y ∈ s.drop j, keyOfPk x < keyOfPk y) ∧ w.grownBy wi (some g))
      case atStart => exact ⟨i, Nat.le_refl _, rfl, rfl, R1.out, by intro y hy; rw [List.drop_of_length_le (by rw [HSL.out]; exact Nat.le_refl _)] at hy; simp at hy, GG.out⟩
      case round =>
        obtain ⟨j, hj, hkj, rfl, hRj, hAj, hGj⟩ := hrel
        obtain ⟨wi, rfl⟩ : ∃ wi : World, wi = wr := ⟨_, rfl⟩
        have HKJ := Lib.hid hkj
        have RJ := Lib.hid hRj
        have AJ := Lib.hid hAj
        have GJ := Lib.hid hGj
        have BW : Hid (Below w0.heap.size w0 wi) := Lib.hid (B0.out.trans (below_grown hGj B0.out.size (by omega)))
        clear hkj hRj hAj hGj R1
        by_cases hj0 : j = 0
        · subst hj0
          have RF : Hid (PkRow B wi (.slice (some ⟨g, 0, none⟩) n c) (isort keyOfPk (l.take (i + 1)) ++ l.drop (i + 1))) := Lib.hid (by
            rw [TK.out, insR_at keyOfPk HSR.out (x := x) (j := 0) AJ.out (.inl rfl), ← HRE.out]
            exact RJ.out)
          rw [show ((0 : Nat) : Int) = 0 from rfl]
          have z1 : decide ((0 : Int) < 0) = false := by decide
          go_wp2_with fail
          go_quiet (fail)
          go_wp2
          go_roundg (n - (i + 1))
          case measure => rw [HK.out]; omega
          case rel => exact ⟨i + 1, by omega, by omega, rfl, by go_num, own_later RF.out (below_drewN (Below.refl _ _) _), grown_trans GJ.out (grown_below (below_drewN (Below.refl _ _) _) _)⟩
        · obtain ⟨m, rfl⟩ : ∃ m, j = m + 1 := ⟨j - 1, by omega⟩
          obtain ⟨y, hy⟩ : ∃ y, s[m]? = some y := ⟨s[m]'(by rw [HSL.out]; omega), List.getElem?_eq_getElem _⟩
          have rowlen : (s.take (m + 1) ++ x :: s.drop (m + 1) ++ rest).length = n := by
            have := HSL.out; have := HRL.out
            simp only [List.length_append, List.length_cons, List.length_take, List.length_drop]; omega
          have RN : wi.ownsRow B 46 34 (.slice (some ⟨g, 0, none⟩) n c) n ((s.take (m + 1) ++ x :: s.drop (m + 1) ++ rest).flatMap pcells) := by
            have := RJ.out
            unfold PkRow at this
            rw [rowlen] at this
            exact this
          obtain ⟨_, e1, _, lx, _⟩ := own_elem pcells_len (by decide) RN (mid_at (s := s) (rest := rest) (x := x) (j := m + 1) (by rw [HSL.out]; exact hj))
          cases e1
          obtain ⟨_, e2, _, ly, _⟩ := own_elem pcells_len (by decide) RN (mid_ahead (rest := rest) (x := x) hy)
          cases e2
          have RX := Lib.hid (lies_range lx)
          have RY := Lib.hid (lies_range ly)
          have HY := Lib.hid hy
          have YOK := Lib.hid (SOK.out y (List.mem_of_getElem? hy))
          have RNH := Lib.hid RN
          have RL := Lib.hid rowlen
          have m0 : (0 : Int) ≤ (m : Int) := Int.natCast_nonneg _
          have m1 : (m : Int) + 1 < (n : Int) := by omega
          have m2 : (m : Int) < (n : Int) := by omega
          have m3 : (0 : Int) < (m : Int) + 1 := by omega
          have m4 : (0 : Int) ≤ (m : Int) + 1 := by omega
          have nc : (n : Int) ≤ (c : Int) := by omega
          have w1 : IntKind.i64.wrap (m : Int) = (m : Int) := IntWalk.i64_in _ (by omega)
          clear hy lx ly rowlen RN
          obtain ⟨cv, hcv⟩ : ∃ cv, cv = Lib.compareInt (keyOfPk x) (keyOfPk y) := ⟨_, rfl⟩
          have CM : Hid (∀ W, Below wi.heap.size wi W → Calls Try.prog 19 #[.agg (pcells x).toArray, .agg (pcells y).toArray] W fun e w' => e = .returned (.int .i64 cv) ∧ Below W.heap.size W w') := Lib.hid (fun W h => by rw [hcv]; exact cmp_any ((XOK.out.later BW.out).later h) ((YOK.out.later BW.out).later h))
          have HCV := Lib.hid (show cv < 0 ↔ keyOfPk x < keyOfPk y by rw [hcv]; exact cmp_lt)
          clear hcv
          rw [show ((m + 1 : Nat) : Int) = (m : Int) + 1 by omega]
          by_cases hc : cv < 0
          · go_wp2_with fail
            refine wp_region_held_drew (S := fun w' => Below wi.heap.size wi w') (by kernel_rfl) (below_drew (Below.refl _ _)) (fun hHeld => ?_)
            refine wpAnyH_take (i := 0) (v := ?_) rfl (by kernel_rfl) (by kernel_rfl) (by kernel_rfl) (fun _ _ _ h => h) (Or.inl ⟨by kernel_rfl, ?_⟩) (by assumption) ?_
            rotate_left
            · (intro w hSw; (go_simp; try with_reducible rfl))
            try simp only [Act.put, List.getElem_toArray, List.getElem_cons_succ, List.getElem_cons_zero, List.setIfInBounds_toArray, List.set_cons_zero, List.set_cons_succ]
            refine wpAnyH_take (i := 1) (v := ?_) rfl (by kernel_rfl) (by kernel_rfl) (by kernel_rfl) (fun _ _ _ h => h) (Or.inl ⟨by kernel_rfl, ?_⟩) (by assumption) ?_
            rotate_left
            · (intro w hSw; (go_simp; try with_reducible rfl))
            try simp only [Act.put, List.getElem_toArray, List.getElem_cons_succ, List.getElem_cons_zero, List.setIfInBounds_toArray, List.set_cons_zero, List.set_cons_succ]
            refine wpAnyH_take (i := 2) (v := ?_) rfl (by kernel_rfl) (by kernel_rfl) (by kernel_rfl) (fun _ _ _ h => h) (Or.inl ⟨by kernel_rfl, ?_⟩) (by assumption) ?_
            rotate_left
            · (intro w hSw; (go_simp; try with_reducible rfl))
            try simp only [Act.put, List.getElem_toArray, List.getElem_cons_succ, List.getElem_cons_zero, List.setIfInBounds_toArray, List.set_cons_zero, List.set_cons_succ]
            refine wpAnyH_take (i := 3) (v := ?_) rfl (by kernel_rfl) (by kernel_rfl) (by kernel_rfl) (fun _ _ _ h => h) (Or.inl ⟨by kernel_rfl, ?_⟩) (by assumption) ?_
            rotate_left
            · (intro w hSw; (go_simp; try with_reducible rfl))
            try simp only [Act.put, List.getElem_toArray, List.getElem_cons_succ, List.getElem_cons_zero, List.setIfInBounds_toArray, List.set_cons_zero, List.set_cons_succ]
            refine wpAnyH_take (i := 4) (v := ?_) rfl (by kernel_rfl) (by kernel_rfl) (by kernel_rfl) (fun _ _ _ h => h) (Or.inl ⟨by kernel_rfl, ?_⟩) (by assumption) ?_
            rotate_left
            · (intro w hSw; (go_simp; try with_reducible rfl))
            try simp only [Act.put, List.getElem_toArray, List.getElem_cons_succ, List.getElem_cons_zero, List.setIfInBounds_toArray, List.set_cons_zero, List.set_cons_succ]
            refine wpAnyH_take (i := 5) (v := ?_) rfl (by kernel_rfl) (by kernel_rfl) (by kernel_rfl) (fun _ _ _ h => h) (Or.inl ⟨by kernel_rfl, ?_⟩) (by assumption) ?_
            rotate_left
            · (intro w hSw; (go_simp; try with_reducible rfl))
            try simp only [Act.put, List.getElem_toArray, List.getElem_cons_succ, List.getElem_cons_zero, List.setIfInBounds_toArray, List.set_cons_zero, List.set_cons_succ]
            refine wpAnyH_take (i := 6) (v := ?_) rfl (by kernel_rfl) (by kernel_rfl) (by kernel_rfl) (fun _ _ _ h => h) (Or.inl ⟨by kernel_rfl, ?_⟩) (by assumption) ?_
            rotate_left
            · (intro w hSw; (go_simp; try with_reducible rfl))
            try simp only [Act.put, List.getElem_toArray, List.getElem_cons_succ, List.getElem_cons_zero, List.setIfInBounds_toArray, List.set_cons_zero, List.set_cons_succ]
            refine wpAnyH_take (i := 7) (v := ?_) rfl (by kernel_rfl) (by kernel_rfl) (by kernel_rfl) (fun _ _ _ h => h) (Or.inl ⟨by kernel_rfl, ?_⟩) (by assumption) ?_
            rotate_left
            · (intro w hSw; (go_simp; try with_reducible rfl))
            try simp only [Act.put, List.getElem_toArray, List.getElem_cons_succ, List.getElem_cons_zero, List.setIfInBounds_toArray, List.set_cons_zero, List.set_cons_succ]
            refine' wpAnyH_take (i := 8) (v := _) rfl (by kernel_rfl) (by kernel_rfl) (by kernel_rfl) (fun _ _ _ h => h) (yieldsIf_load_mid (by kernel_rfl) _ _ rfl _ _ rfl (pcells x) _ ?hS Try.underlying46 rfl (sizeq x)) (by assumption) ?rest
            case' hS => exact fun w' hw => rangeAt_below RX.out hw
            case' rest =>
              try simp only [Act.put, List.getElem_toArray, List.getElem_cons_succ, List.getElem_cons_zero, List.setIfInBounds_toArray, List.set_cons_zero, List.set_cons_succ]
              refine wpAnyH_take (i := 9) (v := ?_) rfl (by kernel_rfl) (by kernel_rfl) (by kernel_rfl) (fun _ _ _ h => h) (Or.inl ⟨by kernel_rfl, ?_⟩) (by assumption) ?_
              rotate_left
              · (intro w hSw; (go_simp; try with_reducible rfl))
              try simp only [Act.put, List.getElem_toArray, List.getElem_cons_succ, List.getElem_cons_zero, List.setIfInBounds_toArray, List.set_cons_zero, List.set_cons_succ]
              refine wpAnyH_take (i := 10) (v := ?_) rfl (by kernel_rfl) (by kernel_rfl) (by kernel_rfl) (fun _ _ _ h => h) (Or.inl ⟨by kernel_rfl, ?_⟩) (by assumption) ?_
              rotate_left
              · (intro w hSw; (go_simp; try with_reducible rfl))
              try simp only [Act.put, List.getElem_toArray, List.getElem_cons_succ, List.getElem_cons_zero, List.setIfInBounds_toArray, List.set_cons_zero, List.set_cons_succ]
              refine wpAnyH_take (i := 11) (v := ?_) rfl (by kernel_rfl) (by kernel_rfl) (by kernel_rfl) (fun _ _ _ h => h) (Or.inl ⟨by kernel_rfl, ?_⟩) (by assumption) ?_
              rotate_left
              · (intro w hSw; (go_simp; try with_reducible rfl))
              try simp only [Act.put, List.getElem_toArray, List.getElem_cons_succ, List.getElem_cons_zero, List.setIfInBounds_toArray, List.set_cons_zero, List.set_cons_succ]
              refine wpAnyH_take (i := 12) (v := ?_) rfl (by kernel_rfl) (by kernel_rfl) (by kernel_rfl) (fun _ _ _ h => h) (Or.inl ⟨by kernel_rfl, ?_⟩) (by assumption) ?_
              rotate_left
              · (intro w hSw; (go_simp; try with_reducible rfl))
              try simp only [Act.put, List.getElem_toArray, List.getElem_cons_succ, List.getElem_cons_zero, List.setIfInBounds_toArray, List.set_cons_zero, List.set_cons_succ]
            refine' wpAnyH_take (i := 13) (v := _) rfl (by kernel_rfl) (by kernel_rfl) (by kernel_rfl) (fun _ _ _ h => h) (yieldsIf_load_mid (by kernel_rfl) _ _ rfl _ _ rfl (pcells y) _ ?hS2 Try.underlying46 rfl (sizeq y)) (by assumption) ?rest2
            case' hS2 => exact fun w' hw => rangeAt_below RY.out hw
            case' rest2 => try simp only [Act.put, List.getElem_toArray, List.getElem_cons_succ, List.getElem_cons_zero, List.setIfInBounds_toArray, List.set_cons_zero, List.set_cons_succ]
            refine wpAnyH_ready (rs := [14]) (by kernel_rfl) (by simp) (AllReadyH.cons rfl (fun K hK => ?_) AllReadyH.nil)
            go_simp
            refine (CM.out _ hHeld).mono ?_
            rintro e w2 ⟨rfl, b2⟩
            refine hK.out _ _ (hHeld.trans (b2.mono hHeld.size)) (fun hH2 => ?_)
            clear hHeld hK b2
            try simp only [Act.put, List.getElem_toArray, List.getElem_cons_succ, List.getElem_cons_zero, List.setIfInBounds_toArray, List.set_cons_zero, List.set_cons_succ]
            refine wpAnyH_take (i := 15) (v := ?_) rfl (by kernel_rfl) (by kernel_rfl) (by kernel_rfl) (fun _ _ _ h => h) (Or.inl ⟨by kernel_rfl, ?_⟩) (by assumption) ?_
            rotate_left
            · (intro w hSw; (go_simp; try with_reducible rfl))
            try simp only [Act.put, List.getElem_toArray, List.getElem_cons_succ, List.getElem_cons_zero, List.setIfInBounds_toArray, List.set_cons_zero, List.set_cons_succ]
            refine wpAnyH_take (i := 16) (v := ?_) rfl (by kernel_rfl) (by kernel_rfl) (by kernel_rfl) (fun _ _ _ h => h) (Or.inl ⟨by kernel_rfl, ?_⟩) (by assumption) ?_
            rotate_left
            · (intro w hSw; (go_simp; try with_reducible rfl))
            try simp only [Act.put, List.getElem_toArray, List.getElem_cons_succ, List.getElem_cons_zero, List.setIfInBounds_toArray, List.set_cons_zero, List.set_cons_succ]
            refine wpAnyH_done (by kernel_rfl) ?_ _
            have hc' := hc
            clear hc
            go_wp2_with fail
            have b5 : Below wi.heap.size wi w2 := hH2
            have R5 := own_later RNH.out b5
            have d1 : w2.drew.rangeAt g ((m + 1) * 34) (pcells x) := (World.rangeAt_drew _ _ _ _).2 (rangeAt_below RX.out b5)
            have d2 : w2.drew.rangeAt g (m * 34) (pcells y) := (World.rangeAt_drew _ _ _ _).2 (rangeAt_below RY.out b5)
            have R6 : w2.drew.ownsRow B 46 34 (.slice (some ⟨g, 0, none⟩) n c) n ((s.take (m + 1) ++ x :: s.drop (m + 1) ++ rest).flatMap pcells) := own_later R5 (below_drew (Below.refl _ _))
            have t1 := own_there (i := m + 1) R6 (by omega)
            obtain ⟨R7, G7⟩ := own_put pcells_len R6 RL.out.symm (i := m + 1) (by omega) y
            have t2 := own_there (i := m) R7 (by omega)
            obtain ⟨R8, G8⟩ := own_put pcells_len R7 (by rw [List.length_set]; exact RL.out.symm) (i := m) (by omega) x
            rw [swap_list HY.out] at R8
            have G9 : wi.grownBy (w2.drew.setCells g ((m + 1) * 34) (pcells y)) (some g) := grown_trans (grown_below (below_drew b5) _) G7
            have GF := Lib.hid (grown_trans GJ.out (grown_trans G9 G8))
            have RJ2 : Hid (PkRow B _ (.slice (some ⟨g, 0, none⟩) n c) (s.take m ++ x :: s.drop m ++ rest)) := Lib.hid (by
              have e : (s.take m ++ x :: s.drop m ++ rest).length = n := by rw [← swap_list (rest := rest) (x := x) HY.out, List.length_set, List.length_set]; exact RL.out
              unfold PkRow
              rw [e]
              exact R8)
            have AJ2 : Hid (∀ z ∈ s.drop m, keyOfPk x < keyOfPk z) := Lib.hid (by
              obtain ⟨h1, e⟩ := List.getElem?_eq_some_iff.1 HY.out
              rw [List.drop_eq_getElem_cons h1, e]
              intro z hz
              rcases List.mem_cons.1 hz with rfl | hz
              · exact HCV.out.1 hc'
              · exact AJ.out z hz)
            have T1 := Lib.hid t1
            have T2 := Lib.hid t2
            have D1 := Lib.hid d1
            have D2 := Lib.hid d2
            clear b5 R5 d1 d2 R6 t1 R7 G7 t2 R8 G8 G9 hc'
            refine wp_region_held_drew (S := fun _ => True) (by kernel_rfl) trivial (fun hHeld => ?_)
            refine wpAnyH_take (i := 0) (v := ?_) rfl (by kernel_rfl) (by kernel_rfl) (by kernel_rfl) (fun _ _ _ h => h) (Or.inl ⟨by kernel_rfl, ?_⟩) (by assumption) ?_
            rotate_left
            · (intro w hSw; (go_simp; try with_reducible rfl))
            try simp only [Act.put, List.getElem_toArray, List.getElem_cons_succ, List.getElem_cons_zero, List.setIfInBounds_toArray, List.set_cons_zero, List.set_cons_succ]
            refine wpAnyH_take (i := 1) (v := ?_) rfl (by kernel_rfl) (by kernel_rfl) (by kernel_rfl) (fun _ _ _ h => h) (Or.inl ⟨by kernel_rfl, ?_⟩) (by assumption) ?_
            rotate_left
            · (intro w hSw; (go_simp; try with_reducible rfl))
            try simp only [Act.put, List.getElem_toArray, List.getElem_cons_succ, List.getElem_cons_zero, List.setIfInBounds_toArray, List.set_cons_zero, List.set_cons_succ]
            refine wpAnyH_take (i := 2) (v := ?_) rfl (by kernel_rfl) (by kernel_rfl) (by kernel_rfl) (fun _ _ _ h => h) (Or.inl ⟨by kernel_rfl, ?_⟩) (by assumption) ?_
            rotate_left
            · (intro w hSw; (go_simp; try with_reducible rfl))
            try simp only [Act.put, List.getElem_toArray, List.getElem_cons_succ, List.getElem_cons_zero, List.setIfInBounds_toArray, List.set_cons_zero, List.set_cons_succ]
            refine wpAnyH_take (i := 3) (v := ?_) rfl (by kernel_rfl) (by kernel_rfl) (by kernel_rfl) (fun _ _ _ h => h) (Or.inl ⟨by kernel_rfl, ?_⟩) (by assumption) ?_
            rotate_left
            · (intro w hSw; (go_simp; try with_reducible rfl))
            try simp only [Act.put, List.getElem_toArray, List.getElem_cons_succ, List.getElem_cons_zero, List.setIfInBounds_toArray, List.set_cons_zero, List.set_cons_succ]
            refine wpAnyH_take (i := 4) (v := ?_) rfl (by kernel_rfl) (by kernel_rfl) (by kernel_rfl) (fun _ _ _ h => h) (Or.inl ⟨by kernel_rfl, ?_⟩) (by assumption) ?_
            rotate_left
            · (intro w hSw; (go_simp; try with_reducible rfl))
            try simp only [Act.put, List.getElem_toArray, List.getElem_cons_succ, List.getElem_cons_zero, List.setIfInBounds_toArray, List.set_cons_zero, List.set_cons_succ]
            refine wpAnyH_take (i := 5) (v := ?_) rfl (by kernel_rfl) (by kernel_rfl) (by kernel_rfl) (fun _ _ _ h => h) (Or.inl ⟨by kernel_rfl, ?_⟩) (by assumption) ?_
            rotate_left
            · (intro w hSw; (go_simp; try with_reducible rfl))
            try simp only [Act.put, List.getElem_toArray, List.getElem_cons_succ, List.getElem_cons_zero, List.setIfInBounds_toArray, List.set_cons_zero, List.set_cons_succ]
            refine wpAnyH_take (i := 6) (v := ?_) rfl (by kernel_rfl) (by kernel_rfl) (by kernel_rfl) (fun _ _ _ h => h) (Or.inl ⟨by kernel_rfl, ?_⟩) (by assumption) ?_
            rotate_left
            · (intro w hSw; (go_simp; try with_reducible rfl))
            try simp only [Act.put, List.getElem_toArray, List.getElem_cons_succ, List.getElem_cons_zero, List.setIfInBounds_toArray, List.set_cons_zero, List.set_cons_succ]
            refine wpAnyH_take (i := 7) (v := ?_) rfl (by kernel_rfl) (by kernel_rfl) (by kernel_rfl) (fun _ _ _ h => h) (Or.inl ⟨by kernel_rfl, ?_⟩) (by assumption) ?_
            rotate_left
            · (intro w hSw; (go_simp; try with_reducible rfl))
            try simp only [Act.put, List.getElem_toArray, List.getElem_cons_succ, List.getElem_cons_zero, List.setIfInBounds_toArray, List.set_cons_zero, List.set_cons_succ]
            refine wpAnyH_take (i := 8) (v := ?_) rfl (by kernel_rfl) (by kernel_rfl) (by kernel_rfl) (fun _ _ _ h => h) (Or.inl ⟨by kernel_rfl, ?_⟩) (by assumption) ?_
            rotate_left
            · (intro w hSw; (go_simp; try with_reducible rfl))
            try simp only [Act.put, List.getElem_toArray, List.getElem_cons_succ, List.getElem_cons_zero, List.setIfInBounds_toArray, List.set_cons_zero, List.set_cons_succ]
            refine wpAnyH_take (i := 10) (v := ?_) rfl (by kernel_rfl) (by kernel_rfl) (by kernel_rfl) (fun _ _ _ h => h) (Or.inl ⟨by kernel_rfl, ?_⟩) (by assumption) ?_
            rotate_left
            · (intro w hSw; (go_simp; try with_reducible rfl))
            try simp only [Act.put, List.getElem_toArray, List.getElem_cons_succ, List.getElem_cons_zero, List.setIfInBounds_toArray, List.set_cons_zero, List.set_cons_succ]
            refine wpAnyH_take (i := 11) (v := ?_) rfl (by kernel_rfl) (by kernel_rfl) (by kernel_rfl) (fun _ _ _ h => h) (Or.inl ⟨by kernel_rfl, ?_⟩) (by assumption) ?_
            rotate_left
            · (intro w hSw; (go_simp; try with_reducible rfl))
            try simp only [Act.put, List.getElem_toArray, List.getElem_cons_succ, List.getElem_cons_zero, List.setIfInBounds_toArray, List.set_cons_zero, List.set_cons_succ]
            refine wpAnyH_take (i := 12) (v := ?_) rfl (by kernel_rfl) (by kernel_rfl) (by kernel_rfl) (fun _ _ _ h => h) (Or.inl ⟨by kernel_rfl, ?_⟩) (by assumption) ?_
            rotate_left
            · (intro w hSw; (go_simp; try with_reducible rfl))
            try simp only [Act.put, List.getElem_toArray, List.getElem_cons_succ, List.getElem_cons_zero, List.setIfInBounds_toArray, List.set_cons_zero, List.set_cons_succ]
            refine wpAnyH_ready (rs := [9, 13]) (by kernel_rfl) (by simp) (AllReadyH.cons rfl (fun K hK => ?_) (AllReadyH.cons rfl (fun K hK => ?_) AllReadyH.nil))
            · rw [if_pos (by kernel_rfl)]
              refine wp_load_mid _ _ rfl _ _ rfl (pcells y) _ D2.out Try.underlying46 rfl (sizeq y) ?_
              refine hK.out _ _ trivial (fun _ => ?_)
              clear hK
              try simp only [Act.put, List.getElem_toArray, List.getElem_cons_succ, List.getElem_cons_zero, List.setIfInBounds_toArray, List.set_cons_zero, List.set_cons_succ]
              refine wpAnyH_ready (rs := [13]) (by kernel_rfl) (by simp) (AllReadyH.cons rfl (fun K hK => ?_) AllReadyH.nil)
              rw [if_pos (by kernel_rfl)]
              refine wp_load_mid _ _ rfl _ _ rfl (pcells x) _ D1.out Try.underlying46 rfl (sizeq x) ?_
              refine hK.out _ _ trivial (fun _ => ?_)
              clear hK
              try simp only [Act.put, List.getElem_toArray, List.getElem_cons_succ, List.getElem_cons_zero, List.setIfInBounds_toArray, List.set_cons_zero, List.set_cons_succ]
              refine wpAnyH_take (i := 14) (v := ?_) rfl (by kernel_rfl) (by kernel_rfl) (by kernel_rfl) (fun _ _ _ h => h) (Or.inl ⟨by kernel_rfl, ?_⟩) (by assumption) ?_
              rotate_left
              · (intro w hSw; (go_simp; try with_reducible rfl))
              try simp only [Act.put, List.getElem_toArray, List.getElem_cons_succ, List.getElem_cons_zero, List.setIfInBounds_toArray, List.set_cons_zero, List.set_cons_succ]
              refine wpAnyH_ready (rs := [15]) (by kernel_rfl) (by simp) (AllReadyH.cons rfl (fun K hK => ?_) AllReadyH.nil)
              rw [if_pos (by kernel_rfl)]
              refine wp_store_mid _ _ _ rfl _ _ (pcells y).toArray rfl rfl (by simpa [pcells_len] using T1.out) (sizep y) (all_oneCell_toArray (pcells_one y)) ?_
              refine hK.out _ _ trivial (fun _ => ?_)
              clear hK
              try simp only [Act.put, List.getElem_toArray, List.getElem_cons_succ, List.getElem_cons_zero, List.setIfInBounds_toArray, List.set_cons_zero, List.set_cons_succ]
              try rw [List.toList_toArray]
              refine wpAnyH_take (i := 16) (v := ?_) rfl (by kernel_rfl) (by kernel_rfl) (by kernel_rfl) (fun _ _ _ h => h) (Or.inl ⟨by kernel_rfl, ?_⟩) (by assumption) ?_
              rotate_left
              · (intro w hSw; (go_simp; try with_reducible rfl))
              try simp only [Act.put, List.getElem_toArray, List.getElem_cons_succ, List.getElem_cons_zero, List.setIfInBounds_toArray, List.set_cons_zero, List.set_cons_succ]
              refine wpAnyH_ready (rs := [17]) (by kernel_rfl) (by simp) (AllReadyH.cons rfl (fun K hK => ?_) AllReadyH.nil)
              rw [if_pos (by kernel_rfl)]
              refine wp_store_mid _ _ _ rfl _ _ (pcells x).toArray rfl rfl (by simpa [pcells_len] using T2.out) (sizep x) (all_oneCell_toArray (pcells_one x)) ?_
              refine hK.out _ _ trivial (fun _ => ?_)
              clear hK
              try simp only [Act.put, List.getElem_toArray, List.getElem_cons_succ, List.getElem_cons_zero, List.setIfInBounds_toArray, List.set_cons_zero, List.set_cons_succ]
              try rw [List.toList_toArray]
              refine wpAnyH_done (by kernel_rfl) ?_ _
              generalize hW9 : (w2.drew.setCells g ((m + 1) * 34) (pcells y)).setCells g (m * 34) (pcells x) = W9 at RJ2 GF ⊢
              clear hW9
              go_wp2
              go_roundg (m + 1)
              case measure => rw [HKJ.out]; omega
              case rel => exact ⟨m, by omega, rfl, rfl, RJ2.out, AJ2.out, GF.out⟩
            · rw [if_pos (by kernel_rfl)]
              refine wp_load_mid _ _ rfl _ _ rfl (pcells x) _ D1.out Try.underlying46 rfl (sizeq x) ?_
              refine hK.out _ _ trivial (fun _ => ?_)
              clear hK
              try simp only [Act.put, List.getElem_toArray, List.getElem_cons_succ, List.getElem_cons_zero, List.setIfInBounds_toArray, List.set_cons_zero, List.set_cons_succ]
              refine wpAnyH_ready (rs := [9]) (by kernel_rfl) (by simp) (AllReadyH.cons rfl (fun K hK => ?_) AllReadyH.nil)
              rw [if_pos (by kernel_rfl)]
              refine wp_load_mid _ _ rfl _ _ rfl (pcells y) _ D2.out Try.underlying46 rfl (sizeq y) ?_
              refine hK.out _ _ trivial (fun _ => ?_)
              clear hK
              try simp only [Act.put, List.getElem_toArray, List.getElem_cons_succ, List.getElem_cons_zero, List.setIfInBounds_toArray, List.set_cons_zero, List.set_cons_succ]
              refine wpAnyH_take (i := 14) (v := ?_) rfl (by kernel_rfl) (by kernel_rfl) (by kernel_rfl) (fun _ _ _ h => h) (Or.inl ⟨by kernel_rfl, ?_⟩) (by assumption) ?_
              rotate_left
              · (intro w hSw; (go_simp; try with_reducible rfl))
              try simp only [Act.put, List.getElem_toArray, List.getElem_cons_succ, List.getElem_cons_zero, List.setIfInBounds_toArray, List.set_cons_zero, List.set_cons_succ]
              refine wpAnyH_ready (rs := [15]) (by kernel_rfl) (by simp) (AllReadyH.cons rfl (fun K hK => ?_) AllReadyH.nil)
              rw [if_pos (by kernel_rfl)]
              refine wp_store_mid _ _ _ rfl _ _ (pcells y).toArray rfl rfl (by simpa [pcells_len] using T1.out) (sizep y) (all_oneCell_toArray (pcells_one y)) ?_
              refine hK.out _ _ trivial (fun _ => ?_)
              clear hK
              try simp only [Act.put, List.getElem_toArray, List.getElem_cons_succ, List.getElem_cons_zero, List.setIfInBounds_toArray, List.set_cons_zero, List.set_cons_succ]
              try rw [List.toList_toArray]
              refine wpAnyH_take (i := 16) (v := ?_) rfl (by kernel_rfl) (by kernel_rfl) (by kernel_rfl) (fun _ _ _ h => h) (Or.inl ⟨by kernel_rfl, ?_⟩) (by assumption) ?_
              rotate_left
              · (intro w hSw; (go_simp; try with_reducible rfl))
              try simp only [Act.put, List.getElem_toArray, List.getElem_cons_succ, List.getElem_cons_zero, List.setIfInBounds_toArray, List.set_cons_zero, List.set_cons_succ]
              refine wpAnyH_ready (rs := [17]) (by kernel_rfl) (by simp) (AllReadyH.cons rfl (fun K hK => ?_) AllReadyH.nil)
              rw [if_pos (by kernel_rfl)]
              refine wp_store_mid _ _ _ rfl _ _ (pcells x).toArray rfl rfl (by simpa [pcells_len] using T2.out) (sizep x) (all_oneCell_toArray (pcells_one x)) ?_
              refine hK.out _ _ trivial (fun _ => ?_)
              clear hK
              try simp only [Act.put, List.getElem_toArray, List.getElem_cons_succ, List.getElem_cons_zero, List.setIfInBounds_toArray, List.set_cons_zero, List.set_cons_succ]
              try rw [List.toList_toArray]
              refine wpAnyH_done (by kernel_rfl) ?_ _
              generalize hW9 : (w2.drew.setCells g ((m + 1) * 34) (pcells y)).setCells g (m * 34) (pcells x) = W9 at RJ2 GF ⊢
              clear hW9
              go_wp2
              go_roundg (m + 1)
              case measure => rw [HKJ.out]; omega
              case rel => exact ⟨m, by omega, rfl, rfl, RJ2.out, AJ2.out, GF.out⟩
          · go_wp2_with fail
            refine wp_region_held_drew (S := fun w' => Below wi.heap.size wi w') (by kernel_rfl) (below_drew (Below.refl _ _)) (fun hHeld => ?_)
            refine wpAnyH_take (i := 0) (v := ?_) rfl (by kernel_rfl) (by kernel_rfl) (by kernel_rfl) (fun _ _ _ h => h) (Or.inl ⟨by kernel_rfl, ?_⟩) (by assumption) ?_
            rotate_left
            · (intro w hSw; (go_simp; try with_reducible rfl))
            try simp only [Act.put, List.getElem_toArray, List.getElem_cons_succ, List.getElem_cons_zero, List.setIfInBounds_toArray, List.set_cons_zero, List.set_cons_succ]
            refine wpAnyH_take (i := 1) (v := ?_) rfl (by kernel_rfl) (by kernel_rfl) (by kernel_rfl) (fun _ _ _ h => h) (Or.inl ⟨by kernel_rfl, ?_⟩) (by assumption) ?_
            rotate_left
            · (intro w hSw; (go_simp; try with_reducible rfl))
            try simp only [Act.put, List.getElem_toArray, List.getElem_cons_succ, List.getElem_cons_zero, List.setIfInBounds_toArray, List.set_cons_zero, List.set_cons_succ]
            refine wpAnyH_take (i := 2) (v := ?_) rfl (by kernel_rfl) (by kernel_rfl) (by kernel_rfl) (fun _ _ _ h => h) (Or.inl ⟨by kernel_rfl, ?_⟩) (by assumption) ?_
            rotate_left
            · (intro w hSw; (go_simp; try with_reducible rfl))
            try simp only [Act.put, List.getElem_toArray, List.getElem_cons_succ, List.getElem_cons_zero, List.setIfInBounds_toArray, List.set_cons_zero, List.set_cons_succ]
            refine wpAnyH_take (i := 3) (v := ?_) rfl (by kernel_rfl) (by kernel_rfl) (by kernel_rfl) (fun _ _ _ h => h) (Or.inl ⟨by kernel_rfl, ?_⟩) (by assumption) ?_
            rotate_left
            · (intro w hSw; (go_simp; try with_reducible rfl))
            try simp only [Act.put, List.getElem_toArray, List.getElem_cons_succ, List.getElem_cons_zero, List.setIfInBounds_toArray, List.set_cons_zero, List.set_cons_succ]
            refine wpAnyH_take (i := 4) (v := ?_) rfl (by kernel_rfl) (by kernel_rfl) (by kernel_rfl) (fun _ _ _ h => h) (Or.inl ⟨by kernel_rfl, ?_⟩) (by assumption) ?_
            rotate_left
            · (intro w hSw; (go_simp; try with_reducible rfl))
            try simp only [Act.put, List.getElem_toArray, List.getElem_cons_succ, List.getElem_cons_zero, List.setIfInBounds_toArray, List.set_cons_zero, List.set_cons_succ]
            refine wpAnyH_take (i := 5) (v := ?_) rfl (by kernel_rfl) (by kernel_rfl) (by kernel_rfl) (fun _ _ _ h => h) (Or.inl ⟨by kernel_rfl, ?_⟩) (by assumption) ?_
            rotate_left
            · (intro w hSw; (go_simp; try with_reducible rfl))
            try simp only [Act.put, List.getElem_toArray, List.getElem_cons_succ, List.getElem_cons_zero, List.setIfInBounds_toArray, List.set_cons_zero, List.set_cons_succ]
            refine wpAnyH_take (i := 6) (v := ?_) rfl (by kernel_rfl) (by kernel_rfl) (by kernel_rfl) (fun _ _ _ h => h) (Or.inl ⟨by kernel_rfl, ?_⟩) (by assumption) ?_
            rotate_left
            · (intro w hSw; (go_simp; try with_reducible rfl))
            try simp only [Act.put, List.getElem_toArray, List.getElem_cons_succ, List.getElem_cons_zero, List.setIfInBounds_toArray, List.set_cons_zero, List.set_cons_succ]
            refine wpAnyH_take (i := 7) (v := ?_) rfl (by kernel_rfl) (by kernel_rfl) (by kernel_rfl) (fun _ _ _ h => h) (Or.inl ⟨by kernel_rfl, ?_⟩) (by assumption) ?_
            rotate_left
            · (intro w hSw; (go_simp; try with_reducible rfl))
            try simp only [Act.put, List.getElem_toArray, List.getElem_cons_succ, List.getElem_cons_zero, List.setIfInBounds_toArray, List.set_cons_zero, List.set_cons_succ]
            refine' wpAnyH_take (i := 8) (v := _) rfl (by kernel_rfl) (by kernel_rfl) (by kernel_rfl) (fun _ _ _ h => h) (yieldsIf_load_mid (by kernel_rfl) _ _ rfl _ _ rfl (pcells x) _ ?hT Try.underlying46 rfl (sizeq x)) (by assumption) ?res3
            case' hT => exact fun w' hw => rangeAt_below RX.out hw
            case' res3 =>
              try simp only [Act.put, List.getElem_toArray, List.getElem_cons_succ, List.getElem_cons_zero, List.setIfInBounds_toArray, List.set_cons_zero, List.set_cons_succ]
              refine wpAnyH_take (i := 9) (v := ?_) rfl (by kernel_rfl) (by kernel_rfl) (by kernel_rfl) (fun _ _ _ h => h) (Or.inl ⟨by kernel_rfl, ?_⟩) (by assumption) ?_
              rotate_left
              · (intro w hSw; (go_simp; try with_reducible rfl))
              try simp only [Act.put, List.getElem_toArray, List.getElem_cons_succ, List.getElem_cons_zero, List.setIfInBounds_toArray, List.set_cons_zero, List.set_cons_succ]
              refine wpAnyH_take (i := 10) (v := ?_) rfl (by kernel_rfl) (by kernel_rfl) (by kernel_rfl) (fun _ _ _ h => h) (Or.inl ⟨by kernel_rfl, ?_⟩) (by assumption) ?_
              rotate_left
              · (intro w hSw; (go_simp; try with_reducible rfl))
              try simp only [Act.put, List.getElem_toArray, List.getElem_cons_succ, List.getElem_cons_zero, List.setIfInBounds_toArray, List.set_cons_zero, List.set_cons_succ]
              refine wpAnyH_take (i := 11) (v := ?_) rfl (by kernel_rfl) (by kernel_rfl) (by kernel_rfl) (fun _ _ _ h => h) (Or.inl ⟨by kernel_rfl, ?_⟩) (by assumption) ?_
              rotate_left
              · (intro w hSw; (go_simp; try with_reducible rfl))
              try simp only [Act.put, List.getElem_toArray, List.getElem_cons_succ, List.getElem_cons_zero, List.setIfInBounds_toArray, List.set_cons_zero, List.set_cons_succ]
              refine wpAnyH_take (i := 12) (v := ?_) rfl (by kernel_rfl) (by kernel_rfl) (by kernel_rfl) (fun _ _ _ h => h) (Or.inl ⟨by kernel_rfl, ?_⟩) (by assumption) ?_
              rotate_left
              · (intro w hSw; (go_simp; try with_reducible rfl))
              try simp only [Act.put, List.getElem_toArray, List.getElem_cons_succ, List.getElem_cons_zero, List.setIfInBounds_toArray, List.set_cons_zero, List.set_cons_succ]
            refine' wpAnyH_take (i := 13) (v := _) rfl (by kernel_rfl) (by kernel_rfl) (by kernel_rfl) (fun _ _ _ h => h) (yieldsIf_load_mid (by kernel_rfl) _ _ rfl _ _ rfl (pcells y) _ ?hT2 Try.underlying46 rfl (sizeq y)) (by assumption) ?res4
            case' hT2 => exact fun w' hw => rangeAt_below RY.out hw
            case' res4 => try simp only [Act.put, List.getElem_toArray, List.getElem_cons_succ, List.getElem_cons_zero, List.setIfInBounds_toArray, List.set_cons_zero, List.set_cons_succ]
            refine wpAnyH_ready (rs := [14]) (by kernel_rfl) (by simp) (AllReadyH.cons rfl (fun K hK => ?_) AllReadyH.nil)
            go_simp
            refine (CM.out _ hHeld).mono ?_
            rintro e w2 ⟨rfl, b2⟩
            refine hK.out _ _ (hHeld.trans (b2.mono hHeld.size)) (fun hH2 => ?_)
            clear hHeld hK b2
            try simp only [Act.put, List.getElem_toArray, List.getElem_cons_succ, List.getElem_cons_zero, List.setIfInBounds_toArray, List.set_cons_zero, List.set_cons_succ]
            refine wpAnyH_take (i := 15) (v := ?_) rfl (by kernel_rfl) (by kernel_rfl) (by kernel_rfl) (fun _ _ _ h => h) (Or.inl ⟨by kernel_rfl, ?_⟩) (by assumption) ?_
            rotate_left
            · (intro w hSw; (go_simp; try with_reducible rfl))
            try simp only [Act.put, List.getElem_toArray, List.getElem_cons_succ, List.getElem_cons_zero, List.setIfInBounds_toArray, List.set_cons_zero, List.set_cons_succ]
            refine wpAnyH_take (i := 16) (v := ?_) rfl (by kernel_rfl) (by kernel_rfl) (by kernel_rfl) (fun _ _ _ h => h) (Or.inl ⟨by kernel_rfl, ?_⟩) (by assumption) ?_
            rotate_left
            · (intro w hSw; (go_simp; try with_reducible rfl))
            try simp only [Act.put, List.getElem_toArray, List.getElem_cons_succ, List.getElem_cons_zero, List.setIfInBounds_toArray, List.set_cons_zero, List.set_cons_succ]
            refine wpAnyH_done (by kernel_rfl) ?_ _
            have RF : Hid (PkRow B w2 (.slice (some ⟨g, 0, none⟩) n c) (isort keyOfPk (l.take (i + 1)) ++ l.drop (i + 1))) := Lib.hid (by
              rw [TK.out, insR_at keyOfPk HSR.out (x := x) (j := m + 1) AJ.out (.inr ⟨y, HY.out, by have := HCV.out; omega⟩), ← HRE.out]
              unfold PkRow
              rw [RL.out]
              exact own_later RNH.out hH2)
            have GF := Lib.hid (grown_trans GJ.out (grown_below hH2 (some g)))
            clear hH2
            go_wp2
            go_roundg (n - (i + 1))
            case measure => rw [HK.out]; omega
            case rel => exact ⟨i + 1, by omega, by omega, rfl, by go_num, RF.out, GF.out⟩
    · obtain rfl : i = n := by omega
      have hfin : isort keyOfPk (l.take i) ++ l.drop i = isort keyOfPk l := by
        rw [HN.out, List.take_length, List.drop_length, List.append_nil]
      have FI := Lib.hid hfin
      clear hfin
      go_wp2
      first | go_end0 | refine bodyPost_ret (results_none rfl _ _ _) rfl ?_
      exact ⟨rfl, by rw [← FI.out]; exact RR.out, GG.out⟩
end Go.Proofs.Ytpmkgnnpngbfmaa
