/- The reference: Add: plain, and strings of ids. -/
import Derived.Test.YtgbghjpkdbjdgaaDe2
namespace Go.Proofs.Ytgbghjpkdbjdgaa
open Go.RowKit Go.Lib
open Extern.Stop (cell)

/-- An id as a string. -/
abbrev sid (x : Id32) : ByteArray := ⟨x.1.toArray⟩
theorem less_bytes : ∀ a b : List UInt8, Op.bytesLess a b = decide (compareBytes a b < 0)
  | [], [] => rfl
  | [], _ :: _ => rfl
  | _ :: _, [] => rfl
  | x :: a, y :: b => by
    unfold compareBytes Op.bytesLess
    by_cases h1 : x < y
    · simp [h1]
    · by_cases h2 : y < x
      · have hne : ¬ x = y := fun e => by subst e; exact UInt8.lt_irrefl _ h2
        simp [h1, h2, hne]
      · have := UInt8.le_antisymm (UInt8.not_lt.1 h2) (UInt8.not_lt.1 h1)
        subst this
        simp [h1, less_bytes a b]
/-- Where it goes. -/
def posE (es : List Ent) (e : Ent) : Nat := (es.takeWhile fun x => decide (compareBytes x.1.1 e.1.1 < 0)).length
def insE (es : List Ent) (e : Ent) : List Ent := es.take (posE es e) ++ e :: es.drop (posE es e)
theorem conv_id {w : World} {b o : Nat} {x : Id32} (hb : b < w.heap.size) (h : Lies w b o (encId x).toArray) (q : Nat) : (convert 49 9 (.slice (some ⟨b, o, none⟩) 32 32)).run Try.prog (w.drewN q) = .ok (.string (sid x)) (w.drewN q) := by
  have hr : BytesRd w (some ⟨b, o, none⟩) x.1 := fun j z hj => ⟨b, o, rfl, hb, h j (cell z) (by
    show (encId x)[j]? = _
    rw [encId, idCells_of x.2, List.getElem?_map, hj]
    rfl)⟩
  have := conv_bytes (hr.later (below_drewN (Below.refl _ _) q)) 32
  rw [x.2] at this
  exact this
theorem pos_yes {p : Ent → Bool} : ∀ {es : List Ent} {i : Nat} {x : Ent}, i < (es.takeWhile p).length → es[i]? = some x → p x = true
  | [], _, _, h, _ => by simp at h
  | y :: es, i, x, h, hx => by
    by_cases hy : p y = true
    · rw [List.takeWhile_cons_of_pos hy] at h
      cases i with
      | zero => have : y = x := by simpa using hx
                rw [← this]; exact hy
      | succ i => exact pos_yes (es := es) (by simpa using h) (by simpa using hx)
    · rw [List.takeWhile_cons_of_neg hy] at h
      simp at h
theorem pos_no {p : Ent → Bool} : ∀ {es : List Ent} {x : Ent}, es[(es.takeWhile p).length]? = some x → p x = false
  | [], _, h => by simp at h
  | y :: es, x, h => by
    by_cases hy : p y = true
    · rw [List.takeWhile_cons_of_pos hy] at h
      exact pos_no (es := es) (by simpa using h)
    · rw [List.takeWhile_cons_of_neg hy] at h
      have : y = x := by simpa using h
      rw [← this]
      simpa using hy
theorem pos_le (es : List Ent) (e : Ent) : posE es e ≤ es.length := (List.takeWhile_sublist _).length_le
theorem ins_len (es : List Ent) (e : Ent) : (insE es e).length = es.length + 1 := by
  have := pos_le es e
  unfold insE
  rw [List.length_append, List.length_cons, List.length_take, List.length_drop]
  omega
theorem erow_news {w : World} {ad : Addr} {es : List Ent} (h : ERow w (some ad) es) {news : List Value} (k : Nat) (hk : ∀ j u, news[j]? = some u → (es.flatMap ecells)[k + j]? = some u) : ∀ (j : Nat) (u : Value), news[j]? = some u → ∃ b off, ad = ⟨b, off, none⟩ ∧ w.cell? ((⟨b, off + k, none⟩ : Addr).add j) = some u := fun j u hj => by
  obtain ⟨b, off, e, hc⟩ := h _ u (hk j u hj)
  cases e
  refine ⟨b, off, rfl, ?_⟩
  rw [← Nat.add_assoc] at hc
  unfold Addr.add
  split
  · rename_i h0
    rw [h0, Nat.add_zero] at hc
    exact hc
  · exact hc
theorem erow_take {w : World} {ad : Option Addr} {es : List Ent} (h : ERow w ad es) (k : Nat) : ∀ ad', ad = some ad' → ∀ (j : Nat) (u : Value), ((es.take k).flatMap ecells)[j]? = some u → w.cell? (ad'.add j) = some u := fun ad' e j u hj => by
  subst e
  have hk : ∀ j u, ((es.take k).flatMap ecells)[j]? = some u → (es.flatMap ecells)[0 + j]? = some u := fun j u hj => by
    rw [Nat.zero_add]
    rw [← flat_take ecells 65 ecells_len] at hj
    rw [List.getElem?_take] at hj
    split at hj
    · exact hj
    · cases hj
  obtain ⟨b, off, rfl, hc⟩ := erow_news h 0 hk j u hj
  exact hc
theorem erow_drop {w : World} {b off : Nat} {es : List Ent} (h : ERow w (some ⟨b, off, none⟩) es) (k : Nat) : ∀ (j : Nat) (u : Value), ((es.drop k).flatMap ecells)[j]? = some u → w.cell? ((⟨b, off + k * 65, none⟩ : Addr).add j) = some u := fun j u hj => by
  have hk : ∀ j u, ((es.drop k).flatMap ecells)[j]? = some u → (es.flatMap ecells)[k * 65 + j]? = some u := fun j u hj => by
    rw [← flat_drop ecells 65 ecells_len] at hj
    rw [List.getElem?_drop] at hj
    exact hj
  obtain ⟨b', off', e, hc⟩ := erow_news h (k * 65) hk j u hj
  cases e
  exact hc
theorem eflat_one (es : List Ent) : ∀ u ∈ es.flatMap ecells, u.oneCell' = true := by
  intro u hu
  obtain ⟨e, _, he⟩ := List.mem_flatMap.1 hu
  exact ecells_one e u he
set_option linter.unusedSimpArgs false in
set_option maxRecDepth 100000 in
set_option maxHeartbeats 8000000 in
theorem radd_any {w : World} {v : Value} {es : List Ent} (hv : EV w v es) (hl : es.length ≤ 10000) (e : Ent) :
    Calls Try.prog 14 #[v, .agg (ecells e).toArray] w fun r w' => ∃ v', r = .returned (.tuple #[v', .bool (addB es e.1 e.2)]) ∧ EV w' v' (if addB es e.1 e.2 then insE es e else es) ∧ Below w.heap.size w w' := by
  have EV0 := Lib.hid hv
  obtain ⟨ad, c, rfl, hrow, hc, hn0⟩ := hv
  have ROW := Lib.hid hrow
  obtain ⟨n, hn⟩ : ∃ n, n = es.length := ⟨_, rfl⟩
  have NN := Lib.hid hn
  rw [← hn] at hl hc EV0 ⊢
  have n1 : (n : Int) ≤ 10000 := by omega
  have N0 := Lib.hid hn0
  obtain ⟨I, hI⟩ : ∃ I, I = w.heap.size := ⟨_, rfl⟩
  have II := Lib.hid hI
  obtain ⟨g0, hi, hz0, hz1, hz2⟩ := info_parts info_e
  obtain ⟨en, hen⟩ : ∃ en, en = e.2.n := ⟨_, rfl⟩
  have EN := Lib.hid hen
  obtain ⟨bb, hbb⟩ : ∃ bb, bb = addB es e.1 e.2 := ⟨_, rfl⟩
  have HBB := Lib.hid hbb
  rw [← hbb]
  clear hrow hn hI hn0 hen hbb
  go_enter Try.func14, Try.ntmps14
  go_upto_region 1 with fail
  rw [← II.out]
  refine wp_named fun W hW => ?_
  have e1 : W.heap[I]? = some (.cells (ecells e).toArray 41 (0, 0)) := by rw [hW, II.out]; exact heap_at _ _
  have b0 : Below w.heap.size w W := by rw [hW]; exact below_alloc (Below.refl _ _) _
  have E1 := Lib.hid e1
  have B0 := Lib.hid b0
  clear hW e1 b0
  have LI := Lib.hid (e_lies (lies_block E1.out)).1
  have FI := rfind_any (c := c) (ROW.out.later B0.out) (by rw [← NN.out]; omega) e.1
  rw [← NN.out] at FI
  have FI1 := Lib.hid FI
  clear FI
  go_wp2_with (refine wpList_load_agg rfl 31 (.tmp 9) rfl I 0 rfl (encId e.1).toArray _ LI.out Try.underlying31 rfl (sizei e.1.1) ?_)
  refine FI1.out.mono ?_
  rintro q w1 ⟨⟨r, rfl, hr, hr1⟩, b1⟩
  have E2 := Lib.hid (aRegionKept E1.out b1)
  have B1 := Lib.hid (B0.out.trans (b1.mono B0.out.size))
  have cn : w1.cell? ⟨I, 64, none⟩ = some (.int .i64 en) := by
    have := (e_lies (lies_block E2.out)).2.2
    rw [Nat.zero_add, ← EN.out] at this
    exact this
  have AB : Hid (bb = (decide (0 ≤ en) && decide (en ≤ 1023) && !decide (0 ≤ r))) := Lib.hid (by rw [HBB.out, EN.out, hr]; rfl)
  have EV1 := Lib.hid (EV0.out.later B1.out)
  clear hr b1 FI1 E1 B0 LI
  by_cases h0 : 0 ≤ r
  · have d0 : decide (0 ≤ r) = true := decide_eq_true h0
    have ab : bb = false := by rw [AB.out, d0]; simp
    subst ab
    go_wp2
    go_ret2
    exact ⟨_, rfl, EV1.out, B1.out⟩
  have d0 : decide (0 ≤ r) = false := decide_eq_false h0
  by_cases h1 : en < 0
  · have ab : bb = false := by rw [AB.out, decide_eq_false (show ¬ 0 ≤ en by omega)]; rfl
    subst ab
    clear h0
    go_wp2
    go_ret2
    exact ⟨_, rfl, EV1.out, B1.out⟩
  by_cases h2 : 1023 < en
  · have ab : bb = false := by rw [AB.out, decide_eq_false (show ¬ en ≤ 1023 by omega)]; simp
    subst ab
    clear h0
    go_wp2
    go_ret2
    exact ⟨_, rfl, EV1.out, B1.out⟩
  have ab : bb = true := by rw [AB.out, d0, decide_eq_true (show 0 ≤ en by omega), decide_eq_true (show en ≤ 1023 by omega)]; rfl
  subst ab
  clear h0 EV0 EV1
  obtain ⟨P, hP⟩ : ∃ P, P = posE es e := ⟨_, rfl⟩
  have PP := Lib.hid hP
  have hPn : P ≤ n := by rw [hP, NN.out]; exact pos_le _ _
  clear hP
  go_wp2_with fail
  go_loopg [6] n (fun k s6 wr => ∃ j : Nat, j ≤ P ∧ k = n - j ∧ s6 = .int .i64 j ∧ Below w1.heap.size w1 wr)
  case atStart => exact ⟨0, Nat.zero_le _, rfl, rfl, Below.refl _ _⟩
  case round =>
    obtain ⟨j, hj, hk, rfl, hb⟩ := hrel
    have HK := Lib.hid hk
    have HB := Lib.hid hb
    have j0 : (0 : Int) ≤ (j : Int) := Int.natCast_nonneg _
    clear hk hb cn
    by_cases hcont : j < P
    · have hlt' : (j : Int) < (n : Int) := by omega
      obtain ⟨x, hx⟩ : ∃ x, es[j]? = some x := ⟨es[j]'(by rw [← NN.out]; omega), List.getElem?_eq_getElem _⟩
      have hless : Op.bytesLess x.1.1 e.1.1 = true := by
        rw [less_bytes]
        exact pos_yes (by rw [PP.out] at hcont; exact hcont) hx
      obtain ⟨b, off, rfl, hb2, hL⟩ := erow_elem (ROW.out.later (B1.out.trans (HB.out.mono B1.out.size))) hx
      have e3 := aRegionKept E2.out HB.out
      have c1 := conv_id hb2 (e_lies hL).1
      have c2 := conv_id (Array.getElem?_eq_some_iff.1 e3).1 (e_lies (lies_block e3)).1
      clear hL hx e3
      go_upto_region 4 with fail
      refine wp_region_quiet_lit (by kernel_rfl) (by kernel_rfl) ?_
      repeat go_big_quiet_step (fail)
      refine wpQuiet_nil ?_
      intro _ hw9
      obtain ⟨nq, hw9⟩ := hw9
      subst hw9
      go_wp2
      go_roundg (n - (j + 1))
      case measure => rw [HK.out]; omega
      case rel => exact ⟨j + 1, by omega, rfl, by go_num, below_drewN HB.out _⟩
    · obtain rfl : j = P := by omega
      by_cases hPn2 : j < n
      · have hlt' : (j : Int) < (n : Int) := by omega
        obtain ⟨x, hx⟩ : ∃ x, es[j]? = some x := ⟨es[j]'(by rw [← NN.out]; omega), List.getElem?_eq_getElem _⟩
        have hless : Op.bytesLess x.1.1 e.1.1 = false := by
          rw [less_bytes]
          exact pos_no (by rw [PP.out] at hx; exact hx)
        obtain ⟨b, off, rfl, hb2, hL⟩ := erow_elem (ROW.out.later (B1.out.trans (HB.out.mono B1.out.size))) hx
        have e3 := aRegionKept E2.out HB.out
        have c1 := conv_id hb2 (e_lies hL).1
        have c2 := conv_id (Array.getElem?_eq_some_iff.1 e3).1 (e_lies (lies_block e3)).1
        clear hL hx e3 hcont
        go_upto_region 4 with fail
        refine wp_region_quiet_lit (by kernel_rfl) (by kernel_rfl) ?_
        repeat go_big_quiet_step (fail)
        refine wpQuiet_nil ?_
        intro _ hw9
        obtain ⟨nq, hw9⟩ := hw9
        subst hw9
        go_upto_region 7 with fail
        refine wp_named fun w4 hw4 => ?_
        have b4 : Below w1.heap.size w1 w4 := by rw [hw4]; exact below_drewN HB.out _
        have hcP : ¬ c - j = 0 := by omega
        have hbw : b < w4.heap.size := Nat.lt_of_lt_of_le hb2 (by rw [hw4]; exact Nat.le_refl _)
        have hcP2 : (c : Int) ≠ (j : Int) := by omega
        have NONE1 : Hid ((some ⟨b, off, none⟩ : Option Addr) = none → j = 0 ∧ c = 0) := Lib.hid (fun h => by cases h)
        clear hw4 c1 c2 hless HB
        have R4 := ROW.out.later (B1.out.trans (b4.mono B1.out.size))
        have B4 := Lib.hid (B1.out.trans (b4.mono B1.out.size))
        have E4 := Lib.hid (aRegionKept E2.out b4)
        have NEWS1 := Lib.hid (erow_take R4 j)
        have LEN1 : Hid (((es.take j).flatMap ecells).length = j * 65) := Lib.hid (by rw [flat_len ecells 65 ecells_len, List.length_take, ← NN.out, Nat.min_eq_left hPn])
        have R4' := Lib.hid R4
        have hIw : I < w4.heap.size := (Array.getElem?_eq_some_iff.1 E4.out).1
        clear b4 R4
        go_upto_region 8 with (at_builtin; refine wpList_append_opt rfl (.tmp 42) (.tmp 45) 26 rfl w4.heap.size 41 g0 _ 65 72 Try.underlying26 hi hz0 hz1 hz2 (by simp [Value.cells, ecells_len]) (by decide) (.slice none 0 0) 0 [] rfl (World.ownsRow_nil _ _ _ _) (some ⟨b, off, none⟩) j c ((es.take j).flatMap ecells) rfl NONE1.out LEN1.out NEWS1.out (eflat_one _) (by unfold maxLen; omega) (by omega) (Nat.le_refl _) ?_; intro v5 w5 hown5 hg5 hat5)
        have b5 : Below w4.heap.size w4 w5 := below_none hg5
        have O5 : Hid (w5.ownsRow w4.heap.size 41 65 v5 j ((es.take j).flatMap ecells)) := Lib.hid (by simpa using hown5)
        have B5 := Lib.hid (B4.out.trans (b5.mono B4.out.size))
        have L5 := Lib.hid (lies_block (aRegionKept E4.out b5))
        have S45 := b5.size
        have R5 := Lib.hid (R4'.out.later b5)
        clear hown5 hg5 hat5 b5 E4 NEWS1 LEN1 R4'
        go_upto_region 9 with (first | (refine wpList_load_agg rfl 41 (.tmp 3) rfl I 0 rfl (ecells e).toArray _ L5.out Try.underlying41 rfl (sizee e) ?_) | (refine wpList_row_one rfl 26 41 (.tmp 48) rfl (ecells e).toArray rfl 65 g0 _ Try.underlying26 hi hz0 hz1 (by decide) (by simp [ecells_len]) (by decide) ?_) | (at_builtin; refine wpList_append_opt rfl (.tmp 47) (.tmp 49) 26 rfl w4.heap.size 41 g0 _ 65 72 Try.underlying26 hi hz0 hz1 hz2 (by simp [Value.cells, ecells_len]) (by decide) v5 j ((es.take j).flatMap ecells) rfl (own_later O5.out (below_alloc (Below.refl _ _) _)) (some ⟨w5.heap.size, 0, none⟩) 1 1 (ecells e) rfl (fun h => by cases h) (by rw [ecells_len]) (fun ad' h => by cases h; exact e_news w5 e _) (ecells_one e) (by unfold maxLen; omega) (by omega) (by simp; omega) ?_; intro v6 w6 hown6 hg6 hat6))
        have b56 : Below w4.heap.size w5 w6 := ((below_alloc (Below.refl w5.heap.size w5) (.cells (ecells e).toArray 41)).mono S45).grown hg6 (by simp; omega) (fun k hk => (own_row O5.out hk).1)
        have O6 := Lib.hid hown6
        have B6 := Lib.hid (B5.out.trans (b56.mono B4.out.size))
        have S46 : w4.heap.size ≤ w6.heap.size := Nat.le_trans S45 b56.size
        have LK6 : ∀ (p : Addr) (u : Value), p.block < w4.heap.size → w5.cell? p = some u → w6.cell? p = some u := fun p u hp hu => (b56.cell hp).trans hu
        have LK := Lib.hid LK6
        have TOT : Hid ((es.take j).flatMap ecells ++ ecells e ++ (es.drop j).flatMap ecells = (insE es e).flatMap ecells) := Lib.hid (by
          unfold insE
          rw [← PP.out]
          simp)
        have LTOT : Hid ((insE es e).length = n + 1) := Lib.hid (by rw [ins_len, NN.out])
        clear hown6 hg6 hat6 b56 O5 L5 LK6
        have NEWS2 : Hid (∀ ad' : Addr, (some ⟨b, off + j * 65, none⟩ : Option Addr) = some ad' → ∀ (k : Nat) (u : Value), ((es.drop j).flatMap ecells)[k]? = some u → w6.cell? (ad'.add k) = some u) := Lib.hid (fun ad' h k u hu => by
          cases h
          have h5 := erow_drop R5.out j k u hu
          have e3 : (⟨b, off + j * 65, none⟩ : Addr).add k = ⟨b, off + j * 65 + k, none⟩ := by
            unfold Addr.add
            split
            · rename_i h0
              rw [h0, Nat.add_zero]
            · rfl
          rw [e3] at h5 ⊢
          exact LK.out ⟨b, off + j * 65 + k, none⟩ u hbw h5)
        have LEN2 : Hid (((es.drop j).flatMap ecells).length = (n - j) * 65) := Lib.hid (by rw [flat_len ecells 65 ecells_len, List.length_drop, ← NN.out])
        clear R5 LK
        go_wp2_with (at_builtin; refine wpList_append_opt rfl (.tmp 51) (.tmp 54) 26 rfl w4.heap.size 41 g0 _ 65 72 Try.underlying26 hi hz0 hz1 hz2 (by simp [Value.cells, ecells_len]) (by decide) v6 (j + 1) ((es.take j).flatMap ecells ++ ecells e) rfl O6.out (some ⟨b, off + j * 65, none⟩) (n - j) (c - j) ((es.drop j).flatMap ecells) rfl (fun h => by cases h) LEN2.out NEWS2.out (eflat_one _) (by unfold maxLen; omega) (by omega) S46 ?_)
        intro v7 w7 hown7 hg7 hat7
        have B7 := Lib.hid (B6.out.grown hg7 (Nat.le_trans B4.out.size S46) (fun k hk => Nat.le_trans B4.out.size (own_row O6.out hk).1))
        have O7 := Lib.hid hown7
        clear hown7 hg7 hat7
        go_wp2
        go_ret2
        refine ⟨v7, rfl, ?_, B7.out⟩
        refine EV.own (B := w4.heap.size) ?_
        rw [LTOT.out, ← TOT.out]
        have o7 := O7.out
        rw [show j + 1 + (n - j) = n + 1 by omega] at o7
        simpa [List.append_assoc] using o7
      · obtain rfl : j = n := by omega
        have hlt' : ¬ (j : Int) < (j : Int) := by omega
        clear hcont
        go_upto_region 4 with fail
        refine wp_region_quiet_lit (by kernel_rfl) (by kernel_rfl) ?_
        repeat go_big_quiet_step (fail)
        refine wpQuiet_nil ?_
        intro _ hw9
        obtain ⟨nq, hw9⟩ := hw9
        subst hw9
        go_upto_region 7 with fail
        refine wp_named fun w4 hw4 => ?_
        have b4 : Below w1.heap.size w1 w4 := by rw [hw4]; exact below_drewN HB.out _
        have DR : Hid ((es.drop j).flatMap ecells = []) := Lib.hid (by rw [List.drop_of_length_le (by rw [← NN.out]; exact Nat.le_refl _)]; rfl)
        clear hw4 HB
        by_cases hcj : c = j
        · have hjc : j = c := hcj.symm
          subst hjc
          have NONE1 : Hid (ad = none → j = 0 ∧ j = 0) := Lib.hid (fun h => ⟨N0.out h, N0.out h⟩)
          have R4 := ROW.out.later (B1.out.trans (b4.mono B1.out.size))
          have B4 := Lib.hid (B1.out.trans (b4.mono B1.out.size))
          have E4 := Lib.hid (aRegionKept E2.out b4)
          have NEWS1 := Lib.hid (erow_take R4 j)
          have LEN1 : Hid (((es.take j).flatMap ecells).length = j * 65) := Lib.hid (by rw [flat_len ecells 65 ecells_len, List.length_take, ← NN.out, Nat.min_eq_left hPn])
          have R4' := Lib.hid R4
          have hIw : I < w4.heap.size := (Array.getElem?_eq_some_iff.1 E4.out).1
          clear b4 R4
          go_upto_region 8 with (at_builtin; refine wpList_append_opt rfl (.tmp 42) (.tmp 45) 26 rfl w4.heap.size 41 g0 _ 65 72 Try.underlying26 hi hz0 hz1 hz2 (by simp [Value.cells, ecells_len]) (by decide) (.slice none 0 0) 0 [] rfl (World.ownsRow_nil _ _ _ _) ad j j ((es.take j).flatMap ecells) rfl NONE1.out LEN1.out NEWS1.out (eflat_one _) (by unfold maxLen; omega) (by omega) (Nat.le_refl _) ?_; intro v5 w5 hown5 hg5 hat5)
          have b5 : Below w4.heap.size w4 w5 := below_none hg5
          have O5 : Hid (w5.ownsRow w4.heap.size 41 65 v5 j ((es.take j).flatMap ecells)) := Lib.hid (by simpa using hown5)
          have B5 := Lib.hid (B4.out.trans (b5.mono B4.out.size))
          have L5 := Lib.hid (lies_block (aRegionKept E4.out b5))
          have S45 := b5.size
          have R5 := Lib.hid (R4'.out.later b5)
          clear hown5 hg5 hat5 b5 E4 NEWS1 LEN1 R4'
          go_upto_region 9 with (first | (refine wpList_load_agg rfl 41 (.tmp 3) rfl I 0 rfl (ecells e).toArray _ L5.out Try.underlying41 rfl (sizee e) ?_) | (refine wpList_row_one rfl 26 41 (.tmp 48) rfl (ecells e).toArray rfl 65 g0 _ Try.underlying26 hi hz0 hz1 (by decide) (by simp [ecells_len]) (by decide) ?_) | (at_builtin; refine wpList_append_opt rfl (.tmp 47) (.tmp 49) 26 rfl w4.heap.size 41 g0 _ 65 72 Try.underlying26 hi hz0 hz1 hz2 (by simp [Value.cells, ecells_len]) (by decide) v5 j ((es.take j).flatMap ecells) rfl (own_later O5.out (below_alloc (Below.refl _ _) _)) (some ⟨w5.heap.size, 0, none⟩) 1 1 (ecells e) rfl (fun h => by cases h) (by rw [ecells_len]) (fun ad' h => by cases h; exact e_news w5 e _) (ecells_one e) (by unfold maxLen; omega) (by omega) (by simp; omega) ?_; intro v6 w6 hown6 hg6 hat6))
          have b56 : Below w4.heap.size w5 w6 := ((below_alloc (Below.refl w5.heap.size w5) (.cells (ecells e).toArray 41)).mono S45).grown hg6 (by simp; omega) (fun k hk => (own_row O5.out hk).1)
          have O6 := Lib.hid hown6
          have B6 := Lib.hid (B5.out.trans (b56.mono B4.out.size))
          have S46 : w4.heap.size ≤ w6.heap.size := Nat.le_trans S45 b56.size
          have LK6 : ∀ (p : Addr) (u : Value), p.block < w4.heap.size → w5.cell? p = some u → w6.cell? p = some u := fun p u hp hu => (b56.cell hp).trans hu
          have LK := Lib.hid LK6
          have TOT : Hid ((es.take j).flatMap ecells ++ ecells e ++ (es.drop j).flatMap ecells = (insE es e).flatMap ecells) := Lib.hid (by
            unfold insE
            rw [← PP.out]
            simp)
          have LTOT : Hid ((insE es e).length = j + 1) := Lib.hid (by rw [ins_len, NN.out])
          clear hown6 hg6 hat6 b56 O5 L5 LK6
          clear R5 LK
          go_wp2_with (at_builtin; refine wpList_append_opt rfl (.tmp 51) (.tmp 54) 26 rfl w4.heap.size 41 g0 _ 65 72 Try.underlying26 hi hz0 hz1 hz2 (by simp [Value.cells, ecells_len]) (by decide) v6 (j + 1) ((es.take j).flatMap ecells ++ ecells e) rfl O6.out ad 0 0 [] rfl (fun _ => ⟨rfl, rfl⟩) rfl (fun _ _ k u hu => by simp at hu) (by simp) (by unfold maxLen; omega) (by omega) S46 ?_)
          intro v7 w7 hown7 hg7 hat7
          have B7 := Lib.hid (B6.out.grown hg7 (Nat.le_trans B4.out.size S46) (fun k hk => Nat.le_trans B4.out.size (own_row O6.out hk).1))
          have O7 := Lib.hid hown7
          clear hown7 hg7 hat7
          go_wp2
          go_ret2
          refine ⟨v7, rfl, ?_, B7.out⟩
          refine EV.own (B := w4.heap.size) ?_
          rw [LTOT.out, ← TOT.out]
          have o7 := O7.out
          rw [DR.out]
          simpa [List.append_assoc] using o7
        · have hcP : ¬ c - j = 0 := by omega
          have hcP2 : (c : Int) ≠ (j : Int) := by omega
          cases ad with
          | none => exact absurd (N0.out rfl) (by omega)
          | some a1 =>
          have NONE1 : Hid ((some a1 : Option Addr) = none → j = 0 ∧ c = 0) := Lib.hid (fun h => by cases h)
          have R4 := ROW.out.later (B1.out.trans (b4.mono B1.out.size))
          have B4 := Lib.hid (B1.out.trans (b4.mono B1.out.size))
          have E4 := Lib.hid (aRegionKept E2.out b4)
          have NEWS1 := Lib.hid (erow_take R4 j)
          have LEN1 : Hid (((es.take j).flatMap ecells).length = j * 65) := Lib.hid (by rw [flat_len ecells 65 ecells_len, List.length_take, ← NN.out, Nat.min_eq_left hPn])
          have R4' := Lib.hid R4
          have hIw : I < w4.heap.size := (Array.getElem?_eq_some_iff.1 E4.out).1
          clear b4 R4
          go_upto_region 8 with (at_builtin; refine wpList_append_opt rfl (.tmp 42) (.tmp 45) 26 rfl w4.heap.size 41 g0 _ 65 72 Try.underlying26 hi hz0 hz1 hz2 (by simp [Value.cells, ecells_len]) (by decide) (.slice none 0 0) 0 [] rfl (World.ownsRow_nil _ _ _ _) (some a1) j c ((es.take j).flatMap ecells) rfl NONE1.out LEN1.out NEWS1.out (eflat_one _) (by unfold maxLen; omega) (by omega) (Nat.le_refl _) ?_; intro v5 w5 hown5 hg5 hat5)
          have b5 : Below w4.heap.size w4 w5 := below_none hg5
          have O5 : Hid (w5.ownsRow w4.heap.size 41 65 v5 j ((es.take j).flatMap ecells)) := Lib.hid (by simpa using hown5)
          have B5 := Lib.hid (B4.out.trans (b5.mono B4.out.size))
          have L5 := Lib.hid (lies_block (aRegionKept E4.out b5))
          have S45 := b5.size
          have R5 := Lib.hid (R4'.out.later b5)
          clear hown5 hg5 hat5 b5 E4 NEWS1 LEN1 R4'
          go_upto_region 9 with (first | (refine wpList_load_agg rfl 41 (.tmp 3) rfl I 0 rfl (ecells e).toArray _ L5.out Try.underlying41 rfl (sizee e) ?_) | (refine wpList_row_one rfl 26 41 (.tmp 48) rfl (ecells e).toArray rfl 65 g0 _ Try.underlying26 hi hz0 hz1 (by decide) (by simp [ecells_len]) (by decide) ?_) | (at_builtin; refine wpList_append_opt rfl (.tmp 47) (.tmp 49) 26 rfl w4.heap.size 41 g0 _ 65 72 Try.underlying26 hi hz0 hz1 hz2 (by simp [Value.cells, ecells_len]) (by decide) v5 j ((es.take j).flatMap ecells) rfl (own_later O5.out (below_alloc (Below.refl _ _) _)) (some ⟨w5.heap.size, 0, none⟩) 1 1 (ecells e) rfl (fun h => by cases h) (by rw [ecells_len]) (fun ad' h => by cases h; exact e_news w5 e _) (ecells_one e) (by unfold maxLen; omega) (by omega) (by simp; omega) ?_; intro v6 w6 hown6 hg6 hat6))
          have b56 : Below w4.heap.size w5 w6 := ((below_alloc (Below.refl w5.heap.size w5) (.cells (ecells e).toArray 41)).mono S45).grown hg6 (by simp; omega) (fun k hk => (own_row O5.out hk).1)
          have O6 := Lib.hid hown6
          have B6 := Lib.hid (B5.out.trans (b56.mono B4.out.size))
          have S46 : w4.heap.size ≤ w6.heap.size := Nat.le_trans S45 b56.size
          have LK6 : ∀ (p : Addr) (u : Value), p.block < w4.heap.size → w5.cell? p = some u → w6.cell? p = some u := fun p u hp hu => (b56.cell hp).trans hu
          have LK := Lib.hid LK6
          have TOT : Hid ((es.take j).flatMap ecells ++ ecells e ++ (es.drop j).flatMap ecells = (insE es e).flatMap ecells) := Lib.hid (by
            unfold insE
            rw [← PP.out]
            simp)
          have LTOT : Hid ((insE es e).length = j + 1) := Lib.hid (by rw [ins_len, NN.out])
          clear hown6 hg6 hat6 b56 O5 L5 LK6
          clear R5 LK
          go_wp2_with (at_builtin; refine wpList_append_opt rfl (.tmp 51) (.tmp 54) 26 rfl w4.heap.size 41 g0 _ 65 72 Try.underlying26 hi hz0 hz1 hz2 (by simp [Value.cells, ecells_len]) (by decide) v6 (j + 1) ((es.take j).flatMap ecells ++ ecells e) rfl O6.out _ 0 _ [] rfl (fun h => by cases h) rfl (fun _ _ k u hu => by simp at hu) (by simp) (by unfold maxLen; omega) (by omega) S46 ?_)
          intro v7 w7 hown7 hg7 hat7
          have B7 := Lib.hid (B6.out.grown hg7 (Nat.le_trans B4.out.size S46) (fun k hk => Nat.le_trans B4.out.size (own_row O6.out hk).1))
          have O7 := Lib.hid hown7
          clear hown7 hg7 hat7
          go_wp2
          go_ret2
          refine ⟨v7, rfl, ?_, B7.out⟩
          refine EV.own (B := w4.heap.size) ?_
          rw [LTOT.out, ← TOT.out]
          have o7 := O7.out
          rw [DR.out]
          simpa [List.append_assoc] using o7
end Go.Proofs.Ytgbghjpkdbjdgaa
