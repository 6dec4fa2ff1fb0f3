/- The law DedupBytes: an index has so many bytes for each object; cut anywhere it is refused. No conditions. -/
import Derived.Test.YtgbghjpkdbjdgaaDd22
namespace Go.Proofs.Ytgbghjpkdbjdgaa
open Go.RowKit Go.ChangeShapes Go.WideShapes
open Extern.Stop (cell)

theorem addL_ok {l : List (Id32 × Pl)} (h : PlsOk l) (id : Id32) (p : Pl) : PlsOk (addL l id p) := by
  unfold addL
  split
  · rename_i hb
    unfold addB at hb
    simp only [Bool.and_eq_true, decide_eq_true_eq, Bool.not_eq_true'] at hb
    obtain ⟨⟨h1, h2⟩, h3⟩ := hb
    have hn : aget l id = none := by
      cases hg : aget l id with
      | none => rfl
      | some v => rw [hg] at h3; cases h3
    rw [aput_none _ hn]
    intro e he
    rcases List.mem_append.1 he with he | he
    · exact h e he
    · simp only [List.mem_singleton] at he
      subst he
      exact ⟨h1, h2⟩
  · exact h
theorem addL_yes {l : List (Id32 × Pl)} {id : Id32} {p : Pl} (h : addB l id p = true) : addL l id p = l ++ [(id, p)] := by
  unfold addL
  rw [if_pos h]
  unfold addB at h
  simp only [Bool.and_eq_true, decide_eq_true_eq, Bool.not_eq_true'] at h
  obtain ⟨_, h3⟩ := h
  refine aput_none _ ?_
  cases hg : aget l id with
  | none => rfl
  | some v => rw [hg] at h3; cases h3
theorem addL_no {l : List (Id32 × Pl)} {id : Id32} {p : Pl} (h : addB l id p = false) : addL l id p = l := by
  unfold addL
  rw [h]
  rfl
theorem ents_same {n : Int} : ∀ {es : List (Id32 × Pl)}, PlsOk es → (∀ e ∈ es, e.2.n = n) → (es.flatMap entB).length = es.length * (64 + if n < 128 then 1 else 2)
  | [], _, _ => by simp
  | e :: es, h, hn => by
    have h1 := h e (by simp)
    have h2 := hn e (by simp)
    have h3 := putU_small_or e.2.n.toNat (by omega)
    have l1 := e.1.2
    have l2 := e.2.pack.2
    have ih := ents_same (es := es) (fun x hx => h x (by simp [hx])) (fun x hx => hn x (by simp [hx]))
    rw [List.flatMap_cons, List.length_append, ih, List.length_cons, Nat.succ_mul, entB, List.length_append, List.length_append, h3]
    by_cases hs : n < 128
    · rw [if_pos hs, if_pos (show e.2.n.toNat < 128 by omega)]
      omega
    · rw [if_neg hs, if_neg (show ¬ e.2.n.toNat < 128 by omega)]
      omega
theorem map_no_cell {α β : Type} {P : Program} {k : TypeId} {eK : α → Value} {eV : β → Value} {w : World} {b j : Nat} {l : List (α × β)} (h : MapIs P k eK eV w b l) {v : Value} (hc : w.cell? ⟨b, j, none⟩ = some v) : False := by
  obtain ⟨es, clk, h1, _⟩ := h
  simp [World.cell?, h1] at hc
theorem BytesRd.take {w : World} {a : Option Addr} {zs : List UInt8} (h : BytesRd w a zs) (n : Nat) : BytesRd w a (zs.take n) := fun j z hj => by
  rw [List.getElem?_take] at hj
  split at hj
  · exact h j z hj
  · cases hj
set_option linter.unusedSimpArgs false in
set_option maxRecDepth 100000 in
set_option maxHeartbeats 8000000 in
theorem bytes_law {W : World} {ad : Option Addr} {l : List Id32} {c : Nat} (hrow : RowAt W ad (l.flatMap encId)) (hlen : l.length < 9223372036854775808) (n : Int) (hn : 0 ≤ n ∧ n ≤ 255) (t : Int) (ht : 0 ≤ t ∧ t ≤ 65535) :
    Calls Try.prog 7 #[.slice ad l.length c, .int .u8 n, .int .u16 t] W fun e w' => e = .returned (.bool true) ∧ Below W.heap.size W w' := by
  have ROW := Lib.hid hrow
  obtain ⟨n0, n1⟩ := hn
  have WN : IntKind.i64.wrap n = n := by rw [IntKind.wrap_i64]; omega
  obtain ⟨t0, t1⟩ := ht
  obtain ⟨m, hm⟩ : ∃ m, m = l.length := ⟨_, rfl⟩
  have LM := Lib.hid hm
  rw [← hm] at hlen
  rw [← hm]
  clear hrow hm
  go_enter Try.func7, Try.ntmps7
  go_wp2_with fail
  refine (awake_any _).mono ?_
  rintro e w1 ⟨rfl, b1⟩
  have B1 := Lib.hid b1
  clear b1
  by_cases h20 : 20 < m
  · have h20' : (20 : Int) < (m : Int) := by omega
    go_wp2
    go_ret
    exact ⟨rfl, B1.out⟩
  have h20' : (m : Int) ≤ 20 := by omega
  go_wp2_with fail
  refine (new_any _).mono ?_
  rintro e w2 ⟨x, M, rfl, x2, hx2, hM2, b2⟩
  have X2 := Lib.hid x2
  have B2 := Lib.hid (B1.out.trans (b2.mono B1.out.size))
  have hWM : W.heap.size ≤ M := Nat.le_trans B1.out.size hM2
  clear x2 b2 B1
  go_wp2_with fail
  go_loopg [9, 10] m (fun k s9 s10 wr => ∃ (i : Nat) (lst : List (Id32 × Pl)), i ≤ m ∧ k = m - i ∧ lst.length ≤ i ∧ s9 = .int .i64 lst.length ∧ s10 = .int .i64 i ∧ IxIs wr x M lst ∧ PlsOk lst ∧ (∀ e ∈ lst, e.2.n = n) ∧ Below W.heap.size W wr)
  case atStart => exact ⟨0, [], Nat.zero_le _, rfl, Nat.le_refl _, rfl, rfl, X2.out, (fun e he => absurd he (by simp)), (fun e he => absurd he (by simp)), B2.out⟩
  case round =>
    obtain ⟨i, lst, hi, hk, hli, rfl, rfl, x3, ok3, sn3, b3⟩ := hrel
    have HK := Lib.hid hk
    have X3 := Lib.hid x3
    have OK3 := Lib.hid ok3
    have SN3 := Lib.hid sn3
    have B3 := Lib.hid b3
    have LI := Lib.hid hli
    obtain ⟨q, hq⟩ : ∃ q, q = lst.length := ⟨_, rfl⟩
    have QQ := Lib.hid hq
    rw [← hq]
    rw [← hq] at hli
    have q0 : (0 : Int) ≤ (q : Int) := Int.natCast_nonneg _
    have q1 : (q : Int) ≤ 20 := by omega
    have i0 : (0 : Int) ≤ (i : Int) := Int.natCast_nonneg _
    clear hk x3 ok3 sn3 b3 hli hq B2 X2
    by_cases hlt : i < m
    · have hlt' : (i : Int) < (m : Int) := by omega
      obtain ⟨a, hia⟩ : ∃ a, l[i]? = some a := ⟨l[i]'(by rw [← LM.out]; exact hlt), List.getElem?_eq_getElem _⟩
      obtain ⟨b, off, rfl, hb, hL⟩ := rowAt_elem encId_len (by decide) (ROW.out.later B3.out) hia
      have LL := Lib.hid (lies_range hL)
      have AD := Lib.hid (add_any (w := wr.drew) (x := x) (M := M) (l := lst) ⟨X3.out.box, X3.out.map.drew⟩ a ⟨a, n⟩)
      clear hia hL
      go_upto_region 11 with fail
      refine wp_region_held_drew (S := fun w' => w'.rangeAt b (off + i * 32) (encId a)) (by kernel_rfl) (show wr.drew.rangeAt _ _ _ from LL.out) (fun hHeld => ?_)
      refine wpAnyH_take (i := 0) (v := ?_) rfl (by kernel_rfl) (by kernel_rfl) (by kernel_rfl) (fun _ _ _ h => h) (Or.inl ⟨by kernel_rfl, ?_⟩) (by assumption) ?_
      rotate_left
      · (intro w hSw; (go_simp; try with_reducible rfl))
      try simp only [Act.put, List.getElem_toArray, List.getElem_cons_succ, List.getElem_cons_zero, List.setIfInBounds_toArray, List.set_cons_zero, List.set_cons_succ]
      refine wpAnyH_take (i := 1) (v := ?_) rfl (by kernel_rfl) (by kernel_rfl) (by kernel_rfl) (fun _ _ _ h => h) (Or.inl ⟨by kernel_rfl, ?_⟩) (by assumption) ?_
      rotate_left
      · (intro w hSw; (go_simp; try with_reducible rfl))
      try simp only [Act.put, List.getElem_toArray, List.getElem_cons_succ, List.getElem_cons_zero, List.setIfInBounds_toArray, List.set_cons_zero, List.set_cons_succ]
      refine wpAnyH_take (i := 2) (v := ?_) rfl (by kernel_rfl) (by kernel_rfl) (by kernel_rfl) (fun _ _ _ h => h) (Or.inl ⟨by kernel_rfl, ?_⟩) (by assumption) ?_
      rotate_left
      · (intro w hSw; (go_simp; try with_reducible rfl))
      try simp only [Act.put, List.getElem_toArray, List.getElem_cons_succ, List.getElem_cons_zero, List.setIfInBounds_toArray, List.set_cons_zero, List.set_cons_succ]
      refine wpAnyH_take (i := 3) (v := ?_) rfl (by kernel_rfl) (by kernel_rfl) (by kernel_rfl) (fun _ _ _ h => h) (Or.inl ⟨by kernel_rfl, ?_⟩) (by assumption) ?_
      rotate_left
      · (intro w hSw; (go_simp; try with_reducible rfl))
      try simp only [Act.put, List.getElem_toArray, List.getElem_cons_succ, List.getElem_cons_zero, List.setIfInBounds_toArray, List.set_cons_zero, List.set_cons_succ]
      refine' wpAnyH_take (i := 4) (v := _) rfl (by kernel_rfl) (by kernel_rfl) (by kernel_rfl) (fun _ _ _ h => h) (yieldsIf_load_mid (by kernel_rfl) _ _ rfl b (off + i * 32) rfl (encId a) _ ?hS4 Try.underlying31 rfl (by rw [size_id, encId_len])) (by assumption) ?rest4
      case hS4 => exact fun w' hw => hw
      case rest4 =>
      try simp only [Act.put, List.getElem_toArray, List.getElem_cons_succ, List.getElem_cons_zero, List.setIfInBounds_toArray, List.set_cons_zero, List.set_cons_succ]
      refine wpAnyH_take (i := 5) (v := ?_) rfl (by kernel_rfl) (by kernel_rfl) (by kernel_rfl) (fun _ _ _ h => h) (Or.inl ⟨by kernel_rfl, ?_⟩) (by assumption) ?_
      rotate_left
      · (intro w hSw; (go_simp; try with_reducible rfl))
      try simp only [Act.put, List.getElem_toArray, List.getElem_cons_succ, List.getElem_cons_zero, List.setIfInBounds_toArray, List.set_cons_zero, List.set_cons_succ]
      refine wpAnyH_take (i := 6) (v := ?_) rfl (by kernel_rfl) (by kernel_rfl) (by kernel_rfl) (fun _ _ _ h => h) (Or.inl ⟨by kernel_rfl, ?_⟩) (by assumption) ?_
      rotate_left
      · (intro w hSw; (go_simp; try with_reducible rfl))
      try simp only [Act.put, List.getElem_toArray, List.getElem_cons_succ, List.getElem_cons_zero, List.setIfInBounds_toArray, List.set_cons_zero, List.set_cons_succ]
      refine wpAnyH_take (i := 7) (v := ?_) rfl (by kernel_rfl) (by kernel_rfl) (by kernel_rfl) (fun _ _ _ h => h) (Or.inl ⟨by kernel_rfl, ?_⟩) (by assumption) ?_
      rotate_left
      · (intro w hSw; (go_simp; try with_reducible rfl))
      try simp only [Act.put, List.getElem_toArray, List.getElem_cons_succ, List.getElem_cons_zero, List.setIfInBounds_toArray, List.set_cons_zero, List.set_cons_succ]
      refine' wpAnyH_take (i := 8) (v := _) rfl (by kernel_rfl) (by kernel_rfl) (by kernel_rfl) (fun _ _ _ h => h) (yieldsIf_load_mid (by kernel_rfl) _ _ rfl b (off + i * 32) rfl (encId a) _ ?hS8 Try.underlying31 rfl (by rw [size_id, encId_len])) (by assumption) ?rest8
      case hS8 => exact fun w' hw => hw
      case rest8 =>
      try simp only [Act.put, List.getElem_toArray, List.getElem_cons_succ, List.getElem_cons_zero, List.setIfInBounds_toArray, List.set_cons_zero, List.set_cons_succ]
      refine wpAnyH_take (i := 9) (v := ?_) rfl (by kernel_rfl) (by kernel_rfl) (by kernel_rfl) (fun _ _ _ h => h) (Or.inl ⟨by kernel_rfl, ?_⟩) (by assumption) ?_
      rotate_left
      · (intro w hSw; (go_simp; try with_reducible rfl))
      try simp only [Act.put, List.getElem_toArray, List.getElem_cons_succ, List.getElem_cons_zero, List.setIfInBounds_toArray, List.set_cons_zero, List.set_cons_succ]
      refine wpAnyH_take (i := 10) (v := ?_) rfl (by kernel_rfl) (by kernel_rfl) (by kernel_rfl) (fun _ _ _ h => h) (Or.inl ⟨by kernel_rfl, ?_⟩) (by assumption) ?_
      rotate_left
      · (intro w hSw; (go_simp; try with_reducible rfl))
      try simp only [Act.put, List.getElem_toArray, List.getElem_cons_succ, List.getElem_cons_zero, List.setIfInBounds_toArray, List.set_cons_zero, List.set_cons_succ]
      refine' wpAnyH_take (i := 11) (v := _) rfl (by kernel_rfl) (by kernel_rfl) (by kernel_rfl) (fun _ _ _ h => h) (yieldsIf_build2 (by kernel_rfl) 37 _ rfl [(0, .agg (encId a).toArray), (1, .int .i64 n)] (by kernel_rfl) (plcells ⟨a, n⟩).toArray (built_pl a n)) (by assumption) ?_
      try simp only [Act.put, List.getElem_toArray, List.getElem_cons_succ, List.getElem_cons_zero, List.setIfInBounds_toArray, List.set_cons_zero, List.set_cons_succ]
      refine wpAnyH_ready (rs := [12]) (by kernel_rfl) (by simp) (AllReadyH.cons rfl (fun K hK => ?_) AllReadyH.nil)
      go_simp
      go_at_call 13
      refine AD.out.mono ?_
      rintro e w5 ⟨rfl, x5, g5⟩
      have X5 := Lib.hid x5
      have B5 := Lib.hid ((below_drew B3.out).trans (below_grown g5 B3.out.size hWM))
      have hbM : b ≠ M := by
        rintro rfl
        exact map_no_cell X3.out.map (LL.out 0 _ (List.getElem?_eq_getElem (by rw [encId_len]; decide)))
      refine hK.out _ _ (rangeAt_grown (w := wr.drew) LL.out g5 (fun e => hbM (Option.some.inj e).symm)) (fun hH => ?_)
      clear hHeld hK hH x5 g5 AD hbM
      try simp only [Act.put, List.getElem_toArray, List.getElem_cons_succ, List.getElem_cons_zero, List.setIfInBounds_toArray, List.set_cons_zero, List.set_cons_succ]
      refine wpAnyH_done (by kernel_rfl) ?_ _
      obtain ⟨bb, hbb⟩ : ∃ bb, bb = addB lst a ⟨a, n⟩ := ⟨_, rfl⟩
      rw [← hbb]
      have BB := Lib.hid hbb
      have OK5 := Lib.hid (addL_ok OK3.out a ⟨a, n⟩)
      clear hbb
      cases bb
      · have e1 := addL_no BB.out.symm
        rw [e1] at X5 OK5
        go_wp2
        go_roundg (m - (i + 1))
        case measure => rw [HK.out]; omega
        case rel => exact ⟨i + 1, lst, by omega, rfl, by have := LI.out; omega, by rw [QQ.out], by go_num, X5.out, OK5.out, SN3.out, B5.out⟩
      · have e1 := addL_yes BB.out.symm
        rw [e1] at X5 OK5
        clear e1
        go_wp2
        go_roundg (m - (i + 1))
        case measure => rw [HK.out]; omega
        case rel =>
          refine ⟨i + 1, lst ++ [(a, ⟨a, n⟩)], by omega, rfl, by have := LI.out; simp; omega, ?_, by go_num, X5.out, OK5.out, ?_, B5.out⟩
          · rw [List.length_append, ← QQ.out]
            rfl
          · intro e he
            rcases List.mem_append.1 he with he | he
            · exact SN3.out e he
            · simp only [List.mem_singleton] at he
              rw [he]
    · obtain rfl : i = m := by omega
      have hlt' : ¬ (i : Int) < (i : Int) := by omega
      have PU := Lib.hid (put_any X3.out OK3.out (by rw [← QQ.out]; omega))
      go_wp2_with fail
      refine PU.out.mono ?_
      rintro e w5 ⟨v, rfl, h5, b5⟩
      obtain ⟨va, vc, rfl, hrd⟩ := own_rd_any h5
      have RM := Lib.hid (own_room h5)
      have X5 := Lib.hid (X3.out.later b5)
      have B5 := Lib.hid (B3.out.trans (b5.mono B3.out.size))
      have RD5 := Lib.hid hrd
      have AP := X3.out.map.apart
      have LE : (putOf lst).length = 1 + q * (64 + if n < 128 then 1 else 2) := by
        have h1 := ents_same (row_ok AP OK3.out) (fun e he => SN3.out e ((row_perm AP).mem_iff.1 he))
        rw [row_len] at h1
        unfold putOf
        rw [List.length_append, h1, ← QQ.out, putU_small (by omega)]
        rfl
      obtain ⟨L, hL⟩ : ∃ L, L = (putOf lst).length := ⟨_, rfl⟩
      have LQ := Lib.hid hL
      rw [← hL] at LE RM ⊢
      clear h5 b5 hrd hL PU X3 B3
      have GC : Hid (∀ j, j < L → getErr (getAll ((putOf lst).take j)) = 10) := Lib.hid (fun j hj => by
        have h1 := get_cut (es := rowOf lst) (row_ok AP OK3.out) (by rw [row_len, ← QQ.out]; omega) (j := j) (by
          rw [row_len]
          rw [LQ.out] at hj
          exact hj)
        rw [row_len] at h1
        exact h1)
      have PL : Hid ((putOf lst).length ≤ 1000000) := Lib.hid (putOf_len AP OK3.out (by rw [← QQ.out]; omega))
      clear AP
      by_cases h127 : 127 < n
      · have d1 : decide (127 < n) = true := decide_eq_true h127
        rw [if_neg (by omega)] at LE
        have IA := Lib.hid (ids_any X5.out (by rw [← QQ.out]; omega))
        have r0 : 0 ≤ t % (1 + (q : Int) * 66) := Int.emod_nonneg t (by omega)
        have r2 : t % (1 + (q : Int) * 66) < 1 + (q : Int) * 66 := Int.emod_lt_of_pos t (by omega)
        have r1 : t % (1 + (q : Int) * 66) ≤ (vc : Int) := by have := RM.out; omega
        have R2 := Lib.hid r2
        clear r2
        go_wp2_with fail
        refine IA.out.mono ?_
        rintro e w6 ⟨v6, rfl, h6, b6⟩
        rw [sortIds_len, List.length_map, ← QQ.out] at h6
        obtain ⟨ua, uc, rfl⟩ := own_slice h6
        have B6 := Lib.hid (B5.out.trans (b6.mono B5.out.size))
        have R6 := RD5.out.later b6
        obtain ⟨j, hj⟩ : ∃ j, j = (t % (1 + (q : Int) * 66)).toNat := ⟨_, rfl⟩
        have hjL : j < L := by have := R2.out; omega
        have e2 : ((putOf lst).take j).length = j := by rw [List.length_take, ← LQ.out]; omega
        have GT := get_any (c := vc) (R6.take j) (by rw [e2]; have := PL.out; rw [← LQ.out] at this; omega)
        rw [e2, GC.out j hjL, hj] at GT
        have GT1 := Lib.hid GT
        clear h6 b6 IA X5 B5 RD5 hj hjL e2 R6 GT GC PL
        go_wp2_with fail
        refine GT1.out.mono ?_
        rintro e w7 ⟨hc, b7⟩
        obtain ⟨_, rfl⟩ | ⟨h0, _⟩ := hc
        · have B7 := Lib.hid (B6.out.trans (b7.mono B6.out.size))
          clear b7 GT1 B6
          go_wp2
          go_ret
          exact ⟨rfl, B7.out⟩
        · exact absurd h0 (by decide)
      · have d1 : decide (127 < n) = false := decide_eq_false h127
        rw [if_pos (by omega)] at LE
        have IA := Lib.hid (ids_any X5.out (by rw [← QQ.out]; omega))
        have r0 : 0 ≤ t % (1 + (q : Int) * 65) := Int.emod_nonneg t (by omega)
        have r2 : t % (1 + (q : Int) * 65) < 1 + (q : Int) * 65 := Int.emod_lt_of_pos t (by omega)
        have r1 : t % (1 + (q : Int) * 65) ≤ (vc : Int) := by have := RM.out; omega
        have R2 := Lib.hid r2
        clear r2
        go_wp2_with fail
        refine IA.out.mono ?_
        rintro e w6 ⟨v6, rfl, h6, b6⟩
        rw [sortIds_len, List.length_map, ← QQ.out] at h6
        obtain ⟨ua, uc, rfl⟩ := own_slice h6
        have B6 := Lib.hid (B5.out.trans (b6.mono B5.out.size))
        have R6 := RD5.out.later b6
        obtain ⟨j, hj⟩ : ∃ j, j = (t % (1 + (q : Int) * 65)).toNat := ⟨_, rfl⟩
        have hjL : j < L := by have := R2.out; omega
        have e2 : ((putOf lst).take j).length = j := by rw [List.length_take, ← LQ.out]; omega
        have GT := get_any (c := vc) (R6.take j) (by rw [e2]; have := PL.out; rw [← LQ.out] at this; omega)
        rw [e2, GC.out j hjL, hj] at GT
        have GT1 := Lib.hid GT
        clear h6 b6 IA X5 B5 RD5 hj hjL e2 R6 GT GC PL
        go_wp2_with fail
        refine GT1.out.mono ?_
        rintro e w7 ⟨hc, b7⟩
        obtain ⟨_, rfl⟩ | ⟨h0, _⟩ := hc
        · have B7 := Lib.hid (B6.out.trans (b7.mono B6.out.size))
          clear b7 GT1 B6
          go_wp2
          go_ret
          exact ⟨rfl, B7.out⟩
        · exact absurd h0 (by decide)
open Go.ChangeAt in
theorem DedupBytes_walk (ad : Option Addr) (l : List Id32) (c : Nat) (n t : Int) (W : World) (hrow : RowAt W ad (l.flatMap encId)) (_hraw : ∀ p ∈ l, True) (hl : l.length ≤ c) (hc : c ≤ maxLen) (_hb : c * Try.prog.bytesOf 31 ≤ 140737488351232) (_hn : ad = none → c = 0)
    (hn : (Lit.int .u8 n).wf = true) (ht : (Lit.int .u16 t).wf = true) :
    Calls Try.prog 7 #[.slice ad l.length c, .int .u8 n, .int .u16 t] W fun e w' => e = .returned (.bool true) ∧ Below W.heap.size W w' :=
  bytes_law hrow (by unfold maxLen at hc; omega) n (by simpa [Lit.wf, IntKind.min, IntKind.max, IntKind.signed, IntKind.bits] using hn) t (by simpa [Lit.wf, IntKind.min, IntKind.max, IntKind.signed, IntKind.bits] using ht)
open Go.ChangeAt
set_option maxRecDepth 100000 in
theorem DedupBytes_lifted (os : Os) (started : os.Started) (H : Type) (enc : TypeId × Value → H) :
    ReturnsInHanded {} Try.checked os 7 .any (Rows.dedupBytesSpec.pre6 enc Try.prog Try.f7 Rows.dedupBytesRow.domain false) (Rows.dedupBytesSpec.post enc Try.prog Try.f7 false true false false) := by
  refine returnsInHanded_of_change_sized (C := Try.checked) own started (by kernel_rfl) Try.func7
    (ChangeSpec.witness6 (enc := enc) (C := Try.checked) false ⟨#[], #[.slice none 0 0, .int .u8 0, .int .u16 0], []⟩ 8 (by kernel_rfl) (by kernel_rfl) (by kernel_rfl) (by kernel_rfl)) ?_
  intro W base args ds gs before hval0 hW hcnd hsz0 _
  have hval : ∀ (j : Nat) t v, Try.f7.params[j]? = some t → args[j]? = some v → Value.okWide Try.prog W .any base t v := hval0
  have hW' := hW
  obtain ⟨p, q, hA0, hV, rfl, hfz, hnd⟩ := hW
  have hA : DataW.TrodAll enc Try.prog W 0 (fun _ => true) true Try.f7.params.toList args.toList ds p := hA0
  have hsz : (DataW.weightsEach Try.prog (Try.f7.params.toList ++ Rows.dedupBytesSpec.plain.varTypes Try.prog) (ds ++ gs)).all (· ≤ reachBytes) = true := hsz0
  rw [Try.params7] at hA hval hsz
  obtain ⟨v0, vs0, d0, ds0, p0, q0, hargs, rfl, rfl, h0, r0⟩ := trodAll_cons hA
  obtain ⟨v1, vs1, d1, ds1, p1, q1, rfl, rfl, rfl, h1, r1⟩ := trodAll_cons r0
  obtain ⟨v2, vs2, d2, ds2, p2, q2, rfl, rfl, rfl, h2, r2⟩ := trodAll_cons r1
  obtain ⟨rfl, rfl, rfl⟩ := trodAll_nil r2
  obtain rfl : args = #[v0, v1, v2] := by cases args; simp_all
  obtain ⟨a0, z0, c0, rfl, x0, y0, l0, m0, b0, n0⟩ := rows_of encId_len cells_id (by decide) Try.underlying55 (fun _ h => rz_id h) (hval 0 55 v0 rfl rfl) (RZ.of h0 hsz (j := 0) rfl rfl)
  obtain ⟨a1, rfl, rfl, rfl, w1⟩ := open_int Try.underlying5 (hval 1 5 v1 rfl rfl) h1
  obtain ⟨a2, rfl, rfl, rfl, w2⟩ := open_int Try.underlying56 (hval 2 56 v2 rfl rfl) h2
  refine (DedupBytes_walk a0 z0 c0 a1 a2 W x0 y0 l0 m0 b0 n0 w1 w2).mono fun e W' ⟨he, hb⟩ => ?_
  subst he
  exact ⟨_, rfl, law_post laidOut (by kernel_rfl) rfl rfl Try.underlying4 rfl hW' hb⟩
theorem DedupBytes_holds : Rows.DedupBytesSaid :=
  OpenClaim.holds_of_wide 7 Try.f7 rfl rfl rfl rfl rfl rfl rfl ⟨rfl, rfl, rfl, rfl, rfl⟩ rfl rfl rfl rfl rfl (by kernel_rfl) Try.func7 (by kernel_rfl)
    (of_decide_eq_true (by kernel_rfl)) (by unfold Func.isWrapper; rw [if_neg (by decide +kernel)]; exact ⟨rfl, rfl⟩)
    (fun os started H enc _ => DedupBytes_lifted os started H enc)
end Go.Proofs.Ytgbghjpkdbjdgaa
