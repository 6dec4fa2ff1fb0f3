/- The reference: Put. -/
import Derived.Test.YtgbghjpkdbjdgaaDe4
namespace Go.Proofs.Ytgbghjpkdbjdgaa
open Go.RowKit
open Extern.Stop (cell)

theorem conv_id2 {w w' : World} {b o : Nat} {x : Id32} (hb : b < w.heap.size) (h : Lies w b o (encId x).toArray) (hw : Below w.heap.size w w') : (convert 49 9 (.slice (some ⟨b, o, none⟩) 32 32)).run Try.prog w' = .ok (.string (strOf x.1)) w' := by
  have hr : BytesRd w (some ⟨b, o, none⟩) x.1 := fun j z hj => ⟨b, o, rfl, hb, h j (cell z) (by
    show (encId x)[j]? = _
    rw [encId, idCells_of x.2, List.getElem?_map, hj]
    rfl)⟩
  have := conv_bytes (hr.later hw) 32
  rw [x.2] at this
  exact this
set_option linter.unusedSimpArgs false in
set_option maxRecDepth 100000 in
set_option maxHeartbeats 4000000 in
theorem rput_any {w : World} {v : Value} {es : List Ent} (hv : EV w v es) (ho : PlsOk es) (hl : es.length ≤ 10000) :
    Calls Try.prog 24 #[v] w fun e w' => e = .returned (.string (strOf (putU es.length ++ es.flatMap entB))) ∧ Below w.heap.size w w' := by
  obtain ⟨ad, c, rfl, hrow, hc, hn0⟩ := hv
  have ROW := Lib.hid hrow
  have OK := Lib.hid ho
  obtain ⟨n, hn⟩ : ∃ n, n = es.length := ⟨_, rfl⟩
  have NN := Lib.hid hn
  rw [← hn] at hl ⊢
  have n0 : (0 : Int) ≤ (n : Int) := Int.natCast_nonneg _
  have n1 : (n : Int) ≤ 10000 := by omega
  clear hrow ho hn hc hn0
  have RP := Lib.hid (refput_any n n w (Nat.le_refl _) (by omega))
  go_enter Try.func24, Try.ntmps24
  go_wp2_with fail
  refine RP.out.mono ?_
  rintro e w1 ⟨rfl, b1⟩
  have B1 := Lib.hid b1
  clear b1 RP
  go_wp2_with fail
  go_loopg [3, 4] n (fun k s3 s4 wr => ∃ (j : Nat) (bs : List UInt8), j ≤ n ∧ k = n - j ∧ s3 = .string (strOf bs) ∧ s4 = .int .i64 j ∧ bs = putU n ++ (es.take j).flatMap entB ∧ Below w1.heap.size w1 wr)
  case atStart => exact ⟨0, putU n, Nat.zero_le _, rfl, rfl, rfl, by simp, Below.refl _ _⟩
  case round =>
    obtain ⟨j, bs, hj, hk, rfl, rfl, hbs, hb⟩ := hrel
    have HK := Lib.hid hk
    have HB := Lib.hid hb
    have BS := Lib.hid hbs
    have j0 : (0 : Int) ≤ (j : Int) := Int.natCast_nonneg _
    clear hk hb hbs
    by_cases hlt : j < n
    · have hlt' : (j : Int) < (n : Int) := by omega
      obtain ⟨e, he⟩ : ∃ e, es[j]? = some e := ⟨es[j]'(by rw [← NN.out]; exact hlt), List.getElem?_eq_getElem _⟩
      obtain ⟨b, off, rfl, hb2, hL⟩ := erow_elem (ROW.out.later (B1.out.trans (HB.out.mono B1.out.size))) he
      obtain ⟨l1, l2, l3⟩ := e_lies hL
      have C1 : Hid (∀ w', Below wr.heap.size wr w' → (convert 49 9 (.slice (some ⟨b, off + j * 65, none⟩) 32 32)).run Try.prog w' = .ok (.string (strOf e.1.1)) w') := Lib.hid (fun w' hw => conv_id2 hb2 l1 hw)
      have C2 : Hid (∀ w', Below wr.heap.size wr w' → (convert 49 9 (.slice (some ⟨b, off + j * 65 + 32, none⟩) 32 32)).run Try.prog w' = .ok (.string (strOf e.2.pack.1)) w') := Lib.hid (fun w' hw => conv_id2 hb2 l2 hw)
      obtain ⟨h0, h1⟩ := OK.out e (List.mem_of_getElem? he)
      obtain ⟨en, hen⟩ : ∃ en : Nat, e.2.n = (en : Int) := ⟨e.2.n.toNat, by omega⟩
      rw [hen] at l3 h1
      have L3 := Lib.hid l3
      have en0 : (0 : Int) ≤ (en : Int) := Int.natCast_nonneg _
      have en1 : (en : Int) ≤ 1023 := h1
      have WE : IntKind.u64.wrap (en : Int) = (en : Int) := u64_small (by omega)
      have P2 := putU_two (n := en) (by omega)
      have x1 := e.1.2
      have x2 := e.2.pack.2
      have BL : bs.length ≤ 1000000 := by
        rw [BS.out, List.length_append]
        have q1 := putU_len 9 n (by omega)
        have q2 := ents_len (es := es.take j) (fun x hx => OK.out x (List.mem_of_mem_take hx))
        rw [List.length_take] at q2
        omega
      obtain ⟨ip, hip⟩ : ∃ ip, ip = e.1.1 ++ e.2.pack.1 := ⟨_, rfl⟩
      obtain ⟨eb, heb⟩ : ∃ eb, eb = ip ++ putU en := ⟨_, rfl⟩
      obtain ⟨nx, hnx⟩ : ∃ nx, nx = bs ++ eb := ⟨_, rfl⟩
      have li : ip.length = 64 := by rw [hip, List.length_append, x1, x2]
      have le : eb.length ≤ 70 := by rw [heb, List.length_append, li]; omega
      have A1 : ∀ w', (Op.stringOp .add (strOf e.1.1) (strOf e.2.pack.1)).run Try.prog w' = .ok (.string (strOf ip)) w' := fun w' => by
        rw [hip]
        exact run_string_add_lists w' e.1.1 e.2.pack.1 (by rw [x1]; decide) (by rw [x2]; decide)
      have A2 : ∀ w', (Op.stringOp .add (strOf ip) (strOf (putU en))).run Try.prog w' = .ok (.string (strOf eb)) w' := fun w' => by
        rw [heb]
        exact run_string_add_lists w' _ _ (by rw [li]; decide) (by omega)
      have A3 : ∀ w', (Op.stringOp .add (strOf bs) (strOf eb)).run Try.prog w' = .ok (.string (strOf nx)) w' := fun w' => by
        rw [hnx]
        exact run_string_add_lists w' _ _ (by omega) (by omega)
      have NX : Hid (nx = putU n ++ (es.take (j + 1)).flatMap entB) := Lib.hid (by
        have e3 : e.2.n.toNat = en := by rw [hen]; rfl
        have e4 : entB e = eb := by rw [entB, e3, heb, hip, List.append_assoc]
        rw [hnx, List.take_add_one, he, BS.out, List.flatMap_append, ← e4]
        simp [List.append_assoc])
      have RP := Lib.hid (refput_any en en wr.drew (Nat.le_refl _) (by omega))
      clear he hL l1 l2 l3 h0 h1 hen P2 x1 x2 BL hip heb hnx li le
      go_upto_region 5 with fail
      refine wp_region_held_drew (S := fun w' => Below wr.heap.size wr w') (by kernel_rfl) (below_drew (Below.refl _ _)) (fun hHeld => ?_)
      refine wpAnyH_take (i := 0) (v := ?_) rfl (by kernel_rfl) (by kernel_rfl) (by kernel_rfl) (fun _ _ _ h => h) (Or.inl ⟨by kernel_rfl, ?_⟩) (by assumption) ?_
      rotate_left
      · (intro w hSw; (have q1 := C1.out _ hSw; have q2 := C2.out _ hSw; have q3 := cell_below L3.out hSw; go_simp; try with_reducible rfl))
      try simp only [Act.put, List.getElem_toArray, List.getElem_cons_succ, List.getElem_cons_zero, List.setIfInBounds_toArray, List.set_cons_zero, List.set_cons_succ]
      refine wpAnyH_take (i := 1) (v := ?_) rfl (by kernel_rfl) (by kernel_rfl) (by kernel_rfl) (fun _ _ _ h => h) (Or.inl ⟨by kernel_rfl, ?_⟩) (by assumption) ?_
      rotate_left
      · (intro w hSw; (have q1 := C1.out _ hSw; have q2 := C2.out _ hSw; have q3 := cell_below L3.out hSw; go_simp; try with_reducible rfl))
      try simp only [Act.put, List.getElem_toArray, List.getElem_cons_succ, List.getElem_cons_zero, List.setIfInBounds_toArray, List.set_cons_zero, List.set_cons_succ]
      refine wpAnyH_take (i := 2) (v := ?_) rfl (by kernel_rfl) (by kernel_rfl) (by kernel_rfl) (fun _ _ _ h => h) (Or.inl ⟨by kernel_rfl, ?_⟩) (by assumption) ?_
      rotate_left
      · (intro w hSw; (have q1 := C1.out _ hSw; have q2 := C2.out _ hSw; have q3 := cell_below L3.out hSw; go_simp; try with_reducible rfl))
      try simp only [Act.put, List.getElem_toArray, List.getElem_cons_succ, List.getElem_cons_zero, List.setIfInBounds_toArray, List.set_cons_zero, List.set_cons_succ]
      refine wpAnyH_take (i := 3) (v := ?_) rfl (by kernel_rfl) (by kernel_rfl) (by kernel_rfl) (fun _ _ _ h => h) (Or.inl ⟨by kernel_rfl, ?_⟩) (by assumption) ?_
      rotate_left
      · (intro w hSw; (have q1 := C1.out _ hSw; have q2 := C2.out _ hSw; have q3 := cell_below L3.out hSw; go_simp; try with_reducible rfl))
      try simp only [Act.put, List.getElem_toArray, List.getElem_cons_succ, List.getElem_cons_zero, List.setIfInBounds_toArray, List.set_cons_zero, List.set_cons_succ]
      refine wpAnyH_take (i := 4) (v := ?_) rfl (by kernel_rfl) (by kernel_rfl) (by kernel_rfl) (fun _ _ _ h => h) (Or.inl ⟨by kernel_rfl, ?_⟩) (by assumption) ?_
      rotate_left
      · (intro w hSw; (have q1 := C1.out _ hSw; have q2 := C2.out _ hSw; have q3 := cell_below L3.out hSw; go_simp; try with_reducible rfl))
      try simp only [Act.put, List.getElem_toArray, List.getElem_cons_succ, List.getElem_cons_zero, List.setIfInBounds_toArray, List.set_cons_zero, List.set_cons_succ]
      refine wpAnyH_take (i := 5) (v := ?_) rfl (by kernel_rfl) (by kernel_rfl) (by kernel_rfl) (fun _ _ _ h => h) (Or.inl ⟨by kernel_rfl, ?_⟩) (by assumption) ?_
      rotate_left
      · (intro w hSw; (have q1 := C1.out _ hSw; have q2 := C2.out _ hSw; have q3 := cell_below L3.out hSw; go_simp; try with_reducible rfl))
      try simp only [Act.put, List.getElem_toArray, List.getElem_cons_succ, List.getElem_cons_zero, List.setIfInBounds_toArray, List.set_cons_zero, List.set_cons_succ]
      refine wpAnyH_take (i := 6) (v := ?_) rfl (by kernel_rfl) (by kernel_rfl) (by kernel_rfl) (fun _ _ _ h => h) (Or.inl ⟨by kernel_rfl, ?_⟩) (by assumption) ?_
      rotate_left
      · (intro w hSw; (have q1 := C1.out _ hSw; have q2 := C2.out _ hSw; have q3 := cell_below L3.out hSw; go_simp; try with_reducible rfl))
      try simp only [Act.put, List.getElem_toArray, List.getElem_cons_succ, List.getElem_cons_zero, List.setIfInBounds_toArray, List.set_cons_zero, List.set_cons_succ]
      refine wpAnyH_take (i := 7) (v := ?_) rfl (by kernel_rfl) (by kernel_rfl) (by kernel_rfl) (fun _ _ _ h => h) (Or.inl ⟨by kernel_rfl, ?_⟩) (by assumption) ?_
      rotate_left
      · (intro w hSw; (have q1 := C1.out _ hSw; have q2 := C2.out _ hSw; have q3 := cell_below L3.out hSw; go_simp; try with_reducible rfl))
      try simp only [Act.put, List.getElem_toArray, List.getElem_cons_succ, List.getElem_cons_zero, List.setIfInBounds_toArray, List.set_cons_zero, List.set_cons_succ]
      refine wpAnyH_take (i := 8) (v := ?_) rfl (by kernel_rfl) (by kernel_rfl) (by kernel_rfl) (fun _ _ _ h => h) (Or.inl ⟨by kernel_rfl, ?_⟩) (by assumption) ?_
      rotate_left
      · (intro w hSw; (have q1 := C1.out _ hSw; have q2 := C2.out _ hSw; have q3 := cell_below L3.out hSw; go_simp; try with_reducible rfl))
      try simp only [Act.put, List.getElem_toArray, List.getElem_cons_succ, List.getElem_cons_zero, List.setIfInBounds_toArray, List.set_cons_zero, List.set_cons_succ]
      refine wpAnyH_take (i := 9) (v := ?_) rfl (by kernel_rfl) (by kernel_rfl) (by kernel_rfl) (fun _ _ _ h => h) (Or.inl ⟨by kernel_rfl, ?_⟩) (by assumption) ?_
      rotate_left
      · (intro w hSw; (have q1 := C1.out _ hSw; have q2 := C2.out _ hSw; have q3 := cell_below L3.out hSw; go_simp; try with_reducible rfl))
      try simp only [Act.put, List.getElem_toArray, List.getElem_cons_succ, List.getElem_cons_zero, List.setIfInBounds_toArray, List.set_cons_zero, List.set_cons_succ]
      refine wpAnyH_take (i := 10) (v := ?_) rfl (by kernel_rfl) (by kernel_rfl) (by kernel_rfl) (fun _ _ _ h => h) (Or.inl ⟨by kernel_rfl, ?_⟩) (by assumption) ?_
      rotate_left
      · (intro w hSw; (have q1 := C1.out _ hSw; have q2 := C2.out _ hSw; have q3 := cell_below L3.out hSw; go_simp; try with_reducible rfl))
      try simp only [Act.put, List.getElem_toArray, List.getElem_cons_succ, List.getElem_cons_zero, List.setIfInBounds_toArray, List.set_cons_zero, List.set_cons_succ]
      refine wpAnyH_take (i := 11) (v := ?_) rfl (by kernel_rfl) (by kernel_rfl) (by kernel_rfl) (fun _ _ _ h => h) (Or.inl ⟨by kernel_rfl, ?_⟩) (by assumption) ?_
      rotate_left
      · (intro w hSw; (have q1 := C1.out _ hSw; have q2 := C2.out _ hSw; have q3 := cell_below L3.out hSw; go_simp; try with_reducible rfl))
      try simp only [Act.put, List.getElem_toArray, List.getElem_cons_succ, List.getElem_cons_zero, List.setIfInBounds_toArray, List.set_cons_zero, List.set_cons_succ]
      refine wpAnyH_take (i := 12) (v := ?_) rfl (by kernel_rfl) (by kernel_rfl) (by kernel_rfl) (fun _ _ _ h => h) (Or.inl ⟨by kernel_rfl, ?_⟩) (by assumption) ?_
      rotate_left
      · (intro w hSw; (have q1 := C1.out _ hSw; have q2 := C2.out _ hSw; have q3 := cell_below L3.out hSw; go_simp; try with_reducible rfl))
      try simp only [Act.put, List.getElem_toArray, List.getElem_cons_succ, List.getElem_cons_zero, List.setIfInBounds_toArray, List.set_cons_zero, List.set_cons_succ]
      refine wpAnyH_take (i := 13) (v := ?_) rfl (by kernel_rfl) (by kernel_rfl) (by kernel_rfl) (fun _ _ _ h => h) (Or.inl ⟨by kernel_rfl, ?_⟩) (by assumption) ?_
      rotate_left
      · (intro w hSw; (have q1 := C1.out _ hSw; have q2 := C2.out _ hSw; have q3 := cell_below L3.out hSw; go_simp; try with_reducible rfl))
      try simp only [Act.put, List.getElem_toArray, List.getElem_cons_succ, List.getElem_cons_zero, List.setIfInBounds_toArray, List.set_cons_zero, List.set_cons_succ]
      refine wpAnyH_take (i := 14) (v := ?_) rfl (by kernel_rfl) (by kernel_rfl) (by kernel_rfl) (fun _ _ _ h => h) (Or.inl ⟨by kernel_rfl, ?_⟩) (by assumption) ?_
      rotate_left
      · (intro w hSw; (have q1 := C1.out _ hSw; have q2 := C2.out _ hSw; have q3 := cell_below L3.out hSw; go_simp; try with_reducible rfl))
      try simp only [Act.put, List.getElem_toArray, List.getElem_cons_succ, List.getElem_cons_zero, List.setIfInBounds_toArray, List.set_cons_zero, List.set_cons_succ]
      refine wpAnyH_take (i := 15) (v := ?_) rfl (by kernel_rfl) (by kernel_rfl) (by kernel_rfl) (fun _ _ _ h => h) (Or.inl ⟨by kernel_rfl, ?_⟩) (by assumption) ?_
      rotate_left
      · (intro w hSw; (have q1 := C1.out _ hSw; have q2 := C2.out _ hSw; have q3 := cell_below L3.out hSw; go_simp; try with_reducible rfl))
      try simp only [Act.put, List.getElem_toArray, List.getElem_cons_succ, List.getElem_cons_zero, List.setIfInBounds_toArray, List.set_cons_zero, List.set_cons_succ]
      refine wpAnyH_take (i := 16) (v := ?_) rfl (by kernel_rfl) (by kernel_rfl) (by kernel_rfl) (fun _ _ _ h => h) (Or.inl ⟨by kernel_rfl, ?_⟩) (by assumption) ?_
      rotate_left
      · (intro w hSw; (have q1 := C1.out _ hSw; have q2 := C2.out _ hSw; have q3 := cell_below L3.out hSw; go_simp; try with_reducible rfl))
      try simp only [Act.put, List.getElem_toArray, List.getElem_cons_succ, List.getElem_cons_zero, List.setIfInBounds_toArray, List.set_cons_zero, List.set_cons_succ]
      refine wpAnyH_take (i := 17) (v := ?_) rfl (by kernel_rfl) (by kernel_rfl) (by kernel_rfl) (fun _ _ _ h => h) (Or.inl ⟨by kernel_rfl, ?_⟩) (by assumption) ?_
      rotate_left
      · (intro w hSw; (have q1 := C1.out _ hSw; have q2 := C2.out _ hSw; have q3 := cell_below L3.out hSw; go_simp; try with_reducible rfl))
      try simp only [Act.put, List.getElem_toArray, List.getElem_cons_succ, List.getElem_cons_zero, List.setIfInBounds_toArray, List.set_cons_zero, List.set_cons_succ]
      refine wpAnyH_take (i := 18) (v := ?_) rfl (by kernel_rfl) (by kernel_rfl) (by kernel_rfl) (fun _ _ _ h => h) (Or.inl ⟨by kernel_rfl, ?_⟩) (by assumption) ?_
      rotate_left
      · (intro w hSw; (have q1 := C1.out _ hSw; have q2 := C2.out _ hSw; have q3 := cell_below L3.out hSw; go_simp; try with_reducible rfl))
      try simp only [Act.put, List.getElem_toArray, List.getElem_cons_succ, List.getElem_cons_zero, List.setIfInBounds_toArray, List.set_cons_zero, List.set_cons_succ]
      refine wpAnyH_take (i := 19) (v := ?_) rfl (by kernel_rfl) (by kernel_rfl) (by kernel_rfl) (fun _ _ _ h => h) (Or.inl ⟨by kernel_rfl, ?_⟩) (by assumption) ?_
      rotate_left
      · (intro w hSw; (have q1 := C1.out _ hSw; have q2 := C2.out _ hSw; have q3 := cell_below L3.out hSw; go_simp; try with_reducible rfl))
      try simp only [Act.put, List.getElem_toArray, List.getElem_cons_succ, List.getElem_cons_zero, List.setIfInBounds_toArray, List.set_cons_zero, List.set_cons_succ]
      refine wpAnyH_ready (rs := [20]) (by kernel_rfl) (by simp) (AllReadyH.cons rfl (fun K1 hK1 => ?_) AllReadyH.nil)
      go_simp
      go_at_call 41
      refine RP.out.mono ?_
      rintro e5 w5 ⟨rfl, b5⟩
      have S5 : Below wr.heap.size wr w5 := (below_drew (Below.refl wr.heap.size wr)).trans b5
      refine hK1.out _ _ S5 (fun hH => ?_)
      have B5 := Lib.hid (HB.out.trans (S5.mono HB.out.size))
      clear hHeld hK1 b5 RP
      try simp only [Act.put, List.getElem_toArray, List.getElem_cons_succ, List.getElem_cons_zero, List.setIfInBounds_toArray, List.set_cons_zero, List.set_cons_succ]
      refine wpAnyH_take (i := 21) (v := ?_) rfl (by kernel_rfl) (by kernel_rfl) (by kernel_rfl) (fun _ _ _ h => h) (Or.inl ⟨by kernel_rfl, ?_⟩) (by assumption) ?_
      rotate_left
      · (intro w hSw; (go_simp; try with_reducible rfl))
      try simp only [Act.put, List.getElem_toArray, List.getElem_cons_succ, List.getElem_cons_zero, List.setIfInBounds_toArray, List.set_cons_zero, List.set_cons_succ]
      refine wpAnyH_take (i := 22) (v := ?_) rfl (by kernel_rfl) (by kernel_rfl) (by kernel_rfl) (fun _ _ _ h => h) (Or.inl ⟨by kernel_rfl, ?_⟩) (by assumption) ?_
      rotate_left
      · (intro w hSw; (go_simp; try with_reducible rfl))
      try simp only [Act.put, List.getElem_toArray, List.getElem_cons_succ, List.getElem_cons_zero, List.setIfInBounds_toArray, List.set_cons_zero, List.set_cons_succ]
      refine wpAnyH_take (i := 23) (v := ?_) rfl (by kernel_rfl) (by kernel_rfl) (by kernel_rfl) (fun _ _ _ h => h) (Or.inl ⟨by kernel_rfl, ?_⟩) (by assumption) ?_
      rotate_left
      · (intro w hSw; (go_simp; try with_reducible rfl))
      try simp only [Act.put, List.getElem_toArray, List.getElem_cons_succ, List.getElem_cons_zero, List.setIfInBounds_toArray, List.set_cons_zero, List.set_cons_succ]
      refine wpAnyH_done (by kernel_rfl) ?_ _
      clear hH S5 A1 A2 A3 HB L3 C1 C2
      go_wp2
      go_roundg (n - (j + 1))
      case measure => rw [HK.out]; omega
      case rel => exact ⟨j + 1, _, by omega, rfl, rfl, by go_num, NX.out, B5.out⟩
    · obtain rfl : j = n := by omega
      have hlt' : ¬ (j : Int) < (j : Int) := by omega
      have FIN : Hid (bs = putU j ++ es.flatMap entB) := Lib.hid (by rw [BS.out, List.take_of_length_le (by rw [← NN.out]; exact Nat.le_refl _)])
      go_wp2
      go_ret
      exact ⟨by rw [FIN.out]; rfl, B1.out.trans (HB.out.mono B1.out.size)⟩
end Go.Proofs.Ytgbghjpkdbjdgaa
