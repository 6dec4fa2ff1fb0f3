/- The reference: a number's bytes. -/
import Derived.Test.YtgbghjpkdbjdgaaDe3
import Derived.Laws.Concat
namespace Go.Proofs.Ytgbghjpkdbjdgaa
open Go.RowKit
open Extern.Stop (cell)

abbrev strOf (l : List UInt8) : ByteArray := ⟨l.toArray⟩
theorem str_app (a b : List UInt8) : strOf a ++ strOf b = strOf (a ++ b) := by
  apply ByteArray.ext
  show _ = (a ++ b).toArray
  rw [ByteArray.data_append]
  simp
theorem block_rd {w : World} {b : Nat} {z : UInt8} {t : TypeId} {fz : Nat × Nat} (h : w.heap[b]? = some (.cells #[.int .u8 (z.toNat : Int)] t fz)) : BytesRd w (some ⟨b, 0, none⟩) [z] := fun j y hj => by
  cases j with
  | zero =>
    have : z = y := by simpa using hj
    subst this
    refine ⟨b, 0, rfl, (Array.getElem?_eq_some_iff.1 h).1, ?_⟩
    rw [cell_of_row w b 0 _ t fz h]
    rfl
  | succ j => simp at hj
theorem conv_one {w : World} {b : Nat} {z : UInt8} {t : TypeId} {fz : Nat × Nat} (h : w.heap[b]? = some (.cells #[.int .u8 (z.toNat : Int)] t fz)) : (convert 49 9 (.slice (some ⟨b, 0, none⟩) 1 1)).run Try.prog w = .ok (.string (strOf [z])) w := conv_bytes (block_rd h) 1
set_option linter.unusedSimpArgs false in
set_option maxRecDepth 100000 in
set_option maxHeartbeats 4000000 in
theorem refput_any : ∀ (f x : Nat) (w : World), x ≤ f → x < 18446744073709551616 →
    Calls Try.prog 41 #[.int .u64 x] w fun e w' => e = .returned (.string (strOf (putU x))) ∧ Below w.heap.size w w'
  | f, x, w, hf, hx => by
    have x0 : (0 : Int) ≤ (x : Int) := Int.natCast_nonneg _
    have x1 : (x : Int) < 18446744073709551616 := by omega
    obtain ⟨xi, hxi⟩ : ∃ xi : Int, xi = (x : Int) := ⟨_, rfl⟩
    by_cases hs : x < 128
    · obtain ⟨z, hz⟩ : ∃ z : UInt8, z.toNat = x := ⟨UInt8.ofNat x, byte_nat (by omega)⟩
      have PU : Hid (putU x = [z]) := Lib.hid (by rw [putU_small hs, ← hz, byte_back])
      have W8 : xi % 256 = (z.toNat : Int) := by rw [hz]; omega
      have d : decide (xi < 128) = true := decide_eq_true (by omega)
      rw [← hxi]
      have hc := conv_one (w := w.alloc (.cells #[.int .u8 (z.toNat : Int)] 5)) (heap_at w _)
      clear hxi x0 x1 hz
      go_enter Try.func41, Try.ntmps41
      go_wp2_with fail
      refine bodyPost_ret (v := .string (strOf [z])) ?_ rfl ⟨by rw [PU.out], below_alloc (Below.refl _ _) _⟩
      simp [results, Try.results41, go_sem, *]
    · obtain ⟨q, hq⟩ : ∃ q, q = x / 128 := ⟨_, rfl⟩
      obtain ⟨z, hz⟩ : ∃ z : UInt8, z.toNat = x % 128 + 128 := ⟨UInt8.ofNat (x % 128 + 128), byte_nat (by omega)⟩
      have PU : Hid (putU x = [z] ++ putU q) := Lib.hid (by
        rw [putU_big hs, ← hz, byte_back, hq]
        rfl)
      have hrem : xi % 128 + 128 = (z.toNat : Int) := by rw [hz]; omega
      have hw : IntKind.u64.wrap (z.toNat : Int) = (z.toNat : Int) := u64_small (by have := z.toNat_lt; omega)
      have h8 : (z.toNat : Int) % 256 = (z.toNat : Int) := by have := z.toNat_lt; omega
      have hqi : xi / 128 = (q : Int) := by rw [hq]; omega
      have d : decide (xi < 128) = false := decide_eq_false (by omega)
      have IH : Hid (∀ w', Calls Try.prog 41 #[.int .u64 q] w' fun e w2 => e = .returned (.string (strOf (putU q))) ∧ Below w'.heap.size w' w2) := by
        cases f with
        | zero => exact absurd hs (by omega)
        | succ f => exact Lib.hid (fun w' => refput_any f q w' (by omega) (by omega))
      have hadd : ∀ w', (Op.stringOp .add (strOf [z]) (strOf (putU q))).run Try.prog w' = .ok (.string (strOf (putU x))) w' := fun w' => by
        rw [PU.out]
        have hl := putU_len 9 q (by have := hq; omega)
        exact run_string_add_lists w' [z] (putU q) (by simp) (by omega)
      have hv : IntKind.u8.wrap (IntKind.u64.wrap (xi.tmod 128 + 128)) = (z.toNat : Int) := by
        rw [Int.tmod_eq_emod_of_nonneg (by omega), hrem, hw]
        simp only [IntKind.wrap, IntKind.bits, IntKind.signed]
        simpa using h8
      have hqv : IntKind.u64.wrap (xi.tdiv 128) = (q : Int) := by
        rw [Int.tdiv_eq_ediv_of_nonneg (by omega), hqi]
        exact u64_small (by omega)
      rw [← hxi]
      have xi0 : 0 ≤ xi := by omega
      have xi1 : xi < 18446744073709551616 := by omega
      clear x0 x1 hxi hz hq PU
      go_enter Try.func41, Try.ntmps41
      go_upto_region 3 with fail
      refine wp_region_held_drew (S := fun w' => Below w.heap.size w w') (by kernel_rfl) (below_drew (Below.refl _ _)) (fun hHeld => ?_)
      refine wpAnyH_take (i := 0) (v := ?_) rfl (by kernel_rfl) (by kernel_rfl) (by kernel_rfl) (fun _ _ _ h => h) (Or.inl ⟨by kernel_rfl, ?_⟩) (by assumption) ?_
      rotate_left
      · (intro w hSw; (go_simp; try with_reducible rfl))
      try simp only [Act.put, List.getElem_toArray, List.getElem_cons_succ, List.getElem_cons_zero, List.setIfInBounds_toArray, List.set_cons_zero, List.set_cons_succ]
      refine wpAnyH_take (i := 1) (v := ?_) rfl (by kernel_rfl) (by kernel_rfl) (by kernel_rfl) (fun _ _ _ h => h) (Or.inl ⟨by kernel_rfl, ?_⟩) (by assumption) ?_
      rotate_left
      · (intro w hSw; (go_simp; try with_reducible rfl))
      try simp only [Act.put, List.getElem_toArray, List.getElem_cons_succ, List.getElem_cons_zero, List.setIfInBounds_toArray, List.set_cons_zero, List.set_cons_succ]
      refine wpAnyH_take (i := 2) (v := ?_) rfl (by kernel_rfl) (by kernel_rfl) (by kernel_rfl) (fun _ _ _ h => h) (Or.inl ⟨by kernel_rfl, ?_⟩) (by assumption) ?_
      rotate_left
      · (intro w hSw; (go_simp; try with_reducible rfl))
      try simp only [Act.put, List.getElem_toArray, List.getElem_cons_succ, List.getElem_cons_zero, List.setIfInBounds_toArray, List.set_cons_zero, List.set_cons_succ]
      refine wpAnyH_take (i := 3) (v := ?_) rfl (by kernel_rfl) (by kernel_rfl) (by kernel_rfl) (fun _ _ _ h => h) (Or.inl ⟨by kernel_rfl, ?_⟩) (by assumption) ?_
      rotate_left
      · (intro w hSw; (go_simp; try with_reducible rfl))
      try simp only [Act.put, List.getElem_toArray, List.getElem_cons_succ, List.getElem_cons_zero, List.setIfInBounds_toArray, List.set_cons_zero, List.set_cons_succ]
      refine wpAnyH_take (i := 6) (v := ?_) rfl (by kernel_rfl) (by kernel_rfl) (by kernel_rfl) (fun _ _ _ h => h) (Or.inl ⟨by kernel_rfl, ?_⟩) (by assumption) ?_
      rotate_left
      · (intro w hSw; (go_simp; try with_reducible rfl))
      try simp only [Act.put, List.getElem_toArray, List.getElem_cons_succ, List.getElem_cons_zero, List.setIfInBounds_toArray, List.set_cons_zero, List.set_cons_succ]
      refine wpAnyH_take (i := 7) (v := ?_) rfl (by kernel_rfl) (by kernel_rfl) (by kernel_rfl) (fun _ _ _ h => h) (Or.inl ⟨by kernel_rfl, ?_⟩) (by assumption) ?_
      rotate_left
      · (intro w hSw; (go_simp; try with_reducible rfl))
      try simp only [Act.put, List.getElem_toArray, List.getElem_cons_succ, List.getElem_cons_zero, List.setIfInBounds_toArray, List.set_cons_zero, List.set_cons_succ]
      refine wpAnyH_ready (rs := [4, 8]) (by kernel_rfl) (by simp) (AllReadyH.cons rfl (fun K1 hK1 => ?_) (AllReadyH.cons rfl (fun K1 hK1 => ?_) AllReadyH.nil))
      · go_simp
        refine hK1.out _ _ (below_alloc hHeld _) (fun hH => ?_)
        clear hHeld hK1
        try simp only [Act.put, List.getElem_toArray, List.getElem_cons_succ, List.getElem_cons_zero, List.setIfInBounds_toArray, List.set_cons_zero, List.set_cons_succ]
        generalize hwA : (w.alloc (.cells #[.int .u8 (z.toNat : Int)] 5)).drew = wA at hH ⊢
        have eA : wA.heap[w.heap.size]? = some (.cells #[.int .u8 (z.toNat : Int)] 5 (0, 0)) := by rw [← hwA]; exact heap_at w _
        have EA := Lib.hid eA
        have SA : Hid (Below w.heap.size w wA) := Lib.hid hH
        clear eA hwA
        refine wpAnyH_ready (rs := [5, 8]) (by kernel_rfl) (by simp) (AllReadyH.cons rfl (fun K1 hK1 => ?_) (AllReadyH.cons rfl (fun K1 hK1 => ?_) AllReadyH.nil))
        · refine step_convert rfl 49 9 (.tmp 13) rfl (.slice (some ⟨w.heap.size, 0, none⟩) 1 1) (.string (strOf [z])) rfl (conv_one EA.out) ?_
          refine hK1.out _ _ hH (fun hH2 => ?_)
          clear hH hK1
          try simp only [Act.put, List.getElem_toArray, List.getElem_cons_succ, List.getElem_cons_zero, List.setIfInBounds_toArray, List.set_cons_zero, List.set_cons_succ]
          refine wpAnyH_ready (rs := [8]) (by kernel_rfl) (by simp) (AllReadyH.cons rfl (fun K1 hK1 => ?_) AllReadyH.nil)
          go_simp
          go_at_call 41
          refine (IH.out _).mono ?_
          rintro e w2 ⟨rfl, b2⟩
          have S2 := SA.out.trans (b2.mono SA.out.size)
          refine hK1.out _ _ S2 (fun hH => ?_)
          clear hH2 hK1
          try simp only [Act.put, List.getElem_toArray, List.getElem_cons_succ, List.getElem_cons_zero, List.setIfInBounds_toArray, List.set_cons_zero, List.set_cons_succ]
          refine wpAnyH_take (i := 9) (v := ?_) rfl (by kernel_rfl) (by kernel_rfl) (by kernel_rfl) (fun _ _ _ h => h) (Or.inl ⟨by kernel_rfl, ?_⟩) (by assumption) ?_
          rotate_left
          · (intro w hSw; (go_simp; try with_reducible rfl))
          try simp only [Act.put, List.getElem_toArray, List.getElem_cons_succ, List.getElem_cons_zero, List.setIfInBounds_toArray, List.set_cons_zero, List.set_cons_succ]
          refine wpAnyH_take (i := 10) (v := ?_) rfl (by kernel_rfl) (by kernel_rfl) (by kernel_rfl) (fun _ _ _ h => h) (Or.inl ⟨by kernel_rfl, ?_⟩) (by assumption) ?_
          rotate_left
          · (intro w hSw; (go_simp; try with_reducible rfl))
          try simp only [Act.put, List.getElem_toArray, List.getElem_cons_succ, List.getElem_cons_zero, List.setIfInBounds_toArray, List.set_cons_zero, List.set_cons_succ]
          refine wpAnyH_done (by kernel_rfl) ?_ _
          clear hH
          go_wp2
          go_ret
          exact ⟨rfl, S2⟩
        · go_simp
          go_at_call 41
          refine (IH.out _).mono ?_
          rintro e w2 ⟨rfl, b2⟩
          have S2 := SA.out.trans (b2.mono SA.out.size)
          refine hK1.out _ _ S2 (fun hH2 => ?_)
          clear hH hK1
          try simp only [Act.put, List.getElem_toArray, List.getElem_cons_succ, List.getElem_cons_zero, List.setIfInBounds_toArray, List.set_cons_zero, List.set_cons_succ]
          refine wpAnyH_ready (rs := [5]) (by kernel_rfl) (by simp) (AllReadyH.cons rfl (fun K1 hK1 => ?_) AllReadyH.nil)
          refine step_convert rfl 49 9 (.tmp 13) rfl (.slice (some ⟨w.heap.size, 0, none⟩) 1 1) (.string (strOf [z])) rfl (conv_one (aRegionKept EA.out b2)) ?_
          refine hK1.out _ _ S2 (fun hH => ?_)
          clear hH2 hK1
          try simp only [Act.put, List.getElem_toArray, List.getElem_cons_succ, List.getElem_cons_zero, List.setIfInBounds_toArray, List.set_cons_zero, List.set_cons_succ]
          refine wpAnyH_take (i := 9) (v := ?_) rfl (by kernel_rfl) (by kernel_rfl) (by kernel_rfl) (fun _ _ _ h => h) (Or.inl ⟨by kernel_rfl, ?_⟩) (by assumption) ?_
          rotate_left
          · (intro w hSw; (go_simp; try with_reducible rfl))
          try simp only [Act.put, List.getElem_toArray, List.getElem_cons_succ, List.getElem_cons_zero, List.setIfInBounds_toArray, List.set_cons_zero, List.set_cons_succ]
          refine wpAnyH_take (i := 10) (v := ?_) rfl (by kernel_rfl) (by kernel_rfl) (by kernel_rfl) (fun _ _ _ h => h) (Or.inl ⟨by kernel_rfl, ?_⟩) (by assumption) ?_
          rotate_left
          · (intro w hSw; (go_simp; try with_reducible rfl))
          try simp only [Act.put, List.getElem_toArray, List.getElem_cons_succ, List.getElem_cons_zero, List.setIfInBounds_toArray, List.set_cons_zero, List.set_cons_succ]
          refine wpAnyH_done (by kernel_rfl) ?_ _
          clear hH
          go_wp2
          go_ret
          exact ⟨rfl, S2⟩
      · go_simp
        go_at_call 41
        refine (IH.out _).mono ?_
        rintro e w1 ⟨rfl, b1⟩
        have S1 : Below w.heap.size w w1 := (below_drew (Below.refl w.heap.size w)).trans b1
        refine hK1.out _ _ S1 (fun hH => ?_)
        clear hHeld hK1 b1
        try simp only [Act.put, List.getElem_toArray, List.getElem_cons_succ, List.getElem_cons_zero, List.setIfInBounds_toArray, List.set_cons_zero, List.set_cons_succ]
        refine wpAnyH_ready (rs := [4]) (by kernel_rfl) (by simp) (AllReadyH.cons rfl (fun K1 hK1 => ?_) AllReadyH.nil)
        go_simp
        have S2 : Below w.heap.size w (w1.alloc (.cells #[.int .u8 (z.toNat : Int)] 5)) := below_alloc S1 _
        refine hK1.out _ _ S2 (fun hH2 => ?_)
        clear hH hK1
        try simp only [Act.put, List.getElem_toArray, List.getElem_cons_succ, List.getElem_cons_zero, List.setIfInBounds_toArray, List.set_cons_zero, List.set_cons_succ]
        refine wpAnyH_ready (rs := [5]) (by kernel_rfl) (by simp) (AllReadyH.cons rfl (fun K1 hK1 => ?_) AllReadyH.nil)
        refine step_convert rfl 49 9 (.tmp 13) rfl (.slice (some ⟨w1.heap.size, 0, none⟩) 1 1) (.string (strOf [z])) rfl (conv_one (heap_at w1 _)) ?_
        refine hK1.out _ _ S2 (fun hH => ?_)
        clear hH2 hK1
        try simp only [Act.put, List.getElem_toArray, List.getElem_cons_succ, List.getElem_cons_zero, List.setIfInBounds_toArray, List.set_cons_zero, List.set_cons_succ]
        refine wpAnyH_take (i := 9) (v := ?_) rfl (by kernel_rfl) (by kernel_rfl) (by kernel_rfl) (fun _ _ _ h => h) (Or.inl ⟨by kernel_rfl, ?_⟩) (by assumption) ?_
        rotate_left
        · (intro w hSw; (go_simp; try with_reducible rfl))
        try simp only [Act.put, List.getElem_toArray, List.getElem_cons_succ, List.getElem_cons_zero, List.setIfInBounds_toArray, List.set_cons_zero, List.set_cons_succ]
        refine wpAnyH_take (i := 10) (v := ?_) rfl (by kernel_rfl) (by kernel_rfl) (by kernel_rfl) (fun _ _ _ h => h) (Or.inl ⟨by kernel_rfl, ?_⟩) (by assumption) ?_
        rotate_left
        · (intro w hSw; (go_simp; try with_reducible rfl))
        try simp only [Act.put, List.getElem_toArray, List.getElem_cons_succ, List.getElem_cons_zero, List.setIfInBounds_toArray, List.set_cons_zero, List.set_cons_succ]
        refine wpAnyH_done (by kernel_rfl) ?_ _
        clear hH
        go_wp2
        go_ret
        exact ⟨rfl, S2⟩
end Go.Proofs.Ytgbghjpkdbjdgaa
