/- The law DedupGets: the index of any bytes is the document's, or refused; put again it is these bytes. No conditions. -/
import Derived.Test.YtgbghjpkdbjdgaaDe9
import Derived.Test.YtgbghjpkdbjdgaaDf5
namespace Go.Proofs.Ytgbghjpkdbjdgaa
open Go.RowKit Go.Lib
open Extern.Stop (cell)

set_option linter.unusedSimpArgs false in
set_option maxRecDepth 100000 in
set_option maxHeartbeats 8000000 in
theorem gets_law {W : World} {ad : Option Addr} {bs : List UInt8} {c : Nat} (hrd : BytesRd W ad bs) (hlen : bs.length < 9223372036854775808) :
    Calls Try.prog 4 #[.slice ad bs.length c] W fun e w' => e = .returned (.bool true) ∧ Below W.heap.size W w' := by
  have RD := Lib.hid hrd
  obtain ⟨m, hm⟩ : ∃ m, m = bs.length := ⟨_, rfl⟩
  have LM := Lib.hid hm
  rw [← hm] at hlen ⊢
  have m0 : (0 : Int) ≤ (m : Int) := Int.natCast_nonneg _
  clear hrd hm
  go_enter Try.func4, Try.ntmps4
  go_wp2_with fail
  refine (awake_any _).mono ?_
  rintro e w1 ⟨rfl, b1⟩
  have B1 := Lib.hid b1
  clear b1
  by_cases h1 : 1000 < m
  · have h1' : (1000 : Int) < (m : Int) := by omega
    go_wp2
    go_ret
    exact ⟨rfl, B1.out⟩
  have h1' : (m : Int) ≤ 1000 := by omega
  have GT0 := get_any (c := c) (RD.out.later B1.out) (by rw [← LM.out]; omega)
  have GF := Lib.hid (fun h => get_fine (bs := bs) h)
  obtain ⟨gg, hgg⟩ : ∃ gg, gg = getAll bs := ⟨_, rfl⟩
  rw [← hgg] at GF
  rw [← LM.out, ← hgg] at GT0
  obtain ⟨g, hg⟩ : ∃ g, g = getErr gg := ⟨_, rfl⟩
  rw [← hg] at GT0 GF
  have GT := Lib.hid GT0
  have HG := Lib.hid hg
  have HGG := Lib.hid hgg
  have H1 := Lib.hid h1'
  clear hg hgg h1 GT0
  go_wp2_with fail
  refine GT.out.mono ?_
  rintro e w2 ⟨hc, b2⟩
  have B2 := Lib.hid (B1.out.trans (b2.mono B1.out.size))
  obtain ⟨str, hstr⟩ : ∃ str, str = strOf bs := ⟨_, rfl⟩
  have CV0 := conv_bytes (RD.out.later B2.out) c
  have RG0 := rget_any w2 bs (by have := LM.out; have := H1.out; omega)
  rw [← LM.out, show (⟨bs.toArray⟩ : ByteArray) = str from hstr.symm] at CV0
  rw [← hstr, ← HGG.out, ← HG.out] at RG0
  have RG1 := Lib.hid RG0
  have ST := Lib.hid hstr
  clear hstr RG0 b2 GT B1
  rcases hc with ⟨hg0, rfl⟩ | ⟨hg0, x, M, rfl, x2, _, _⟩
  · have d0 : (g != 0) = true := by simpa using hg0
    clear hg0
    go_wp2_with fail
    refine RG1.out.mono ?_
    rintro e w3 ⟨v, rfl, _, b3⟩
    have B3 := Lib.hid (B2.out.trans (b3.mono B2.out.size))
    clear b3 RG1 CV0
    go_upto_region 10 with fail
    refine wp_region_held_drew (S := fun _ => True) (by kernel_rfl) trivial (fun hHeld => ?_)
    refine wpAnyH_take (i := 0) (v := ?_) rfl (by kernel_rfl) (by kernel_rfl) (by kernel_rfl) (fun _ _ _ h => h) (Or.inl ⟨by kernel_rfl, ?_⟩) (by assumption) ?_
    rotate_left
    · (intro w hSw; (go_simp; try with_reducible rfl))
    try simp only [Act.put, List.getElem_toArray, List.getElem_cons_succ, List.getElem_cons_zero, List.setIfInBounds_toArray, List.set_cons_zero, List.set_cons_succ]
    refine wpAnyH_take (i := 1) (v := ?_) rfl (by kernel_rfl) (by kernel_rfl) (by kernel_rfl) (fun _ _ _ h => h) (Or.inl ⟨by kernel_rfl, ?_⟩) (by assumption) ?_
    rotate_left
    · (intro w hSw; (go_simp; try with_reducible rfl))
    try simp only [Act.put, List.getElem_toArray, List.getElem_cons_succ, List.getElem_cons_zero, List.setIfInBounds_toArray, List.set_cons_zero, List.set_cons_succ]
    refine wpAnyH_take (i := 2) (v := ?_) rfl (by kernel_rfl) (by kernel_rfl) (by kernel_rfl) (fun _ _ _ h => h) (Or.inl ⟨by kernel_rfl, ?_⟩) (by assumption) ?_
    rotate_left
    · (intro w hSw; (go_simp; try with_reducible rfl))
    try simp only [Act.put, List.getElem_toArray, List.getElem_cons_succ, List.getElem_cons_zero, List.setIfInBounds_toArray, List.set_cons_zero, List.set_cons_succ]
    refine wpAnyH_take (i := 3) (v := undef) rfl (by kernel_rfl) (by kernel_rfl) (by kernel_rfl) (fun _ _ _ h => h) (Or.inr ⟨by kernel_rfl, rfl⟩) (by assumption) ?_
    try simp only [Act.put, List.getElem_toArray, List.getElem_cons_succ, List.getElem_cons_zero, List.setIfInBounds_toArray, List.set_cons_zero, List.set_cons_succ]
    refine wpAnyH_take (i := 4) (v := undef) rfl (by kernel_rfl) (by kernel_rfl) (by kernel_rfl) (fun _ _ _ h => h) (Or.inr ⟨by kernel_rfl, rfl⟩) (by assumption) ?_
    try simp only [Act.put, List.getElem_toArray, List.getElem_cons_succ, List.getElem_cons_zero, List.setIfInBounds_toArray, List.set_cons_zero, List.set_cons_succ]
    refine wpAnyH_take (i := 5) (v := undef) rfl (by kernel_rfl) (by kernel_rfl) (by kernel_rfl) (fun _ _ _ h => h) (Or.inr ⟨by kernel_rfl, rfl⟩) (by assumption) ?_
    try simp only [Act.put, List.getElem_toArray, List.getElem_cons_succ, List.getElem_cons_zero, List.setIfInBounds_toArray, List.set_cons_zero, List.set_cons_succ]
    refine wpAnyH_take (i := 6) (v := undef) rfl (by kernel_rfl) (by kernel_rfl) (by kernel_rfl) (fun _ _ _ h => h) (Or.inr ⟨by kernel_rfl, rfl⟩) (by assumption) ?_
    try simp only [Act.put, List.getElem_toArray, List.getElem_cons_succ, List.getElem_cons_zero, List.setIfInBounds_toArray, List.set_cons_zero, List.set_cons_succ]
    refine wpAnyH_take (i := 7) (v := undef) rfl (by kernel_rfl) (by kernel_rfl) (by kernel_rfl) (fun _ _ _ h => h) (Or.inr ⟨by kernel_rfl, rfl⟩) (by assumption) ?_
    try simp only [Act.put, List.getElem_toArray, List.getElem_cons_succ, List.getElem_cons_zero, List.setIfInBounds_toArray, List.set_cons_zero, List.set_cons_succ]
    refine wpAnyH_take (i := 8) (v := undef) rfl (by kernel_rfl) (by kernel_rfl) (by kernel_rfl) (fun _ _ _ h => h) (Or.inr ⟨by kernel_rfl, rfl⟩) (by assumption) ?_
    try simp only [Act.put, List.getElem_toArray, List.getElem_cons_succ, List.getElem_cons_zero, List.setIfInBounds_toArray, List.set_cons_zero, List.set_cons_succ]
    refine wpAnyH_take (i := 9) (v := undef) rfl (by kernel_rfl) (by kernel_rfl) (by kernel_rfl) (fun _ _ _ h => h) (Or.inr ⟨by kernel_rfl, rfl⟩) (by assumption) ?_
    try simp only [Act.put, List.getElem_toArray, List.getElem_cons_succ, List.getElem_cons_zero, List.setIfInBounds_toArray, List.set_cons_zero, List.set_cons_succ]
    refine wpAnyH_take (i := 10) (v := undef) rfl (by kernel_rfl) (by kernel_rfl) (by kernel_rfl) (fun _ _ _ h => h) (Or.inr ⟨by kernel_rfl, rfl⟩) (by assumption) ?_
    try simp only [Act.put, List.getElem_toArray, List.getElem_cons_succ, List.getElem_cons_zero, List.setIfInBounds_toArray, List.set_cons_zero, List.set_cons_succ]
    refine wpAnyH_take (i := 11) (v := undef) rfl (by kernel_rfl) (by kernel_rfl) (by kernel_rfl) (fun _ _ _ h => h) (Or.inr ⟨by kernel_rfl, rfl⟩) (by assumption) ?_
    try simp only [Act.put, List.getElem_toArray, List.getElem_cons_succ, List.getElem_cons_zero, List.setIfInBounds_toArray, List.set_cons_zero, List.set_cons_succ]
    refine wpAnyH_take (i := 12) (v := undef) rfl (by kernel_rfl) (by kernel_rfl) (by kernel_rfl) (fun _ _ _ h => h) (Or.inr ⟨by kernel_rfl, rfl⟩) (by assumption) ?_
    try simp only [Act.put, List.getElem_toArray, List.getElem_cons_succ, List.getElem_cons_zero, List.setIfInBounds_toArray, List.set_cons_zero, List.set_cons_succ]
    refine wpAnyH_take (i := 13) (v := undef) rfl (by kernel_rfl) (by kernel_rfl) (by kernel_rfl) (fun _ _ _ h => h) (Or.inr ⟨by kernel_rfl, rfl⟩) (by assumption) ?_
    try simp only [Act.put, List.getElem_toArray, List.getElem_cons_succ, List.getElem_cons_zero, List.setIfInBounds_toArray, List.set_cons_zero, List.set_cons_succ]
    refine wpAnyH_take (i := 14) (v := ?_) rfl (by kernel_rfl) (by kernel_rfl) (by kernel_rfl) (fun _ _ _ h => h) (Or.inl ⟨by kernel_rfl, ?_⟩) (by assumption) ?_
    rotate_left
    · (intro w hSw; (go_simp; try with_reducible rfl))
    try simp only [Act.put, List.getElem_toArray, List.getElem_cons_succ, List.getElem_cons_zero, List.setIfInBounds_toArray, List.set_cons_zero, List.set_cons_succ]
    refine wpAnyH_take (i := 15) (v := ?_) rfl (by kernel_rfl) (by kernel_rfl) (by kernel_rfl) (fun _ _ _ h => h) (Or.inl ⟨by kernel_rfl, ?_⟩) (by assumption) ?_
    rotate_left
    · (intro w hSw; (go_simp; try with_reducible rfl))
    try simp only [Act.put, List.getElem_toArray, List.getElem_cons_succ, List.getElem_cons_zero, List.setIfInBounds_toArray, List.set_cons_zero, List.set_cons_succ]
    refine wpAnyH_done (by kernel_rfl) ?_ _
    go_wp2
    go_ret
    exact ⟨rfl, below_drew B3.out⟩
  · subst hg0
    have X2 := Lib.hid x2
    clear x2
    go_wp2_with fail
    refine RG1.out.mono ?_
    rintro e w3 ⟨v, rfl, hev, b3⟩
    obtain ⟨ad9, c9, rfl, h91, h92, h93⟩ := hev trivial
    have EV3 : Hid (EV w3 (.slice ad9 gg.m.length c9) gg.m) := Lib.hid ⟨ad9, c9, rfl, h91, h92, h93⟩
    obtain ⟨q9, hq9⟩ : ∃ q9, q9 = gg.m.length := ⟨_, rfl⟩
    rw [← hq9] at EV3 ⊢
    have B3 := Lib.hid (B2.out.trans (b3.mono B2.out.size))
    have X3 := Lib.hid (X2.out.later b3)
    clear b3 RG1 CV0 h91 h92 h93 X2 hev hq9
    obtain ⟨gr, go, gl, gp⟩ := GF.out trivial
    have GR := Lib.hid gr
    have GO := Lib.hid go
    have GL : Hid (gg.m.length ≤ 10000) := Lib.hid (by have := LM.out; have := H1.out; omega)
    have GP := Lib.hid gp
    clear gr go gl gp GF
    go_upto_region 10 with fail
    have CB : Hid (∀ w', Below w3.heap.size w3 w' → (convert 49 9 (.slice ad m c)).run Try.prog w' = .ok (.string str) w') := Lib.hid (fun w' hw => by
      have := conv_bytes (RD.out.later (B3.out.trans (hw.mono B3.out.size))) c
      rw [← LM.out, show (⟨bs.toArray⟩ : ByteArray) = str from ST.out.symm] at this
      exact this)
    have LK := Lib.hid (like_any (w := w3.drew) (X3.out.later (below_drew (Below.refl _ _))) GO.out GL.out (v := .slice ad9 q9 c9) (by rw [row_rise GR.out]; exact EV3.out.later (below_drew (Below.refl _ _))))
    refine wp_region_held_drew (S := fun w' => Below w3.heap.size w3 w') (by kernel_rfl) (below_drew (Below.refl _ _)) (fun hHeld => ?_)
    refine wpAnyH_take (i := 0) (v := ?_) rfl (by kernel_rfl) (by kernel_rfl) (by kernel_rfl) (fun _ _ _ h => h) (Or.inl ⟨by kernel_rfl, ?_⟩) (by assumption) ?_
    rotate_left
    · (intro w hSw; (go_simp; try with_reducible rfl))
    try simp only [Act.put, List.getElem_toArray, List.getElem_cons_succ, List.getElem_cons_zero, List.setIfInBounds_toArray, List.set_cons_zero, List.set_cons_succ]
    refine wpAnyH_take (i := 1) (v := ?_) rfl (by kernel_rfl) (by kernel_rfl) (by kernel_rfl) (fun _ _ _ h => h) (Or.inl ⟨by kernel_rfl, ?_⟩) (by assumption) ?_
    rotate_left
    · (intro w hSw; (go_simp; try with_reducible rfl))
    try simp only [Act.put, List.getElem_toArray, List.getElem_cons_succ, List.getElem_cons_zero, List.setIfInBounds_toArray, List.set_cons_zero, List.set_cons_succ]
    refine wpAnyH_take (i := 2) (v := ?_) rfl (by kernel_rfl) (by kernel_rfl) (by kernel_rfl) (fun _ _ _ h => h) (Or.inl ⟨by kernel_rfl, ?_⟩) (by assumption) ?_
    rotate_left
    · (intro w hSw; (go_simp; try with_reducible rfl))
    try simp only [Act.put, List.getElem_toArray, List.getElem_cons_succ, List.getElem_cons_zero, List.setIfInBounds_toArray, List.set_cons_zero, List.set_cons_succ]
    refine wpAnyH_take (i := 3) (v := ?_) rfl (by kernel_rfl) (by kernel_rfl) (by kernel_rfl) (fun _ _ _ h => h) (Or.inl ⟨by kernel_rfl, ?_⟩) (by assumption) ?_
    rotate_left
    · (intro w hSw; (go_simp; try with_reducible rfl))
    try simp only [Act.put, List.getElem_toArray, List.getElem_cons_succ, List.getElem_cons_zero, List.setIfInBounds_toArray, List.set_cons_zero, List.set_cons_succ]
    refine wpAnyH_take (i := 4) (v := ?_) rfl (by kernel_rfl) (by kernel_rfl) (by kernel_rfl) (fun _ _ _ h => h) (Or.inl ⟨by kernel_rfl, ?_⟩) (by assumption) ?_
    rotate_left
    · (intro w hSw; (go_simp; try with_reducible rfl))
    try simp only [Act.put, List.getElem_toArray, List.getElem_cons_succ, List.getElem_cons_zero, List.setIfInBounds_toArray, List.set_cons_zero, List.set_cons_succ]
    refine wpAnyH_ready (rs := [5]) (by kernel_rfl) (by simp) (AllReadyH.cons rfl (fun K1 hK1 => ?_) AllReadyH.nil)
    go_simp
    go_at_call 17
    refine LK.out.mono ?_
    rintro e w4 ⟨rfl, b4⟩
    have s4 : Below w3.heap.size w3 w4 := (below_drew (Below.refl _ _)).trans b4
    have S4 := Lib.hid s4
    refine hK1.out _ _ s4 (fun hH => ?_)
    clear hHeld hK1 b4 LK
    try simp only [Act.put, List.getElem_toArray, List.getElem_cons_succ, List.getElem_cons_zero, List.setIfInBounds_toArray, List.set_cons_zero, List.set_cons_succ]
    refine wpAnyH_take (i := 6) (v := ?_) rfl (by kernel_rfl) (by kernel_rfl) (by kernel_rfl) (fun _ _ _ h => h) (Or.inl ⟨by kernel_rfl, ?_⟩) (by assumption) ?_
    rotate_left
    · (intro w hSw; (have q1 := CB.out _ hSw; go_simp; try with_reducible rfl))
    try simp only [Act.put, List.getElem_toArray, List.getElem_cons_succ, List.getElem_cons_zero, List.setIfInBounds_toArray, List.set_cons_zero, List.set_cons_succ]
    refine wpAnyH_take (i := 7) (v := ?_) rfl (by kernel_rfl) (by kernel_rfl) (by kernel_rfl) (fun _ _ _ h => h) (Or.inl ⟨by kernel_rfl, ?_⟩) (by assumption) ?_
    rotate_left
    · (intro w hSw; (have q1 := CB.out _ hSw; go_simp; try with_reducible rfl))
    try simp only [Act.put, List.getElem_toArray, List.getElem_cons_succ, List.getElem_cons_zero, List.setIfInBounds_toArray, List.set_cons_zero, List.set_cons_succ]
    refine wpAnyH_take (i := 10) (v := ?_) rfl (by kernel_rfl) (by kernel_rfl) (by kernel_rfl) (fun _ _ _ h => h) (Or.inl ⟨by kernel_rfl, ?_⟩) (by assumption) ?_
    rotate_left
    · (intro w hSw; (have q1 := CB.out _ hSw; go_simp; try with_reducible rfl))
    try simp only [Act.put, List.getElem_toArray, List.getElem_cons_succ, List.getElem_cons_zero, List.setIfInBounds_toArray, List.set_cons_zero, List.set_cons_succ]
    refine wpAnyH_take (i := 11) (v := ?_) rfl (by kernel_rfl) (by kernel_rfl) (by kernel_rfl) (fun _ _ _ h => h) (Or.inl ⟨by kernel_rfl, ?_⟩) (by assumption) ?_
    rotate_left
    · (intro w hSw; (have q1 := CB.out _ hSw; go_simp; try with_reducible rfl))
    try simp only [Act.put, List.getElem_toArray, List.getElem_cons_succ, List.getElem_cons_zero, List.setIfInBounds_toArray, List.set_cons_zero, List.set_cons_succ]
    have PX := Lib.hid (put_any (X3.out.later S4.out) GO.out GL.out)
    rw [GP.out, ← LM.out] at PX
    refine wpAnyH_ready (rs := [8]) (by kernel_rfl) (by simp) (AllReadyH.cons rfl (fun K1 hK1 => ?_) AllReadyH.nil)
    go_simp
    go_at_call 19
    refine PX.out.mono ?_
    rintro e w5 ⟨v5, rfl, h5, b5⟩
    rw [LM.out] at h5
    obtain ⟨a5, c5, rfl, r5⟩ := own_rd_any h5
    have CA := conv_bytes r5 c5
    rw [← LM.out, show (⟨bs.toArray⟩ : ByteArray) = str from ST.out.symm] at CA
    rw [← LM.out]
    have CA1 := Lib.hid CA
    have s5 : Below w3.heap.size w3 w5 := S4.out.trans (b5.mono S4.out.size)
    refine hK1.out _ _ s5 (fun hH2 => ?_)
    clear hH hK1 CA h5 r5 b5 PX
    try simp only [Act.put, List.getElem_toArray, List.getElem_cons_succ, List.getElem_cons_zero, List.setIfInBounds_toArray, List.set_cons_zero, List.set_cons_succ]
    refine wpAnyH_ready (rs := [9]) (by kernel_rfl) (by simp) (AllReadyH.cons rfl (fun K1 hK1 => ?_) AllReadyH.nil)
    refine step_convert_if (by kernel_rfl) 49 9 (.tmp 43) rfl (.slice a5 m c5) (.string str) rfl CA1.out ?_
    refine hK1.out _ _ s5 (fun hH => ?_)
    clear hH2 hK1
    try simp only [Act.put, List.getElem_toArray, List.getElem_cons_succ, List.getElem_cons_zero, List.setIfInBounds_toArray, List.set_cons_zero, List.set_cons_succ]
    refine wpAnyH_take (i := 12) (v := ?_) rfl (by kernel_rfl) (by kernel_rfl) (by kernel_rfl) (fun _ _ _ h => h) (Or.inl ⟨by kernel_rfl, ?_⟩) (by assumption) ?_
    rotate_left
    · (intro w hSw; (go_simp; try with_reducible rfl))
    try simp only [Act.put, List.getElem_toArray, List.getElem_cons_succ, List.getElem_cons_zero, List.setIfInBounds_toArray, List.set_cons_zero, List.set_cons_succ]
    refine wpAnyH_take (i := 13) (v := ?_) rfl (by kernel_rfl) (by kernel_rfl) (by kernel_rfl) (fun _ _ _ h => h) (Or.inl ⟨by kernel_rfl, ?_⟩) (by assumption) ?_
    rotate_left
    · (intro w hSw; (go_simp; try with_reducible rfl))
    try simp only [Act.put, List.getElem_toArray, List.getElem_cons_succ, List.getElem_cons_zero, List.setIfInBounds_toArray, List.set_cons_zero, List.set_cons_succ]
    refine wpAnyH_take (i := 14) (v := ?_) rfl (by kernel_rfl) (by kernel_rfl) (by kernel_rfl) (fun _ _ _ h => h) (Or.inl ⟨by kernel_rfl, ?_⟩) (by assumption) ?_
    rotate_left
    · (intro w hSw; (go_simp; try with_reducible rfl))
    try simp only [Act.put, List.getElem_toArray, List.getElem_cons_succ, List.getElem_cons_zero, List.setIfInBounds_toArray, List.set_cons_zero, List.set_cons_succ]
    refine wpAnyH_take (i := 15) (v := ?_) rfl (by kernel_rfl) (by kernel_rfl) (by kernel_rfl) (fun _ _ _ h => h) (Or.inl ⟨by kernel_rfl, ?_⟩) (by assumption) ?_
    rotate_left
    · (intro w hSw; (go_simp; try with_reducible rfl))
    try simp only [Act.put, List.getElem_toArray, List.getElem_cons_succ, List.getElem_cons_zero, List.setIfInBounds_toArray, List.set_cons_zero, List.set_cons_succ]
    refine wpAnyH_done (by kernel_rfl) ?_ _
    clear hH
    go_wp2
    go_ret
    exact ⟨rfl, B3.out.trans (s5.mono B3.out.size)⟩
/-- Bytes that came in. -/
theorem bytes_in {W : World} {ad : Option Addr} {zs : List Int} (hx : IntsAt W .u8 ad zs) (hz : ∀ n ∈ zs, (Lit.int .u8 n).wf = true) : BytesRd W ad (zs.map fun n => UInt8.ofNat n.toNat) := fun j z hj => by
  rw [List.getElem?_map] at hj
  obtain ⟨n, hn, rfl⟩ := Option.map_eq_some_iff.1 hj
  have hl := (List.getElem?_eq_some_iff.1 hn).1
  obtain ⟨b, off, e, hb, hc⟩ := hx j hl
  refine ⟨b, off, e, hb, ?_⟩
  have h0 : 0 ≤ n ∧ n ≤ 255 := by simpa [Lit.wf, IntKind.min, IntKind.max, IntKind.signed, IntKind.bits] using hz n (List.mem_of_getElem? hn)
  rw [hc, List.getD_eq_getElem?_getD, hn]
  show some (Value.int .u8 n) = some (Value.int .u8 (((UInt8.ofNat n.toNat).toNat : Nat) : Int))
  have e2 : (((UInt8.ofNat n.toNat).toNat : Nat) : Int) = n := by
    rw [byte_nat (by omega)]
    omega
  rw [e2]
open Go.ChangeAt in
theorem DedupGets_walk (ad : Option Addr) (zs : List Int) (c : Nat) (W : World) (hx : IntsAt W .u8 ad zs) (hz : ∀ n ∈ zs, (Lit.int .u8 n).wf = true) (hl : zs.length ≤ maxLen) :
    Calls Try.prog 4 #[.slice ad zs.length c] W fun e w' => e = .returned (.bool true) ∧ Below W.heap.size W w' := by
  have h := gets_law (c := c) (bytes_in hx hz) (by rw [List.length_map]; unfold maxLen at hl; omega)
  rw [List.length_map] at h
  exact h
open Go.ChangeAt Go.ChangeShapes Go.WideShapes
set_option maxRecDepth 100000 in
theorem DedupGets_lifted (os : Os) (started : os.Started) (H : Type) (enc : TypeId × Value → H) :
    ReturnsInHanded {} Try.checked os 4 .any (Rows.dedupGetsSpec.pre6 enc Try.prog Try.f4 Rows.dedupGetsRow.domain false) (Rows.dedupGetsSpec.post enc Try.prog Try.f4 false true false false) := by
  refine returnsInHanded_of_change (C := Try.checked) own started (by kernel_rfl) Try.func4
    (ChangeSpec.witness6 (enc := enc) (C := Try.checked) false ⟨#[], #[.slice none 0 0], []⟩ 8 (by kernel_rfl) (by kernel_rfl) (by kernel_rfl) (by kernel_rfl)) ?_
  intro W base args ds gs before hval0 hW hcnd _
  have hval : ∀ (j : Nat) t v, Try.f4.params[j]? = some t → args[j]? = some v → Value.okWide Try.prog W .any base t v := hval0
  have hW' := hW
  obtain ⟨p, q, hA0, hV, rfl, hfz, hnd⟩ := hW
  have hA : DataW.TrodAll enc Try.prog W 0 (fun _ => true) true Try.f4.params.toList args.toList ds p := hA0
  rw [Try.params4] at hA hval
  obtain ⟨v0, vs0, d0, ds0, p0, q0, hargs, rfl, rfl, h0, r0⟩ := trodAll_cons hA
  obtain ⟨rfl, rfl, rfl⟩ := trodAll_nil r0
  obtain rfl : args = #[v0] := by cases args; simp_all
  obtain ⟨a0, z0, c0, rfl, x0, y0, l0⟩ := ints_of Try.underlying49 Try.underlying5 (by kernel_rfl) (hval 0 49 v0 rfl rfl) h0
  refine (DedupGets_walk a0 z0 c0 W x0 y0 l0).mono fun e W' ⟨he, hb⟩ => ?_
  subst he
  exact ⟨_, rfl, law_post laidOut (by kernel_rfl) rfl rfl Try.underlying4 rfl hW' hb⟩
theorem DedupGets_holds : Rows.DedupGetsSaid :=
  OpenClaim.holds_of_wide 4 Try.f4 rfl rfl rfl rfl rfl rfl rfl ⟨rfl, rfl, rfl, rfl, rfl⟩ rfl rfl rfl rfl rfl (by kernel_rfl) Try.func4 (by kernel_rfl)
    (of_decide_eq_true (by kernel_rfl)) (by unfold Func.isWrapper; rw [if_neg (by decide +kernel)]; exact ⟨rfl, rfl⟩)
    (fun os started H enc _ => DedupGets_lifted os started H enc)
end Go.Proofs.Ytgbghjpkdbjdgaa
