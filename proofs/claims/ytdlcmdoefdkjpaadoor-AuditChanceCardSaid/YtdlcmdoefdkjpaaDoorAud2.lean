/- slices.Clone, slices.DeleteFunc and slices.Delete at an auditor's rows. -/
import Derived.Test.YtdlcmdoefdkjpaaDoorAud
import Derived.Test.YtdlcmdoefdkjpaaDoorStep
import Derived.Lib.SliceRun
namespace Go.Proofs.YtdlcmdoefdkjpaaDoor
open Go.RowKit
open Extern.Stop (cell)

theorem zero_tgt (w : World) : (zeroValue 37).run Tryd.prog w = .ok (.agg (tcells ⟨0, [], 0⟩).toArray) w := by kernel_rfl
theorem zero_qn (w : World) : (zeroValue 98).run Tryd.prog w = .ok (.agg (qcells ⟨0, [], 0, 0, 0, 0⟩).toArray) w := by kernel_rfl
theorem info_tgt : (Tryd.prog.info? 37).map (fun i => (i.zero, i.size, i.bytes)) = some (some (.agg (tcells ⟨0, [], 0⟩).toArray), 34, 48) := by kernel_rfl
theorem info_qn : (Tryd.prog.info? 98).map (fun i => (i.zero, i.size, i.bytes)) = some (some (.agg (qcells ⟨0, [], 0, 0, 0, 0⟩).toArray), 37, 72) := by kernel_rfl

set_option maxHeartbeats 1000000 in
set_option maxRecDepth 100000 in
theorem clone_tgt {w : World} {ad : Option Addr} {c : Nat} {es : List Tgt} (hrow : RowAt w ad (es.flatMap tcells)) (hfew : es.length ≤ 1000000) (hnil : ad = none → c = 0) :
    Calls Tryd.prog 35 #[.slice ad es.length c] w fun e w' => ∃ v', e = .returned v' ∧ w'.ownsRow w.heap.size 37 34 v' es.length (es.flatMap tcells) ∧ Below w.heap.size w w' := by
  cases ad with
  | none =>
    have h0 : es = [] := by
      cases es with
      | nil => rfl
      | cons x r =>
        obtain ⟨b, off, h, _⟩ := rowAt_elem tcells_len (by decide) hrow (i := 0) (x := x) rfl
        cases h
    subst h0
    rw [hnil rfl]
    have ql := fun (w : World) => Lib.run_eql_slice_nil (P := Tryd.prog) w 38 _ none 0 0 0 0 Tryd.underlying38
    clear hrow hnil
    go_enter Tryd.func35, Tryd.ntmps35
    go_wp2
    go_ret
    exact ⟨_, rfl, World.ownsRow_nil _ _ _ _, Below.refl _ _⟩
  | some a =>
    have ql := fun (w : World) => Lib.run_eql_slice_nil (P := Tryd.prog) w 38 _ (some a) es.length c 0 0 Tryd.underlying38
    obtain ⟨n, hn⟩ : ∃ n, n = es.length := ⟨_, rfl⟩
    have HN := Lib.hid hn
    rw [← hn] at hfew ql ⊢
    have R := Lib.hid hrow
    obtain ⟨i0, hi, hz0, hz1, hz2⟩ := info_parts info_tgt
    clear hrow hn hnil
    go_enter Tryd.func35, Tryd.ntmps35
    go_wp2_with (at_builtin; refine wpList_append_own _ rfl (.tmp 5) (.tmp 6) 38 rfl w.heap.size 37 i0 _ 34 48 Tryd.underlying38 hi hz0 hz1 hz2 ?p1 (by decide) _ 0 [] rfl ?p2 a n c (es.flatMap tcells) rfl ?p3 ?p4 ?p5 ?p6 ?p7 ?p8 ?_)
    case p1 => simp [Value.cells, tcells_len]
    case p2 => exact own_empty _ _ _
    case p3 => rw [flat_len tcells 34 tcells_len, HN.out]
    case p4 =>
      intro j u hj
      obtain ⟨b, off, h1, h2⟩ := R.out j u hj
      cases h1
      rw [Addr.add_mid]
      exact (below_alloc (Below.refl _ _) _).cell (p := ⟨b, off + j, none⟩) (World.block_lt_of_cell? w _ h2) |>.trans h2
    case p5 => intro u hu; obtain ⟨x, _, hu⟩ := List.mem_flatMap.1 hu; exact tcells_one x u hu
    case p6 => unfold maxLen; omega
    case p7 => omega
    case p8 => simp
    intro v' w' hown hg hat
    have O := Lib.hid hown
    have B' : Below w.heap.size w w' := (below_alloc (Below.refl _ _) _).grown hg (by simp) (fun k hk => by simp [Value.ownBlock] at hk; omega)
    have BB := Lib.hid B'
    clear hown hg hat B'
    go_wp2
    go_ret
    refine ⟨_, rfl, ?_, BB.out⟩
    have := O.out
    simpa [HN.out] using this
set_option maxHeartbeats 4000000 in
set_option maxRecDepth 100000 in
theorem delfunc_draw {B : Nat} {w : World} {v : Value} {es : List Tgt}  (hrow : w.ownsRow B 37 34 v es.length (es.flatMap tcells)) (hfew : es.length ≤ 1000000) (p : Tgt → Bool)
    (hp : ∀ W, w.grownBy W v.ownBlock → ∀ x ∈ es, Calls Tryd.prog 36 #[.agg (tcells x).toArray] W fun e W' => e = .returned (.bool (p x)) ∧ Below W.heap.size W W') :
    Calls Tryd.prog 34 #[v, .func (.func 36) #[] #[]] w fun e w' =>
      ∃ v', e = .returned v' ∧ w'.ownsRow B 37 34 v' (es.filter fun x => !p x).length ((es.filter fun x => !p x).flatMap tcells) ∧ w.grownBy w' v.ownBlock := by
  obtain ⟨va, vc, rfl⟩ := own_slice hrow
  have IX := Lib.hid (index_draw (rowAt_own hrow) hfew p (c := vc) (fun W hW x hx => hp W (grown_below hW _) x hx))
  have R := Lib.hid hrow
  have HP := Lib.hid hp
  obtain ⟨n, hn⟩ : ∃ n, n = es.length := ⟨_, rfl⟩
  have HN := Lib.hid hn
  rw [← hn] at hfew IX R ⊢
  have eg : ∀ args w, (callFunc 36 args).run Tryd.prog w = .ok (.enter 36 args) w := fun _ _ => by kernel_rfl
  clear hrow hp hn
  go_enter Tryd.func34, Tryd.ntmps34
  go_wp2_with fail
  refine IX.out.mono ?_
  clear IX
  rintro e w1 ⟨rfl, hB⟩
  rcases idxOf_cases p es with ⟨hi, hall⟩ | ⟨k0, x0, hi, hx0, hpx, hall⟩
  · rw [hi]
    have hf : (es.filter fun x => !p x) = es := List.filter_eq_self.2 fun a ha => by rw [hall a ha]; rfl
    have HF := Lib.hid hf
    have HB := Lib.hid hB
    clear hall hf hB hi
    go_wp2
    go_ret
    refine ⟨_, rfl, ?_, grown_below HB.out _⟩
    rw [HF.out, ← HN.out]
    exact own_later R.out HB.out
  · rw [hi]
    have hk0 : k0 < n := by rw [HN.out]; exact (List.getElem?_eq_some_iff.1 hx0).1
    obtain ⟨g, rfl, hgl, _, hcap⟩ := own_elem tcells_len (by decide) R.out hx0
    have K0 := Lib.hid (KeptF.start (p := p) hx0 hpx hall)
    have HB := Lib.hid hB
    have hne1 : ((k0 : Int) == -1) = false := by simp
    clear hx0 hall hB hi hpx
    go_wp2_with fail
    go_loopg [5, 6, 7] n (fun k s5 s6 _ wr => ∃ (i j : Nat) (cs : List Tgt), j ≤ n ∧ n - j ≤ k ∧ s5 = .int .i64 i ∧ s6 = .int .i64 j ∧ KeptF p es cs i j ∧ wr.ownsRow B 37 34 (.slice (some ⟨g, 0, none⟩) n vc) n (cs.flatMap tcells) ∧ w.grownBy wr (some g))
    case atStart => exact ⟨k0, k0 + 1, es, by omega, by omega, rfl, by go_num, K0.out, own_later R.out HB.out, grown_below HB.out _⟩
    case round =>
      obtain ⟨i, j, cs, hj, hk, rfl, rfl, hK, hR, hG⟩ := hrel
      have KK := Lib.hid hK
      have RR := Lib.hid hR
      have GG := Lib.hid hG
      have HK := Lib.hid hk
      have hij := hK.lt
      have hcl : cs.length = n := by rw [hK.len, HN.out]
      by_cases hlt : j < n
      · obtain ⟨x, hx⟩ : ∃ x, es[j]? = some x := ⟨es[j]'(by rw [← HN.out]; exact hlt), List.getElem?_eq_getElem _⟩
        obtain ⟨g', e1, hgw, hl, _⟩ := own_elem tcells_len (by decide) hR (hK.at.trans hx)
        cases e1
        have FC := Lib.hid (HP.out ((wr.alloc (.cells (tcells x).toArray 37))) (grown_trans hG (grown_below (below_alloc (Below.refl _ _) _) _)) x (List.mem_of_getElem? hx))
        have HX := Lib.hid hx
        have LL := Lib.hid hl
        have HCL := Lib.hid hcl
        have j0 : (0 : Int) ≤ (j : Int) := Int.natCast_nonneg _
        have j1 : (j : Int) < (n : Int) := by omega
        have i0 : (0 : Int) ≤ (i : Int) := Int.natCast_nonneg _
        have i1 : (i : Int) < (n : Int) := by omega
        have hgne : ¬ g = wr.heap.size := by omega
        clear hK hR hG hk hx hcl hl
        go_wp2_with (first | (refine wpList_load_agg rfl 37 (.tmp 24) rfl g (j * 34) rfl (tcells x).toArray _ LL.out Tryd.underlying37 rfl (by rw [size_tgt]; simp [tcells_len]) ?_) | (refine wpList_store_new rfl 37 (.tmp 7) (.tmp 25) rfl _ (tcells x).toArray rfl rfl (by rw [size_tgt]; simp [tcells_len]) (by simp [tcells_len]) (all_oneCell_toArray (tcells_one x)) ?_) | (refine wpList_load_agg rfl 37 (.tmp 7) rfl wr.heap.size 0 rfl (tcells x).toArray _ (lies_block (heap_at wr _)) Tryd.underlying37 rfl (by rw [size_tgt]; simp [tcells_len]) ?_))
        generalize hpv : p x = pv at *
        have PV := Lib.hid hpv
        clear hpv
        refine FC.out.mono ?_
        rintro e wd ⟨rfl, hd⟩
        have D := Lib.hid ((below_alloc (Below.refl wr.heap.size wr) (.cells (tcells x).toArray 37)).trans (hd.mono (by simp)))
        have b7 := heap_kept hd (heap_at wr _) (by simp)
        have B7 := Lib.hid b7
        clear hd FC b7
        cases pv
        · go_wp2_with (first | (refine wpList_load_agg rfl 37 (.tmp 7) rfl wr.heap.size 0 rfl (tcells x).toArray _ (lies_block B7.out) Tryd.underlying37 rfl (by rw [size_tgt]; simp [tcells_len]) ?_) | (refine wpList_store_mid rfl 37 (.tmp 33) (.tmp 32) rfl g (i * 34) (tcells x).toArray rfl rfl (by have := own_there (s := 34) (own_later RR.out D.out) (i := i) (by omega); simpa [tcells_len] using this) (by rw [size_tgt]; simp [tcells_len]) (all_oneCell_toArray (tcells_one x)) ?_))
          obtain ⟨s1, s2⟩ := own_put tcells_len (own_later RR.out D.out) HCL.out.symm (i := i) (by omega) x
          have S1 := Lib.hid s1
          have S2 := Lib.hid s2
          clear s1 s2
          go_roundg (n - (j + 1))
          case measure => have := HK.out; omega
          case rel => exact ⟨i + 1, j + 1, _, by omega, Nat.le_refl _, by go_num, by go_num, KK.out.keep HX.out PV.out, S1.out, grown_trans GG.out (grown_trans (grown_below D.out _) S2.out)⟩
        · go_wp2
          go_roundg (n - (j + 1))
          case measure => have := HK.out; omega
          case rel => exact ⟨i, j + 1, cs, by omega, Nat.le_refl _, rfl, by go_num, KK.out.skip HX.out PV.out, own_later RR.out D.out, grown_trans GG.out (grown_below D.out _)⟩
      · obtain rfl : j = n := by omega
        obtain ⟨W2, hclr, hW3, hW4⟩ := run_clear_row wr 38 37 _ 34 Tryd.underlying38 zero_tgt (by simp [Value.cells, tcells_len]) (by intro u hu; exact tcells_one _ u (by simpa [Value.cells] using hu)) B g j vc _ hR i (j - i) (vc - i) (by omega) (by omega) ⟨g, i * 34, none⟩ (fun _ => rfl)
        have X3 := Lib.hid hW3
        have X4 := Lib.hid hW4
        have n1 : ¬ vc = i := by omega
        have n2 : i ≤ j := by omega
        have n3 : i ≤ vc := by omega
        have n4 : (i : Int) ≤ (j : Int) := by omega
        have n5 : (0 : Int) ≤ (i : Int) := Int.natCast_nonneg _
        have HCL := Lib.hid hcl
        have HIJ := Lib.hid hij
        clear hK hR hG hk hW3 hW4 hcl hij
        go_wp2
        go_ret
        have hf : cs.take i = es.filter fun x => !p x := by rw [KK.out.low, List.take_of_length_le (by rw [← HN.out]; exact Nat.le_refl _)]
        have hl : (es.filter fun x => !p x).length = i := by rw [← hf, List.length_take, HCL.out]; have := HIJ.out; omega
        have hx := X3.out
        rw [flat_take tcells 34 tcells_len, hf] at hx
        rw [hl]
        exact ⟨_, rfl, hx, grown_trans GG.out X4.out⟩
end Go.Proofs.YtdlcmdoefdkjpaaDoor
