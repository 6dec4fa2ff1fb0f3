/- slices.IndexFunc, DeleteFunc at ints. -/
import Derived.Test.YtpmkgnnpngbfmaaInts
import Derived.Test.YtpmkgnnpngbfmaaSlP
import Derived.Deep.LoopGhost
import Derived.Deep.OwnRows
import Derived.IntWalk
namespace Go.Proofs.Ytpmkgnnpngbfmaa
open Go.RowKit

def one (x : Int) : List Value := [.int .i64 x]
theorem one_len (x : Int) : (one x).length = 1 := rfl
theorem one_one (x : Int) : ∀ u ∈ one x, u.oneCell' = true := by
  intro u hu
  simp only [one, List.mem_singleton] at hu
  subst hu
  rfl
theorem flat_one (l : List Int) : l.flatMap one = l.map (Value.int .i64) := by
  induction l with
  | nil => rfl
  | cons x r ih => simp [one, ← ih, List.flatMap_cons]
theorem zero_int : ∀ w, (zeroValue 3).run Try.prog w = .ok (.int .i64 0) w := fun w => by kernel_rfl

set_option maxHeartbeats 2000000 in
theorem index_fit {w : World} {ad : Option Addr} {c : Nat} {es : List Int} {cap0 cap1 cap2 : Value} (hr : IntsRd w ad es) (hfew : es.length ≤ 1000000) (p : Int → Bool)
    (hp : ∀ W, Below w.heap.size w W → ∀ x ∈ es, Calls Try.prog 25 #[.int .i64 x, cap0, cap1, cap2] W fun e W' => e = .returned (.bool (p x)) ∧ Below W.heap.size W W') :
    Calls Try.prog 36 #[.slice ad es.length c, .func (.func 25) #[] #[cap0, cap1, cap2]] w fun e w' => e = .returned (.int .i64 (idxOf p es)) ∧ Below w.heap.size w w' := by
  have R := Lib.hid hr
  have HP := Lib.hid hp
  obtain ⟨n, hn⟩ : ∃ n, n = es.length := ⟨_, rfl⟩
  have HN := Lib.hid hn
  rw [← hn] at hfew ⊢
  have eg : ∀ args w, (callFunc 25 args).run Try.prog w = .ok (.enter 25 args) w := fun _ _ => by kernel_rfl
  clear hr hp hn
  go_enter Try.func36, Try.ntmps36
  go_wp2_with fail
  go_loopg [5, 8] n (fun k _ s8 wr => ∃ j : Nat, j ≤ n ∧ k = n - j ∧ s8 = .int .i64 j ∧ Below w.heap.size w wr ∧ ∀ q y, q < j → es[q]? = some y → p y = false)
  case atStart => exact ⟨0, Nat.zero_le _, rfl, rfl, Below.refl _ _, fun q y h _ => absurd h (Nat.not_lt_zero _)⟩
  case round =>
    obtain ⟨j, hj, hk, rfl, hB, hall⟩ := hrel
    have HB := Lib.hid hB
    have HK := Lib.hid hk
    have HA := Lib.hid hall
    by_cases hlt : j < n
    · obtain ⟨x, hx⟩ : ∃ x, es[j]? = some x := ⟨es[j]'(by rw [← HN.out]; exact hlt), List.getElem?_eq_getElem _⟩
      obtain ⟨b, off, rfl, hbl, hcell⟩ := (R.out.later hB) j x hx
      have FC := Lib.hid (HP.out wr hB x (List.mem_of_getElem? hx))
      have HX := Lib.hid hx
      have j0 : (0 : Int) ≤ (j : Int) := Int.natCast_nonneg _
      have j1 : (j : Int) < (n : Int) := by omega
      clear hB hk hall hx
      go_wp2_with fail
      generalize hpv : p x = pv at *
      have PV := Lib.hid hpv
      clear hpv
      refine FC.out.mono ?_
      rintro e w2 ⟨rfl, hg⟩
      have HG := Lib.hid hg
      clear hg FC
      cases pv
      · go_wp2
        go_roundg (n - (j + 1))
        case measure => rw [HK.out]; omega
        case rel =>
          refine ⟨j + 1, by omega, rfl, by go_num, HB.out.trans (HG.out.mono HB.out.size), fun q y hq hy => ?_⟩
          by_cases hqj : q < j
          · exact HA.out q y hqj hy
          · obtain rfl : q = j := by omega
            rw [HX.out] at hy
            cases hy
            exact PV.out
      · go_wp2
        go_ret
        exact ⟨by rw [idxOf_at HX.out PV.out HA.out]; rfl, HB.out.trans (HG.out.mono HB.out.size)⟩
    · obtain rfl : j = n := by omega
      clear hB hk hall
      go_wp2
      go_ret
      refine ⟨?_, HB.out⟩
      rw [idxOf_none fun x hx => by obtain ⟨q, hq⟩ := List.mem_iff_getElem?.1 hx; exact HA.out q x (by rw [HN.out]; exact (List.getElem?_eq_some_iff.1 hq).1) hq]
      rfl
set_option maxHeartbeats 4000000 in
set_option maxRecDepth 100000 in
theorem delfunc_fit {B : Nat} {w : World} {v : Value} {es : List Int} {cap0 cap1 cap2 : Value} (hrow : IntsIs B w v es) (hfew : es.length ≤ 1000000) (p : Int → Bool)
    (hp : ∀ W, w.grownBy W v.ownBlock → ∀ x ∈ es, Calls Try.prog 25 #[.int .i64 x, cap0, cap1, cap2] W fun e W' => e = .returned (.bool (p x)) ∧ Below W.heap.size W W') :
    Calls Try.prog 22 #[v, .func (.func 25) #[] #[cap0, cap1, cap2]] w fun e w' =>
      ∃ v', e = .returned v' ∧ IntsIs B w' v' (es.filter fun x => !p x) ∧ w.grownBy w' v.ownBlock := by
  obtain ⟨va, vc, rfl⟩ := own_slice hrow
  have IX := Lib.hid (index_fit (hrow.rd) hfew p (c := vc) (fun W hW x hx => hp W (grown_below hW _) x hx))
  have hrow' : w.ownsRow B 3 1 (.slice va es.length vc) es.length (es.flatMap one) := by rw [flat_one]; exact hrow
  have R := Lib.hid hrow'
  have HP := Lib.hid hp
  obtain ⟨n, hn⟩ : ∃ n, n = es.length := ⟨_, rfl⟩
  have HN := Lib.hid hn
  rw [← hn] at hfew IX R ⊢
  have eg : ∀ args w, (callFunc 25 args).run Try.prog w = .ok (.enter 25 args) w := fun _ _ => by kernel_rfl
  clear hrow hrow' hp hn
  go_enter Try.func22, Try.ntmps22
  go_wp2_with fail
  refine IX.out.mono ?_
  clear IX
  rintro e w1 ⟨rfl, hB⟩
  rcases idxOf_cases p es with ⟨hi, hall⟩ | ⟨k0, x0, hi, hx0, hpx, hall⟩
  · rw [hi]
    have hf : (es.filter fun x => !p x) = es := List.filter_eq_self.2 fun a ha => by rw [hall a ha]; rfl
    have HF := Lib.hid hf
    have HB := Lib.hid hB
    clear hall hf hB hi
    go_wp2
    go_ret
    refine ⟨_, rfl, ?_, grown_below HB.out _⟩
    rw [HF.out]
    show World.ownsRow _ _ _ _ _ _ _
    rw [← HN.out]
    have := own_later R.out HB.out
    rw [flat_one] at this
    exact this
  · rw [hi]
    have hk0 : k0 < n := by rw [HN.out]; exact (List.getElem?_eq_some_iff.1 hx0).1
    obtain ⟨g, rfl, hgl, _, hcap⟩ := own_elem one_len (by decide) R.out hx0
    have K0 := Lib.hid (KeptF.start (p := p) hx0 hpx hall)
    have HB := Lib.hid hB
    have hne1 : ((k0 : Int) == -1) = false := by simp
    clear hx0 hall hB hi hpx
    go_wp2_with fail
    go_loopg [5, 6, 7] n (fun k s5 s6 _ wr => ∃ (i j : Nat) (cs : List Int), j ≤ n ∧ n - j ≤ k ∧ s5 = .int .i64 i ∧ s6 = .int .i64 j ∧ KeptF p es cs i j ∧ wr.ownsRow B 3 1 (.slice (some ⟨g, 0, none⟩) n vc) n (cs.flatMap one) ∧ w.grownBy wr (some g))
    case atStart => exact ⟨k0, k0 + 1, es, by omega, by omega, rfl, by go_num, K0.out, own_later R.out HB.out, grown_below HB.out _⟩
    case round =>
      obtain ⟨i, j, cs, hj, hk, rfl, rfl, hK, hR, hG⟩ := hrel
      have KK := Lib.hid hK
      have RR := Lib.hid hR
      have GG := Lib.hid hG
      have HK := Lib.hid hk
      have hij := hK.lt
      have hcl : cs.length = n := by rw [hK.len, HN.out]
      by_cases hlt : j < n
      · obtain ⟨x, hx⟩ : ∃ x, es[j]? = some x := ⟨es[j]'(by rw [← HN.out]; exact hlt), List.getElem?_eq_getElem _⟩
        obtain ⟨g', e1, hgw, hl, _⟩ := own_elem one_len (by decide) hR (hK.at.trans hx)
        cases e1
        have hcell : wr.cell? ⟨g, j, none⟩ = some (.int .i64 x) := by
          have := hl 0 (.int .i64 x) rfl
          rw [Nat.mul_one] at this
          exact this
        have FC := Lib.hid (HP.out wr hG x (List.mem_of_getElem? hx))
        have HX := Lib.hid hx
        have HCL := Lib.hid hcl
        have j0 : (0 : Int) ≤ (j : Int) := Int.natCast_nonneg _
        have j1 : (j : Int) < (n : Int) := by omega
        have i0 : (0 : Int) ≤ (i : Int) := Int.natCast_nonneg _
        have i1 : (i : Int) < (n : Int) := by omega
        clear hK hR hG hk hx hcl hl
        go_wp2_with fail
        generalize hpv : p x = pv at *
        have PV := Lib.hid hpv
        clear hpv
        refine FC.out.mono ?_
        rintro e wd ⟨rfl, hd⟩
        have D := Lib.hid hd
        clear hd FC hcell
        cases pv
        · have hth : wd.there g (i * 1) 1 := own_there (s := 1) (own_later RR.out D.out) (i := i) (by omega)
          have hst := hth 0 (by omega)
          rw [Nat.mul_one, Nat.add_zero] at hst
          obtain ⟨hs1, hs2⟩ := hst
          obtain ⟨u0, hu0⟩ := Option.isSome_iff_exists.1 hs1
          clear hs1 hth
          go_wp2_with fail
          obtain ⟨s1, s2⟩ := own_put one_len (own_later RR.out D.out) HCL.out.symm (i := i) (by omega) x
          rw [Nat.mul_one] at s1 s2
          have S1 := Lib.hid s1
          have S2 := Lib.hid s2
          clear s1 s2
          go_roundg (n - (j + 1))
          case measure => have := HK.out; omega
          case rel => exact ⟨i + 1, j + 1, _, by omega, Nat.le_refl _, by go_num, by go_num, KK.out.keep HX.out PV.out, S1.out, grown_trans GG.out (grown_trans (grown_below D.out _) S2.out)⟩
        · go_wp2
          go_roundg (n - (j + 1))
          case measure => have := HK.out; omega
          case rel => exact ⟨i, j + 1, cs, by omega, Nat.le_refl _, rfl, by go_num, KK.out.skip HX.out PV.out, own_later RR.out D.out, grown_trans GG.out (grown_below D.out _)⟩
      · obtain rfl : j = n := by omega
        obtain ⟨W2, hclr, hW3, hW4⟩ := run_clear_row wr 44 3 _ 1 Try.underlying44 zero_int (by simp [Value.cells]) (by intro u hu; simp [Value.cells] at hu; subst hu; rfl) B g j vc _ hR i (j - i) (vc - i) (by omega) (by omega) ⟨g, i * 1, none⟩ (fun _ => rfl)
        rw [Nat.mul_one] at hclr
        have X3 := Lib.hid hW3
        have X4 := Lib.hid hW4
        have n1 : ¬ vc = i := by omega
        have n2 : i ≤ j := by omega
        have n3 : i ≤ vc := by omega
        have n4 : (i : Int) ≤ (j : Int) := by omega
        have n5 : (0 : Int) ≤ (i : Int) := Int.natCast_nonneg _
        have HCL := Lib.hid hcl
        have HIJ := Lib.hid hij
        clear hK hR hG hk hW3 hW4 hcl hij
        go_wp2
        go_ret
        have hf : cs.take i = es.filter fun x => !p x := by rw [KK.out.low, List.take_of_length_le (by rw [← HN.out]; exact Nat.le_refl _)]
        have hl : (es.filter fun x => !p x).length = i := by rw [← hf, List.length_take, HCL.out]; have := HIJ.out; omega
        have hx := X3.out
        rw [flat_take one 1 one_len, hf] at hx
        rw [flat_one] at hx
        refine ⟨_, rfl, ?_, grown_trans GG.out X4.out⟩
        show World.ownsRow _ _ _ _ _ _ _
        rw [hl]
        exact hx
end Go.Proofs.Ytpmkgnnpngbfmaa
