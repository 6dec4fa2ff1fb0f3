/- The law BagOrder: messages that are taken from the front come in the order in which they were put. -/
import Derived.Test.YtoinlhjdmkeaeabBagAw
namespace Go.Proofs.Ytoinlhjdmkeaeab
open Go.ChangeShapes Go.WideShapes Go.ChangeAt Go.RowKit

theorem forUpto_more (ms : List Msg) (node : Int) (j k : Nat) : ∃ r, forUpto ms node (j + k) = forUpto ms node j ++ r := by
  induction k with
  | zero => exact ⟨[], by simp⟩
  | succ k ih =>
    obtain ⟨r, hr⟩ := ih
    refine ⟨r ++ (match ms[j + k]? with | some m => if m.t = node then [((j + k : Nat) : Int)] else [] | none => []), ?_⟩
    rw [← Nat.add_assoc]
    simp only [forUpto, hr, List.append_assoc]
    rfl
theorem forUpto_hit {ms : List Msg} {node : Int} {j n : Nat} {m : Msg} (hm : ms[j]? = some m) (ht : m.t = node) (hn : j < n) : (forUpto ms node n)[(forUpto ms node j).length]? = some (j : Int) ∧ forUpto ms node (j + 1) = forUpto ms node j ++ [(j : Int)] := by
  have h1 : forUpto ms node (j + 1) = forUpto ms node j ++ [(j : Int)] := by simp only [forUpto, hm, if_pos ht]
  obtain ⟨r, hr⟩ := forUpto_more ms node (j + 1) (n - (j + 1))
  rw [show j + 1 + (n - (j + 1)) = n by omega, h1] at hr
  exact ⟨by rw [hr]; simp, h1⟩
theorem forUpto_miss {ms : List Msg} {node : Int} {j : Nat} {m : Msg} (hm : ms[j]? = some m) (ht : m.t ≠ node) : forUpto ms node (j + 1) = forUpto ms node j := by
  simp only [forUpto, hm, if_neg ht, List.append_nil]

def tz (z : Int) : Int := bits .and .u8 z 3
theorem tz_in (z : Int) : 0 ≤ tz z ∧ tz z < 4 := by
  have h : (BitVec.ofInt 8 z &&& BitVec.ofInt 8 3).toNat ≤ 3 := by
    rw [BitVec.toNat_and]
    exact Nat.and_le_right
  have e : tz z = IntKind.u8.wrap ((BitVec.ofInt 8 z &&& BitVec.ofInt 8 3).toNat : Int) := rfl
  rw [e]
  generalize (BitVec.ofInt 8 z &&& BitVec.ofInt 8 3).toNat = x at h
  simp [IntKind.wrap, IntKind.signed, IntKind.bits]
  omega
def ordMsgs (zs : List Int) : Nat → List Msg
  | 0 => []
  | j + 1 => ordMsgs zs j ++ [⟨0, tz (zs.getD j 0), 0, [(j : Int)]⟩]
theorem ord_len (zs : List Int) : ∀ j, (ordMsgs zs j).length = j
  | 0 => rfl
  | j + 1 => by simp [ordMsgs, ord_len zs j]
theorem ord_at (zs : List Int) {i : Nat} : ∀ {j : Nat}, i < j → (ordMsgs zs j)[i]? = some ⟨0, tz (zs.getD i 0), 0, [(i : Int)]⟩
  | 0, h => absurd h (Nat.not_lt_zero _)
  | j + 1, h => by
    simp only [ordMsgs]
    by_cases e : i < j
    · rw [List.getElem?_append_left (by rw [ord_len]; exact e)]; exact ord_at zs e
    · obtain rfl : i = j := by omega
      rw [List.getElem?_append_right (by rw [ord_len]; exact Nat.le_refl _), ord_len, Nat.sub_self]; rfl

set_option maxHeartbeats 4000000 in
set_option maxRecDepth 100000 in
theorem BagOrder_walk (ad : Option Addr) (zs : List Int) (c : Nat) (w : World) (hx : IntsAt w .u8 ad zs) (hw : ∀ n ∈ zs, (Lit.int .u8 n).wf = true) (hl : zs.length ≤ maxLen) :
    Calls Try.prog 6 #[.slice ad zs.length c] w fun e w' => e = .returned (.bool true) ∧ Below w.heap.size w w' := by
  have hl' : zs.length ≤ maxLen := hl
  unfold maxLen at hl'
  have X := Lib.hid hx
  have Y := Lib.hid hw
  obtain ⟨n, hn⟩ : ∃ n, n = zs.length := ⟨_, rfl⟩
  have HN := Lib.hid hn
  rw [← hn] at hl' ⊢
  clear hx hw hl hn
  by_cases hbig : 200 < n
  · have hbz : (200 : Int) < (n : Int) := by omega
    go_enter Try.func6, Try.ntmps6
    go_wp2_with fail
    refine (awake_any _).mono ?_
    rintro e w1 ⟨rfl, b1⟩
    go_wp2
    go_ret
    exact ⟨rfl, b1⟩
  · have hbz : ¬ (200 : Int) < (n : Int) := by omega
    go_enter Try.func6, Try.ntmps6
    go_wp2_with fail
    refine (awake_any _).mono ?_
    rintro e w1 ⟨rfl, b1⟩
    go_wp2_with fail
    refine (new_ok (by decide) (by decide) _).mono ?_
    rintro e w2 ⟨b, rfl, h2, b2⟩
    obtain ⟨A, hA⟩ : ∃ A, A = w1.heap.size := ⟨_, rfl⟩
    rw [← hA] at h2
    have hwA : w.heap.size ≤ A := by rw [hA]; exact b1.size
    have hB : Below w.heap.size w w2 := b1.trans (b2.mono b1.size)
    have hAs : A ≤ w2.heap.size := by rw [hA]; exact b2.size
    have H2 := Lib.hid h2
    have HB := Lib.hid hB
    clear b1 b2 hA h2 hB
    go_wp2_with fail
    go_loopg [6] n (fun k s6 wr => ∃ j : Nat, j ≤ n ∧ k = n - j ∧ s6 = .int .i64 j ∧ IsBag A A wr b 4 (ordMsgs zs j) ∧ Below w.heap.size w wr ∧ A ≤ wr.heap.size)
    case atStart => exact ⟨0, Nat.zero_le _, rfl, rfl, H2.out, HB.out, hAs⟩
    case round =>
      obtain ⟨j, hj, hk, rfl, hI, hb, hAr⟩ := hrel
      have I := Lib.hid hI
      have BB := Lib.hid hb
      have HK := Lib.hid hk
      clear hI hk
      by_cases hlt : j < n
      · obtain ⟨bx, ox, rfl, hx1, hx2⟩ := X.out.at hb (by rw [← HN.out]; exact hlt)
        have j0 : (0 : Int) ≤ (j : Int) := Int.natCast_nonneg _
        have j1 : (j : Int) < (n : Int) := by omega
        obtain ⟨z, hz⟩ : ∃ z, z = zs.getD j 0 := ⟨_, rfl⟩
        rw [← hz] at hx2
        obtain ⟨t0, t4⟩ := tz_in z
        have ht : bits .and .u8 z 3 = tz z := rfl
        have hbx : bx < wr.heap.size := Nat.lt_of_lt_of_le hx1 hb.size
        have hT : tz z = tz (zs.getD j 0) := by rw [hz]
        generalize tz z = t at *
        have TT := Lib.hid hT
        clear hT hb hx1 hz
        go_wp2_with fail
        have hby : BytesAt (wr.alloc (.cells #[.int .u8 j] 5)) (.slice (some ⟨wr.heap.size, 0, none⟩) 1 1) [(j : Int)] := ⟨_, 1, rfl, by simp, fun q y hy => ⟨_, 0, rfl, by
          cases q with
          | zero => simp at hy; subst hy; exact (blk1 (heap_at wr _)).1
          | succ q => simp at hy⟩⟩
        have P := put_ok (I.out.later (below_alloc (Below.refl _ _) _)) (by simp; omega) (by simp; omega) hby (f := 0) (t := t) (by decide) (by decide) t0 t4 (by simp) (by rw [ord_len]; omega)
        refine P.mono ?_
        rintro e w3 ⟨rfl, h3, k3⟩
        have hn3 : ordMsgs zs (j + 1) = ordMsgs zs j ++ [⟨0, t, 0, [(j : Int)]⟩] := by rw [TT.out]; rfl
        rw [← hn3] at h3
        have b3 : Below w.heap.size w w3 := (below_alloc BB.out _).trans (k3.below.mono hwA)
        have s3 : A ≤ w3.heap.size := by have := k3.below.size; simp at this; omega
        have I3 := Lib.hid h3
        have B3 := Lib.hid b3
        clear h3 k3 b3 P hn3 hby
        go_wp2
        go_roundg (n - (j + 1))
        case measure => rw [HK.out]; omega
        case rel => exact ⟨j + 1, by omega, rfl, by go_num, I3.out, B3.out, s3⟩
      · obtain rfl : j = n := by omega
        clear hlt hb
        go_wp2_with fail
        go_loopg [7] 4 (fun k s7 wr => ∃ q : Nat, q ≤ 4 ∧ k = 4 - q ∧ s7 = .int .i64 q ∧ IsBag A A wr b 4 (ordMsgs zs j) ∧ Below w.heap.size w wr ∧ A ≤ wr.heap.size)
        case atStart => exact ⟨0, Nat.zero_le _, rfl, rfl, I.out, BB.out, hAr⟩
        case round =>
          obtain ⟨q, hq, hk, rfl, hI, hb, hAr⟩ := hrel
          have II := Lib.hid hI
          have BQ := Lib.hid hb
          have HQ := Lib.hid hk
          clear hI hb hk I BB
          by_cases hq4 : q < 4
          · have q0 : (0 : Int) ≤ (q : Int) := Int.natCast_nonneg _
            have q1 : (q : Int) < 4 := by omega
            go_wp2_with fail
            refine (for_any II.out (q : Int)).mono ?_
            rintro e wc ⟨v', rfl, hrow, hbc⟩
            rw [ord_len] at hrow
            obtain ⟨xa, xc, rfl⟩ := own_slice hrow
            have IC := Lib.hid (II.out.later hbc)
            have BC := Lib.hid (BQ.out.trans (hbc.mono BQ.out.size))
            have hAc : A ≤ wc.heap.size := Nat.le_trans hAr hbc.size
            have RC := Lib.hid hrow
            have hLL := forUpto_len (ordMsgs zs j) q j
            obtain ⟨L, hL⟩ : ∃ L, L = (forUpto (ordMsgs zs j) q j).length := ⟨_, rfl⟩
            rw [← hL] at hLL
            have HL := Lib.hid hL
            rw [← hL]
            clear hrow hbc II BQ hL
            go_wp2_with fail
            go_loopg [9, 10] j (fun k s9 s10 wr => ∃ i : Nat, i ≤ j ∧ k = j - i ∧ s9 = .int .i64 (forUpto (ordMsgs zs j) q i).length ∧ s10 = .int .i64 i ∧ wr = wc)
            case atStart => exact ⟨0, Nat.zero_le _, rfl, rfl, rfl, rfl⟩
            case round =>
              obtain ⟨i, hi, hk, rfl, rfl, rfl⟩ := hrel
              have HI := Lib.hid hk
              clear hk
              by_cases hij : i < j
              · obtain ⟨bx, ox, rfl, hx1, hx2⟩ := X.out.at BC.out (by rw [← HN.out]; exact hij)
                have i0 : (0 : Int) ≤ (i : Int) := Int.natCast_nonneg _
                have i1 : (i : Int) < (j : Int) := by omega
                have hat := ord_at zs hij
                obtain ⟨z, hz⟩ : ∃ z, z = zs.getD i 0 := ⟨_, rfl⟩
                rw [← hz] at hx2 hat
                obtain ⟨t0, t4⟩ := tz_in z
                have ht : bits .and .u8 z 3 = tz z := rfl
                generalize tz z = t at *
                clear hx1 hz
                by_cases hit : t = q
                · obtain ⟨y1, y2⟩ := forUpto_hit hat hit hij
                  have hkl := (List.getElem?_eq_some_iff.1 y1).1
                  have hlen2 : (forUpto (ordMsgs zs j) q (i + 1)).length = (forUpto (ordMsgs zs j) q i).length + 1 := by rw [y2]; simp
                  obtain ⟨K, hK⟩ : ∃ K, K = (forUpto (ordMsgs zs j) q i).length := ⟨_, rfl⟩
                  rw [← hK] at y1 hkl hlen2
                  rw [← hK]
                  rw [← HL.out] at hkl
                  have hrow := RC.out
                  obtain ⟨gx, hgx, hgc⟩ : ∃ g, xa = some ⟨g, 0, none⟩ ∧ wr.cell? ⟨g, K, none⟩ = some (.int .i64 i) := by
                    rcases hrow.2 with ⟨_, h0⟩ | ⟨g, cap, cur, hv, _⟩
                    · rw [← HL.out] at h0; omega
                    · have e1 : xa = some ⟨g, 0, none⟩ := by cases hv; rfl
                      subst e1
                      refine ⟨g, rfl, (hrow.cellAt K (by rw [← HL.out]; omega)).trans ?_⟩
                      rw [List.getElem?_map, y1]; rfl
                  subst hgx
                  have k0 : (0 : Int) ≤ (K : Int) := Int.natCast_nonneg _
                  have k1 : (K : Int) < (L : Int) := by omega
                  have HK2 := Lib.hid hK
                  have HL2 := Lib.hid hlen2
                  subst hit
                  clear hat y1 y2 hrow hK hlen2
                  go_wp2
                  go_roundg (j - (i + 1))
                  case measure => rw [HI.out]; omega
                  case rel => exact ⟨i + 1, by omega, rfl, by rw [HL2.out]; go_num, by go_num, rfl⟩
                · have y2 := forUpto_miss hat hit
                  have Y2 := Lib.hid y2
                  have hit' : (t == (q : Int)) = false := by simpa using hit
                  generalize hK : (forUpto (ordMsgs zs j) q i).length = K at *
                  have HK2 := Lib.hid hK
                  clear hat y2 hit hK
                  go_wp2
                  go_roundg (j - (i + 1))
                  case measure => rw [HI.out]; omega
                  case rel => exact ⟨i + 1, by omega, rfl, by rw [Y2.out, HK2.out], by go_num, rfl⟩
              · obtain rfl : i = j := by omega
                rw [← HL.out]
                clear hij
                go_wp2
                go_roundg (4 - (q + 1))
                case measure => rw [HQ.out]; omega
                case rel => exact ⟨q + 1, by omega, rfl, by go_num, IC.out, BC.out, hAc⟩
          · obtain rfl : q = 4 := by omega
            go_wp2_with fail
            go_loopg [11, 12, 13] j (fun k s11 _ _ wr => ∃ q : Nat, q ≤ j ∧ k = j - q ∧ s11 = .int .i64 q ∧ IsBag A A wr b 4 ((ordMsgs zs j).drop q) ∧ Below w.heap.size w wr ∧ A ≤ wr.heap.size)
            case atStart => exact ⟨0, Nat.zero_le _, rfl, rfl, II.out, BQ.out, hAr⟩
            case round =>
              obtain ⟨q, hq, hk, rfl, hI, hb, hAr⟩ := hrel
              have HQ2 := Lib.hid hk
              by_cases hqj : q < j
              · have hat : ((ordMsgs zs j).drop q)[0]? = some ⟨0, tz (zs.getD q 0), 0, [(q : Int)]⟩ := by rw [List.getElem?_drop, Nat.add_zero]; exact ord_at zs hqj
                have TK := take_yes hI hAr hat
                have BR := Lib.hid hb
                have q0 : (0 : Int) ≤ (q : Int) := Int.natCast_nonneg _
                have q1 : (q : Int) < (j : Int) := by omega
                clear hI hb hk hat
                go_wp2_with fail
                refine TK.mono ?_
                rintro e w4 ⟨bv, rfl, y4, h4, k4⟩
                have b4 : Below w.heap.size w w4 := BR.out.trans (k4.below.mono hwA)
                have s4 : A ≤ w4.heap.size := Nat.le_trans hAr k4.below.size
                rw [List.eraseIdx_zero, List.tail_drop] at h4
                obtain ⟨gb, cb, rfl, hgb, hgc⟩ : ∃ g c, bv = .slice (some ⟨g, 0, none⟩) 1 c ∧ g < w4.heap.size ∧ w4.cell? ⟨g, 0, none⟩ = some (.int .u8 q) := by
                  rcases y4.2 with ⟨_, h0⟩ | ⟨g, cap, cur, hv, _, hg, _⟩
                  · simp at h0
                  · subst hv
                    exact ⟨g, cap, rfl, (Array.getElem?_eq_some_iff.1 hg).1, (World.ownsRow.cellAt y4 0 (by simp)).trans rfl⟩
                obtain ⟨bx, ox, rfl, hx1, hx2⟩ := X.out.at b4 (by rw [← HN.out]; exact hqj)
                have hbx : bx < w4.heap.size := Nat.lt_of_lt_of_le hx1 b4.size
                obtain ⟨z, hz⟩ : ∃ z, z = zs.getD q 0 := ⟨_, rfl⟩
                rw [← hz] at hx2 ⊢
                obtain ⟨t0, t4⟩ := tz_in z
                have ht : bits .and .u8 z 3 = tz z := rfl
                generalize tz z = t at *
                have H4 := Lib.hid h4
                have B4 := Lib.hid b4
                clear TK y4 h4 k4 b4 hx1 hz
                go_wp2_with fail
                refine wp_named fun W' hW' => ?_
                have m4 : W'.heap[w4.heap.size]? = some (.cells #[.int .i64 0, .int .i64 t, .slice (some ⟨gb, 0, none⟩) 1 cb] 31 (0, 0)) := by rw [hW']; exact heap_at _ _
                have g4 : W'.cell? ⟨gb, 0, none⟩ = some (.int .u8 q) := by rw [hW']; exact Lib.cell?_alloc_some _ hgc
                have z4 : W'.cell? ⟨bx, ox + q, none⟩ = some (.int .u8 z) := by rw [hW']; exact Lib.cell?_alloc_some _ hx2
                have a4 : Below w4.heap.size w4 W' := by rw [hW']; exact below_alloc (Below.refl _ _) _
                have I4 := Lib.hid (H4.out.later a4)
                have B5 := Lib.hid (B4.out.trans (a4.mono B4.out.size))
                have s5 : A ≤ W'.heap.size := Nat.le_trans s4 a4.size
                clear hW' hgc hx2 a4 H4 B4
                obtain ⟨⟨d0, d1, d2⟩, d3, d4, d5⟩ := blk3 m4
                clear m4
                go_quiet (fail)
                go_wp2
                go_roundg (j - (q + 1))
                case measure => rw [HQ2.out]; omega
                case rel => exact ⟨q + 1, by omega, rfl, by go_num, I4.out.later (below_drewN (Below.refl _ _) nq), below_drewN B5.out nq, s5⟩
              · obtain rfl : q = j := by omega
                have LN := hI.len
                rw [List.length_drop, ord_len, Nat.sub_self] at LN
                have BR := Lib.hid hb
                clear hI hb hk hqj
                go_wp2_with fail
                refine LN.mono ?_
                rintro e wf ⟨rfl, rfl⟩
                go_wp2
                go_ret
                exact ⟨rfl, BR.out⟩

set_option maxRecDepth 100000 in
theorem BagOrder_lifted (os : Os) (started : os.Started) (H : Type) (enc : TypeId × Value → H) :
    ReturnsInHanded {} Try.checked os 6 .any (Rows.bagOrderSpec.pre6 enc Try.prog Try.f6 Rows.bagOrderRow.domain false) (Rows.bagOrderSpec.post enc Try.prog Try.f6 false true false false) := by
  refine returnsInHanded_of_change (C := Try.checked) own started (by kernel_rfl) Try.func6
    (ChangeSpec.witness6 (enc := enc) (C := Try.checked) false ⟨#[], #[.slice none 0 0], []⟩ 8 (by kernel_rfl) (by kernel_rfl) (by kernel_rfl) (by kernel_rfl)) ?_
  intro W base args ds gs before hval0 hW hcnd _
  have hval : ∀ (j : Nat) t v, Try.f6.params[j]? = some t → args[j]? = some v → Value.okWide Try.prog W .any base t v := hval0
  have hW' := hW
  obtain ⟨p, q, hA0, hV, rfl, hfz, hnd⟩ := hW
  have hA : DataW.TrodAll enc Try.prog W 0 (fun _ => true) true Try.f6.params.toList args.toList ds p := hA0
  rw [Try.params6] at hA hval
  obtain ⟨v0, vs0, d0, ds0, p0, q0, hargs, rfl, rfl, h0, r0⟩ := trodAll_cons hA
  obtain ⟨rfl, rfl, rfl⟩ := trodAll_nil r0
  obtain rfl : args = #[v0] := by cases args; simp_all
  obtain ⟨a0, z0, c0, rfl, x0, y0, l0⟩ := ints_of Try.underlying29 Try.underlying5 (by kernel_rfl) (hval 0 29 v0 rfl rfl) h0
  refine (BagOrder_walk a0 z0 c0 W x0 y0 l0).mono fun e W' ⟨he, hb⟩ => ?_
  subst he
  exact ⟨_, rfl, law_post laidOut (by kernel_rfl) rfl rfl Try.underlying4 rfl hW' hb⟩
theorem BagOrder_holds : Rows.BagOrderSaid :=
  OpenClaim.holds_of_wide 6 Try.f6 rfl rfl rfl rfl rfl rfl rfl ⟨rfl, rfl, rfl, rfl, rfl⟩ rfl rfl rfl rfl rfl (by kernel_rfl) Try.func6 (by kernel_rfl)
    (of_decide_eq_true (by kernel_rfl)) (by unfold Func.isWrapper; rw [if_neg (by decide +kernel)]; exact ⟨rfl, rfl⟩)
    (fun os started H enc _ => BagOrder_lifted os started H enc)
end Go.Proofs.Ytoinlhjdmkeaeab
