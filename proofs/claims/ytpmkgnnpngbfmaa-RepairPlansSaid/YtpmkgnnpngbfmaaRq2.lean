/- The reference's Set, walked. -/
import Derived.Test.YtpmkgnnpngbfmaaRq1
namespace Go.Proofs.Ytpmkgnnpngbfmaa
open Go.RowKit
open Extern.Stop (cell)

theorem setOf_step {zs : List Int} {j : Nat} {x : Int} (hx : zs[j]? = some x) : zs.take (j + 1) = zs.take j ++ [x] := by rw [List.take_add_one, hx]; rfl
theorem own_none_len {w : World} {B : Nat} {e : TypeId} {s n c k : Nat} {xs : List Value} (h : w.ownsRow B e s (.slice none n c) k xs) : n = 0 ∧ k = 0 ∧ c = 0 := by
  rcases h.2 with ⟨h1, h2⟩ | ⟨_, _, _, h1, _⟩
  · cases h1; exact ⟨rfl, h2, rfl⟩
  · cases h1
theorem own_some {w : World} {B : Nat} {e : TypeId} {s n c k : Nat} {a : Addr} {xs : List Value} (h : w.ownsRow B e s (.slice (some a) n c) k xs) : ∃ g, a = ⟨g, 0, none⟩ ∧ n = k ∧ B ≤ g ∧ n ≤ c := by
  rcases h.2 with ⟨h1, h2⟩ | ⟨g, cap, cur, h1, hb, hg, hnc, _⟩
  · cases h1
  · cases h1; exact ⟨g, rfl, rfl, hb, hnc⟩
theorem wpList_append_nil {P : Program} {w : World} {ops : Array Oper} {rest : List Oper} {o : Oper} {a : Act} {Q : Exit → Act → World → Prop} (hgd : o.guard = none) (s x : Operand) (t : TypeId)
    (ho : o.op = .call { callee := .builtin .append, args := #[s, x], argTypes := #[t, t] })
    (base : Nat) (e : TypeId) (i : TypeInfo) (size : Nat) (ht : P.underlying t = some (.slice e)) (hi : P.info? e = some i)
    (v : Value) (n : Nat) (xs : List Value) (hs : a.eval s = v) (hown : w.ownsRow base e size v n xs) (hx : a.eval x = .slice none 0 0)
    (h : wpList P ops Q rest (a.put o.dst v) w) : wpList P ops Q (o :: rest) a w := by
  refine wpList_plain hgd fun K hK => ?_
  unfold Oper.wp execOp
  simp only [ho, resolve, invoke, builtin, Sem.run_bind, Sem.run_pure, Result.andThen_ok, List.map_toArray, List.map_cons, List.map_nil, hs, hx, run_append_owned_none w base t o.type e i size ht hi v n xs hown]
  exact hK _ _ h
/-- Part of a row, as news. -/
theorem own_part {w : World} {B : Nat} {e : TypeId} {g n c k : Nat} {xs news : List Value} (h : w.ownsRow B e 1 (.slice (some ⟨g, 0, none⟩) n c) n xs) (hk : ∀ j u, news[j]? = some u → xs[k + j]? = some u) : ∀ (j : Nat) (u : Value), news[j]? = some u → w.cell? ((⟨g, k, none⟩ : Addr).add j) = some u := fun j u hj => by
  obtain ⟨g', h1, _, h2⟩ := own_at h (hk j u hj)
  cases h1
  unfold Addr.add
  split
  · rename_i h0
    rw [h0, Nat.add_zero] at h2
    exact h2
  · exact h2
theorem int_ones (l : List Int) : ∀ u ∈ l.map (Value.int .i64), u.oneCell' = true := fun u hu => by
  obtain ⟨_, _, rfl⟩ := List.mem_map.1 hu
  rfl
set_option linter.unusedSimpArgs false in
set_option maxRecDepth 100000 in
set_option maxHeartbeats 2000000 in
theorem set_any {w : World} {a : Option Addr} {c : Nat} {zs : List Int} (hr : IntsRd w a zs) (hl : zs.length ≤ 100000) :
    Calls Try.prog 30 #[.slice a zs.length c] w fun e w' => ∃ v, e = .returned v ∧ IntsIs w.heap.size w' v (setOf zs) ∧ Below w.heap.size w w' := by
  have R := Lib.hid hr
  obtain ⟨n, hn⟩ : ∃ n, n = zs.length := ⟨_, rfl⟩
  have HN := Lib.hid hn
  rw [← hn] at hl ⊢
  clear hr hn
  go_enter Try.func30, Try.ntmps30
  go_wp2_with fail
  go_loopg [3, 4, 5, 6, 7] n (fun k s3 s4 _ _ _ wr => ∃ j : Nat, j ≤ n ∧ k = n - j ∧ s4 = .int .i64 j ∧ IntsIs w.heap.size wr s3 (setOf (zs.take j)) ∧ Below w.heap.size w wr)
  case atStart => exact ⟨0, Nat.zero_le _, rfl, rfl, by rw [List.take_zero, setOf_nil]; exact ⟨rfl, .inl ⟨rfl, rfl⟩⟩, Below.refl _ _⟩
  case round =>
    obtain ⟨j, hj, hk, rfl, hI, hB⟩ := hrel
    obtain ⟨wo, rfl⟩ : ∃ wo : World, wo = wr := ⟨_, rfl⟩
    have HK := Lib.hid hk
    have BB := Lib.hid hB
    clear hk hB
    by_cases hlt : j < n
    · obtain ⟨x, hx⟩ : ∃ x, zs[j]? = some x := ⟨zs[j]'(by rw [← HN.out]; exact hlt), List.getElem?_eq_getElem _⟩
      obtain ⟨b, off, rfl, hbl, hcell⟩ := (R.out.later BB.out) j x hx
      have ST := Lib.hid (setOf_step hx)
      obtain ⟨so, hso⟩ : ∃ so, so = setOf (zs.take j) := ⟨_, rfl⟩
      have SO := Lib.hid hso
      rw [← hso] at hI
      have hsl : so.length ≤ 100000 := by rw [hso]; have := setOf_le (zs.take j); rw [List.length_take] at this; omega
      obtain ⟨xa, xc, rfl⟩ := own_slice hI
      obtain ⟨m, hm⟩ : ∃ m, m = so.length := ⟨_, rfl⟩
      have HM := Lib.hid hm
      have II := Lib.hid hI
      have IN := in_any (c := xc) (IntsIs.rd hI) (by omega) x
      rw [← hm] at hsl IN ⊢
      have IN' := Lib.hid IN
      have j0 : (0 : Int) ≤ (j : Int) := Int.natCast_nonneg _
      have j1 : (j : Int) < (n : Int) := by omega
      clear hx hso hI hm IN
      go_wp2_with fail
      refine IN'.out.mono ?_
      rintro e w1 ⟨rfl, h1⟩
      obtain rfl : wo = w1 := h1.symm
      clear h1 IN'
      by_cases hin : x ∈ so
      · have SH : Hid (setOf (zs.take (j + 1)) = so) := Lib.hid (by rw [ST.out, setOf_had (by rw [← SO.out]; exact hin), SO.out])
        have D1 : decide (x ∈ so) = true := decide_eq_true hin
        clear hin
        go_wp2_with fail
        go_roundg (n - (j + 1))
        case measure => rw [HK.out]; omega
        case rel => exact ⟨j + 1, by omega, rfl, by go_num, by rw [SH.out]; have := II.out; rw [HM.out]; exact this, BB.out⟩
      · have NI := Lib.hid hin
        have D1 : decide (x ∈ so) = false := decide_eq_false hin
        clear hin
        go_wp2_with fail
        go_loopg [6] m (fun kk s6 wq => ∃ k q : Nat, k ≤ m ∧ kk = m - k ∧ s6 = .int .i64 k ∧ wq = wo.drewN q ∧ ∀ y ∈ so.take k, y < x)
        case atStart => exact ⟨0, 0, Nat.zero_le _, rfl, rfl, rfl, by simp⟩
        case round =>
          obtain ⟨k, q, hkm, hkk, rfl, rfl, hall⟩ := hrel
          have HKK := Lib.hid hkk
          have HA := Lib.hid hall
          clear hkk hall
          have k0 : (0 : Int) ≤ (k : Int) := Int.natCast_nonneg _
          by_cases hkl : k < m
          · obtain ⟨y, hy⟩ : ∃ y, so[k]? = some y := ⟨so[k]'(by rw [← HM.out]; exact hkl), List.getElem?_eq_getElem _⟩
            obtain ⟨g, hg, _, cy⟩ := own_at II.out (k := k) (by rw [List.getElem?_map, hy]; rfl)
            cases hg
            have HY := Lib.hid hy
            have k1 : (k : Int) < (m : Int) := by omega
            clear hy
            by_cases hyx : y < x
            · go_wp2_with fail
              refine wp_region_quiet_lit (by kernel_rfl) (by kernel_rfl) ?_
              repeat go_big_quiet_step (fail)
              refine wpQuiet_nil ?_
              intro _ hw9
              obtain ⟨nq, hw9⟩ := hw9
              subst hw9
              go_wp2
              go_roundg (m - (k + 1))
              case measure => rw [HKK.out]; omega
              case rel =>
                refine ⟨k + 1, q + nq, by omega, rfl, by go_num, rfl, fun z hz => ?_⟩
                rw [List.take_add_one, HY.out] at hz
                rcases List.mem_append.1 hz with hz | hz
                · exact HA.out z hz
                · have : z = y := by simpa using hz
                  rw [this]; exact hyx
            · have NW : Hid (setOf (zs.take (j + 1)) = so.take k ++ [x] ++ so.drop k) := Lib.hid (by
                rw [ST.out, SO.out]
                refine setOf_new (by rw [← SO.out]; exact NI.out) (by rw [← SO.out]; exact HA.out) (fun z hz => ?_)
                rw [← SO.out, HY.out] at hz
                cases hz
                exact hyx)
              go_wp2_with fail
              refine wp_region_quiet_lit (by kernel_rfl) (by kernel_rfl) ?_
              repeat go_big_quiet_step (fail)
              refine wpQuiet_nil ?_
              intro _ hw9
              obtain ⟨nq, hw9⟩ := hw9
              subst hw9
              have BW := Lib.hid ((below_drewN (Below.refl wo.heap.size wo) q).trans (below_drewN (Below.refl wo.heap.size (wo.drewN q)) nq))
              have cw := ((BW.out.cell (p := ⟨b, off + j, none⟩) hbl).trans hcell)
              have hbW := Nat.lt_of_lt_of_le hbl BW.out.size
              generalize (wo.drewN q).drewN nq = W at BW cw hbW ⊢
              obtain ⟨g0, hg0, hg1, hg2, hg3⟩ := info_parts info_int
              have IF := Lib.hid (⟨hg0, hg1, hg2, hg3⟩ : Try.prog.info? 3 = some g0 ∧ g0.zero = some (.int .i64 0) ∧ g0.size = 1 ∧ g0.bytes = 8)
              have BBW := Lib.hid (BB.out.trans (BW.out.mono BB.out.size))
              have IW : Hid (W.ownsRow w.heap.size 3 1 (.slice (some ⟨g, 0, none⟩) m xc) m (so.map (Value.int .i64))) := Lib.hid (by have := own_later II.out BW.out; rw [← HM.out] at this; exact this)
              clear hcell hg0 hg1 hg2 hg3
              obtain ⟨hBg, hmc⟩ : w.heap.size ≤ g ∧ m ≤ xc := by
                obtain ⟨g', h1, _, h2, h3⟩ := own_some IW.out
                cases h1
                exact ⟨h2, h3⟩
              obtain ⟨n2, hn2⟩ : ∃ n2, n2 = 0 + k := ⟨_, rfl⟩
              have hkl : k ≤ 100000 := by omega
              have hn2' : n2 ≤ 100000 := by omega
              have N2 := Lib.hid hn2
              have NEWS1 : Hid (∀ (j : Nat) (u : Value), ((so.take k).map (Value.int .i64))[j]? = some u → W.cell? ((⟨g, 0, none⟩ : Addr).add j) = some u) := Lib.hid (own_part IW.out (fun j u hj => by
                rw [List.getElem?_map] at hj ⊢
                rw [Nat.zero_add]
                by_cases h : j < k
                · rw [List.getElem?_take_of_lt h] at hj; exact hj
                · rw [List.getElem?_eq_none (by rw [List.length_take]; omega)] at hj; cases hj))
              have LEN1 : Hid (((so.take k).map (Value.int .i64)).length = k * 1) := Lib.hid (by rw [List.length_map, List.length_take, ← HM.out]; omega)
              clear hn2
              go_upto_region 12 with (at_builtin; refine wpList_append_news rfl (.tmp 38) (.tmp 41) 44 rfl W.heap.size 3 g0 _ 1 8 Try.underlying44 IF.out.1 IF.out.2.1 IF.out.2.2.1 IF.out.2.2.2 rfl (by decide) (.slice none 0 0) 0 [] rfl ⟨rfl, .inl ⟨rfl, rfl⟩⟩ ⟨g, 0, none⟩ k xc ((so.take k).map (Value.int .i64)) rfl LEN1.out NEWS1.out (int_ones _) (by unfold maxLen; omega) (by omega) (Nat.le_refl _) ?_; intro v2 w2 hown2 hg2 hat2)
              clear hat2
              rw [← N2.out, List.nil_append] at hown2
              have O2 := Lib.hid hown2
              have B2 := Lib.hid (below_none hg2)
              clear hown2 hg2
              have ba := below_alloc (Below.refl w2.heap.size w2) (.cells #[.int .i64 x] 3)
              have OW3 := Lib.hid (own_later O2.out ba)
              have NEWS3 : Hid (∀ (q : Nat) (u : Value), ([.int .i64 x] : List Value)[q]? = some u → (w2.alloc (.cells #[.int .i64 x] 3)).cell? ((⟨w2.heap.size, 0, none⟩ : Addr).add q) = some u) := Lib.hid (news_made w2 [.int .i64 x] 3)
              have B3 := Lib.hid (B2.out.trans (ba.mono B2.out.size))
              have BS3 : Hid (W.heap.size ≤ (w2.alloc (.cells #[.int .i64 x] 3)).heap.size) := Lib.hid B3.out.size
              have cw2 := (B2.out.cell (p := ⟨b, off + j, none⟩) hbW).trans cw
              clear ba cw
              go_upto_region 13 with (at_builtin; refine wpList_append_news rfl (.tmp 43) (.tmp 48) 44 rfl W.heap.size 3 g0 _ 1 8 Try.underlying44 IF.out.1 IF.out.2.1 IF.out.2.2.1 IF.out.2.2.2 rfl (by decide) v2 n2 ((so.take k).map (Value.int .i64)) rfl OW3.out ⟨w2.heap.size, 0, none⟩ 1 1 [.int .i64 x] rfl rfl NEWS3.out (fun u hu => by simp at hu; subst hu; rfl) (by unfold maxLen; omega) (by omega) BS3.out ?_; intro v4 w4 hown4 hg4 hat4)
              clear hat4
              have B4 := Lib.hid (B3.out.grown hg4 BS3.out (fun k hk => (own_row OW3.out hk).1))
              have O4 := Lib.hid hown4
              clear hown4 hg4 cw2
              have S5 := Lib.hid (own_later IW.out B4.out)
              have BS5 := Lib.hid B4.out.size
              have NEWS5 : Hid (∀ (j : Nat) (u : Value), ((so.drop k).map (Value.int .i64))[j]? = some u → w4.cell? ((⟨g, k, none⟩ : Addr).add j) = some u) := Lib.hid (own_part S5.out (fun j u hj => by
                rw [List.getElem?_map, List.getElem?_drop] at hj
                rw [List.getElem?_map]
                exact hj))
              have LEN5 : Hid (((so.drop k).map (Value.int .i64)).length = (m - k) * 1) := Lib.hid (by rw [List.length_map, List.length_drop, ← HM.out, Nat.mul_one])
              have FIN : Hid (∀ (v : Value) (w5 : World), w5.ownsRow W.heap.size 3 1 v (n2 + 1 + (m - k)) ((so.take k).map (Value.int .i64) ++ [.int .i64 x] ++ (so.drop k).map (Value.int .i64)) → IntsIs w.heap.size w5 v (setOf (zs.take (j + 1)))) := Lib.hid (fun v w5 h => by
                have hl : (setOf (zs.take (j + 1))).length = n2 + 1 + (m - k) := by
                  rw [NW.out, List.length_append, List.length_append, List.length_take, List.length_drop, ← HM.out, N2.out, List.length_singleton]
                  omega
                unfold IntsIs
                rw [hl, NW.out, List.map_append, List.map_append]
                exact own_mono h BBW.out.size)
              by_cases hkc : k = xc
              · have hmk : m = k := by omega
                have NEWS6 : Hid (∀ (j : Nat) (u : Value), ([] : List Value)[j]? = some u → w4.cell? ((⟨g, 0, none⟩ : Addr).add j) = some u) := Lib.hid (fun j u hj => by simp at hj)
                have DR : Hid ((so.drop k).map (Value.int .i64) = []) := Lib.hid (by rw [List.drop_of_length_le (by rw [← HM.out]; omega)]; rfl)
                subst hkc
                subst hmk
                go_wp2_with (at_builtin; refine wpList_append_news rfl (.tmp 50) (.tmp 53) 44 rfl W.heap.size 3 g0 _ 1 8 Try.underlying44 IF.out.1 IF.out.2.1 IF.out.2.2.1 IF.out.2.2.2 rfl (by decide) v4 (n2 + 1) ((so.take m).map (Value.int .i64) ++ [.int .i64 x]) rfl O4.out ⟨g, 0, none⟩ 0 0 [] rfl rfl NEWS6.out (fun u hu => by cases hu) (by unfold maxLen; omega) (by omega) BS5.out ?_; intro v5 w5 hown5 hg5 hat5)
                clear hat5
                have I5 := Lib.hid (FIN.out v5 w5 (by rw [DR.out, Nat.sub_self]; exact hown5))
                have B5 := Lib.hid (BBW.out.trans ((B4.out.grown hg5 B4.out.size (fun k hk => (own_row O4.out hk).1)).mono BBW.out.size))
                clear hown5 hg5
                go_roundg (n - (j + 1))
                case measure => rw [HK.out]; omega
                case rel => exact ⟨j + 1, by omega, rfl, by go_num, I5.out, B5.out⟩
              · have hkc2 : k < xc := by omega
                have HKC := Lib.hid hkc
                clear hkc
                go_wp2_with (at_builtin; refine wpList_append_news rfl (.tmp 50) (.tmp 53) 44 rfl W.heap.size 3 g0 _ 1 8 Try.underlying44 IF.out.1 IF.out.2.1 IF.out.2.2.1 IF.out.2.2.2 rfl (by decide) v4 (n2 + 1) ((so.take k).map (Value.int .i64) ++ [.int .i64 x]) rfl O4.out ⟨g, k, none⟩ (m - k) (xc - k) ((so.drop k).map (Value.int .i64)) rfl LEN5.out NEWS5.out (int_ones _) (by unfold maxLen; omega) (by omega) BS5.out ?_; intro v5 w5 hown5 hg5 hat5)
                clear hat5
                have I5 := Lib.hid (FIN.out v5 w5 hown5)
                have B5 := Lib.hid (BBW.out.trans ((B4.out.grown hg5 B4.out.size (fun k hk => (own_row O4.out hk).1)).mono BBW.out.size))
                clear hown5 hg5
                go_roundg (n - (j + 1))
                case measure => rw [HK.out]; omega
                case rel => exact ⟨j + 1, by omega, rfl, by go_num, I5.out, B5.out⟩
          · have hkm' : k = m := by omega
            have KM := Lib.hid hkm'
            have k1 : ¬ (k : Int) < (m : Int) := by omega
            have k2 : m ≤ k := by omega
            clear hkm'
            have NW : Hid (setOf (zs.take (j + 1)) = so.take k ++ [x] ++ so.drop k) := Lib.hid (by
              rw [ST.out, SO.out]
              refine setOf_new (by rw [← SO.out]; exact NI.out) (by rw [← SO.out]; exact HA.out) (fun z hz => ?_)
              rw [← SO.out, KM.out, HM.out, List.getElem?_eq_none (Nat.le_refl _)] at hz
              cases hz)
            go_wp2_with fail
            refine wp_region_quiet_lit (by kernel_rfl) (by kernel_rfl) ?_
            repeat go_big_quiet_step (fail)
            refine wpQuiet_nil ?_
            intro _ hw9
            obtain ⟨nq, hw9⟩ := hw9
            subst hw9
            clear k1 k2 hkl
            have BW := Lib.hid ((below_drewN (Below.refl wo.heap.size wo) q).trans (below_drewN (Below.refl wo.heap.size (wo.drewN q)) nq))
            have cw := ((BW.out.cell (p := ⟨b, off + j, none⟩) hbl).trans hcell)
            have hbW := Nat.lt_of_lt_of_le hbl BW.out.size
            generalize (wo.drewN q).drewN nq = W at BW cw hbW ⊢
            obtain ⟨g0, hg0, hg1, hg2, hg3⟩ := info_parts info_int
            have IF := Lib.hid (⟨hg0, hg1, hg2, hg3⟩ : Try.prog.info? 3 = some g0 ∧ g0.zero = some (.int .i64 0) ∧ g0.size = 1 ∧ g0.bytes = 8)
            have BBW := Lib.hid (BB.out.trans (BW.out.mono BB.out.size))
            have IW : Hid (W.ownsRow w.heap.size 3 1 (.slice xa m xc) m (so.map (Value.int .i64))) := Lib.hid (by have := own_later II.out BW.out; rw [← HM.out] at this; exact this)
            clear hcell hg0 hg1 hg2 hg3
            cases xa with
            | none =>
              obtain ⟨e1, _, e2⟩ := own_none_len IW.out
              subst e2
              obtain rfl : m = 0 := e1
              obtain rfl : k = 0 := by omega
              have hs0 : so = [] := List.eq_nil_of_length_eq_zero HM.out.symm
              have O2 : Hid (W.ownsRow W.heap.size 3 1 (.slice none 0 0) 0 ((so.take 0).map (Value.int .i64))) := Lib.hid ⟨rfl, .inl ⟨rfl, rfl⟩⟩
              have B2 := Lib.hid (Below.refl W.heap.size W)
              have HS0 := Lib.hid hs0
              clear hs0
              go_upto_region 12 with (at_builtin; refine wpList_append_nil rfl (.tmp 38) (.tmp 41) 44 rfl W.heap.size 3 g0 1 Try.underlying44 IF.out.1 (.slice none 0 0) 0 [] rfl ⟨rfl, .inl ⟨rfl, rfl⟩⟩ rfl ?_)
              obtain ⟨v2, hv2⟩ : ∃ v2, v2 = Value.slice none 0 0 := ⟨_, rfl⟩
              obtain ⟨n2, hn2⟩ : ∃ n2, n2 = 0 := ⟨_, rfl⟩
              have ba := below_alloc (Below.refl W.heap.size W) (.cells #[.int .i64 x] 3)
              have OW3 := Lib.hid (own_later O2.out ba)
              have NEWS3 : Hid (∀ (q : Nat) (u : Value), ([.int .i64 x] : List Value)[q]? = some u → (W.alloc (.cells #[.int .i64 x] 3)).cell? ((⟨W.heap.size, 0, none⟩ : Addr).add q) = some u) := Lib.hid (news_made W [.int .i64 x] 3)
              have BS3 : Hid (W.heap.size ≤ (W.alloc (.cells #[.int .i64 x] 3)).heap.size) := Lib.hid ba.size
              have B3 := Lib.hid ba
              clear ba hn2 hv2
              go_upto_region 13 with (at_builtin; refine wpList_append_news rfl (.tmp 43) (.tmp 48) 44 rfl W.heap.size 3 g0 _ 1 8 Try.underlying44 IF.out.1 IF.out.2.1 IF.out.2.2.1 IF.out.2.2.2 rfl (by decide) (.slice none 0 0) 0 ((so.take 0).map (Value.int .i64)) rfl OW3.out ⟨W.heap.size, 0, none⟩ 1 1 [.int .i64 x] rfl rfl NEWS3.out (fun u hu => by simp at hu; subst hu; rfl) (by unfold maxLen; omega) (by omega) BS3.out ?_; intro v4 w4 hown4 hg4 hat4)
              clear hat4
              have B4 := Lib.hid (B3.out.grown hg4 BS3.out (fun k hk => (own_row OW3.out hk).1))
              have O4 := Lib.hid hown4
              clear hown4 hg4 cw
              go_wp2_with (at_builtin; refine wpList_append_nil rfl (.tmp 50) (.tmp 53) 44 rfl W.heap.size 3 g0 1 Try.underlying44 IF.out.1 v4 (0 + 1) ((so.take 0).map (Value.int .i64) ++ [.int .i64 x]) rfl O4.out rfl ?_)
              have I5 : Hid (IntsIs w.heap.size w4 v4 (setOf (zs.take (j + 1)))) := Lib.hid (by
                rw [NW.out, HS0.out]
                have h := O4.out
                rw [HS0.out] at h
                exact own_mono h BBW.out.size)
              have B5 := Lib.hid (BBW.out.trans (B4.out.mono BBW.out.size))
              go_roundg (n - (j + 1))
              case measure => rw [HK.out]; omega
              case rel => exact ⟨j + 1, by omega, rfl, by go_num, I5.out, B5.out⟩
            | some ad =>
              obtain ⟨g, rfl, _, _, _⟩ := own_some IW.out
              obtain ⟨hBg, hmc⟩ : w.heap.size ≤ g ∧ m ≤ xc := by
                obtain ⟨g', h1, _, h2, h3⟩ := own_some IW.out
                cases h1
                exact ⟨h2, h3⟩
              obtain ⟨n2, hn2⟩ : ∃ n2, n2 = 0 + k := ⟨_, rfl⟩
              have hkl : k ≤ 100000 := by omega
              have hn2' : n2 ≤ 100000 := by omega
              have N2 := Lib.hid hn2
              have NEWS1 : Hid (∀ (j : Nat) (u : Value), ((so.take k).map (Value.int .i64))[j]? = some u → W.cell? ((⟨g, 0, none⟩ : Addr).add j) = some u) := Lib.hid (own_part IW.out (fun j u hj => by
                rw [List.getElem?_map] at hj ⊢
                rw [Nat.zero_add]
                by_cases h : j < k
                · rw [List.getElem?_take_of_lt h] at hj; exact hj
                · rw [List.getElem?_eq_none (by rw [List.length_take]; omega)] at hj; cases hj))
              have LEN1 : Hid (((so.take k).map (Value.int .i64)).length = k * 1) := Lib.hid (by rw [List.length_map, List.length_take, ← HM.out]; omega)
              clear hn2
              go_upto_region 12 with (at_builtin; refine wpList_append_news rfl (.tmp 38) (.tmp 41) 44 rfl W.heap.size 3 g0 _ 1 8 Try.underlying44 IF.out.1 IF.out.2.1 IF.out.2.2.1 IF.out.2.2.2 rfl (by decide) (.slice none 0 0) 0 [] rfl ⟨rfl, .inl ⟨rfl, rfl⟩⟩ ⟨g, 0, none⟩ k xc ((so.take k).map (Value.int .i64)) rfl LEN1.out NEWS1.out (int_ones _) (by unfold maxLen; omega) (by omega) (Nat.le_refl _) ?_; intro v2 w2 hown2 hg2 hat2)
              clear hat2
              rw [← N2.out, List.nil_append] at hown2
              have O2 := Lib.hid hown2
              have B2 := Lib.hid (below_none hg2)
              clear hown2 hg2
              have ba := below_alloc (Below.refl w2.heap.size w2) (.cells #[.int .i64 x] 3)
              have OW3 := Lib.hid (own_later O2.out ba)
              have NEWS3 : Hid (∀ (q : Nat) (u : Value), ([.int .i64 x] : List Value)[q]? = some u → (w2.alloc (.cells #[.int .i64 x] 3)).cell? ((⟨w2.heap.size, 0, none⟩ : Addr).add q) = some u) := Lib.hid (news_made w2 [.int .i64 x] 3)
              have B3 := Lib.hid (B2.out.trans (ba.mono B2.out.size))
              have BS3 : Hid (W.heap.size ≤ (w2.alloc (.cells #[.int .i64 x] 3)).heap.size) := Lib.hid B3.out.size
              have cw2 := (B2.out.cell (p := ⟨b, off + j, none⟩) hbW).trans cw
              clear ba cw
              go_upto_region 13 with (at_builtin; refine wpList_append_news rfl (.tmp 43) (.tmp 48) 44 rfl W.heap.size 3 g0 _ 1 8 Try.underlying44 IF.out.1 IF.out.2.1 IF.out.2.2.1 IF.out.2.2.2 rfl (by decide) v2 n2 ((so.take k).map (Value.int .i64)) rfl OW3.out ⟨w2.heap.size, 0, none⟩ 1 1 [.int .i64 x] rfl rfl NEWS3.out (fun u hu => by simp at hu; subst hu; rfl) (by unfold maxLen; omega) (by omega) BS3.out ?_; intro v4 w4 hown4 hg4 hat4)
              clear hat4
              have B4 := Lib.hid (B3.out.grown hg4 BS3.out (fun k hk => (own_row OW3.out hk).1))
              have O4 := Lib.hid hown4
              clear hown4 hg4 cw2
              have S5 := Lib.hid (own_later IW.out B4.out)
              have BS5 := Lib.hid B4.out.size
              have NEWS5 : Hid (∀ (j : Nat) (u : Value), ((so.drop k).map (Value.int .i64))[j]? = some u → w4.cell? ((⟨g, k, none⟩ : Addr).add j) = some u) := Lib.hid (own_part S5.out (fun j u hj => by
                rw [List.getElem?_map, List.getElem?_drop] at hj
                rw [List.getElem?_map]
                exact hj))
              have LEN5 : Hid (((so.drop k).map (Value.int .i64)).length = (m - k) * 1) := Lib.hid (by rw [List.length_map, List.length_drop, ← HM.out, Nat.mul_one])
              have FIN : Hid (∀ (v : Value) (w5 : World), w5.ownsRow W.heap.size 3 1 v (n2 + 1 + (m - k)) ((so.take k).map (Value.int .i64) ++ [.int .i64 x] ++ (so.drop k).map (Value.int .i64)) → IntsIs w.heap.size w5 v (setOf (zs.take (j + 1)))) := Lib.hid (fun v w5 h => by
                have hl : (setOf (zs.take (j + 1))).length = n2 + 1 + (m - k) := by
                  rw [NW.out, List.length_append, List.length_append, List.length_take, List.length_drop, ← HM.out, N2.out, List.length_singleton]
                  omega
                unfold IntsIs
                rw [hl, NW.out, List.map_append, List.map_append]
                exact own_mono h BBW.out.size)
              by_cases hkc : k = xc
              · have hmk : m = k := by omega
                have NEWS6 : Hid (∀ (j : Nat) (u : Value), ([] : List Value)[j]? = some u → w4.cell? ((⟨g, 0, none⟩ : Addr).add j) = some u) := Lib.hid (fun j u hj => by simp at hj)
                have DR : Hid ((so.drop k).map (Value.int .i64) = []) := Lib.hid (by rw [List.drop_of_length_le (by rw [← HM.out]; omega)]; rfl)
                subst hkc
                subst hmk
                go_wp2_with (at_builtin; refine wpList_append_news rfl (.tmp 50) (.tmp 53) 44 rfl W.heap.size 3 g0 _ 1 8 Try.underlying44 IF.out.1 IF.out.2.1 IF.out.2.2.1 IF.out.2.2.2 rfl (by decide) v4 (n2 + 1) ((so.take m).map (Value.int .i64) ++ [.int .i64 x]) rfl O4.out ⟨g, 0, none⟩ 0 0 [] rfl rfl NEWS6.out (fun u hu => by cases hu) (by unfold maxLen; omega) (by omega) BS5.out ?_; intro v5 w5 hown5 hg5 hat5)
                clear hat5
                have I5 := Lib.hid (FIN.out v5 w5 (by rw [DR.out, Nat.sub_self]; exact hown5))
                have B5 := Lib.hid (BBW.out.trans ((B4.out.grown hg5 B4.out.size (fun k hk => (own_row O4.out hk).1)).mono BBW.out.size))
                clear hown5 hg5
                go_roundg (n - (j + 1))
                case measure => rw [HK.out]; omega
                case rel => exact ⟨j + 1, by omega, rfl, by go_num, I5.out, B5.out⟩
              · have hkc2 : k < xc := by omega
                have HKC := Lib.hid hkc
                clear hkc
                go_wp2_with (at_builtin; refine wpList_append_news rfl (.tmp 50) (.tmp 53) 44 rfl W.heap.size 3 g0 _ 1 8 Try.underlying44 IF.out.1 IF.out.2.1 IF.out.2.2.1 IF.out.2.2.2 rfl (by decide) v4 (n2 + 1) ((so.take k).map (Value.int .i64) ++ [.int .i64 x]) rfl O4.out ⟨g, k, none⟩ (m - k) (xc - k) ((so.drop k).map (Value.int .i64)) rfl LEN5.out NEWS5.out (int_ones _) (by unfold maxLen; omega) (by omega) BS5.out ?_; intro v5 w5 hown5 hg5 hat5)
                clear hat5
                have I5 := Lib.hid (FIN.out v5 w5 hown5)
                have B5 := Lib.hid (BBW.out.trans ((B4.out.grown hg5 B4.out.size (fun k hk => (own_row O4.out hk).1)).mono BBW.out.size))
                clear hown5 hg5
                go_roundg (n - (j + 1))
                case measure => rw [HK.out]; omega
                case rel => exact ⟨j + 1, by omega, rfl, by go_num, I5.out, B5.out⟩
    · obtain rfl : j = n := by omega
      go_wp2
      go_ret
      refine ⟨_, rfl, ?_, BB.out⟩
      rw [HN.out, List.take_length] at hI
      exact hI
end Go.Proofs.Ytpmkgnnpngbfmaa
