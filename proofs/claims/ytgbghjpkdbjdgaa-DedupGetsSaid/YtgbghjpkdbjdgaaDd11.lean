/- The index: Packs, walked. -/
import Derived.Test.YtgbghjpkdbjdgaaDd10
namespace Go.Proofs.Ytgbghjpkdbjdgaa
open Go.RowKit
open Extern.Stop (cell)

theorem flat_at {α : Type} {f : α → List Value} {n : Nat} (hf : ∀ a, (f a).length = n) : ∀ {l : List α} {j i : Nat} {x : α} {u : Value}, l[j]? = some x → (f x)[i]? = some u → (l.flatMap f)[j * n + i]? = some u
  | [], _, _, _, _, h, _ => by simp at h
  | y :: l, 0, i, x, u, h, hi => by
    have : y = x := by simpa using h
    subst this
    have hl := (List.getElem?_eq_some_iff.1 hi).1
    rw [List.flatMap_cons, Nat.zero_mul, Nat.zero_add, List.getElem?_append_left hl]
    exact hi
  | y :: l, j + 1, i, x, u, h, hi => by
    have h' : l[j]? = some x := by simpa using h
    rw [List.flatMap_cons, List.getElem?_append_right (by rw [hf, Nat.succ_mul]; omega), hf, show (j + 1) * n + i - n = j * n + i by rw [Nat.succ_mul]; omega]
    exact flat_at hf h' hi
theorem info_int : (Try.prog.info? 3).map (fun i => (i.zero, i.size, i.bytes)) = some (some (.int .i64 0), 1, 8) := by kernel_rfl
theorem pack_bounds {l pre left : List (Id32 × Pl)} (h : (pre ++ left).Perm l) (hl : l.length ≤ 1000000) (k : Id32) : cntOf k pre ≤ 1000000 := by
  have h1 := cntOf_le k pre
  have h2 := h.length_eq
  simp only [List.length_append] at h2
  omega
/-- Row of ids: where one lies. -/
theorem ids_elem {w : World} {B : Nat} {v : Value} {ids : List Id32} (h : w.ownsRow B 31 32 v ids.length (ids.flatMap encId)) {j : Nat} {x : Id32} (hx : ids[j]? = some x) :
    ∃ g cap, v = .slice (some ⟨g, 0, none⟩) ids.length cap ∧ g < w.heap.size ∧ Lies w g (j * 32) (encId x).toArray := by
  have hk : ∀ (i : Nat) (u : Value), (encId x)[i]? = some u → (ids.flatMap encId)[j * 32 + i]? = some u := fun i u hi => flat_at (fun y => encId_len y) hx hi
  obtain ⟨u0, hu0⟩ : ∃ u0, (encId x)[0]? = some u0 := ⟨(encId x)[0]'(by rw [encId_len]; decide), List.getElem?_eq_getElem _⟩
  obtain ⟨xa, xc, rfl⟩ := own_slice h
  obtain ⟨g, rfl, hg, _⟩ := own_at h (hk 0 u0 hu0)
  refine ⟨g, xc, rfl, hg, fun i u hi => ?_⟩
  have hi' : (encId x)[i]? = some u := by simpa using hi
  obtain ⟨g2, e, _, hc⟩ := own_at h (hk i u hi')
  cases e
  exact hc
set_option linter.unusedSimpArgs false in
set_option maxRecDepth 100000 in
set_option maxHeartbeats 4000000 in
theorem packs_any {w : World} {x M : Nat} {l : List (Id32 × Pl)} (h : IxIs w x M l) (hl : l.length ≤ 1000000) :
    Calls Try.prog 21 #[.pointer (some ⟨x, 0, none⟩)] w fun e w' => ∃ v u, e = .returned (.tuple #[v, u]) ∧ w'.ownsRow w.heap.size 31 32 v (packsOf l).length ((packsOf l).flatMap encId) ∧ w'.ownsRow w.heap.size 3 1 u (packsOf l).length ((packsOf l).map fun k => cntv (cntOf k l)) ∧ Below w.heap.size w w' := by
  have HX := Lib.hid h
  have AP := Lib.hid h.map.apart
  have hmm := @run_makeMap Try.prog
  obtain ⟨N, hN⟩ : ∃ N, N = w.heap.size := ⟨_, rfl⟩
  have HN := Lib.hid hN
  have b0 : Below w.heap.size w (w.alloc (.map #[] 0)) := below_alloc (Below.refl _ _) _
  have hx := h.later b0
  have hx1 := (h.later (below_drew (Below.refl _ _))).box
  obtain ⟨y0, y1⟩ := blk1 h.box
  obtain ⟨y2, y3⟩ := blk1 hx.box
  have MP := Lib.hid hx.map
  have hMT : M < N := by rw [hN]; exact h.map.lt
  have B0 := Lib.hid b0
  have N0 : Hid (IdMap cntv (w.alloc (.map #[] 0)) N (cm [])) := Lib.hid (by rw [hN]; exact MapIs.made w Try.prog 31 keyI cntv)
  clear h hx hx1 b0 hN
  go_enter Try.func21, Try.ntmps21
  go_wp2_with (at_range; refine wpList_range_is _ rfl _ 64 rfl 37 Try.underlying64 M l rfl MP.out ?_; intro w1 hr1 hb1 hs1)
  have hsz : (w.alloc (.map #[] 0)).heap.size = N + 1 := by rw [HN.out]; simp
  have hs2 : w1.heap.size = N + 2 := by rw [hs1, hsz]
  rw [hsz] at hr1
  have R1 := Lib.hid hr1
  have N1 := Lib.hid (N0.out.of_block (hb1.block N (by rw [hsz]; exact Nat.lt_succ_self _)))
  have B1 := Lib.hid (B0.out.trans (hb1.mono (by simp)))
  have S1 := Lib.hid hs2
  have ZZ := Lib.hid hsz
  clear hr1 hb1 hs1 hsz hs2 MP y0 y1 y2 y3 N0 B0
  go_frame
  rw [ZZ.out, ← HN.out]
  go_loopg [] l.length (fun k wr => ∃ (left pre : List (Id32 × Pl)), k = left.length ∧ RangeIs Try.prog 31 keyI plv wr (N + 1) M l left ∧ (pre ++ left).Perm l ∧ IdMap cntv wr N (cm pre) ∧ Below w.heap.size w wr ∧ N + 2 ≤ wr.heap.size)
  case atStart => exact ⟨l, [], rfl, R1.out, List.Perm.refl _, N1.out, B1.out, by rw [S1.out]; exact Nat.le_refl _⟩
  case round =>
    obtain ⟨left, pre, hk, hrg, hp, hN2, hB, hS⟩ := hrel
    have HK := Lib.hid hk
    have RG := Lib.hid hrg
    have PP := Lib.hid hp
    have NN := Lib.hid hN2
    have BB := Lib.hid hB
    have SS := Lib.hid hS
    clear hk hrg hp hN2 hB hS R1 N1 B1 S1 ZZ
    go_wp2_with (at_next; refine wpList_next_is _ rfl _ rfl (N + 1) M l left rfl RG.out ?_ ?_)
    · intro hd
      subst hd
      have hperm : pre.Perm l := by simpa using PP.out
      have PK := Lib.hid (packs_perm hperm)
      have PC : Hid (∀ k, cntOf k pre = cntOf k l) := Lib.hid (fun k => cntOf_perm hperm)
      have hcl : (cm pre).length ≤ 1000000 := by have := cm_len pre; have := hperm.length_eq; omega
      have hpl : (packsOf l).length ≤ 1000000 := by have := packs_len l; omega
      obtain ⟨ids, hids⟩ : ∃ ids, ids = packsOf l := ⟨_, rfl⟩
      have ID := Lib.hid hids
      rw [← hids] at hpl
      obtain ⟨n, hn⟩ : ∃ n, n = ids.length := ⟨_, rfl⟩
      have LN := Lib.hid hn
      rw [← hn] at hpl
      clear hperm hids RG
      have b1 := below_alloc (Below.refl wr.heap.size wr) (.cells #[.map (some N)] 88)
      have SO := Lib.hid (sorted_int (w := wr.alloc (.cells #[.map (some N)] 88)) (Bm := wr.heap.size) (by simp) (blk1 (heap_at _ _)).1 (idmap_below NN.out b1) hcl)
      have NB := Lib.hid (idmap_below NN.out b1)
      have B1 := Lib.hid (BB.out.trans (b1.mono BB.out.size))
      clear b1 hcl
      go_wp2_with fail
      refine (keysOf_int (some N) _).mono ?_
      rintro e w3 ⟨rfl, rfl⟩
      go_wp2_with fail
      refine SO.out.mono ?_
      rintro e w3 ⟨v, rfl, h3, b3⟩
      rw [show sortIds ((cm pre).map Prod.fst) = ids by rw [ID.out, ← PK.out]; rfl] at h3
      have H3 := Lib.hid (own_mono h3 B1.out.size)
      have B3 := Lib.hid (B1.out.trans (b3.mono B1.out.size))
      have N3 := Lib.hid (idmap_below NB.out b3)
      obtain ⟨xa, xc, rfl⟩ := own_slice h3
      clear h3 b3 SO NB B1 BB NN
      rw [← LN.out]
      obtain ⟨i0, hi, hz0, hz1, hz2⟩ := info_parts info_int
      have n0 : (0 : Int) ≤ (n : Int) := Int.natCast_nonneg _
      have n1 : (n : Int) ≤ 1000000 := by omega
      go_wp2_with fail
      obtain ⟨wo, hwo⟩ : ∃ wo : World, wo = wr := ⟨_, rfl⟩
      subst hwo
      go_loopg [8, 35] n (fun k s8 s35 wr => ∃ j : Nat, j ≤ n ∧ k = n - j ∧ s35 = .int .i64 j ∧ Below w3.heap.size w3 wr ∧ wr.ownsRow w3.heap.size 3 1 s8 j ((ids.take j).map fun k => cntv (cntOf k l)))
      case atStart => exact ⟨0, Nat.zero_le _, rfl, rfl, Below.refl _ _, World.ownsRow_nil _ _ _ _⟩
      case round =>
        obtain ⟨j, hj, hk2, rfl, hB4, hO4⟩ := hrel
        have HK2 := Lib.hid hk2
        have B4 := Lib.hid hB4
        have O4 := Lib.hid hO4
        by_cases hlt : j < n
        · obtain ⟨key, hkey⟩ : ∃ key, ids[j]? = some key := ⟨ids[j]'(by rw [← LN.out]; exact hlt), List.getElem?_eq_getElem _⟩
          have KEY := Lib.hid hkey
          obtain ⟨g, cap, e, hg, hL⟩ := ids_elem (own_later H3.out hB4) hkey
          obtain rfl : xa = some ⟨g, 0, none⟩ := by cases e; rfl
          clear e
          have LL := Lib.hid hL
          have N4 := Lib.hid (idmap_below N3.out hB4)
          have j0 : (0 : Int) ≤ (j : Int) := Int.natCast_nonneg _
          have j1 : (j : Int) < (n : Int) := by omega
          clear hk2 hB4 hO4 hL hkey
          go_upto_region 13 with (first | (refine wpList_load_agg rfl 31 (.tmp 37) rfl g (j * 32) rfl (encId key).toArray _ LL.out Try.underlying31 rfl (sizei key.1) ?_) | (refine wpList_store_new rfl 31 (.tmp 10) (.tmp 38) rfl _ (encId key).toArray rfl rfl (sizei key.1) (by simp [encId_len]) (all_oneCell_toArray (encId_one key)) ?_))
          refine wp_named fun W hW => ?_
          have e0 : W.heap[wr.heap.size]? = some (.cells (encId key).toArray 31 (0, 0)) := by rw [hW]; exact heap_at _ _
          have b0 : Below wr.heap.size wr W := by rw [hW]; exact below_alloc (Below.refl _ _) _
          have E0 := Lib.hid (lies_block e0)
          have BW := Lib.hid (B4.out.trans (b0.mono B4.out.size))
          have OW := Lib.hid (own_later O4.out b0)
          have LK : Hid ((Instr.lookup 88 (.map (some N)) (keyI key) false).run Try.prog W = .ok (.int .i64 (cntOf key l)) W) := Lib.hid (by
            have := look_cnt (idmap_below N4.out b0) key
            rw [cm_get, PC.out] at this
            exact this)
          obtain ⟨T, hT⟩ : ∃ T, T = wr.heap.size := ⟨_, rfl⟩
          rw [← hT] at E0 ⊢
          have SZ := Lib.hid (show w3.heap.size ≤ W.heap.size from BW.out.size)
          obtain ⟨sa, sc, rfl⟩ := own_slice O4.out
          clear hW e0 b0 hT
          go_wp2_with (first | (refine wpList_load_agg rfl 31 (.tmp 10) rfl T 0 rfl (encId key).toArray _ E0.out Try.underlying31 rfl (sizei key.1) ?_) | (refine wpList_lookup_is rfl 88 (.tmp 40) (.tmp 41) false rfl (.map (some N)) (keyI key) (.int .i64 (cntOf key l)) rfl rfl LK.out ?_) | (at_builtin; refine wpList_append_own _ rfl _ _ 57 rfl w3.heap.size 3 i0 _ 1 8 Try.underlying57 hi hz0 hz1 hz2 rfl (by decide) _ _ _ rfl (own_later OW.out (below_alloc (Below.refl _ _) _)) ⟨W.heap.size, 0, none⟩ 1 1 [.int .i64 (cntOf key l)] rfl ?p1 ?p2 ?p3 ?p4 ?p5 ?p6 ?_))
          case p1 => rfl
          case p2 => exact World.news_of_block (heap_at W _)
          case p3 => intro u hu; simp at hu; subst hu; rfl
          case p4 => unfold maxLen; omega
          case p5 => omega
          case p6 => simp; have := SZ.out; omega
          intro v2 w5 hown5 hgrow5 hnil5
          have B5 := Lib.hid ((BW.out.alloc SZ.out _).grown hgrow5 (by simp; have := SZ.out; omega) (fun k hk => (own_row OW.out hk).1))
          have O5 := Lib.hid hown5
          clear hown5 hgrow5 hnil5
          go_wp2
          go_roundg (n - (j + 1))
          case measure => rw [HK2.out]; omega
          case rel =>
            refine ⟨j + 1, by omega, rfl, by go_num, B5.out, ?_⟩
            rw [List.take_add_one, KEY.out, List.map_append, List.map_take]
            exact O5.out
        · obtain rfl : j = n := by omega
          clear hk2 hB4 hO4
          go_wp2
          go_ret2
          have o1 := own_later H3.out B4.out
          have o2 := own_mono O4.out B3.out.size
          rw [← LN.out] at o1
          rw [List.take_of_length_le (by rw [← LN.out]; exact Nat.le_refl _)] at o2
          rw [← ID.out, ← LN.out]
          exact ⟨_, _, rfl, o1, o2, B3.out.trans (B4.out.mono B3.out.size)⟩
    · intro j x0 hx0 v w2 hj hrg2 hg2 hs2 hen
      obtain ⟨key, hkey⟩ : ∃ key : Id32, key = ⟨x0, hx0⟩ := ⟨_, rfl⟩
      rw [← hkey] at hj hen ⊢
      clear hkey hx0
      have LE : Hid ((left.eraseIdx j).length < left.length) := Lib.hid (by
        have := (List.getElem?_eq_some_iff.1 hj).1
        rw [List.length_eraseIdx, if_pos this]
        omega)
      have PR : Hid (((pre ++ [(key, v)]) ++ left.eraseIdx j).Perm l) := Lib.hid (by
        refine List.Perm.trans ?_ PP.out
        rw [List.append_assoc]
        exact List.Perm.append_left _ (erase_perm hj).symm)
      have N2 := Lib.hid (NN.out.of_block (hg2.block N (by have := SS.out; omega) (by simp)))
      have S2 := Lib.hid (show N + 2 ≤ w2.heap.size by have := SS.out; omega)
      have B2 := Lib.hid (show Below w.heap.size w w2 from BB.out.trans (below_grown hg2 BB.out.size (by rw [← HN.out]; simp)))
      have R2 := Lib.hid hrg2
      have cl := pack_bounds PP.out hl v.pack
      obtain ⟨n, hn⟩ : ∃ n, n = cntOf v.pack pre := ⟨_, rfl⟩
      rw [← hn] at cl
      have NC : Hid ((aget (cm pre) v.pack).getD 0 = n) := Lib.hid (by rw [hn]; exact cm_get _ _)
      have n0 : (0 : Int) ≤ (n : Int) := Int.natCast_nonneg _
      have n1 : (n : Int) ≤ 1000000 := by omega
      clear hj hrg2 hg2 hs2 hn NN BB SS RG
      go_upto_region 7 with (refine wpList_store_new rfl 37 (.tmp 6) (.tmp 22) rfl _ (plcells v).toArray rfl rfl (sizepl v) (by simp [plcells_len]) (all_oneCell_toArray (plcells_one v)) ?_)
      obtain ⟨K, hK⟩ : ∃ K, K = w2.heap.size := ⟨_, rfl⟩
      rw [← hK]
      refine wp_named fun W hW => ?_
      have EP : W.heap[K]? = some (.cells (plcells v).toArray 37 (0, 0)) := by rw [hW, hK]; exact heap_at _ _
      have bW : Below w2.heap.size w2 W := by rw [hW]; exact below_alloc (Below.refl _ _) _
      have RW := Lib.hid (show RangeIs Try.prog 31 keyI plv W (N + 1) M l (left.eraseIdx j) by rw [hW]; exact R2.out.alloc _)
      have NW := Lib.hid (show IdMap cntv W N (cm pre) by rw [hW]; exact N2.out.alloc _)
      have BW := Lib.hid (B2.out.trans (bW.mono B2.out.size))
      have SW := Lib.hid (Nat.le_trans S2.out bW.size)
      have LP := Lib.hid (lies_range (pl_pack EP))
      have hKN : N + 2 ≤ K := by rw [hK]; exact S2.out
      clear hW hK EP bW R2 N2 B2 S2 hen
      obtain ⟨kl, hkl⟩ := keyI_ok v.pack
      have KL := Lib.hid hkl
      clear hkl
      refine wp_region_held_drew (S := fun w' => w'.rangeAt K 0 (encId v.pack)) (by kernel_rfl) (show W.drew.rangeAt _ _ _ from LP.out) (fun hHeld => ?_)
      refine wpAnyH_take (i := 0) (v := ?_) rfl (by kernel_rfl) (by kernel_rfl) (by kernel_rfl) (fun _ _ _ h => h) (Or.inl ⟨by kernel_rfl, ?_⟩) (by assumption) ?_
      rotate_left
      · (intro w hSw; (go_simp; try with_reducible rfl))
      try simp only [Act.put, List.getElem_toArray, List.getElem_cons_succ, List.getElem_cons_zero, List.setIfInBounds_toArray, List.set_cons_zero, List.set_cons_succ]
      refine wpAnyH_take (i := 1) (v := ?_) rfl (by kernel_rfl) (by kernel_rfl) (by kernel_rfl) (fun _ _ _ h => h) (Or.inl ⟨by kernel_rfl, ?_⟩) (by assumption) ?_
      rotate_left
      · (intro w hSw; (go_simp; try with_reducible rfl))
      try simp only [Act.put, List.getElem_toArray, List.getElem_cons_succ, List.getElem_cons_zero, List.setIfInBounds_toArray, List.set_cons_zero, List.set_cons_succ]
      refine' wpAnyH_take (i := 2) (v := _) rfl (by kernel_rfl) (by kernel_rfl) (by kernel_rfl) (fun _ _ _ h => h) (yieldsIf_load_mid (by kernel_rfl) _ _ rfl _ _ rfl (encId v.pack) _ ?hS2 Try.underlying31 rfl (by rw [size_id, encId_len])) (by assumption) ?rest2
      case hS2 => exact fun w' hw => hw
      case rest2 =>
      try simp only [Act.put, List.getElem_toArray, List.getElem_cons_succ, List.getElem_cons_zero, List.setIfInBounds_toArray, List.set_cons_zero, List.set_cons_succ]
      have NWd := Lib.hid (show IdMap cntv W.drew N (cm pre) from NW.out.drew)
      have RWd := Lib.hid (show RangeIs Try.prog 31 keyI plv W.drew (N + 1) M l (left.eraseIdx j) from RW.out.of_blocks rfl rfl)
      have BWd := Lib.hid (show Below w.heap.size w W.drew from below_drew BW.out)
      have SWd := Lib.hid (show N + 2 ≤ W.drew.heap.size from SW.out)
      obtain ⟨born, w3, hrun, hE3, hg3, hs3⟩ := NWd.out.entry keyed_id keyI_inj Try.underlying88 (zero_int _) KL.out
      rw [NC.out] at hrun hE3
      obtain ⟨w4, hst, hM4, hg4, hs4⟩ := hE3.store 88 (n + 1)
      rw [aput_same] at hM4
      have CM : Hid (cm (pre ++ [(key, v)]) = aput (cm pre) v.pack (n + 1)) := Lib.hid (by rw [cm_snoc, NC.out])
      have L3 : Hid ((Instr.lookup 88 (.map (some N)) (keyI v.pack) false).run Try.prog w3 = .ok (cntv n) w3) := Lib.hid (by
        have := look_cnt hE3.map v.pack
        rw [aget_aput, if_pos rfl] at this
        exact this)
      have L0 : Hid ((Instr.lookup 88 (.map (some N)) (keyI v.pack) false).run Try.prog W.drew = .ok (cntv n) W.drew) := Lib.hid (by
        have := look_cnt NWd.out v.pack
        rw [NC.out] at this
        exact this)
      have X3 := Lib.hid (rangeAt_grown (w := W.drew) (show W.drew.rangeAt _ _ _ from LP.out) hg3 (by simp; omega))
      have X4 := Lib.hid (rangeAt_grown X3.out hg4 (by simp; omega))
      have g34 : W.drew.grownBy w4 (some N) := grown_trans hg3 hg4
      have R4 := Lib.hid (RWd.out.of_blocks (g34.block (N + 1) (by have := SWd.out; omega) (by simp)) (g34.block M (by have := SWd.out; omega) (by simp; omega)))
      have B4 := Lib.hid (BWd.out.trans (below_grown g34 BWd.out.size (by rw [← HN.out]; exact Nat.le_refl _)))
      have S4 := Lib.hid (Nat.le_trans SWd.out g34.size)
      have M4 := Lib.hid hM4
      have HR := Lib.hid hrun
      have HT : Hid ((Instr.entryStore 88 (.map (some N)) (goInt born) (.int .i64 (IntKind.i64.wrap ((n : Int) + 1)))).run Try.prog w3 = .ok () w4) := Lib.hid (by
        have e : Value.int .i64 (IntKind.i64.wrap ((n : Int) + 1)) = cntv (n + 1) := by
          show _ = Value.int .i64 ((n + 1 : Nat) : Int)
          rw [IntKind.wrap_i64]
          refine congrArg _ ?_
          omega
        rw [e]
        exact hst)
      clear hrun hE3 hg3 hs3 hst hM4 hg4 hs4 g34 NWd RWd BWd SWd RW NW BW SW
      refine wpAnyH_ready (rs := [3, 5]) (by kernel_rfl) (by simp) (AllReadyH.cons rfl (fun K1 hK1 => ?_) (AllReadyH.cons rfl (fun K1 hK1 => ?_) AllReadyH.nil))
      · refine step_lookup rfl 88 (.tmp 23) (.tmp 25) false rfl (.map (some N)) (keyI v.pack) (.int .i64 n) rfl rfl L0.out ?_
        refine hK1.out _ _ (show W.drew.rangeAt _ _ _ from LP.out) (fun hH => ?_)
        clear hHeld hK1
        try simp only [Act.put, List.getElem_toArray, List.getElem_cons_succ, List.getElem_cons_zero, List.setIfInBounds_toArray, List.set_cons_zero, List.set_cons_succ]
        refine wpAnyH_take (i := 4) (v := ?_) rfl (by kernel_rfl) (by kernel_rfl) (by kernel_rfl) (fun _ _ _ h => h) (Or.inl ⟨by kernel_rfl, ?_⟩) (by assumption) ?_
        rotate_left
        · (intro w hSw; (go_simp; try with_reducible rfl))
        try simp only [Act.put, List.getElem_toArray, List.getElem_cons_succ, List.getElem_cons_zero, List.setIfInBounds_toArray, List.set_cons_zero, List.set_cons_succ]
        refine wpAnyH_ready (rs := [5]) (by kernel_rfl) (by simp) (AllReadyH.cons rfl (fun K1 hK1 => ?_) AllReadyH.nil)
        refine step_mapEntry rfl 88 (.tmp 23) (.tmp 25) rfl (.map (some N)) (keyI v.pack) _ w3 rfl rfl HR.out ?_
        refine hK1.out _ _ X3.out (fun hHeld => ?_)
        clear hH hK1
        try simp only [Act.put, List.getElem_toArray, List.getElem_cons_succ, List.getElem_cons_zero, List.setIfInBounds_toArray, List.set_cons_zero, List.set_cons_succ]
        refine wpAnyH_take (i := 6) (v := ?_) rfl (by kernel_rfl) (by kernel_rfl) (by kernel_rfl) (fun _ _ _ h => h) (Or.inl ⟨by kernel_rfl, ?_⟩) (by assumption) ?_
        rotate_left
        · (intro w hSw; (go_simp; try with_reducible rfl))
        try simp only [Act.put, List.getElem_toArray, List.getElem_cons_succ, List.getElem_cons_zero, List.setIfInBounds_toArray, List.set_cons_zero, List.set_cons_succ]
        refine wpAnyH_ready (rs := [7]) (by kernel_rfl) (by simp) (AllReadyH.cons rfl (fun K1 hK1 => ?_) AllReadyH.nil)
        refine step_entryStore rfl 88 (.tmp 23) (.tmp 29) (.tmp 27) rfl (.map (some N)) (goInt born) (.int .i64 (IntKind.i64.wrap ((n : Int) + 1))) w4 rfl rfl rfl HT.out ?_
        refine hK1.out _ _ X4.out (fun hH => ?_)
        clear hHeld hK1 hH
        try simp only [Act.put, List.getElem_toArray, List.getElem_cons_succ, List.getElem_cons_zero, List.setIfInBounds_toArray, List.set_cons_zero, List.set_cons_succ]
        refine wpAnyH_done (by kernel_rfl) ?_ _
        go_wp2
        go_roundg ((left.eraseIdx j).length)
        case measure => rw [HK.out]; exact LE.out
        case rel => exact ⟨_, pre ++ [(key, v)], rfl, R4.out, PR.out, by rw [CM.out]; exact M4.out, B4.out, S4.out⟩
      · refine step_mapEntry rfl 88 (.tmp 23) (.tmp 25) rfl (.map (some N)) (keyI v.pack) _ w3 rfl rfl HR.out ?_
        refine hK1.out _ _ X3.out (fun hH => ?_)
        clear hHeld hK1
        try simp only [Act.put, List.getElem_toArray, List.getElem_cons_succ, List.getElem_cons_zero, List.setIfInBounds_toArray, List.set_cons_zero, List.set_cons_succ]
        refine wpAnyH_take (i := 6) (v := ?_) rfl (by kernel_rfl) (by kernel_rfl) (by kernel_rfl) (fun _ _ _ h => h) (Or.inl ⟨by kernel_rfl, ?_⟩) (by assumption) ?_
        rotate_left
        · (intro w hSw; (go_simp; try with_reducible rfl))
        try simp only [Act.put, List.getElem_toArray, List.getElem_cons_succ, List.getElem_cons_zero, List.setIfInBounds_toArray, List.set_cons_zero, List.set_cons_succ]
        refine wpAnyH_ready (rs := [3]) (by kernel_rfl) (by simp) (AllReadyH.cons rfl (fun K1 hK1 => ?_) AllReadyH.nil)
        refine step_lookup rfl 88 (.tmp 23) (.tmp 25) false rfl (.map (some N)) (keyI v.pack) (.int .i64 n) rfl rfl L3.out ?_
        refine hK1.out _ _ X3.out (fun hHeld => ?_)
        clear hH hK1
        try simp only [Act.put, List.getElem_toArray, List.getElem_cons_succ, List.getElem_cons_zero, List.setIfInBounds_toArray, List.set_cons_zero, List.set_cons_succ]
        refine wpAnyH_take (i := 4) (v := ?_) rfl (by kernel_rfl) (by kernel_rfl) (by kernel_rfl) (fun _ _ _ h => h) (Or.inl ⟨by kernel_rfl, ?_⟩) (by assumption) ?_
        rotate_left
        · (intro w hSw; (go_simp; try with_reducible rfl))
        try simp only [Act.put, List.getElem_toArray, List.getElem_cons_succ, List.getElem_cons_zero, List.setIfInBounds_toArray, List.set_cons_zero, List.set_cons_succ]
        refine wpAnyH_ready (rs := [7]) (by kernel_rfl) (by simp) (AllReadyH.cons rfl (fun K1 hK1 => ?_) AllReadyH.nil)
        refine step_entryStore rfl 88 (.tmp 23) (.tmp 29) (.tmp 27) rfl (.map (some N)) (goInt born) (.int .i64 (IntKind.i64.wrap ((n : Int) + 1))) w4 rfl rfl rfl HT.out ?_
        refine hK1.out _ _ X4.out (fun hH => ?_)
        clear hHeld hK1 hH
        try simp only [Act.put, List.getElem_toArray, List.getElem_cons_succ, List.getElem_cons_zero, List.setIfInBounds_toArray, List.set_cons_zero, List.set_cons_succ]
        refine wpAnyH_done (by kernel_rfl) ?_ _
        go_wp2
        go_roundg ((left.eraseIdx j).length)
        case measure => rw [HK.out]; exact LE.out
        case rel => exact ⟨_, pre ++ [(key, v)], rfl, R4.out, PR.out, by rw [CM.out]; exact M4.out, B4.out, S4.out⟩
end Go.Proofs.Ytgbghjpkdbjdgaa
