/- The index: Drop, walked. -/
import Derived.Test.YtgbghjpkdbjdgaaDd7
namespace Go.Proofs.Ytgbghjpkdbjdgaa
open Go.RowKit
open Extern.Stop (cell)

theorem eqi32 (x y : Id32) (w : World) : (Op.equalIn 10000 31 (.agg (encId x).toArray) (.agg (encId y).toArray)).run Try.prog w = .ok (decide (x = y)) w := by
  have h := eqi_ids x.2 y.2 w
  have e : (x.1 == y.1) = decide (x = y) := by
    by_cases hxy : x = y
    · subst hxy; simp
    · have : x.1 ≠ y.1 := fun e => hxy (Subtype.ext e)
      rw [decide_eq_false hxy]
      simpa using this
  rw [e] at h
  exact h
theorem adel_filter {α β : Type} [DecidableEq α] : ∀ {l : List (α × β)} {a : α}, Apart l → adel l a = l.filter (fun e => !decide (e.1 = a))
  | [], _, _ => rfl
  | (k, v) :: r, a, h => by
    unfold Apart at h
    simp only [List.map_cons, List.nodup_cons] at h
    by_cases e : k = a
    · subst e
      have : r.filter (fun e => !decide (e.1 = k)) = r := List.filter_eq_self.2 fun y hy => by
        have : y.1 ≠ k := fun e => h.1 (List.mem_map.2 ⟨y, hy, e⟩)
        simp [this]
      simp [adel, this]
    · simp [adel, e, adel_filter (a := a) h.2]
def gone (pack : Id32) (pre l : List (Id32 × Pl)) : List (Id32 × Pl) := l.filter fun e => !(pre.any fun y => decide (y.1 = e.1) && decide (y.2.pack = pack))
def cntOf (pack : Id32) (l : List (Id32 × Pl)) : Nat := (l.filter fun e => decide (e.2.pack = pack)).length
theorem gone_nil (pack : Id32) (l : List (Id32 × Pl)) : gone pack [] l = l := by simp [gone]
theorem gone_skip {pack : Id32} {pre l : List (Id32 × Pl)} {x : Id32} {v : Pl} (h : ¬ v.pack = pack) : gone pack (pre ++ [(x, v)]) l = gone pack pre l := by
  unfold gone
  congr 1
  funext e
  simp [h]
theorem apart_filter {α β : Type} {l : List (α × β)} (h : Apart l) (p : α × β → Bool) : Apart (l.filter p) := by
  unfold Apart at *
  exact h.sublist ((List.filter_sublist).map _)
theorem gone_step {pack : Id32} {pre l : List (Id32 × Pl)} {x : Id32} {v : Pl} (hl : Apart l) (h : v.pack = pack) : gone pack (pre ++ [(x, v)]) l = adel (gone pack pre l) x := by
  rw [adel_filter (show Apart (gone pack pre l) from apart_filter hl _)]
  unfold gone
  rw [List.filter_filter]
  congr 1
  funext e
  simp only [List.any_append, List.any_cons, List.any_nil, Bool.or_false, h, decide_true, Bool.and_true, Bool.not_or]
  by_cases hx : e.1 = x
  · simp [hx]
  · have : ¬ x = e.1 := fun h => hx h.symm
    simp [hx, this]
theorem gone_all {pack : Id32} {pre l : List (Id32 × Pl)} (hl : Apart l) (hp : pre.Perm l) : gone pack pre l = l.filter fun e => !decide (e.2.pack = pack) := by
  unfold gone
  apply List.filter_congr
  intro e he
  congr 1
  by_cases h : e.2.pack = pack
  · rw [decide_eq_true h, List.any_eq_true]
    exact ⟨e, hp.mem_iff.2 he, by simp [h]⟩
  · rw [decide_eq_false h, List.any_eq_false]
    intro y hy
    simp only [Bool.and_eq_true, decide_eq_true_eq, not_and]
    intro e1 e2
    have h1 := aget_of_mem hl (show (y.1, y.2) ∈ l from hp.mem_iff.1 hy)
    have h2 := aget_of_mem hl (show (e.1, e.2) ∈ l from he)
    rw [e1, h2] at h1
    rw [Option.some.inj h1] at h
    exact h e2
theorem cntOf_snoc (pack : Id32) (pre : List (Id32 × Pl)) (x : Id32) (v : Pl) : cntOf pack (pre ++ [(x, v)]) = cntOf pack pre + if v.pack = pack then 1 else 0 := by
  unfold cntOf
  rw [List.filter_append]
  by_cases h : v.pack = pack <;> simp [h]
theorem cntOf_le (pack : Id32) (l : List (Id32 × Pl)) : cntOf pack l ≤ l.length := List.length_filter_le _ _
theorem cntOf_perm {pack : Id32} {a b : List (Id32 × Pl)} (h : a.Perm b) : cntOf pack a = cntOf pack b := (h.filter _).length_eq
set_option linter.unusedSimpArgs false in
set_option maxRecDepth 100000 in
set_option maxHeartbeats 4000000 in
theorem drop_any {w : World} {x M : Nat} {l : List (Id32 × Pl)} (h : IxIs w x M l) (hl : l.length ≤ 1000000) (pack : Id32) :
    Calls Try.prog 10 #[.pointer (some ⟨x, 0, none⟩), keyI pack] w fun e w' => e = .returned (.int .i64 (cntOf pack l)) ∧ IxIs w' x M (l.filter fun e => !decide (e.2.pack = pack)) ∧ w.grownBy w' (some M) := by
  have HX := Lib.hid h
  have AP := Lib.hid h.map.apart
  obtain ⟨T, hT⟩ : ∃ T, T = w.heap.size := ⟨_, rfl⟩
  have HT := Lib.hid hT
  have b0 : Below w.heap.size w (w.alloc (.cells (encId pack).toArray 31)) := below_alloc (Below.refl _ _) _
  have hx := h.later b0
  obtain ⟨y0, y1⟩ := blk1 hx.box
  have MP := Lib.hid hx.map
  have HX1 := Lib.hid hx
  have hMT : M < T := by rw [hT]; exact h.map.lt
  have hxT : x < T := by rw [hT]; exact (Array.getElem?_eq_some_iff.1 h.box).1
  have hxM := h.ne
  clear h hx b0 hT
  go_enter Try.func10, Try.ntmps10
  go_wp2_with (at_range; refine wpList_range_is _ rfl _ 64 rfl 37 Try.underlying64 M l rfl MP.out ?_; intro w1 hr1 hb1 hs1)
  have e1 : w1.heap[T]? = some (.cells (encId pack).toArray 31 (0, 0)) := by rw [HT.out]; exact aRegionKept (heap_at _ _) hb1
  have x1 := HX1.out.later hb1
  have g1 : w.grownBy w1 (some M) := by
    have e := (below_alloc (Below.refl w.heap.size w) (.cells (encId pack).toArray 31)).trans (hb1.mono (by simp))
    exact grown_below e _
  have hsz : (w.alloc (.cells (encId pack).toArray 31)).heap.size = T + 1 := by rw [HT.out]; simp
  have hs2 : w1.heap.size = T + 2 := by rw [hs1, hsz]
  rw [hsz] at hr1
  have R1 := Lib.hid hr1
  have E1 := Lib.hid e1
  have X1 := Lib.hid x1.box
  have G1 := Lib.hid g1
  have S1 := Lib.hid hs2
  have ZZ := Lib.hid hsz
  clear hr1 hb1 hs1 e1 x1 g1 hsz hs2 MP HX1 y0 y1
  go_frame
  rw [ZZ.out, ← HT.out]
  go_loopg [5] l.length (fun k s5 wr => ∃ (left pre : List (Id32 × Pl)), k = left.length ∧ s5 = .int .i64 (cntOf pack pre : Nat) ∧ RangeIs Try.prog 31 keyI plv wr (T + 1) M (gone pack pre l) left ∧ (pre ++ left).Perm l ∧ wr.heap[T]? = some (.cells (encId pack).toArray 31 (0, 0)) ∧ wr.heap[x]? = some (.cells #[.map (some M)] 66 (0, 0)) ∧ w.grownBy wr (some M) ∧ T + 2 ≤ wr.heap.size)
  case atStart => exact ⟨l, [], rfl, rfl, by rw [gone_nil]; exact R1.out, List.Perm.refl _, E1.out, X1.out, G1.out, by rw [S1.out]; exact Nat.le_refl _⟩
  case round =>
    obtain ⟨left, pre, hk, rfl, hrg, hp, hE, hX, hG, hS⟩ := hrel
    have HK := Lib.hid hk
    have RG := Lib.hid hrg
    have PP := Lib.hid hp
    have EE := Lib.hid hE
    have XX := Lib.hid hX
    have GG := Lib.hid hG
    have cl : cntOf pack pre ≤ 1000000 := by
      have h1 := cntOf_le pack pre
      have h2 := hp.length_eq
      simp only [List.length_append] at h2
      omega
    obtain ⟨n, hn⟩ : ∃ n, n = cntOf pack pre := ⟨_, rfl⟩
    rw [← hn] at cl ⊢
    have NN := Lib.hid hn
    have n0 : (0 : Int) ≤ (n : Int) := Int.natCast_nonneg _
    have n1 : (n : Int) ≤ 1000000 := by omega
    clear hk hrg hp hE hX hG hn
    go_wp2_with (at_next; refine wpList_next_is _ rfl _ rfl (T + 1) M (gone pack pre l) left rfl RG.out ?_ ?_)
    · intro hd
      subst hd
      have hperm : pre.Perm l := by simpa using PP.out
      have GA := Lib.hid (gone_all (pack := pack) AP.out hperm)
      have CA := Lib.hid (cntOf_perm (pack := pack) hperm)
      clear hperm
      go_wp2
      go_ret
      exact ⟨by rw [NN.out, CA.out]; rfl, ⟨XX.out, by rw [← GA.out]; exact RG.out.map⟩, GG.out⟩
    · intro j x0 hx0 v w2 hj hrg2 hg2 hs2 hen
      obtain ⟨key, hkey⟩ : ∃ key : Id32, key = ⟨x0, hx0⟩ := ⟨_, rfl⟩
      rw [← hkey] at hj hen ⊢
      clear hkey hx0
      have ne1 : T ≠ T + 1 := by omega
      have E2 := (hg2.block T (by omega) (by simp)).trans EE.out
      have X2 := (hg2.block x (by omega) (by simp; omega)).trans XX.out
      have G2 : w.grownBy w2 (some M) := ⟨hg2.os.trans GG.out.os, hg2.tape.trans GG.out.tape, hg2.output.trans GG.out.output, Nat.le_trans GG.out.size hg2.size, fun i hi hr => (hg2.block i (Nat.lt_of_lt_of_le hi GG.out.size) (by have := HT.out; simp; omega)).trans (GG.out.block i hi hr)⟩
      have S2 : T + 2 ≤ w2.heap.size := by omega
      have LE : Hid ((left.eraseIdx j).length < left.length) := Lib.hid (by
        have := (List.getElem?_eq_some_iff.1 hj).1
        rw [List.length_eraseIdx, if_pos this]
        omega)
      have PR : Hid (((pre ++ [(key, v)]) ++ left.eraseIdx j).Perm l) := Lib.hid (by
        refine List.Perm.trans ?_ PP.out
        rw [List.append_assoc]
        exact List.Perm.append_left _ (erase_perm hj).symm)
      have OUTK : Hid (∀ p ∈ left.eraseIdx j, p.1 ≠ key) := Lib.hid (fun p hp e => by
        have h1 := PR.out
        have h2 : Apart ((pre ++ [(key, v)]) ++ left.eraseIdx j) := by
          unfold Apart
          exact (h1.map Prod.fst).nodup_iff.2 AP.out
        unfold Apart at h2
        rw [List.map_append, List.nodup_append] at h2
        exact h2.2.2 key (by simp) p.1 (List.mem_map.2 ⟨p, hp, rfl⟩) e.symm)
      have CN : Hid (cntOf pack (pre ++ [(key, v)]) = n + if v.pack = pack then 1 else 0) := Lib.hid (by rw [cntOf_snoc, NN.out])
      have RG2 := Lib.hid hrg2
      have E2' := Lib.hid E2
      have X2' := Lib.hid X2
      have G2' := Lib.hid G2
      clear hj hrg2 hg2 hs2 E2 X2 G2 RG PP EE XX GG hS
      go_upto_region 7 with (first | (refine wpList_store_two rfl 31 (.tmp 6) (.tmp 18) rfl w2 _ (encId key).toArray _ rfl rfl rfl (sizei key.1) (by simp [encId_len]) (all_oneCell_toArray (encId_one key)) ?_) | (refine wpList_store_new rfl 37 (.tmp 7) (.tmp 19) rfl _ (plcells v).toArray (by rw [World.size_alloc]; rfl) rfl (sizepl v) (by simp [plcells_len]) (all_oneCell_toArray (plcells_one v)) ?_))
      obtain ⟨K, hK⟩ : ∃ K, K = w2.heap.size := ⟨_, rfl⟩
      rw [← hK]
      refine wp_named fun W hW => ?_
      have EK : W.heap[K]? = some (.cells (encId key).toArray 31 (0, 0)) := by rw [hW, hK]; exact heap_up (heap_at _ _)
      have EP : W.heap[K + 1]? = some (.cells (plcells v).toArray 37 (0, 0)) := by rw [hW, hK]; exact heap_two _ _ _
      have RW := Lib.hid (show RangeIs Try.prog 31 keyI plv W (T + 1) M (gone pack pre l) (left.eraseIdx j) by rw [hW]; exact (RG2.out.alloc _).alloc _)
      have bW : Below w2.heap.size w2 W := by rw [hW]; exact below_alloc (below_alloc (Below.refl _ _) _) _
      have EW := Lib.hid (aRegionKept E2'.out bW)
      have XW := Lib.hid (aRegionKept X2'.out bW)
      have GW := Lib.hid (grown_trans G2'.out (grown_below bW (some M)))
      have SW : T + 2 ≤ W.heap.size := Nat.le_trans S2 bW.size
      have LK := Lib.hid (lies_range (lies_block EK))
      have LP := Lib.hid (pl_pack EP)
      have LT := Lib.hid (lies_block EW.out)
      have YX := Lib.hid (blk1 XW.out).1
      have hKM : M < K := by omega
      have hq := eqi32 v.pack pack
      clear hW hK EK EP bW RG2 E2' X2' G2' hen S2
      by_cases hp : v.pack = pack
      · have hb : decide (v.pack = pack) = true := decide_eq_true hp
        rw [hb] at hq
        have CN2 : Hid (cntOf pack (pre ++ [(key, v)]) = n + 1) := Lib.hid (by rw [CN.out, if_pos hp])
        have GN : Hid (gone pack (pre ++ [(key, v)]) l = adel (gone pack pre l) key) := Lib.hid (gone_step AP.out hp)
        obtain ⟨kl, hkl⟩ := keyI_ok key
        have KL := Lib.hid hkl
        clear hkl hp hb
        go_wp2_with (first | (refine wpList_load_agg rfl 31 (.tmp 20) rfl (K + 1) 0 rfl (encId v.pack).toArray _ LP.out Try.underlying31 rfl (sizei v.pack.1) ?_) | (refine wpList_load_agg rfl 31 (.tmp 3) rfl T 0 rfl (encId pack).toArray _ LT.out Try.underlying31 rfl (sizei pack.1) ?_))
        refine wp_region_held_drew (S := fun w' => w'.cell? ⟨x, 0, none⟩ = some (.map (some M)) ∧ w'.rangeAt K 0 (encId key)) (by kernel_rfl) ⟨(show W.drew.cell? _ = _ from YX.out), (show W.drew.rangeAt _ _ _ from LK.out)⟩ (fun hHeld => ?_)
        refine wpAnyH_take (i := 0) (v := ?_) rfl (by kernel_rfl) (by kernel_rfl) (by kernel_rfl) (fun _ _ _ h => h) (Or.inl ⟨by kernel_rfl, ?_⟩) (by assumption) ?_
        rotate_left
        · (intro w hSw; (have q9 := hSw.1; go_simp; try with_reducible rfl))
        try simp only [Act.put, List.getElem_toArray, List.getElem_cons_succ, List.getElem_cons_zero, List.setIfInBounds_toArray, List.set_cons_zero, List.set_cons_succ]
        refine wpAnyH_take (i := 1) (v := ?_) rfl (by kernel_rfl) (by kernel_rfl) (by kernel_rfl) (fun _ _ _ h => h) (Or.inl ⟨by kernel_rfl, ?_⟩) (by assumption) ?_
        rotate_left
        · (intro w hSw; (have q9 := hSw.1; go_simp; try with_reducible rfl))
        try simp only [Act.put, List.getElem_toArray, List.getElem_cons_succ, List.getElem_cons_zero, List.setIfInBounds_toArray, List.set_cons_zero, List.set_cons_succ]
        refine wpAnyH_take (i := 2) (v := ?_) rfl (by kernel_rfl) (by kernel_rfl) (by kernel_rfl) (fun _ _ _ h => h) (Or.inl ⟨by kernel_rfl, ?_⟩) (by assumption) ?_
        rotate_left
        · (intro w hSw; (have q9 := hSw.1; go_simp; try with_reducible rfl))
        try simp only [Act.put, List.getElem_toArray, List.getElem_cons_succ, List.getElem_cons_zero, List.setIfInBounds_toArray, List.set_cons_zero, List.set_cons_succ]
        refine wpAnyH_take (i := 3) (v := ?_) rfl (by kernel_rfl) (by kernel_rfl) (by kernel_rfl) (fun _ _ _ h => h) (Or.inl ⟨by kernel_rfl, ?_⟩) (by assumption) ?_
        rotate_left
        · (intro w hSw; (have q9 := hSw.1; go_simp; try with_reducible rfl))
        try simp only [Act.put, List.getElem_toArray, List.getElem_cons_succ, List.getElem_cons_zero, List.setIfInBounds_toArray, List.set_cons_zero, List.set_cons_succ]
        refine' wpAnyH_take (i := 4) (v := _) rfl (by kernel_rfl) (by kernel_rfl) (by kernel_rfl) (fun _ _ _ h => h) (yieldsIf_load_mid (by kernel_rfl) _ _ rfl _ _ rfl (encId key) _ ?hS4 Try.underlying31 rfl (by rw [size_id, encId_len])) (by assumption) ?rest4
        case hS4 => exact fun w' hw => hw.2
        case rest4 =>
        try simp only [Act.put, List.getElem_toArray, List.getElem_cons_succ, List.getElem_cons_zero, List.setIfInBounds_toArray, List.set_cons_zero, List.set_cons_succ]
        refine wpAnyH_ready (rs := [5]) (by kernel_rfl) (by simp) (AllReadyH.cons rfl (fun K hK => ?_) AllReadyH.nil)
        refine step_delete rfl (.tmp 27) (.tmp 28) 64 31 rfl 37 keyed_id Try.underlying64 keyI plv keyI_inj (T + 1) M (gone pack pre l) (left.eraseIdx j) (show RangeIs _ _ _ _ W.drew _ _ _ _ from RW.out.of_blocks rfl rfl) rfl key kl rfl KL.out OUTK.out ?_
        intro w9 hr9 hg9 hs9
        have X9 := Lib.hid ((hg9.block x (by show x < W.heap.size; omega) (by simp; exact hxM)).trans (show W.drew.heap[x]? = _ from XW.out))
        have E9 := Lib.hid ((hg9.block T (by show T < W.heap.size; omega) (by simp; omega)).trans (show W.drew.heap[T]? = _ from EW.out))
        have G9 := Lib.hid (grown_trans (show w.grownBy W.drew (some M) from ⟨GW.out.os, GW.out.tape, GW.out.output, GW.out.size, GW.out.block⟩) hg9)
        have R9 := Lib.hid hr9
        have S9 : T + 2 ≤ w9.heap.size := by rw [hs9]; exact SW
        refine hK.out _ _ ⟨(blk1 X9.out).1, rangeAt_grown (w := W.drew) LK.out hg9 (by simp; omega)⟩ (fun hH => ?_)
        clear hHeld hK hH hr9 hg9 hs9
        try simp only [Act.put, List.getElem_toArray, List.getElem_cons_succ, List.getElem_cons_zero, List.setIfInBounds_toArray, List.set_cons_zero, List.set_cons_succ]
        refine wpAnyH_done (by kernel_rfl) ?_ _
        go_wp2
        go_roundg ((left.eraseIdx j).length)
        case measure => rw [HK.out]; exact LE.out
        case rel =>
          refine ⟨_, pre ++ [(key, v)], rfl, ?_, by rw [GN.out]; exact R9.out, PR.out, E9.out, X9.out, G9.out, S9⟩
          rw [CN2.out]
          go_num
      · have hb : decide (v.pack = pack) = false := decide_eq_false hp
        rw [hb] at hq
        have CN2 : Hid (cntOf pack (pre ++ [(key, v)]) = n) := Lib.hid (by rw [CN.out, if_neg hp]; rfl)
        have GN : Hid (gone pack (pre ++ [(key, v)]) l = gone pack pre l) := Lib.hid (gone_skip hp)
        clear hp hb
        go_wp2_with (first | (refine wpList_load_agg rfl 31 (.tmp 20) rfl (K + 1) 0 rfl (encId v.pack).toArray _ LP.out Try.underlying31 rfl (sizei v.pack.1) ?_) | (refine wpList_load_agg rfl 31 (.tmp 3) rfl T 0 rfl (encId pack).toArray _ LT.out Try.underlying31 rfl (sizei pack.1) ?_))
        go_roundg ((left.eraseIdx j).length)
        case measure => rw [HK.out]; exact LE.out
        case rel => exact ⟨_, pre ++ [(key, v)], rfl, by rw [CN2.out], by rw [GN.out]; exact RW.out, PR.out, EW.out, XW.out, GW.out, SW⟩
end Go.Proofs.Ytgbghjpkdbjdgaa
