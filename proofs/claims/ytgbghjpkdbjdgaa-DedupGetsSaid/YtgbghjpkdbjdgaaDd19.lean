/- The index: Put. -/
import Derived.Test.YtgbghjpkdbjdgaaDd18
import Derived.Test.YtgbghjpkdbjdgaaDp1
namespace Go.Proofs.Ytgbghjpkdbjdgaa
open Go.RowKit
open Extern.Stop (cell)

theorem MapIs.len {α β : Type} {P : Program} {k : TypeId} {eK : α → Value} {eV : β → Value} {w : World} {b : Nat} {l : List (α × β)} (h : MapIs P k eK eV w b l) {t e : TypeId} (ht : P.underlying t = some (.map k e)) (ty : TypeId) :
    (Builtin.len_ #[t] ty #[.map (some b)]).run P w = .ok (.int .i64 l.length) w := by
  obtain ⟨es, clk, h1, h2, _⟩ := h
  have hl := congrArg List.length h2
  simp only [List.length_map, Array.length_toList] at hl
  simp [Builtin.len_, run_underlying ht, MapKept.run_getObj_map h1, goInt, Result.andThen, hl]
theorem look_pl1 {w : World} {M : Nat} {l : List (Id32 × Pl)} (h : IdMap plv w M l) (id : Id32) :
    (Instr.lookup 64 (.map (some M)) (keyI id) false).run Try.prog w = .ok (plv ((aget l id).getD zpl)) w := by
  obtain ⟨kl, hkl⟩ := keyI_ok id
  cases hg : aget l id with
  | none => exact h.look_none keyed_id keyI_inj Try.underlying64 (zero_pl w) false hkl hg
  | some v => exact h.look_some keyed_id keyI_inj Try.underlying64 false hkl hg
theorem IxIs.low {w w' : World} {x M B : Nat} {l : List (Id32 × Pl)} (h : IxIs w x M l) (hb : Below B w w') (hx : x < B) (hM : M < B) : IxIs w' x M l :=
  ⟨(hb.block x hx).trans h.box, h.map.of_block (hb.block M hM)⟩
theorem pl_rd {w : World} {b : Nat} {p : Pl} {t : TypeId} {fz : Nat × Nat} (h : w.heap[b]? = some (.cells (plcells p).toArray t fz)) : BytesRd w (some ⟨b, 0, none⟩) p.pack.1 := fun j z hj => by
  have hl := (List.getElem?_eq_some_iff.1 hj).1
  have hp := p.pack.2
  refine ⟨b, 0, rfl, (Array.getElem?_eq_some_iff.1 h).1, ?_⟩
  rw [Nat.zero_add, cell_of_row w b j _ t fz h, List.getElem?_toArray, plcells, List.getElem?_append_left (by rw [encId_len]; omega), encId, idCells_of hp]
  simp [hj]
theorem putU_two {n : Nat} (h : n ≤ 1023) : (putU n).length ≤ 2 := by
  rw [putU_small_or n h]
  split <;> omega
theorem ent_len {e : Id32 × Pl} (h : 0 ≤ e.2.n ∧ e.2.n ≤ 1023) : (entB e).length ≤ 66 := by
  have h1 := e.1.2
  have h2 := e.2.pack.2
  have h3 := putU_two (n := e.2.n.toNat) (by omega)
  rw [entB, List.length_append, List.length_append]
  omega
theorem ents_len : ∀ {es : List (Id32 × Pl)}, PlsOk es → (es.flatMap entB).length ≤ 66 * es.length
  | [], _ => by simp
  | e :: es, h => by
    have h1 := ent_len (h e (by simp))
    have h2 := ents_len (es := es) fun x hx => h x (by simp [hx])
    rw [List.flatMap_cons, List.length_append, List.length_cons]
    omega
theorem row_at {l : List (Id32 × Pl)} {j : Nat} {k : Id32} (h : (sortIds (l.map Prod.fst))[j]? = some k) : (rowOf l)[j]? = some (k, (aget l k).getD zpl) := by
  unfold rowOf
  rw [List.getElem?_map, h]
  rfl
theorem get_ok {l : List (Id32 × Pl)} (ho : PlsOk l) (k : Id32) : 0 ≤ ((aget l k).getD zpl).n ∧ ((aget l k).getD zpl).n ≤ 1023 := by
  cases hg : aget l k with
  | none => exact ⟨Int.le_refl _, by decide⟩
  | some v => exact ho _ (aget_mem hg)
set_option linter.unusedSimpArgs false in
set_option maxRecDepth 100000 in
set_option maxHeartbeats 4000000 in
theorem put_any {w : World} {x M : Nat} {l : List (Id32 × Pl)} (h : IxIs w x M l) (ho : PlsOk l) (hl : l.length ≤ 10000) :
    Calls Try.prog 19 #[.pointer (some ⟨x, 0, none⟩)] w fun e w' => ∃ v, e = .returned v ∧ w'.ownsRow w.heap.size 5 1 v (putOf l).length ((putOf l).map cell) ∧ Below w.heap.size w w' := by
  have HX := Lib.hid h
  have AP := h.map.apart
  have RO := Lib.hid (row_ok AP ho)
  have RL := Lib.hid (row_len l)
  have GO := Lib.hid (fun k => get_ok ho k)
  have hxs : x < w.heap.size := (Array.getElem?_eq_some_iff.1 h.box).1
  have hMs : M < w.heap.size := h.map.lt
  obtain ⟨y0, y1⟩ := blk1 h.box
  obtain ⟨ids, hids⟩ : ∃ ids, ids = sortIds (l.map Prod.fst) := ⟨_, rfl⟩
  have ID := Lib.hid hids
  obtain ⟨n, hn⟩ : ∃ n, n = l.length := ⟨_, rfl⟩
  have IL : Hid (ids.length = n) := Lib.hid (by rw [hids, sortIds_len, List.length_map, hn])
  have LN := Lib.hid hn
  rw [← hn] at hl
  have n0 : (0 : Int) ≤ (n : Int) := Int.natCast_nonneg _
  have n1 : (n : Int) ≤ 10000 := by omega
  clear h ho AP hids hn
  go_enter Try.func19, Try.ntmps19
  go_wp2_with fail
  refine (newwriter_any _).mono ?_
  rintro e w1 ⟨y, rfl, hw1, hy1, b1⟩
  have X1 := Lib.hid (HX.out.later b1)
  have hlen := MapIs.len X1.out.map Try.underlying64 3
  rw [← LN.out] at hlen
  obtain ⟨p0, p1⟩ := blk1 X1.out.box
  have W1 := Lib.hid hw1
  have B1 := Lib.hid b1
  clear hw1 b1 y0 y1
  have UW := Lib.hid (wuint_any (n := n) W1.out (by omega) (by simp))
  go_wp2_with fail
  refine UW.out.mono ?_
  rintro e w2 ⟨rfl, hw2, k2⟩
  have W2 : Hid (WrIs w2 y (putU n)) := Lib.hid hw2
  have B2 := Lib.hid (B1.out.trans (k2.below.mono hy1))
  have X2 := Lib.hid (X1.out.low k2.below (by omega) (by omega))
  clear hw2 k2 UW W1 X1 hlen p0 p1
  have IA := Lib.hid (ids_any X2.out (by rw [← LN.out]; omega))
  go_wp2_with fail
  refine IA.out.mono ?_
  rintro e w3 ⟨v, rfl, hv, b3⟩
  rw [← ID.out, IL.out] at hv
  have V3 := Lib.hid hv
  have B3 := Lib.hid (B2.out.trans (b3.mono B2.out.size))
  have X3 := Lib.hid (X2.out.later b3)
  have W3 := Lib.hid (W2.out.later b3)
  have hy3 : y < w3.heap.size := W3.out.lt
  obtain ⟨xa, xc, rfl⟩ := own_slice hv
  clear hv b3 IA X2 W2
  go_wp2_with fail
  go_loopg [21] n (fun k s21 wr => ∃ j : Nat, j ≤ n ∧ k = n - j ∧ s21 = .int .i64 j ∧ WrIs wr y (putU n ++ ((rowOf l).take j).flatMap entB) ∧ Keeps wT y w3 wr)
  case atStart => exact ⟨0, Nat.zero_le _, rfl, rfl, by simpa using W3.out, Keeps.refl _ _ _⟩
  case round =>
    obtain ⟨j, hj, hk, rfl, hw4, k4⟩ := hrel
    have HK := Lib.hid hk
    have K4 := Lib.hid k4
    have BLEN : Hid ((putU n ++ ((rowOf l).take j).flatMap entB).length ≤ 990000) := Lib.hid (by
      have h1 := ents_len (es := (rowOf l).take j) fun e he => RO.out e (List.mem_of_mem_take he)
      have h2 := putU_len 9 n (by omega)
      rw [List.length_take] at h1
      rw [List.length_append]
      omega)
    obtain ⟨bs, hbs⟩ : ∃ bs, bs = putU n ++ ((rowOf l).take j).flatMap entB := ⟨_, rfl⟩
    rw [← hbs] at hw4 BLEN
    have W4 := Lib.hid hw4
    have BS := Lib.hid hbs
    have j0 : (0 : Int) ≤ (j : Int) := Int.natCast_nonneg _
    clear hk k4 hw4 hbs
    by_cases hlt : j < n
    · obtain ⟨key, hkey⟩ : ∃ key, ids[j]? = some key := ⟨ids[j]'(by rw [IL.out]; exact hlt), List.getElem?_eq_getElem _⟩
      have RA := Lib.hid (row_at (by rw [← ID.out]; exact hkey))
      have V4 := K4.out.own V3.out (by decide)
      rw [← IL.out] at V4
      obtain ⟨g, cap, e, hg, hL⟩ := ids_elem V4 hkey
      obtain rfl : xa = some ⟨g, 0, none⟩ := by cases e; rfl
      clear e V4
      have LL := Lib.hid hL
      have j1 : (j : Int) < (n : Int) := by omega
      have X4 := Lib.hid (X3.out.low K4.out.below (by omega) (by omega))
      have hy4 : y < wr.heap.size := W4.out.lt
      obtain ⟨q, hq⟩ : ∃ q : Pl, q = (aget l key).getD zpl := ⟨_, rfl⟩
      rw [← hq] at RA
      have QO := GO.out key
      rw [← hq] at QO
      have QQ := Lib.hid hq
      obtain ⟨qn, hqn⟩ : ∃ qn : Nat, q.n = (qn : Int) := ⟨q.n.toNat, by omega⟩
      have QN := Lib.hid hqn
      have qn0 : (0 : Int) ≤ (qn : Int) := Int.natCast_nonneg _
      have qn1 : (qn : Int) ≤ 1023 := by omega
      have K2 := Lib.hid key.2
      clear hkey hL hq QO hqn
      go_upto_region 8 with (first | (refine wpList_load_agg rfl 31 (.tmp 23) rfl g (j * 32) rfl (encId key).toArray _ LL.out Try.underlying31 rfl (sizei key.1) ?_) | (refine wpList_store_new rfl 31 (.tmp 5) (.tmp 24) rfl _ (encId key).toArray rfl rfl (sizei key.1) (by simp [encId_len]) (all_oneCell_toArray (encId_one key)) ?_))
      refine wp_named fun W hW => ?_
      have e0 : W.heap[wr.heap.size]? = some (.cells (encId key).toArray 31 (0, 0)) := by rw [hW]; exact heap_at _ _
      have b0 : Below wr.heap.size wr W := by rw [hW]; exact below_alloc (Below.refl _ _) _
      obtain ⟨T, hT⟩ : ∃ T, T = wr.heap.size := ⟨_, rfl⟩
      rw [← hT] at e0 ⊢
      have E0 := Lib.hid e0
      have L0 := Lib.hid (lies_range (lies_block e0))
      have KW := Lib.hid (K4.out.then (Nat.le_of_lt hy3) b0)
      have XW := Lib.hid (X4.out.later b0)
      have WW := Lib.hid (W4.out.later b0)
      have Y1 := Lib.hid (blk1 XW.out.box).1
      have LKA : Hid (∀ w', Below W.heap.size W w' → (Instr.lookup 64 (.map (some M)) (keyI key) false).run Try.prog w' = .ok (plv q) w') := Lib.hid (fun w' hw => by
        have := look_pl1 (idmap_below XW.out.map hw) key
        rw [← QQ.out] at this
        exact this)
      have hTW : T < W.heap.size := (Array.getElem?_eq_some_iff.1 e0).1
      clear hW e0 b0 hT
      refine wp_region_held_drew (S := fun w' => Below W.heap.size W w') (by kernel_rfl) (below_drew (Below.refl _ _)) (fun hHeld => ?_)
      refine wpAnyH_take (i := 0) (v := ?_) rfl (by kernel_rfl) (by kernel_rfl) (by kernel_rfl) (fun _ _ _ h => h) (Or.inl ⟨by kernel_rfl, ?_⟩) (by assumption) ?_
      rotate_left
      · (intro w hSw; (have q9 := cell_below Y1.out hSw; go_simp; try with_reducible rfl))
      try simp only [Act.put, List.getElem_toArray, List.getElem_cons_succ, List.getElem_cons_zero, List.setIfInBounds_toArray, List.set_cons_zero, List.set_cons_succ]
      refine wpAnyH_take (i := 1) (v := ?_) rfl (by kernel_rfl) (by kernel_rfl) (by kernel_rfl) (fun _ _ _ h => h) (Or.inl ⟨by kernel_rfl, ?_⟩) (by assumption) ?_
      rotate_left
      · (intro w hSw; (have q9 := cell_below Y1.out hSw; go_simp; try with_reducible rfl))
      try simp only [Act.put, List.getElem_toArray, List.getElem_cons_succ, List.getElem_cons_zero, List.setIfInBounds_toArray, List.set_cons_zero, List.set_cons_succ]
      refine wpAnyH_take (i := 2) (v := ?_) rfl (by kernel_rfl) (by kernel_rfl) (by kernel_rfl) (fun _ _ _ h => h) (Or.inl ⟨by kernel_rfl, ?_⟩) (by assumption) ?_
      rotate_left
      · (intro w hSw; (have q9 := cell_below Y1.out hSw; go_simp; try with_reducible rfl))
      try simp only [Act.put, List.getElem_toArray, List.getElem_cons_succ, List.getElem_cons_zero, List.setIfInBounds_toArray, List.set_cons_zero, List.set_cons_succ]
      refine wpAnyH_take (i := 3) (v := ?_) rfl (by kernel_rfl) (by kernel_rfl) (by kernel_rfl) (fun _ _ _ h => h) (Or.inl ⟨by kernel_rfl, ?_⟩) (by assumption) ?_
      rotate_left
      · (intro w hSw; (have q9 := cell_below Y1.out hSw; go_simp; try with_reducible rfl))
      try simp only [Act.put, List.getElem_toArray, List.getElem_cons_succ, List.getElem_cons_zero, List.setIfInBounds_toArray, List.set_cons_zero, List.set_cons_succ]
      refine' wpAnyH_take (i := 4) (v := _) rfl (by kernel_rfl) (by kernel_rfl) (by kernel_rfl) (fun _ _ _ h => h) (yieldsIf_load_mid (by kernel_rfl) _ _ rfl _ _ rfl (encId key) _ ?hS4 Try.underlying31 rfl (by rw [size_id, encId_len])) (by assumption) ?rest4
      case hS4 => exact fun w' hw => rangeAt_below L0.out hw
      case rest4 =>
      try simp only [Act.put, List.getElem_toArray, List.getElem_cons_succ, List.getElem_cons_zero, List.setIfInBounds_toArray, List.set_cons_zero, List.set_cons_succ]
      refine' wpAnyH_take (i := 5) (v := _) rfl (by kernel_rfl) (by kernel_rfl) (by kernel_rfl) (fun _ _ _ h => h) (yieldsIf_lookup (by kernel_rfl) 64 (.tmp 28) (.tmp 29) false rfl (.map (some M)) (keyI key) (plv q) rfl rfl LKA.out) (by assumption) ?_
      try simp only [Act.put, List.getElem_toArray, List.getElem_cons_succ, List.getElem_cons_zero, List.setIfInBounds_toArray, List.set_cons_zero, List.set_cons_succ]
      refine wpAnyH_ready (rs := [6]) (by kernel_rfl) (by simp) (AllReadyH.cons rfl (fun K hK => ?_) AllReadyH.nil)
      go_simp
      refine hK.out _ _ (below_alloc hHeld _) (fun hH => ?_)
      clear hHeld hK
      try simp only [Act.put, List.getElem_toArray, List.getElem_cons_succ, List.getElem_cons_zero, List.setIfInBounds_toArray, List.set_cons_zero, List.set_cons_succ]
      refine wpAnyH_ready (rs := [7]) (by kernel_rfl) (by simp) (AllReadyH.cons rfl (fun K hK => ?_) AllReadyH.nil)
      refine step_store_new rfl 37 (.tmp 6) (.tmp 30) rfl W.drew _ (plcells q).toArray rfl rfl rfl (sizepl q) (by simp [plcells_len]) (all_oneCell_toArray (plcells_one q)) ?_
      have B9 : Below W.heap.size W (W.drew.alloc (.cells (plcells q).toArray 37)) := below_alloc (below_drew (Below.refl _ _)) _
      refine hK.out _ _ B9 (fun hHeld => ?_)
      clear hH hK hHeld
      try simp only [Act.put, List.getElem_toArray, List.getElem_cons_succ, List.getElem_cons_zero, List.setIfInBounds_toArray, List.set_cons_zero, List.set_cons_succ]
      refine wpAnyH_done (by kernel_rfl) ?_ _
      have E9 : Hid ((W.drew.alloc (.cells (plcells q).toArray 37)).heap[W.heap.size]? = some (.cells (plcells q).toArray 37 (0, 0))) := Lib.hid (heap_at W.drew _)
      have BB := Lib.hid B9
      clear B9
      go_upto_region 9 with fail
      refine wp_named fun w9 hw9 => ?_
      have B9 : Below W.heap.size W w9 := by rw [hw9]; exact BB.out
      have E6 : w9.heap[W.heap.size]? = some (.cells (plcells q).toArray 37 (0, 0)) := by rw [hw9]; exact E9.out
      obtain ⟨Z, hZ⟩ : ∃ Z, Z = W.heap.size := ⟨_, rfl⟩
      rw [← hZ] at E6 ⊢
      have hyZ : y < Z := by rw [hZ]; exact WW.out.lt
      have hTZ : T < Z := by rw [hZ]; exact hTW
      have E7 := Lib.hid (aRegionKept E0.out B9)
      have E6' := Lib.hid E6
      have K9 := Lib.hid (KW.out.then (Nat.le_of_lt hy3) B9)
      have W9 := Lib.hid (WW.out.later B9)
      clear hw9 B9 E6 BB E9 LKA Y1 XW WW KW LL hZ
      have FX := fixed_any (c := 32) W9.out (zs := key.1) (id_rd K2.out E7.out) (by have := BLEN.out; have := K2.out; omega)
      rw [K2.out] at FX
      have FX1 := Lib.hid FX
      clear FX
      go_wp2_with fail
      refine FX1.out.mono ?_
      rintro e w10 ⟨rfl, hw10, k10⟩
      have E10 := Lib.hid (k10.old Z _ E6'.out rfl)
      have K10 := Lib.hid (K9.out.trans k10)
      obtain ⟨b10, hb10⟩ : ∃ b10, b10 = bs ++ key.1 := ⟨_, rfl⟩
      rw [← hb10] at hw10
      have W10 := Lib.hid hw10
      have BE10 := Lib.hid hb10
      have PK2 := Lib.hid q.pack.2
      have BL10 : Hid (b10.length ≤ 990032) := Lib.hid (by rw [hb10, List.length_append, K2.out]; have := BLEN.out; omega)
      clear hw10 k10 hb10 FX1 W9 E7 E6'
      have FX := fixed_any (c := 32) W10.out (zs := q.pack.1) (pl_rd E10.out) (by have := BL10.out; have := PK2.out; omega)
      rw [PK2.out] at FX
      have FX1 := Lib.hid FX
      clear FX
      go_wp2_with fail
      refine FX1.out.mono ?_
      rintro e w11 ⟨rfl, hw11, k11⟩
      have E11 := Lib.hid (k11.old Z _ E10.out rfl)
      have K11 := Lib.hid (K10.out.trans k11)
      obtain ⟨b11, hb11⟩ : ∃ b11, b11 = b10 ++ q.pack.1 := ⟨_, rfl⟩
      rw [← hb11] at hw11
      have W11 := Lib.hid hw11
      have BE11 := Lib.hid hb11
      have BL11 : Hid (b11.length ≤ 990064) := Lib.hid (by rw [hb11, List.length_append, PK2.out]; have := BL10.out; omega)
      have cn := pl_n E11.out
      rw [QN.out] at cn
      clear hw11 k11 hb11 FX1 W10 E10 K10
      have UW := Lib.hid (wuint_any (n := qn) W11.out (by omega) (by have := BL11.out; omega))
      go_wp2_with fail
      refine UW.out.mono ?_
      rintro e w12 ⟨rfl, hw12, k12⟩
      have W12 := Lib.hid hw12
      have K12 := Lib.hid (K11.out.trans k12)
      clear hw12 k12 UW cn
      go_wp2
      go_roundg (n - (j + 1))
      case measure => rw [HK.out]; omega
      case rel =>
        refine ⟨j + 1, by omega, rfl, by go_num, ?_, K12.out⟩
        have w12 := W12.out
        rw [BE11.out, BE10.out, BS.out] at w12
        rw [List.take_add_one, RA.out, List.flatMap_append]
        have e1 : (Option.toList (some (key, q))).flatMap entB = key.1 ++ (q.pack.1 ++ putU qn) := by
          have : q.n.toNat = qn := by rw [QN.out]; rfl
          simp [entB, this]
        rw [e1]
        simpa [List.append_assoc] using w12
    · obtain rfl : j = n := by omega
      have OA := Lib.hid (out_any W4.out (by have := BLEN.out; omega))
      go_wp2_with fail
      refine OA.out.mono ?_
      rintro e w9 ⟨v9, rfl, h9, b9⟩
      have H9 := Lib.hid h9
      have B9 := Lib.hid b9
      clear h9 b9 OA
      go_wp2
      go_ret
      have e1 : bs = putOf l := by
        rw [BS.out, List.take_of_length_le (by rw [RL.out, ← LN.out]; exact Nat.le_refl _), LN.out]
        rfl
      have h9 := H9.out
      rw [e1] at h9
      have bk := B3.out.trans (K4.out.below.mono hy1)
      exact ⟨v9, rfl, own_mono h9 bk.size, bk.trans (B9.out.mono bk.size)⟩
end Go.Proofs.Ytgbghjpkdbjdgaa
