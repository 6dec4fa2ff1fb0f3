/- The index: Get. -/
import Derived.Test.YtgbghjpkdbjdgaaDd19
namespace Go.Proofs.Ytgbghjpkdbjdgaa
open Go.RowKit Go.Lib
open Extern.Stop (cell)

theorem err_rd {w : World} {x : Nat} {zs : List UInt8} {er : Int} (h : Rdr w x zs er) :
    Calls Try.prog 27 #[.pointer (some ⟨x, 0, none⟩)] w fun e w' => e = .returned (.int .i64 er) ∧ w' = w := by
  obtain ⟨a, c, h, _, _⟩ := h
  exact err_any h
theorem end_rd {w : World} {x : Nat} {zs : List UInt8} {er : Int} (h : Rdr w x zs er) :
    Calls Try.prog 30 #[.pointer (some ⟨x, 0, none⟩)] w fun e w' => e = .returned (.int .i64 (endOf zs er)) ∧ w' = w := by
  obtain ⟨a, c, h, _, _⟩ := h
  exact end_any h
theorem Rdr.far {w w' : World} {x k : Nat} {zs : List UInt8} {er : Int} (h : Rdr w x zs er) (hg : w.grownBy w' (some k)) (hk : x < k) : Rdr w' x zs er := by
  have hlt := h.lt
  obtain ⟨a, c, h1, h2, h3⟩ := h
  refine ⟨a, c, ⟨(hg.block x hlt (fun e => by have := Option.some.inj e; omega)).trans h1.box, fun j z hj => ?_⟩, h2, h3⟩
  obtain ⟨b, off, e, q1, q2⟩ := h1.rd j z hj
  have q3 := h3 _ e
  have q4 : b < x := q3
  exact ⟨b, off, e, Nat.lt_of_lt_of_le q1 hg.size, cell_grown q2 hg (fun e => by have := Option.some.inj e; simp at this; omega)⟩
theorem IxIs.grown {w w' : World} {x M : Nat} {row : Option Nat} {l : List (Id32 × Pl)} (h : IxIs w x M l) (hg : w.grownBy w' row) (hx : row ≠ some x) (hM : row ≠ some M) : IxIs w' x M l :=
  ⟨(hg.block x (Array.getElem?_eq_some_iff.1 h.box).1 (fun e => hx e.symm)).trans h.box, h.map.of_block (hg.block M h.map.lt (fun e => hM e.symm))⟩
theorem step_store_mid {P : Program} {w : World} {ops : Array Oper} {o : Oper} {a : Act} {K : Act → World → Prop} {Q : Exit → Act → World → Prop} {E : Prop} (hg : o.guard = none) (ty : TypeId) (x y : Operand) (ho : o.op = .store ty x y)
    (b i : Nat) (cells : Array Value) (hx : a.eval x = .pointer (some ⟨b, i, none⟩)) (hy : a.eval y = .agg cells) (ht : w.there b i cells.size) (hi : (P.info? ty).map (·.size) = some cells.size) (h1 : cells.all (·.oneCell') = true)
    (h : K (a.put o.dst undef) (w.setCells b i cells.toList)) : if Region.wanted o (yielded ops a.tmps) = true then Oper.wp P o a w K Q else E := by
  have hw : Region.wanted o (yielded ops a.tmps) = true := by simp [Region.wanted, hg]
  rw [if_pos hw]
  exact wp_store_mid ty x y ho b i cells hx hy ht hi h1 h
theorem yieldsIf_build2 {P : Program} {ops : Array Oper} {S : World → Prop} {op : Oper} {a : Act} (hw : Region.wanted op (yielded ops a.tmps) = true) (t : TypeId) (parts : Array (Nat × Operand)) (ho : op.op = .build t parts) (l : List (Nat × Value)) (hp : (parts.map fun (i, x) => (i, a.eval x)).toList = l) (cells : Array Value) (hb : P.built t l = some cells) : YieldsIf P ops S op (.agg cells) a :=
  .inl ⟨hw, fun w _ => by
    unfold execOp
    simp only [ho, Sem.run_bind, run_build w t _ cells (by rw [hp]; exact hb), Result.andThen_ok, Sem.run_pure]⟩
theorem grow_below (w : World) (q : Nat) (os : Array Obj) : Below w.heap.size w (Sort.grow (w.drewN q) os) :=
  (below_drewN (Below.refl w.heap.size w) q).trans ⟨rfl, rfl, rfl, by simp [Sort.grow], fun k hk => Sort.heap_grow_old _ _ (by simpa using hk)⟩
theorem and_step {k : Nat} (h : k < 18446744073709551616) : bits .and .u64 (k : Int) 65535 = ((k % 65536 : Nat) : Int) := by
  have h1 := u64_and_nat k 65535 h (by decide)
  have h2 : k &&& 65535 = k % 65536 := Nat.and_two_pow_sub_one_eq_mod k 16
  rw [h2] at h1
  exact h1
set_option linter.unusedSimpArgs false in
set_option maxRecDepth 100000 in
set_option maxHeartbeats 8000000 in
theorem get_any {w : World} {a : Option Addr} {bs : List UInt8} {c : Nat} (h : BytesRd w a bs) (hs : bs.length ≤ 1000000) :
    Calls Try.prog 18 #[.slice a bs.length c] w fun e w' => ((getErr (getAll bs) ≠ 0 ∧ e = .returned (.tuple #[.pointer none, .int .i64 (getErr (getAll bs))])) ∨ (getErr (getAll bs) = 0 ∧ ∃ x M, e = .returned (.tuple #[.pointer (some ⟨x, 0, none⟩), .int .i64 0]) ∧ IxIs w' x M (getAll bs).m ∧ w.heap.size ≤ x ∧ w.heap.size ≤ M)) ∧ Below w.heap.size w w' := by
  have NR := Lib.hid (newreader_rd (c := c) h (by omega))
  obtain ⟨S, hS⟩ : ∃ S, S = getAll bs := ⟨_, rfl⟩
  rw [← hS]
  have SS := Lib.hid hS
  clear h hs hS
  go_enter Try.func18, Try.ntmps18
  go_wp2_with fail
  refine NR.out.mono ?_
  rintro e w1 ⟨y, rfl, r1, hy1, b1⟩
  have R1 := Lib.hid r1
  have B1 := Lib.hid b1
  have hy2 := r1.lt
  clear r1 b1 NR
  go_wp2_with fail
  refine (new_any _).mono ?_
  rintro e w2 ⟨x, M, rfl, x2, hx2, hM2, b2⟩
  have X2 := Lib.hid x2
  have R2 := Lib.hid (R1.out.later b2)
  have B2 := Lib.hid (B1.out.trans (b2.mono B1.out.size))
  have hxs : x < w2.heap.size := (Array.getElem?_eq_some_iff.1 x2.box).1
  have hMs : M < w2.heap.size := x2.map.lt
  have hxM := x2.ne
  have hM2' : w.heap.size ≤ M := Nat.le_trans B1.out.size hM2
  have hx2' : w.heap.size ≤ x := Nat.le_trans B1.out.size hx2
  clear x2 b2 R1 B1
  go_upto_region 4 with (first | (refine wpList_build_eq rfl 31 #[] rfl (encId zid).toArray (by kernel_rfl) ?_) | (refine wpList_store_new rfl 31 (.tmp 7) (.tmp 17) rfl _ (encId zid).toArray rfl rfl (sizei zid.1) (by simp [encId_len]) (all_oneCell_toArray (encId_one zid)) ?_))
  refine wp_named fun W hW => ?_
  obtain ⟨L, hL⟩ : ∃ L, L = w2.heap.size := ⟨_, rfl⟩
  rw [← hL]
  have eL : W.heap[L]? = some (.cells (encId zid).toArray 31 (0, 0)) := by rw [hW, hL]; exact heap_at _ _
  have b3 : Below w2.heap.size w2 W := by rw [hW]; exact below_alloc (Below.refl _ _) _
  rw [← hL] at hxs hMs
  have hyL : y < L := by omega
  have R3 := Lib.hid (R2.out.later b3)
  have X3 := Lib.hid (X2.out.later b3)
  have B3 := Lib.hid (B2.out.trans (b3.mono B2.out.size))
  have E3 := Lib.hid eL
  have hwL : w.heap.size ≤ L := by rw [hL]; exact B2.out.size
  clear hW hL eL b3 R2 X2 B2
  have UC := Lib.hid (ruint_any R3.out)
  obtain ⟨U, hU⟩ : ∃ U, U = uintOf bs 0 := ⟨_, rfl⟩
  rw [← hU] at UC
  have UL := uintOf_lt bs 0
  have UN := Lib.hid (uintOf_len bs 0)
  rw [← hU] at UL UN
  have S0 : Hid (getN U.1 (bs.length + 1) 0 ⟨true, zid, [], U.2.1, U.2.2⟩ = S) := Lib.hid (by rw [SS.out, hU]; rfl)
  obtain ⟨n, hn⟩ : ∃ n, n = U.1 := ⟨_, rfl⟩
  rw [← hn] at UC UL S0
  obtain ⟨ni, hni⟩ : ∃ ni : Int, ni = (n : Int) := ⟨_, rfl⟩
  rw [← hni] at UC
  have NI := Lib.hid hni
  clear hU hn hni
  go_wp2_with fail
  refine UC.out.mono ?_
  rintro e w4 ⟨rfl, r4, g4⟩
  have R4 := Lib.hid r4
  have X4 := Lib.hid (X3.out.grown g4 (fun e => by have := Option.some.inj e; omega) (fun e => by have := Option.some.inj e; omega))
  have E4 : Hid (w4.heap[L]? = some (.cells (encId zid).toArray 31 (0, 0))) := Lib.hid ((g4.block L (Array.getElem?_eq_some_iff.1 E3.out).1 (fun e => by have := Option.some.inj e; omega)).trans E3.out)
  have B4 := Lib.hid (B3.out.trans (below_grown g4 B3.out.size hy1))
  clear r4 g4 UC R3 X3 E3 B3 SS
  go_wp2_with fail
  go_loopg [6, 9] (bs.length + 1) (fun k s6 s9 wr => ∃ (i : Nat) (s : GS), s6 = .bool s.fine ∧ s9 = .int .u64 i ∧ (i = 0 ∨ i ≤ n) ∧ getN n k i s = S ∧ (s.er = 0 → s.zs.length < k) ∧ Rdr wr y s.zs s.er ∧ IxIs wr x M s.m ∧ wr.heap[L]? = some (.cells (encId s.last).toArray 31 (0, 0)) ∧ Below w.heap.size w wr)
  case atStart => exact ⟨0, ⟨true, zid, [], U.2.1, U.2.2⟩, rfl, rfl, Or.inl rfl, S0.out, fun _ => Nat.lt_succ_of_le UN.out, R4.out, X4.out, E4.out, B4.out⟩
  case round =>
    obtain ⟨i, s, rfl, rfl, hin, hS, hf, r5, x5, e5, b5⟩ := hrel
    have HS := Lib.hid hS
    have HF := Lib.hid hf
    have R5 := Lib.hid r5
    have X5 := Lib.hid x5
    have E5 := Lib.hid e5
    have B5 := Lib.hid b5
    have HIN := Lib.hid hin
    have UL2 := Lib.hid UL
    obtain ⟨ii, hii⟩ : ∃ ii : Int, ii = (i : Int) := ⟨_, rfl⟩
    rw [← hii]
    have II := Lib.hid hii
    obtain ⟨fb, hfb⟩ : ∃ fb, fb = s.fine := ⟨_, rfl⟩
    rw [← hfb]
    have FB := Lib.hid hfb
    obtain ⟨er, her⟩ : ∃ er, er = s.er := ⟨_, rfl⟩
    have ER := Lib.hid her
    have EC := Lib.hid (err_rd R5.out)
    rw [← her] at EC
    clear hS hf r5 x5 e5 b5 R4 X4 E4 B4 S0 hii hfb her hin UL UN
    by_cases hmain : i < n ∧ er = 0
    · obtain ⟨hin, he0⟩ := hmain
      have l1 : decide (ii < ni) = true := decide_eq_true (by have := II.out; have := NI.out; omega)
      subst he0
      have HIL := Lib.hid hin
      clear hin
      go_wp2_with fail
      refine EC.out.mono ?_
      rintro e w6 ⟨rfl, hw6⟩
      obtain rfl := hw6.symm
      clear EC hw6
      obtain ⟨f, hgk⟩ : ∃ f, gk = f + 1 := ⟨gk - 1, by have := HF.out ER.out.symm; omega⟩
      have GK := Lib.hid hgk
      have HS2 : Hid (getN n f (i + 1) (stepG i s) = S) := Lib.hid (by
        have := HS.out
        rw [hgk, getN, if_pos ⟨HIL.out, ER.out.symm⟩] at this
        exact this)
      have HF2 : Hid ((stepG i s).er = 0 → (stepG i s).zs.length < f) := Lib.hid (fun h => by
        have h1 := stepG_len h
        have h2 := HF.out ER.out.symm
        omega)
      obtain ⟨A, hA⟩ : ∃ A, A = idOf s.zs s.er := ⟨_, rfl⟩
      obtain ⟨Bv, hB⟩ : ∃ Bv, Bv = idOf A.2.1 A.2.2 := ⟨_, rfl⟩
      obtain ⟨K, hK⟩ : ∃ K, K = uintOf Bv.2.1 Bv.2.2 := ⟨_, rfl⟩
      have KL : K.1 < 18446744073709551616 := by rw [hK]; exact uintOf_lt _ _
      have SG : Hid (stepG i s = ⟨s.fine && !(decide (0 < i) && decide (0 ≤ compareBytes s.last.1 A.1.1) || decide (1023 < K.1)), A.1, aput s.m A.1 ⟨Bv.1, (K.1 % 65536 : Nat)⟩, K.2.1, K.2.2⟩) := Lib.hid (by rw [hK, hB, hA]; rfl)
      have C1 := Lib.hid (rid_any R5.out)
      rw [← hA] at C1
      have HB := Lib.hid hB
      have HK := Lib.hid hK
      clear hA hB hK hgk HS HF
      go_wp2_with fail
      refine C1.out.mono ?_
      rintro e w6 ⟨rfl, r6, g6⟩
      have X6 := Lib.hid (X5.out.grown g6 (fun e => by have := Option.some.inj e; omega) (fun e => by have := Option.some.inj e; omega))
      have E6 : Hid (w6.heap[L]? = some (.cells (encId s.last).toArray 31 (0, 0))) := Lib.hid ((g6.block L (Array.getElem?_eq_some_iff.1 E5.out).1 (fun e => by have := Option.some.inj e; omega)).trans E5.out)
      have B6 := Lib.hid (B5.out.trans (below_grown g6 B5.out.size hy1))
      have C2 := Lib.hid (rid_any r6)
      rw [← HB.out] at C2
      clear r6 g6 C1 R5 X5 E5 B5
      go_wp2_with fail
      refine C2.out.mono ?_
      rintro e w7 ⟨rfl, r7, g7⟩
      have X7 := Lib.hid (X6.out.grown g7 (fun e => by have := Option.some.inj e; omega) (fun e => by have := Option.some.inj e; omega))
      have E7 : Hid (w7.heap[L]? = some (.cells (encId s.last).toArray 31 (0, 0))) := Lib.hid ((g7.block L (Array.getElem?_eq_some_iff.1 E6.out).1 (fun e => by have := Option.some.inj e; omega)).trans E6.out)
      have B7 := Lib.hid (B6.out.trans (below_grown g7 B6.out.size hy1))
      have C3 := Lib.hid (ruint_any r7)
      rw [← HK.out] at C3
      obtain ⟨ki, hki⟩ : ∃ ki : Int, ki = (K.1 : Int) := ⟨_, rfl⟩
      rw [← hki] at C3
      have KI := Lib.hid hki
      have AND : bits .and .u64 ki 65535 = ((K.1 % 65536 : Nat) : Int) := by rw [hki]; exact and_step KL
      obtain ⟨km, hkm⟩ : ∃ km, km = K.1 % 65536 := ⟨_, rfl⟩
      rw [← hkm] at AND SG
      have km0 : (0 : Int) ≤ (km : Int) := Int.natCast_nonneg _
      have km1 : (km : Int) ≤ 65535 := by omega
      have WK : IntKind.i64.wrap (km : Int) = (km : Int) := by rw [IntKind.wrap_i64]; omega
      clear r7 g7 C2 X6 E6 B6 hki hkm
      go_wp2_with fail
      refine C3.out.mono ?_
      rintro e w8 ⟨rfl, r8, g8⟩
      have X8 := Lib.hid (X7.out.grown g8 (fun e => by have := Option.some.inj e; omega) (fun e => by have := Option.some.inj e; omega))
      have E8 : Hid (w8.heap[L]? = some (.cells (encId s.last).toArray 31 (0, 0))) := Lib.hid ((g8.block L (Array.getElem?_eq_some_iff.1 E7.out).1 (fun e => by have := Option.some.inj e; omega)).trans E7.out)
      have B8 := Lib.hid (B7.out.trans (below_grown g8 B7.out.size hy1))
      have R8 := Lib.hid r8
      clear r8 g8 C3 X7 E7 B7
      go_upto_region 9 with (first | (refine wpList_store_two rfl 31 (.tmp 10) (.tmp 31) rfl w8 _ (encId A.1).toArray _ rfl rfl rfl (sizei A.1.1) (by simp [encId_len]) (all_oneCell_toArray (encId_one A.1)) ?_) | (refine wpList_store_new rfl 31 (.tmp 11) (.tmp 33) rfl _ (encId Bv.1).toArray (by rw [World.size_alloc]; rfl) rfl (sizei Bv.1.1) (by simp [encId_len]) (all_oneCell_toArray (encId_one Bv.1)) ?_))
      refine wp_named fun wn hwn => ?_
      obtain ⟨P, hP⟩ : ∃ P, P = w8.heap.size := ⟨_, rfl⟩
      rw [← hP]
      have e10 : wn.heap[P]? = some (.cells (encId A.1).toArray 31 (0, 0)) := by rw [hwn, hP]; exact heap_one w8 _ _
      have e11 : wn.heap[P + 1]? = some (.cells (encId Bv.1).toArray 31 (0, 0)) := by rw [hwn, hP]; exact heap_two w8 _ _
      have bn : Below w8.heap.size w8 wn := by rw [hwn]; exact below_alloc (below_alloc (Below.refl _ _) _) _
      have hLP : L < P := by rw [hP]; exact (Array.getElem?_eq_some_iff.1 E8.out).1
      have Xn := Lib.hid (X8.out.later bn)
      have En := Lib.hid (aRegionKept E8.out bn)
      have Bn := Lib.hid (B8.out.trans (bn.mono B8.out.size))
      have Rn := Lib.hid (R8.out.later bn)
      have E10 := Lib.hid e10
      have E11 := Lib.hid e11
      have LA := Lib.hid (lies_block e10)
      have LL := Lib.hid (lies_block En.out)
      obtain ⟨rc, hrc⟩ : ∃ rc, rc = compareBytes s.last.1 A.1.1 := ⟨_, rfl⟩
      have RI := Lib.hid (rising_any (w := wn) s.last.2 A.1.2)
      rw [← hrc] at RI SG
      obtain ⟨bad, hbad⟩ : ∃ bad, bad = (decide (0 < i) && decide (0 ≤ rc) || decide (1023 < K.1)) := ⟨_, rfl⟩
      rw [← hbad] at SG
      have gd : (decide (0 < ii) = false ∧ decide (1023 < ki) = true ∧ bad = true) ∨ (decide (0 < ii) = false ∧ decide (1023 < ki) = false ∧ bad = false) ∨ (decide (0 < ii) = true ∧ decide (0 ≤ rc) = true ∧ bad = true) ∨ (decide (0 < ii) = true ∧ decide (0 ≤ rc) = false ∧ decide (1023 < ki) = true ∧ bad = true) ∨ (decide (0 < ii) = true ∧ decide (0 ≤ rc) = false ∧ decide (1023 < ki) = false ∧ bad = false) := by
        have h1 := II.out
        have h2 := KI.out
        have q1 : decide (0 < i) = decide (0 < ii) := by rw [h1]; simp
        have q2 : decide (1023 < K.1) = decide (1023 < ki) := by
          rw [h2]
          exact decide_eq_decide.2 (by omega)
        rw [hbad, q1, q2]
        cases decide (0 < ii) <;> cases decide (0 ≤ rc) <;> cases decide (1023 < ki) <;> simp
      clear hwn hP e10 e11 bn X8 E8 B8 R8 hrc hbad l1 KL
      have RI2 : Hid (Calls Try.prog 29 #[keyI s.last, keyI A.1] wn fun e w' => e = .returned (.int .i64 rc) ∧ Below wn.heap.size wn w') := by
        refine Lib.hid (RI.out.mono ?_)
        rintro e w' ⟨rfl, q, os, rfl⟩
        exact ⟨rfl, grow_below _ _ _⟩
      have D3 : Hid ((stepG i s).fine = (fb && !bad)) := Lib.hid (by rw [SG.out, FB.out])
      have Kk := Lib.hid (keyI_ok A.1)
      clear RI
      have hstart : True := trivial
      rcases gd with ⟨d1, d2, d3⟩ | ⟨d1, d2, d3⟩ | ⟨d1, d2, d3⟩ | ⟨d1, d2, d4, d3⟩ | ⟨d1, d2, d4, d3⟩
      case' inl =>
        clear hstart
        subst d3
        clear RI2
        go_upto_region 11 with fail
        refine wp_named fun w9 hw9 => ?_
        have B9 : Below wn.heap.size wn w9 := by rw [hw9]; exact Below.refl _ _
        clear hw9 d1 d2
      case' inr.inl =>
        clear hstart
        subst d3
        clear RI2
        go_upto_region 11 with fail
        refine wp_named fun w9 hw9 => ?_
        have B9 : Below wn.heap.size wn w9 := by rw [hw9]; exact Below.refl _ _
        clear hw9 d1 d2
      case' inr.inr.inl =>
        clear hstart
        subst d3
        go_upto_region 11 with (first | (refine wpList_load_if (by kernel_rfl) 31 (.tmp 7) rfl L 0 rfl (encId s.last).toArray _ LL.out Try.underlying31 rfl (sizei s.last.1) ?_) | (refine wpList_load_if (by kernel_rfl) 31 (.tmp 10) rfl P 0 rfl (encId A.1).toArray _ LA.out Try.underlying31 rfl (sizei A.1.1) ?_) | (go_at_call 29; refine RI2.out.mono ?_; rintro e w8' ⟨rfl, b8'⟩; have X8' := Lib.hid b8'; clear b8'))
        refine wp_named fun w9 hw9 => ?_
        have B9 : Below wn.heap.size wn w9 := by rw [hw9]; exact X8'.out
        clear hw9 d1 d2
      case' inr.inr.inr.inl =>
        clear hstart
        subst d3
        go_upto_region 11 with (first | (refine wpList_load_if (by kernel_rfl) 31 (.tmp 7) rfl L 0 rfl (encId s.last).toArray _ LL.out Try.underlying31 rfl (sizei s.last.1) ?_) | (refine wpList_load_if (by kernel_rfl) 31 (.tmp 10) rfl P 0 rfl (encId A.1).toArray _ LA.out Try.underlying31 rfl (sizei A.1.1) ?_) | (go_at_call 29; refine RI2.out.mono ?_; rintro e w8' ⟨rfl, b8'⟩; have X8' := Lib.hid b8'; clear b8'))
        refine wp_named fun w9 hw9 => ?_
        have B9 : Below wn.heap.size wn w9 := by rw [hw9]; exact X8'.out
        clear hw9 d1 d2 d4
      case' inr.inr.inr.inr =>
        clear hstart
        subst d3
        go_upto_region 11 with (first | (refine wpList_load_if (by kernel_rfl) 31 (.tmp 7) rfl L 0 rfl (encId s.last).toArray _ LL.out Try.underlying31 rfl (sizei s.last.1) ?_) | (refine wpList_load_if (by kernel_rfl) 31 (.tmp 10) rfl P 0 rfl (encId A.1).toArray _ LA.out Try.underlying31 rfl (sizei A.1.1) ?_) | (go_at_call 29; refine RI2.out.mono ?_; rintro e w8' ⟨rfl, b8'⟩; have X8' := Lib.hid b8'; clear b8'))
        refine wp_named fun w9 hw9 => ?_
        have B9 : Below wn.heap.size wn w9 := by rw [hw9]; exact X8'.out
        clear hw9 d1 d2 d4
      all_goals
        have E10' := Lib.hid (aRegionKept E10.out B9)
        have E11' := Lib.hid (aRegionKept E11.out B9)
        have E9 := Lib.hid (aRegionKept En.out B9)
        have R9 := Lib.hid (Rn.out.later B9)
        have X9 := Lib.hid (Xn.out.later B9)
        have BB := Lib.hid (Bn.out.trans (B9.mono Bn.out.size))
        have Y9 := Lib.hid (blk1 X9.out.box).1
        have LA9 := Lib.hid (lies_range (lies_block E10'.out))
        have LB9 := Lib.hid (lies_range (lies_block E11'.out))
        clear B9 E10 E11 En Rn Xn Bn LA LL
        obtain ⟨kl, hkl⟩ := Kk.out
        obtain ⟨born, w10, hrun, hE3, hg3, hs3⟩ := (show IdMap plv w9.drew M s.m from X9.out.map.drew).entry keyed_id keyI_inj Try.underlying64 (zero_pl _) hkl
        obtain ⟨w11, hst, hM4, hg4, hs4⟩ := hE3.store 64 ⟨Bv.1, (km : Int)⟩
        rw [aput_same] at hM4
        have HR := Lib.hid hrun
        have HT := Lib.hid hst
        have M4 := Lib.hid hM4
        have g34 : w9.drew.grownBy w11 (some M) := grown_trans hg3 hg4
        have G34 := Lib.hid g34
        have SA : Hid (w10.cell? ⟨x, 0, none⟩ = some (.map (some M)) ∧ w10.rangeAt P 0 (encId A.1) ∧ w10.rangeAt (P + 1) 0 (encId Bv.1)) := Lib.hid ⟨cell_grown (w := w9.drew) Y9.out hg3 (fun e => by have := Option.some.inj e; simp at this; omega), rangeAt_grown (w := w9.drew) LA9.out hg3 (fun e => by have := Option.some.inj e; omega), rangeAt_grown (w := w9.drew) LB9.out hg3 (fun e => by have := Option.some.inj e; omega)⟩
        have SB : Hid (w11.cell? ⟨x, 0, none⟩ = some (.map (some M)) ∧ w11.rangeAt P 0 (encId A.1) ∧ w11.rangeAt (P + 1) 0 (encId Bv.1)) := Lib.hid ⟨cell_grown SA.out.1 hg4 (fun e => by have := Option.some.inj e; simp at this; omega), rangeAt_grown SA.out.2.1 hg4 (fun e => by have := Option.some.inj e; omega), rangeAt_grown SA.out.2.2 hg4 (fun e => by have := Option.some.inj e; omega)⟩
        have E11b : Hid (w11.heap[L]? = some (.cells (encId s.last).toArray 31 (0, 0))) := Lib.hid ((g34.block L (show L < w9.drew.heap.size from (Array.getElem?_eq_some_iff.1 E9.out).1) (fun e => by have := Option.some.inj e; omega)).trans E9.out)
        have hsz : (encId A.1).toArray.size = (encId s.last).toArray.size := by simp [encId_len]
        have g5 := grown_setCells (w := w11) (vs := (encId A.1).toArray.toList) (i := 0) E11b.out (by simp [encId_len])
        have SC : Hid ((w11.setCells L 0 (encId A.1).toArray.toList).cell? ⟨x, 0, none⟩ = some (.map (some M)) ∧ (w11.setCells L 0 (encId A.1).toArray.toList).rangeAt P 0 (encId A.1) ∧ (w11.setCells L 0 (encId A.1).toArray.toList).rangeAt (P + 1) 0 (encId Bv.1)) := Lib.hid ⟨cell_grown SB.out.1 g5 (fun e => by have := Option.some.inj e; simp at this; omega), rangeAt_grown SB.out.2.1 g5 (fun e => by have := Option.some.inj e; omega), rangeAt_grown SB.out.2.2 g5 (fun e => by have := Option.some.inj e; omega)⟩
        have K3 : Hid ((w11.setCells L 0 (encId A.1).toArray.toList).heap[L]? = some (.cells (encId A.1).toArray 31 (0, 0))) := Lib.hid (heap_setCells_whole (w := w11) (D := (encId A.1).toArray) E11b.out hsz)
        have TH := Lib.hid (there_block (w := w11) E11b.out (i := 0) (n := 32) (by simp [encId_len]))
        have B12 := Lib.hid ((below_drew BB.out).trans ((below_grown g34 BB.out.size hM2').trans (below_grown g5 (Nat.le_trans BB.out.size g34.size) hwL)))
        have R12 := Lib.hid (((R9.out.later (below_drew (Below.refl _ _))).far g34 (by omega)).far g5 hyL)
        have X12 : Hid (IxIs (w11.setCells L 0 (encId A.1).toArray.toList) x M (aput s.m A.1 ⟨Bv.1, (km : Int)⟩)) := Lib.hid (IxIs.grown ⟨(g34.block x (show x < w9.drew.heap.size from (Array.getElem?_eq_some_iff.1 X9.out.box).1) (fun e => by have := Option.some.inj e; omega)).trans X9.out.box, M4.out⟩ g5 (fun e => by have := Option.some.inj e; omega) (fun e => by have := Option.some.inj e; omega))
        clear hrun hst hM4 hg3 hs3 hg4 hs4 hE3 hkl g34 g5 hsz BB R9 X9 E10' E11'
        obtain ⟨wz, hwz⟩ : ∃ wz, wz = w11.setCells L 0 (encId A.1).toArray.toList := ⟨_, rfl⟩
        rw [← hwz] at SC K3 B12 R12 X12
        have WZ := Lib.hid hwz
        clear hwz
        refine wp_region_held_drew (S := fun w' => w'.cell? ⟨x, 0, none⟩ = some (.map (some M)) ∧ w'.rangeAt P 0 (encId A.1) ∧ w'.rangeAt (P + 1) 0 (encId Bv.1)) (by kernel_rfl) ⟨(show w9.drew.cell? _ = _ from Y9.out), (show w9.drew.rangeAt _ _ _ from LA9.out), (show w9.drew.rangeAt _ _ _ from LB9.out)⟩ (fun hHeld => ?_)
        refine wpAnyH_take (i := 0) (v := ?_) rfl (by kernel_rfl) (by kernel_rfl) (by kernel_rfl) (fun _ _ _ h => h) (Or.inl ⟨by kernel_rfl, ?_⟩) (by assumption) ?_
        rotate_left
        · (intro w hSw; (have q9 := hSw.1; go_simp; try with_reducible rfl))
        try simp only [Act.put, List.getElem_toArray, List.getElem_cons_succ, List.getElem_cons_zero, List.setIfInBounds_toArray, List.set_cons_zero, List.set_cons_succ]
        refine wpAnyH_take (i := 1) (v := ?_) rfl (by kernel_rfl) (by kernel_rfl) (by kernel_rfl) (fun _ _ _ h => h) (Or.inl ⟨by kernel_rfl, ?_⟩) (by assumption) ?_
        rotate_left
        · (intro w hSw; (have q9 := hSw.1; go_simp; try with_reducible rfl))
        try simp only [Act.put, List.getElem_toArray, List.getElem_cons_succ, List.getElem_cons_zero, List.setIfInBounds_toArray, List.set_cons_zero, List.set_cons_succ]
        refine wpAnyH_take (i := 2) (v := ?_) rfl (by kernel_rfl) (by kernel_rfl) (by kernel_rfl) (fun _ _ _ h => h) (Or.inl ⟨by kernel_rfl, ?_⟩) (by assumption) ?_
        rotate_left
        · (intro w hSw; (have q9 := hSw.1; go_simp; try with_reducible rfl))
        try simp only [Act.put, List.getElem_toArray, List.getElem_cons_succ, List.getElem_cons_zero, List.setIfInBounds_toArray, List.set_cons_zero, List.set_cons_succ]
        refine wpAnyH_take (i := 3) (v := ?_) rfl (by kernel_rfl) (by kernel_rfl) (by kernel_rfl) (fun _ _ _ h => h) (Or.inl ⟨by kernel_rfl, ?_⟩) (by assumption) ?_
        rotate_left
        · (intro w hSw; (have q9 := hSw.1; go_simp; try with_reducible rfl))
        try simp only [Act.put, List.getElem_toArray, List.getElem_cons_succ, List.getElem_cons_zero, List.setIfInBounds_toArray, List.set_cons_zero, List.set_cons_succ]
        refine' wpAnyH_take (i := 4) (v := _) rfl (by kernel_rfl) (by kernel_rfl) (by kernel_rfl) (fun _ _ _ h => h) (yieldsIf_load_mid (by kernel_rfl) _ _ rfl _ _ rfl (encId A.1) _ ?hS4 Try.underlying31 rfl (by rw [size_id, encId_len])) (by assumption) ?rest4
        case hS4 => exact fun w' hw => hw.2.1
        case rest4 =>
        try simp only [Act.put, List.getElem_toArray, List.getElem_cons_succ, List.getElem_cons_zero, List.setIfInBounds_toArray, List.set_cons_zero, List.set_cons_succ]
        refine' wpAnyH_take (i := 5) (v := _) rfl (by kernel_rfl) (by kernel_rfl) (by kernel_rfl) (fun _ _ _ h => h) (yieldsIf_load_mid (by kernel_rfl) _ _ rfl _ _ rfl (encId Bv.1) _ ?hS5 Try.underlying31 rfl (by rw [size_id, encId_len])) (by assumption) ?rest5
        case hS5 => exact fun w' hw => hw.2.2
        case rest5 =>
        try simp only [Act.put, List.getElem_toArray, List.getElem_cons_succ, List.getElem_cons_zero, List.setIfInBounds_toArray, List.set_cons_zero, List.set_cons_succ]
        refine wpAnyH_take (i := 6) (v := ?_) rfl (by kernel_rfl) (by kernel_rfl) (by kernel_rfl) (fun _ _ _ h => h) (Or.inl ⟨by kernel_rfl, ?_⟩) (by assumption) ?_
        rotate_left
        · (intro w hSw; (go_simp; try with_reducible rfl))
        try simp only [Act.put, List.getElem_toArray, List.getElem_cons_succ, List.getElem_cons_zero, List.setIfInBounds_toArray, List.set_cons_zero, List.set_cons_succ]
        refine wpAnyH_take (i := 7) (v := ?_) rfl (by kernel_rfl) (by kernel_rfl) (by kernel_rfl) (fun _ _ _ h => h) (Or.inl ⟨by kernel_rfl, ?_⟩) (by assumption) ?_
        rotate_left
        · (intro w hSw; (go_simp; try with_reducible rfl))
        try simp only [Act.put, List.getElem_toArray, List.getElem_cons_succ, List.getElem_cons_zero, List.setIfInBounds_toArray, List.set_cons_zero, List.set_cons_succ]
        refine wpAnyH_take (i := 8) (v := ?_) rfl (by kernel_rfl) (by kernel_rfl) (by kernel_rfl) (fun _ _ _ h => h) (Or.inl ⟨by kernel_rfl, ?_⟩) (by assumption) ?_
        rotate_left
        · (intro w hSw; (go_simp; try with_reducible rfl))
        try simp only [Act.put, List.getElem_toArray, List.getElem_cons_succ, List.getElem_cons_zero, List.setIfInBounds_toArray, List.set_cons_zero, List.set_cons_succ]
        refine' wpAnyH_take (i := 9) (v := _) rfl (by kernel_rfl) (by kernel_rfl) (by kernel_rfl) (fun _ _ _ h => h) (yieldsIf_build2 (by kernel_rfl) 37 _ rfl [(0, .agg (encId Bv.1).toArray), (1, .int .i64 (km : Int))] (by kernel_rfl) (plcells ⟨Bv.1, (km : Int)⟩).toArray (built_pl Bv.1 km)) (by assumption) ?_
        try simp only [Act.put, List.getElem_toArray, List.getElem_cons_succ, List.getElem_cons_zero, List.setIfInBounds_toArray, List.set_cons_zero, List.set_cons_succ]
        refine' wpAnyH_take (i := 10) (v := _) rfl (by kernel_rfl) (by kernel_rfl) (by kernel_rfl) (fun _ _ _ h => h) (yieldsIf_load_mid (by kernel_rfl) _ _ rfl _ _ rfl (encId A.1) _ ?hS10 Try.underlying31 rfl (by rw [size_id, encId_len])) (by assumption) ?rest10
        case hS10 => exact fun w' hw => hw.2.1
        case rest10 =>
        try simp only [Act.put, List.getElem_toArray, List.getElem_cons_succ, List.getElem_cons_zero, List.setIfInBounds_toArray, List.set_cons_zero, List.set_cons_succ]
        refine wpAnyH_ready (rs := [11]) (by kernel_rfl) (by simp) (AllReadyH.cons rfl (fun K1 hK1 => ?_) AllReadyH.nil)
        refine step_mapEntry rfl 64 (.tmp 51) (.tmp 52) rfl (.map (some M)) (keyI A.1) _ w10 rfl rfl HR.out ?_
        refine hK1.out _ _ SA.out (fun hH => ?_)
        clear hHeld hK1
        try simp only [Act.put, List.getElem_toArray, List.getElem_cons_succ, List.getElem_cons_zero, List.setIfInBounds_toArray, List.set_cons_zero, List.set_cons_succ]
        refine wpAnyH_take (i := 12) (v := ?_) rfl (by kernel_rfl) (by kernel_rfl) (by kernel_rfl) (fun _ _ _ h => h) (Or.inl ⟨by kernel_rfl, ?_⟩) (by assumption) ?_
        rotate_left
        · (intro w hSw; (go_simp; try with_reducible rfl))
        try simp only [Act.put, List.getElem_toArray, List.getElem_cons_succ, List.getElem_cons_zero, List.setIfInBounds_toArray, List.set_cons_zero, List.set_cons_succ]
        refine wpAnyH_ready (rs := [13]) (by kernel_rfl) (by simp) (AllReadyH.cons rfl (fun K1 hK1 => ?_) AllReadyH.nil)
        refine step_entryStore rfl 64 (.tmp 51) (.tmp 60) (.tmp 57) rfl (.map (some M)) (goInt born) (plv ⟨Bv.1, (km : Int)⟩) w11 rfl rfl rfl HT.out ?_
        refine hK1.out _ _ SB.out (fun hHeld => ?_)
        clear hH hK1
        try simp only [Act.put, List.getElem_toArray, List.getElem_cons_succ, List.getElem_cons_zero, List.setIfInBounds_toArray, List.set_cons_zero, List.set_cons_succ]
        refine wpAnyH_ready (rs := [14]) (by kernel_rfl) (by simp) (AllReadyH.cons rfl (fun K1 hK1 => ?_) AllReadyH.nil)
        refine step_store_mid rfl 31 (.tmp 7) (.tmp 58) rfl L 0 (encId A.1).toArray rfl rfl (by simpa [encId_len] using TH.out) (sizei A.1.1) (all_oneCell_toArray (encId_one A.1)) ?_
        rw [← WZ.out]
        refine hK1.out _ _ SC.out (fun hH => ?_)
        clear hHeld hK1 hH
        try simp only [Act.put, List.getElem_toArray, List.getElem_cons_succ, List.getElem_cons_zero, List.setIfInBounds_toArray, List.set_cons_zero, List.set_cons_succ]
        refine wpAnyH_done (by kernel_rfl) ?_ _
        go_wp2
        go_roundg f
        case measure => rw [GK.out]; exact Nat.lt_succ_self f
        case rel =>
          refine ⟨i + 1, stepG i s, ?_, ?_, Or.inr HIL.out, HS2.out, HF2.out, ?_, ?_, ?_, B12.out⟩
          · rw [D3.out]; simp
          · have h1 := HIL.out
            have h2 := UL2.out
            have h3 : IntKind.u64.wrap ((i : Int) + 1) = ((i + 1 : Nat) : Int) := u64_small (n := i + 1) (by omega)
            rw [II.out, h3]
          · rw [SG.out]; exact R12.out
          · rw [SG.out]; exact X12.out
          · rw [SG.out]; exact K3.out
    · have SE : Hid (S = s) := Lib.hid (by
        have h := HS.out
        cases gk with
        | zero => exact h.symm
        | succ f =>
          rw [getN, if_neg (fun hh => hmain ⟨hh.1, by rw [ER.out]; exact hh.2⟩)] at h
          exact h.symm)
      have EN := Lib.hid (end_rd R5.out)
      obtain ⟨E, hE⟩ : ∃ E, E = endOf s.zs s.er := ⟨_, rfl⟩
      have GE : Hid (getErr S = if E = 0 then (if fb then 0 else 11) else E) := Lib.hid (by
        rw [SE.out, hE, FB.out]
        rfl)
      rw [← hE] at EN
      clear hE
      by_cases hin : i < n
      · have he : er ≠ 0 := fun e => hmain ⟨hin, e⟩
        have l1 : decide (ii < ni) = true := decide_eq_true (by have := II.out; have := NI.out; omega)
        have l2 : (er == 0) = false := by simpa using he
        clear hmain hin he
        go_wp2_with fail
        refine EC.out.mono ?_
        rintro e w6 ⟨rfl, hw6⟩
        obtain rfl := hw6.symm
        clear EC hw6
        go_wp2_with fail
        refine EN.out.mono ?_
        rintro e w7 ⟨rfl, hw7⟩
        obtain rfl := hw7.symm
        clear EN hw7
        by_cases hE : E = 0
        · subst hE
          cases fb
          · go_wp2
            go_ret2
            have ge : getErr S = 11 := by simpa using GE.out
            refine ⟨Or.inl ⟨by rw [ge]; decide, by rw [ge]; rfl⟩, B5.out⟩
          · go_wp2
            go_ret2
            have ge : getErr S = 0 := by simpa using GE.out
            refine ⟨Or.inr ⟨ge, x, M, rfl, ?_, hx2', hM2'⟩, B5.out⟩
            rw [SE.out]
            exact X5.out
        · have hE1 : (E == 0) = false := by simpa using hE
          have HE := Lib.hid hE
          clear hE
          go_wp2
          go_ret2
          have ge : getErr S = E := by simpa [HE.out] using GE.out
          exact ⟨Or.inl ⟨by rw [ge]; exact HE.out, by rw [ge]; rfl⟩, B5.out⟩
      · have l1 : decide (ii < ni) = false := decide_eq_false (by have := II.out; have := NI.out; omega)
        clear hmain hin EC
        go_wp2_with fail
        refine EN.out.mono ?_
        rintro e w7 ⟨rfl, hw7⟩
        obtain rfl := hw7.symm
        clear EN hw7
        by_cases hE : E = 0
        · subst hE
          cases fb
          · go_wp2
            go_ret2
            have ge : getErr S = 11 := by simpa using GE.out
            refine ⟨Or.inl ⟨by rw [ge]; decide, by rw [ge]; rfl⟩, B5.out⟩
          · go_wp2
            go_ret2
            have ge : getErr S = 0 := by simpa using GE.out
            refine ⟨Or.inr ⟨ge, x, M, rfl, ?_, hx2', hM2'⟩, B5.out⟩
            rw [SE.out]
            exact X5.out
        · have hE1 : (E == 0) = false := by simpa using hE
          have HE := Lib.hid hE
          clear hE
          go_wp2
          go_ret2
          have ge : getErr S = E := by simpa [HE.out] using GE.out
          exact ⟨Or.inl ⟨by rw [ge]; exact HE.out, by rw [ge]; rfl⟩, B5.out⟩
end Go.Proofs.Ytgbghjpkdbjdgaa
