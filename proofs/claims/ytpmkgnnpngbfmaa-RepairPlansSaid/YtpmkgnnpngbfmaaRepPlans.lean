/- RepairPlans, walked: it answers yes, and changes nothing that was there. -/
import Derived.Test.YtpmkgnnpngbfmaaRq7
namespace Go.Proofs.Ytpmkgnnpngbfmaa
open Go.ChangeShapes Go.WideShapes Go.ChangeAt Go.RowKit
open Extern.Stop (cell)

/-- A pack that came in; where it has no holders' place it has no room. -/
structure PkCame (w : World) (p : Pk) : Prop extends PkRaw w p where
  nil : p.ad = none → p.cap = 0
theorem PkCame.ok {w : World} {p : Pk} (h : PkCame w p) (hf : p.hs.length ≤ 1000) : PkOk w p := ⟨h.id, h.rd, hf, h.wf⟩
theorem rz_pk2 {w : World} {cs : List Value} (h : RZ Try.prog w 46 cs) : ∃ p : Pk, cs = pcells p ∧ PkCame w p := by
  obtain ⟨hl, hf⟩ := h.struct Try.underlying46
  rw [cells_pk] at hl
  have h0 : RZ Try.prog w 37 ((cs.drop 0).take (Try.prog.cellsOf 37)) := hf 0 _ rfl
  rw [cells_id] at h0
  have h1 : RZ Try.prog w 43 ((cs.drop 32).take (Try.prog.cellsOf 43)) := hf 1 _ rfl
  rw [cells_u64] at h1
  have h2 : RZ Try.prog w 44 ((cs.drop 33).take (Try.prog.cellsOf 44)) := hf 2 _ rfl
  rw [cells_ints] at h2
  obtain ⟨id, hid, e0⟩ := rz_id h0
  obtain ⟨s, e1, hs⟩ := h1.int Try.underlying43
  obtain ⟨ad, zs, cap, e2, hr, hw, hle, _, hb, hnil⟩ := h2.ints Try.underlying44 Try.underlying3 cells_int
  rw [bytes_int] at hb
  refine ⟨⟨id, s, zs, ad, cap⟩, ?_, ⟨hid, rd_ints hr, ?_, hw, u64_in hs⟩, hnil⟩
  · rw [three_parts hl, e0, e1, e2]
    simp [pcells]
  · exact Nat.le_trans (Nat.mul_le_mul_right 8 hle) hb
/-- A partner's room that came in. -/
structure FrCame (x : Int × Int) : Prop where
  who : (Lit.int .i64 x.1).wf = true
  left : 0 ≤ x.2 ∧ x.2 ≤ 18446744073709551615
theorem rz_fr {w : World} {cs : List Value} (h : RZ Try.prog w 51 cs) : ∃ x : Int × Int, cs = fcells x ∧ FrCame x := by
  obtain ⟨hl, hf⟩ := h.struct Try.underlying51
  rw [cells_fr] at hl
  have h0 : RZ Try.prog w 3 ((cs.drop 0).take (Try.prog.cellsOf 3)) := hf 0 _ rfl
  rw [cells_int] at h0
  have h1 : RZ Try.prog w 43 ((cs.drop 1).take (Try.prog.cellsOf 43)) := hf 1 _ rfl
  rw [cells_u64] at h1
  obtain ⟨a, e0, ha⟩ := h0.int Try.underlying3
  obtain ⟨s, e1, hs⟩ := h1.int Try.underlying43
  refine ⟨(a, s), ?_, ha, u64_in hs⟩
  have : cs = (cs.drop 0).take 1 ++ (cs.drop 1).take 1 := by
    rw [List.drop_zero, List.take_of_length_le (l := cs.drop 1) (by simp; omega), List.take_append_drop]
  rw [this, e0, e1]
  rfl
theorem mv_plan {k : Int} {f : List (Int × Int)} {l : List Pk} {W : World} (hraw : ∀ p ∈ l, PkCame W p) (hfo : LeftOk f) : ∀ x ∈ (planOf k (frees f) (isort keyOfPk l)).2, MvOk x :=
  (planOf_ok (fun p hp => (hraw p ((isort_perm keyOfPk l).mem_iff.1 hp)).id) hfo.frees (fun p hp => (hraw p ((isort_perm keyOfPk l).mem_iff.1 hp)).size.1)).2
theorem give_len (p : Pk) : ∀ (n : Nat) (s : Pl), (give p n s).out.length ≤ s.out.length + n := by
  intro n
  induction n with
  | zero => intro s; exact Nat.le_refl _
  | succ n ih =>
    intro s
    unfold give
    cases hg : giveOne p s with
    | none => exact Nat.le_add_right _ _
    | some s' =>
      have h1 := ih s'
      unfold giveOne at hg
      obtain ⟨who, _, rfl⟩ := Option.map_eq_some_iff.1 hg
      simp only [List.length_append, List.length_singleton] at h1
      show (give p n _).out.length ≤ _
      omega
theorem planOf_len {k : Int} (hk : k ≤ 100) (left : List (Int × Int)) (l : List Pk) : (planOf k left l).2.length ≤ 100 * l.length := by
  have : ∀ (l : List Pk) (s : List (Int × Int) × List Mv), (l.foldl (planOne k) s).2.length ≤ s.2.length + 100 * l.length := by
    intro l
    induction l with
    | nil => intro s; exact Nat.le_refl _
    | cons p r ih =>
      intro s
      have h1 := ih (planOne k s p)
      have h2 := give_len p (k - ((hset p.hs).length : Int)).toNat ⟨s.1, [], s.2⟩
      have h3 : (planOne k s p).2 = (give p (k - ((hset p.hs).length : Int)).toNat ⟨s.1, [], s.2⟩).out := rfl
      rw [← h3] at h2
      have h4 : (k - ((hset p.hs).length : Int)).toNat ≤ 100 := by omega
      simp only at h2
      rw [List.foldl_cons, List.length_cons]
      omega
  have h := this l (left, [])
  simpa [planOf] using h
theorem says_same {ps qs : List Pk} (h : ps.map says = qs.map says) {i : Nat} {p : Pk} (hp : ps[i]? = some p) : ∃ q, qs[i]? = some q ∧ q.id = p.id ∧ q.size = p.size ∧ q.hs = p.hs := by
  have h1 : (ps.map says)[i]? = some (says p) := by rw [List.getElem?_map, hp]; rfl
  rw [h, List.getElem?_map] at h1
  obtain ⟨q, h2, h3⟩ := Option.map_eq_some_iff.1 h1
  unfold says at h3
  simp only [Prod.mk.injEq] at h3
  exact ⟨q, h2, h3⟩
theorem after_of {ms : List Mv} {l ps : List Pk} {n : Nat} (h : ps.map says = afts ms l n) (hn : n ≤ l.length) {p : Pk} (hp : p ∈ ps) : ∃ q ∈ l, p.id = q.id ∧ p.hs.length ≤ q.hs.length + ms.length := by
  obtain ⟨i, hi⟩ := List.mem_iff_getElem?.1 hp
  have h1 : (ps.map says)[i]? = some (says p) := by rw [List.getElem?_map, hi]; rfl
  have hin : i < n := by
    have := (List.getElem?_eq_some_iff.1 h1).1
    rw [h, afts_len] at this
    exact this
  rw [h, afts_get hin] at h1
  obtain ⟨q, hq⟩ : ∃ q, l[i]? = some q := ⟨l[i]'(by omega), List.getElem?_eq_getElem _⟩
  have e : l.getD i default = q := by rw [List.getD_eq_getElem?_getD, hq]; rfl
  have h2 := Option.some.inj h1
  unfold aft says at h2
  rw [e] at h2
  simp only [Prod.mk.injEq] at h2
  refine ⟨q, List.mem_of_getElem? hq, h2.1.symm, ?_⟩
  rw [← h2.2.2]
  unfold keysOf
  rw [List.length_mergeSort, List.length_map]
  exact behind_len _ _ _
theorem after_ids {ms : List Mv} {l ps : List Pk} {n : Nat} (h : ps.map says = afts ms l n) (hn : n ≤ l.length) (hl : ∀ q ∈ l, q.id.length = 32) : ∀ p ∈ ps, p.id.length = 32 := fun p hp => by
  obtain ⟨q, hq, e, _⟩ := after_of h hn hp
  rw [e]
  exact hl q hq
theorem after_lens {ms : List Mv} {l ps : List Pk} {n : Nat} (h : ps.map says = afts ms l n) (hn : n ≤ l.length) (hm : ms.length ≤ 1200) (hl : ∀ q ∈ l, q.hs.length ≤ 60) : ∀ p ∈ ps, p.hs.length ≤ 20000 := fun p hp => by
  obtain ⟨q, hq, _, e⟩ := after_of h hn hp
  have := hl q hq
  omega
theorem drewN_two (w : World) (a b : Nat) : (w.drewN a).drewN b = w.drewN (a + b) := by
  unfold World.drewN
  simp [Nat.add_assoc]
set_option linter.unusedSimpArgs false in
set_option maxRecDepth 1000000 in
set_option maxHeartbeats 4000000 in
theorem plans_law {ad adf : Option Addr} {c cf : Nat} {l : List Pk} {f : List (Int × Int)} (W : World) {k : Int} (hrow : RowAt W ad (l.flatMap pcells)) (hraw : ∀ p ∈ l, PkCame W p) (hl : l.length ≤ 9223372036854775807) (hnil : ad = none → c = 0)
    (hrf : RowAt W adf (f.flatMap fcells)) (hfo : LeftOk f) (hfl : f.length ≤ 9223372036854775807) :
    Calls Try.prog 3 #[.slice ad l.length c, .int .i64 k, .slice adf f.length cf] W fun e w' => e = .returned (.bool true) ∧ Below W.heap.size W w' := by
  have R := Lib.hid hrow
  have RW := Lib.hid hraw
  have RF := Lib.hid hrf
  have FO := Lib.hid hfo
  have NIL := Lib.hid hnil
  obtain ⟨n, hn⟩ : ∃ n, n = l.length := ⟨_, rfl⟩
  obtain ⟨m, hm⟩ : ∃ m, m = f.length := ⟨_, rfl⟩
  have HN := Lib.hid hn
  have HM := Lib.hid hm
  rw [← hn] at hl ⊢
  rw [← hm] at hfl ⊢
  clear hrow hraw hrf hfo hnil hn hm
  go_enter Try.func3, Try.ntmps3
  go_wp2_with fail
  refine (awake_any _).mono ?_
  rintro e w1 ⟨rfl, b1⟩
  have B1 := Lib.hid b1
  clear b1
  obtain ⟨fb, hfb⟩ : ∃ fb, fb = fewB l m := ⟨_, rfl⟩
  have FW := few_any (c := c) (adf := adf) (cf := cf) (m := m) (R.out.later B1.out) (by rw [← HN.out]; exact hl) (fun p hp => ⟨(RW.out p hp).id, (RW.out p hp).rd.later B1.out, (RW.out p hp).big, (RW.out p hp).wf, (RW.out p hp).size⟩) hfl
  rw [← hfb, ← HN.out] at FW
  have FW' := Lib.hid FW
  have HFB := Lib.hid hfb
  clear FW hfb
  go_wp2_with fail
  refine FW'.out.mono ?_
  rintro e w2 ⟨rfl, h2⟩
  obtain rfl : w1 = w2 := h2.symm
  clear h2 FW'
  cases fb
  · go_wp2
    go_ret
    exact ⟨rfl, B1.out⟩
  by_cases h100 : 100 < k
  · go_wp2
    go_ret
    exact ⟨rfl, B1.out⟩
  by_cases h101 : k < -100
  · go_wp2
    go_ret
    exact ⟨rfl, B1.out⟩
  have hfew : (l.length ≤ 12 ∧ sumHs l ≤ 60) ∧ m ≤ 30 := by
    have := HFB.out
    unfold fewB at this
    simp only [Bool.true_eq, Bool.and_eq_true, decide_eq_true_eq] at this
    exact this
  have hpk : ∀ p ∈ l, p.hs.length ≤ 60 := fun p hp => Nat.le_trans (sumHs_mem hp) hfew.1.2
  have n12 : n ≤ 12 := by rw [HN.out]; exact hfew.1.1
  have m30 : m ≤ 30 := hfew.2
  have HPK := Lib.hid hpk
  have SUM := Lib.hid hfew.1.2
  have OKW : Hid (∀ w', Below W.heap.size W w' → ∀ p ∈ l, PkOk w' p) := Lib.hid (fun w' hw p hp => ((RW.out p hp).ok (by have := HPK.out p hp; omega)).later hw)
  have MD := model_any (c := c) (cf := cf) (R.out.later B1.out) (by rw [← HN.out]; omega) (RF.out.later B1.out) (by rw [← HM.out]; omega)
  rw [← HN.out, ← HM.out] at MD
  have MD' := Lib.hid MD
  have K0 : Hid (-1000 ≤ k ∧ k ≤ 1000) := Lib.hid (by omega)
  clear MD hfew hpk HFB
  go_wp2_with fail
  refine MD'.out.mono ?_
  rintro e w2 ⟨vp, vf, rfl, hP, hF, b2⟩
  obtain ⟨xp, cp, rfl⟩ := own_slice hP
  obtain ⟨xf, cf2, rfl⟩ := own_slice hF
  rw [← HN.out, ← HM.out]
  have B2 := Lib.hid (B1.out.trans (b2.mono B1.out.size))
  have P2 := Lib.hid hP
  have F2 := Lib.hid hF
  clear hP hF b2 MD'
  obtain ⟨mv, hmv⟩ : ∃ mv, mv = (planOf k (frees f) (isort keyOfPk l)).2 := ⟨_, rfl⟩
  have MOK : Hid (∀ x ∈ mv, MvOk x) := Lib.hid (by rw [hmv]; exact mv_plan RW.out FO.out)
  have PL := plan_any (c := c) (cf := cf) (k := k) (R.out.later B2.out) (by rw [← HN.out]; omega) NIL.out (OKW.out _ B2.out) (fun p hp => (RW.out p hp).size) (RF.out.later B2.out) (by rw [← HM.out]; omega) FO.out K0.out.1 K0.out.2
  rw [← hmv, ← HN.out, ← HM.out] at PL
  have PL' := Lib.hid PL
  have MVV := Lib.hid hmv
  clear PL hmv
  go_wp2_with fail
  refine PL'.out.mono ?_
  rintro e w3 ⟨vm, rfl, hM, b3⟩
  obtain ⟨xm, cm, rfl⟩ := own_slice hM
  obtain ⟨nm, hnm⟩ : ∃ nm, nm = mv.length := ⟨_, rfl⟩
  have nml : nm ≤ 1200 := by
    have h1 := planOf_len (show k ≤ 100 by omega) (frees f) (isort keyOfPk l)
    rw [← MVV.out, (isort_perm keyOfPk l).length_eq, ← HN.out, ← hnm] at h1
    omega
  rw [← hnm] at hM ⊢
  have NM := Lib.hid hnm
  have M3 := Lib.hid hM
  have B3 := Lib.hid (B2.out.trans (b3.mono B2.out.size))
  have P3 := Lib.hid (own_later P2.out b3)
  have F3 := Lib.hid (own_later F2.out b3)
  clear hM b3 hnm PL' P2 F2
  have OKP : Hid (∀ w', Below W.heap.size W w' → ∀ p ∈ l, PkOk w' p) := OKW
  have RP := rplan_any (c := cp) (cf := cf2) (k := k) (rowAt_own P3.out) (by rw [← HN.out]; exact n12) SUM.out (OKW.out _ B3.out) (fun p hp => (RW.out p hp).size) (rowAt_own F3.out) (by rw [← HM.out]; exact m30) FO.out K0.out.1 K0.out.2
  rw [← MVV.out, ← HN.out, ← HM.out] at RP
  have RP' := Lib.hid RP
  clear RP
  go_wp2_with fail
  refine RP'.out.mono ?_
  rintro e w4 ⟨vr, rfl, hR, b4⟩
  obtain ⟨xr, cr, rfl⟩ := own_slice hR
  unfold RmRow at hR
  rw [← NM.out] at hR ⊢
  have R4 := Lib.hid hR
  have B4 := Lib.hid (B3.out.trans (b4.mono B3.out.size))
  have P4 := Lib.hid (own_later P3.out b4)
  have M4 := Lib.hid (own_later M3.out b4)
  clear hR b4 RP' P3 F3 M3
  have LA : Hid (∀ w', Below w4.heap.size w4 w' → Calls Try.prog 12 #[.slice ad n c, .int .i64 k] w' fun e w'' => e = .returned (.int .i64 (lackOf k l)) ∧ Below w'.heap.size w' w'') := Lib.hid (fun w' hw => by
    have bw := B4.out.trans (hw.mono B4.out.size)
    have h1 := lack_any (c := c) (k := k) (R.out.later bw) (by rw [← HN.out]; omega) (OKW.out _ bw) K0.out.1 K0.out.2
    rw [← HN.out] at h1
    exact h1)
  have LB : Hid (∀ w', Below w4.heap.size w4 w' → Calls Try.prog 13 #[.slice xp n cp, .int .i64 k] w' fun e w'' => e = .returned (.int .i64 (lackOf k l)) ∧ Below w'.heap.size w' w'') := Lib.hid (fun w' hw => by
    have bw := B4.out.trans (hw.mono B4.out.size)
    have h1 := rlack_any (c := cp) (k := k) (rowAt_own (own_later P4.out hw)) (by rw [← HN.out]; omega) (OKW.out _ bw) K0.out.1 K0.out.2
    rw [← HN.out] at h1
    exact h1)
  obtain ⟨lk, hlk⟩ : ∃ lk, lk = lackOf k l := ⟨_, rfl⟩
  rw [← hlk] at LA LB
  clear hlk
  go_wp2_with fail
  refine (LA.out w4 (Below.refl _ _)).mono ?_
  rintro e u1 ⟨rfl, c1⟩
  have C1 := Lib.hid c1
  clear c1
  go_wp2_with fail
  refine (LB.out u1 C1.out).mono ?_
  rintro e w5 ⟨rfl, c2⟩
  have C2 := C1.out.trans (c2.mono C1.out.size)
  have B5 := Lib.hid (B4.out.trans (C2.mono B4.out.size))
  have P5 := Lib.hid (own_later P4.out C2)
  have M5 := Lib.hid (own_later M4.out C2)
  have R5 := Lib.hid (own_later R4.out C2)
  clear c2 C1 C2 LA LB P4 M4 R4
  have nm0 : (0 : Int) ≤ (nm : Int) := Int.natCast_nonneg _
  go_wp2_with fail
  go_loopg [13] nm (fun k s13 wr => ∃ i q : Nat, i ≤ nm ∧ k = nm - i ∧ s13 = .int .i64 i ∧ wr = w5.drewN q)
  case atStart => exact ⟨0, 0, Nat.zero_le _, rfl, rfl, rfl⟩
  case round =>
    obtain ⟨i, q, hi, hk, rfl, rfl⟩ := hrel
    have HK := Lib.hid hk
    clear hk
    have i0 : (0 : Int) ≤ (i : Int) := Int.natCast_nonneg _
    by_cases hlt : i < nm
    · as_aux_lemma =>
      obtain ⟨x, hx⟩ : ∃ x, mv[i]? = some x := ⟨mv[i]'(by rw [← NM.out]; exact hlt), List.getElem?_eq_getElem _⟩
      obtain ⟨g1, e1, _, l1, _⟩ := own_elem mcells_len (by decide) M5.out hx
      subst e1
      obtain ⟨g2, e2, _, l2, _⟩ := own_elem mcells_len (by decide) R5.out hx
      subst e2
      obtain ⟨li1, t1⟩ := mv_lies l1
      obtain ⟨li2, t2⟩ := mv_lies l2
      have L1 := Lib.hid li1
      have L2 := Lib.hid li2
      have hq := eqi_ids (MOK.out x (List.mem_of_getElem? hx)).id (MOK.out x (List.mem_of_getElem? hx)).id
      simp only [beq_self_eq_true] at hq
      have i1 : (i : Int) < (nm : Int) := by omega
      clear hx l1 l2 li1 li2
      go_wp2_with fail
      refine wp_region_quiet_lit (by kernel_rfl) (by kernel_rfl) ?_
      iterate 4 go_big_quiet_step (fail)
      refine wpQuiet_load (by kernel_rfl) 37 (.tmp 71) rfl g1 (i * 33) rfl (idCells x.pack).toArray _ (lies_drewN (lies_dr L1.out q)) Try.underlying37 rfl (sizei x.pack) ?_
      try simp only [Act.put, List.setIfInBounds_toArray, List.set_cons_zero, List.set_cons_succ]
      iterate 4 go_big_quiet_step (fail)
      refine wpQuiet_load (by kernel_rfl) 37 (.tmp 76) rfl g2 (i * 33) rfl (idCells x.pack).toArray _ (lies_drewN (lies_dr L2.out q)) Try.underlying37 rfl (sizei x.pack) ?_
      try simp only [Act.put, List.setIfInBounds_toArray, List.set_cons_zero, List.set_cons_succ]
      repeat go_big_quiet_step (fail)
      refine wpQuiet_nil ?_
      intro _ hw9
      obtain ⟨nq, hw9⟩ := hw9
      subst hw9
      go_wp2
      go_roundg (nm - (i + 1))
      case measure => rw [HK.out]; omega
      case rel => exact ⟨i + 1, q + nq, by omega, rfl, by go_num, rfl⟩
    · obtain rfl : i = nm := by omega
      have bq := below_drewN (Below.refl w5.heap.size w5) q
      have B6 := Lib.hid (B5.out.trans (bq.mono B5.out.size))
      have P6 := Lib.hid (own_later P5.out bq)
      have M6 := Lib.hid (own_later M5.out bq)
      have R6 := Lib.hid (own_later R5.out bq)
      clear bq P5 M5 R5 B5 hlt
      generalize w5.drewN q = w6 at B6 P6 M6 R6 ⊢
      have AF := after_any (c := c) (cm := cm) (R.out.later B6.out) (by rw [← HN.out]; omega) (OKW.out _ B6.out) (rowAt_own M6.out) (by rw [← NM.out]; omega) MOK.out
      rw [← HN.out, ← NM.out] at AF
      have AF' := Lib.hid AF
      clear AF
      go_wp2_with fail
      refine AF'.out.mono ?_
      rintro e w7 ⟨va, ps, rfl, hps, hPs, hHs, b7⟩
      obtain ⟨xa, ca, rfl⟩ := own_slice hPs
      have pl : ps.length = n := by have := congrArg List.length hps; simpa [afts_len] using this
      unfold PacksIs at hPs
      rw [pl] at hPs ⊢
      have P7 := Lib.hid (own_later P6.out b7)
      have R7 := Lib.hid (own_later R6.out b7)
      have B7 := Lib.hid (B6.out.trans (b7.mono B6.out.size))
      have PS := Lib.hid hps
      have A7 := Lib.hid hPs
      have H7 := Lib.hid hHs
      clear hps hPs hHs b7 pl AF' P6 R6
      have RA := rafter_any (c := cp) (cm := cr) (rowAt_own P7.out) (by rw [← HN.out]; omega) (OKW.out _ B7.out) (fun p hp => (RW.out p hp).nil) (rowAt_own R7.out) (by rw [← NM.out]; omega) MOK.out
      rw [← HN.out, ← NM.out] at RA
      have RA' := Lib.hid RA
      clear RA
      go_wp2_with fail
      refine RA'.out.mono ?_
      rintro e w8 ⟨vb, qs, rfl, hqs, hQs, hGs, b8⟩
      obtain ⟨xb, cb, rfl⟩ := own_slice hQs
      have ql : qs.length = n := by have := congrArg List.length hqs; simpa [afts_len] using this
      unfold RpRow at hQs
      rw [ql] at hQs ⊢
      have SAME : Hid (ps.map says = qs.map says) := Lib.hid (PS.out.trans hqs.symm)
      have PLN : Hid (ps.length = n) := Lib.hid (by have := congrArg List.length PS.out; simpa [afts_len] using this)
      have PHS : Hid (∀ p ∈ ps, p.id.length = 32) := Lib.hid (after_ids (n := n) PS.out (by rw [← HN.out]; exact Nat.le_refl _) (fun p hp => (RW.out p hp).id))
      have A8 := Lib.hid (own_later A7.out b8)
      have H8 : Hid (∀ p ∈ ps, IntsRd w8 p.ad p.hs) := Lib.hid (fun p hp => IntsIs.rd (own_later (H7.out p hp) b8))
      have Q8 := Lib.hid hQs
      have G8 : Hid (∀ p ∈ qs, IntsRd w8 p.ad p.hs) := Lib.hid (fun p hp => IntsIs.rd (hGs p hp))
      have B8 := Lib.hid (B7.out.trans (b8.mono B7.out.size))
      have LEN8 : Hid (∀ p ∈ ps, p.hs.length ≤ 20000) := Lib.hid (after_lens (n := n) PS.out (by rw [← HN.out]; exact Nat.le_refl _) (by rw [← NM.out]; exact nml) (fun p hp => HPK.out p hp))
      clear hqs hQs hGs b8 ql RA' A7 H7 P7 R7
      have n0 : (0 : Int) ≤ (n : Int) := Int.natCast_nonneg _
      go_wp2_with fail
      go_loopg [16, 17] n (fun k s16 _ wr => ∃ j q : Nat, j ≤ n ∧ k = n - j ∧ s16 = .int .i64 j ∧ wr = w8.drewN q)
      case atStart => exact ⟨0, 0, Nat.zero_le _, rfl, rfl, rfl⟩
      case round =>
        obtain ⟨j, q, hj, hk, rfl, rfl⟩ := hrel
        have HKJ := Lib.hid hk
        clear hk
        have j0 : (0 : Int) ≤ (j : Int) := Int.natCast_nonneg _
        by_cases hlj : j < n
        · obtain ⟨p, hp⟩ : ∃ p, ps[j]? = some p := ⟨ps[j]'(by rw [PLN.out]; exact hlj), List.getElem?_eq_getElem _⟩
          obtain ⟨p', hp', q1, q2, q3⟩ := says_same SAME.out hp
          obtain ⟨g1, e1, _, l1, _⟩ := own_elem pcells_len (by decide) A8.out hp
          subst e1
          obtain ⟨g2, e2, _, l2, _⟩ := own_elem pcells_len (by decide) Q8.out hp'
          subst e2
          obtain ⟨li1, s1, t1⟩ := pk_lies l1
          obtain ⟨li2, s2, t2⟩ := pk_lies l2
          have rd1 := H8.out p (List.mem_of_getElem? hp)
          have rd2 := G8.out p' (List.mem_of_getElem? hp')
          rw [q1] at li2
          rw [q2] at s2
          rw [q3] at t2 rd2
          have L1 := Lib.hid li1
          have L2 := Lib.hid li2
          have hq := eqi_ids (PHS.out p (List.mem_of_getElem? hp)) (PHS.out p (List.mem_of_getElem? hp))
          simp only [beq_self_eq_true] at hq
          have hlen := LEN8.out p (List.mem_of_getElem? hp)
          obtain ⟨np, hnp⟩ : ∃ np, np = p.hs.length := ⟨_, rfl⟩
          obtain ⟨a1, ha1⟩ : ∃ a1, a1 = p.ad := ⟨_, rfl⟩
          obtain ⟨a2, ha2⟩ : ∃ a2, a2 = p'.ad := ⟨_, rfl⟩
          rw [← hnp] at t1 t2 hlen
          rw [← ha1] at t1 rd1
          rw [← ha2] at t2 rd2
          have RD1 := Lib.hid rd1
          have RD2 := Lib.hid rd2
          have NP := Lib.hid hnp
          have j1 : (j : Int) < (n : Int) := by omega
          clear hp hp' q1 q2 q3 l1 l2 li1 li2 hnp ha1 ha2 rd1 rd2
          go_wp2_with fail
          refine wp_region_quiet_lit (by kernel_rfl) (by kernel_rfl) ?_
          iterate 4 go_big_quiet_step (fail)
          refine wpQuiet_load (by kernel_rfl) 37 (.tmp 112) rfl g1 (j * 34) rfl (idCells p.id).toArray _ (lies_drewN (lies_dr L1.out q)) Try.underlying37 rfl (sizei p.id) ?_
          try simp only [Act.put, List.setIfInBounds_toArray, List.set_cons_zero, List.set_cons_succ]
          iterate 4 go_big_quiet_step (fail)
          refine wpQuiet_load (by kernel_rfl) 37 (.tmp 117) rfl g2 (j * 34) rfl (idCells p.id).toArray _ (lies_drewN (lies_dr L2.out q)) Try.underlying37 rfl (sizei p.id) ?_
          try simp only [Act.put, List.setIfInBounds_toArray, List.set_cons_zero, List.set_cons_succ]
          repeat go_big_quiet_step (fail)
          refine wpQuiet_nil ?_
          intro _ hw9
          obtain ⟨nq, hw9⟩ := hw9
          subst hw9
          go_wp2_with fail
          go_loopg [17] np (fun k s17 wr => ∃ i q : Nat, i ≤ np ∧ k = np - i ∧ s17 = .int .i64 i ∧ wr = w8.drewN q)
          case atStart => exact ⟨0, q + nq, Nat.zero_le _, rfl, rfl, by rw [drewN_two]⟩
          case round =>
            obtain ⟨i, q, hi, hk, rfl, rfl⟩ := hrel
            have HKI := Lib.hid hk
            clear hk
            have i0 : (0 : Int) ≤ (i : Int) := Int.natCast_nonneg _
            by_cases hli : i < np
            · obtain ⟨z, hz⟩ : ∃ z, p.hs[i]? = some z := ⟨p.hs[i]'(by rw [← NP.out]; exact hli), List.getElem?_eq_getElem _⟩
              obtain ⟨b1, o1, e1, _, cz1⟩ := RD1.out i z hz
              obtain ⟨b2, o2, e2, _, cz2⟩ := RD2.out i z hz
              subst e1
              subst e2
              have i1 : (i : Int) < (np : Int) := by omega
              clear hz
              go_wp2_with fail
              refine wp_region_quiet_lit (by kernel_rfl) (by kernel_rfl) ?_
              repeat go_big_quiet_step (fail)
              refine wpQuiet_nil ?_
              intro _ hw9
              obtain ⟨nq, hw9⟩ := hw9
              subst hw9
              go_wp2
              go_roundg (np - (i + 1))
              case measure => rw [HKI.out]; omega
              case rel => exact ⟨i + 1, q + nq, by omega, rfl, by go_num, rfl⟩
            · obtain rfl : i = np := by omega
              clear hli
              go_wp2
              go_roundg (n - (j + 1))
              case measure => rw [HKJ.out]; omega
              case rel => exact ⟨j + 1, q, by omega, rfl, by go_num, rfl⟩
        · obtain rfl : j = n := by omega
          clear hlj
          go_wp2
          go_ret
          exact ⟨rfl, B8.out.trans (below_drewN (Below.refl _ _) _)⟩
end Go.Proofs.Ytpmkgnnpngbfmaa
