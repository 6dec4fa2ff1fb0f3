/- The reference's reader: End, Fixed, Uint, Id; and what stands in memory in its Get. -/
import Derived.Test.YtgbghjpkdbjdgaaDe5
import Derived.Test.YtgbghjpkdbjdgaaDp5
namespace Go.Proofs.Ytgbghjpkdbjdgaa
open Go.RowKit Go.Lib
open Extern.Stop (cell)

/-- The reference's reader: bytes that are left, and the error. -/
def rR (zs : List UInt8) (er : Int) : List Value := [.string (strOf zs), .int .i64 er]
theorem str_size (zs : List UInt8) : ((strOf zs).size : Int) = (zs.length : Int) := rfl
theorem str_nil (zs : List UInt8) : (strOf zs).toList.isEmpty = decide (zs.length = 0) := by
  rw [ByteArray.toList_mk]
  cases zs <;> simp
theorem str_drop (zs : List UInt8) (n : Nat) : (strOf zs).extract n (strOf zs).size = strOf (zs.drop n) := by
  apply ByteArray.ext
  rw [ByteArray.data_extract]
  show zs.toArray.extract n zs.toArray.size = _
  simp [List.take_of_length_le]
theorem str_take (zs : List UInt8) (n : Nat) : (strOf zs).extract 0 n = strOf (zs.take n) := by
  apply ByteArray.ext
  rw [ByteArray.data_extract]
  simp
theorem rend_any (w : World) (zs : List UInt8) (er : Int) :
    Calls Try.prog 37 #[.agg (rR zs er).toArray] w fun e w' => e = .returned (.int .i64 (endOf zs er)) ∧ Below w.heap.size w w' := by
  unfold rR endOf
  have q := str_nil zs
  generalize hs : strOf zs = s at q ⊢
  by_cases h0 : er = 0
  · have d0 : (er != 0) = false := by simpa using h0
    rw [if_pos h0]
    by_cases hz : zs.length = 0
    · have d1 : s.toList.isEmpty = true := by rw [q]; simp [hz]
      rw [if_pos hz]
      clear q hs h0
      go_enter Try.func37, Try.ntmps37
      go_wp2
      go_ret
      exact ⟨rfl, below_alloc (Below.refl _ _) _⟩
    · have d1 : s.toList.isEmpty = false := by rw [q]; simp [hz]
      rw [if_neg hz]
      clear q hs h0
      go_enter Try.func37, Try.ntmps37
      go_wp2
      go_ret
      exact ⟨rfl, below_alloc (Below.refl _ _) _⟩
  · have d0 : (er != 0) = true := by simpa using h0
    rw [if_neg h0]
    clear q hs h0
    go_enter Try.func37, Try.ntmps37
    go_wp2
    go_ret
    exact ⟨rfl, below_alloc (Below.refl _ _) _⟩
/-- Fixed, of 32. -/
theorem rfixed_bad (w : World) (zs : List UInt8) (er : Int) (h : er ≠ 0 ∨ zs.length < 32) :
    Calls Try.prog 46 #[.agg (rR zs er).toArray, .int .i64 32] w fun e w' => e = .returned (.tuple #[.agg (rR zs (if er = 0 then 10 else er)).toArray, .string (strOf [])]) ∧ Below w.heap.size w w' := by
  unfold rR
  have q := str_size zs
  generalize hs : strOf zs = s at q ⊢
  by_cases h0 : er = 0
  · have d0 : (er != 0) = false := by simpa using h0
    have d1 : decide ((s.size : Int) < 32) = true := decide_eq_true (by rw [q]; omega)
    rw [if_pos h0]
    clear q hs h h0
    go_enter Try.func46, Try.ntmps46
    go_wp2
    refine bodyPost_ret (v := .tuple #[.agg #[.string s, .int .i64 10], .string (strOf [])]) ?_ rfl ⟨rfl, ?_⟩
    · simp [results, Try.results46, go_sem, *]
    · repeat with_reducible (first | exact Below.refl _ _ | exact Below.refl _ _ | refine below_alloc ?_ _ | refine Below.setCell ?_ (by simp) _ | refine Below.drew ?_)
  · have d0 : (er != 0) = true := by simpa using h0
    rw [if_neg h0]
    clear q hs h h0
    go_enter Try.func46, Try.ntmps46
    go_wp2
    refine bodyPost_ret (v := .tuple #[.agg #[.string s, .int .i64 er], .string (strOf [])]) ?_ rfl ⟨rfl, ?_⟩
    · simp [results, Try.results46, go_sem, *]
    · repeat with_reducible (first | exact Below.refl _ _ | exact Below.refl _ _ | refine below_alloc ?_ _ | refine Below.setCell ?_ (by simp) _ | refine Below.drew ?_)
theorem rfixed_fine (w : World) (zs : List UInt8) (h : 32 ≤ zs.length) :
    Calls Try.prog 46 #[.agg (rR zs 0).toArray, .int .i64 32] w fun e w' => e = .returned (.tuple #[.agg (rR (zs.drop 32) 0).toArray, .string (strOf (zs.take 32))]) ∧ Below w.heap.size w w' := by
  unfold rR
  have q := str_size zs
  have q1 := str_drop zs 32
  have q2 := str_take zs 32
  generalize hs : strOf zs = s at q q1 q2 ⊢
  have d1 : decide ((s.size : Int) < 32) = false := decide_eq_false (by rw [q]; omega)
  have d2 : (32 : Int) ≤ (s.size : Int) := by rw [q]; omega
  clear q hs h
  go_enter Try.func46, Try.ntmps46
  go_wp2
  refine bodyPost_ret (v := .tuple #[.agg #[.string (strOf (zs.drop 32)), .int .i64 0], .string (strOf (zs.take 32))]) ?_ rfl ⟨rfl, ?_⟩
  · simp [results, Try.results46, go_sem, *]
  · repeat with_reducible (first | exact Below.refl _ _ | exact Below.refl _ _ | refine below_alloc ?_ _ | refine Below.setCell ?_ (by simp) _ | refine Below.drew ?_)
theorem str_head (z : UInt8) (r : List UInt8) : ∃ h : 0 < (strOf (z :: r)).size, (strOf (z :: r))[0]'h = z := ⟨Nat.succ_pos _, rfl⟩
theorem box_cells {w : World} {b : Nat} {u v : Value} {t : TypeId} (h : w.heap[b]? = some (.cells #[u, v] t (0, 0))) : w.cell? ⟨b, 0, none⟩ = some u ∧ w.cell? ⟨b, 1, none⟩ = some v ∧ w.frozen? ⟨b, 0, none⟩ = false ∧ w.frozen? ⟨b, 1, none⟩ = false := by
  refine ⟨?_, ?_, ?_, ?_⟩ <;> simp [World.cell?, World.frozen?, h]
theorem dig_step {acc i zn : Nat} (ha : acc < 128 ^ i) (hi : i ≤ 9) (hz : zn < 256) (h9 : i = 9 → zn < 2) :
    IntKind.u64.wrap ((acc : Int) + IntKind.u64.wrap (((128 ^ i : Nat) : Int) * IntKind.u64.wrap ((zn : Int).tmod 128))) = ((acc + zn % 128 * 128 ^ i : Nat) : Int) := by
  have p9 := pow128 hi
  have hb : zn % 128 * 128 ^ i < 9223372036854775809 := by
    by_cases hi9 : i = 9
    · have := h9 hi9
      have : zn % 128 * 128 ^ i ≤ 1 * 128 ^ i := Nat.mul_le_mul_right _ (by omega)
      omega
    · have p8 : 128 ^ i ≤ 72057594037927936 := Nat.le_trans (Nat.pow_le_pow_right (by decide) (show i ≤ 8 by omega)) (by decide)
      have : zn % 128 * 128 ^ i ≤ 127 * 72057594037927936 := Nat.mul_le_mul (by omega) p8
      omega
  have e1 : (zn : Int).tmod 128 = ((zn % 128 : Nat) : Int) := by
    rw [Int.tmod_eq_emod_of_nonneg (by omega)]
    omega
  rw [e1, u64_small (by omega), ← Int.natCast_mul, Nat.mul_comm (128 ^ i), u64_small (by omega), ← Int.natCast_add, u64_small (by omega)]
theorem dig_lt {acc i zn : Nat} (ha : acc < 128 ^ i) : acc + zn % 128 * 128 ^ i < 128 ^ (i + 1) := by
  have h1 : zn % 128 * 128 ^ i ≤ 127 * 128 ^ i := Nat.mul_le_mul_right _ (by omega)
  rw [Nat.pow_succ]
  omega
theorem mul_step {i : Nat} (hi : i < 9) : IntKind.u64.wrap (((128 ^ i : Nat) : Int) * 128) = ((128 ^ (i + 1) : Nat) : Int) := by
  have p9 := pow128 (show i + 1 ≤ 9 by omega)
  have e : ((128 ^ i : Nat) : Int) * 128 = ((128 ^ (i + 1) : Nat) : Int) := by
    rw [Nat.pow_succ, Int.natCast_mul]
    rfl
  rw [e, u64_small (by omega)]
/-- What stands in memory while Uint reads. -/
structure RU (w wr : World) (A : Nat) (ys : List UInt8) : Prop where
  box : wr.heap[A]? = some (.cells #[.string (strOf ys), .int .i64 0] 82 (0, 0))
  out : wr.heap[A + 1]? = some (.cells #[.string (strOf []), .int .i64 0] 82 (0, 0))
  below : Below w.heap.size w wr
set_option linter.unusedSimpArgs false in
set_option maxRecDepth 100000 in
set_option maxHeartbeats 4000000 in
theorem refuint_any (w : World) (zs : List UInt8) (er : Int) :
    Calls Try.prog 35 #[.agg (rR zs er).toArray] w fun e w' => e = .returned (.tuple #[.agg (rR (uintOf zs er).2.1 (uintOf zs er).2.2).toArray, .int .u64 (uintOf zs er).1]) ∧ Below w.heap.size w w' := by
  rcases (by omega : er ≠ 0 ∨ er = 0) with h0 | h0
  · unfold uintOf
    rw [if_neg h0]
    unfold rR
    have d0 : (er != 0) = true := by simpa using h0
    generalize hs : strOf zs = s
    clear hs h0
    go_enter Try.func35, Try.ntmps35
    go_wp2
    refine bodyPost_ret (v := .tuple #[.agg #[.string s, .int .i64 er], .int .u64 0]) ?_ rfl ⟨rfl, ?_⟩
    · simp [results, Try.results35, go_sem, *]
    · repeat with_reducible (first | exact Below.refl _ _ | exact Below.refl _ _ | refine below_alloc ?_ _ | refine Below.setCell ?_ (by simp) _ | refine Below.drew ?_)
  subst h0
  obtain ⟨U, hU⟩ : ∃ U, U = uintOf zs 0 := ⟨_, rfl⟩
  rw [← hU]
  have UU := Lib.hid hU
  obtain ⟨A, hA⟩ : ∃ A, A = w.heap.size := ⟨_, rfl⟩
  have HA := Lib.hid hA
  clear hU hA
  unfold rR
  go_enter Try.func35, Try.ntmps35
  go_upto_region 4 with fail
  refine wp_named fun w1 hw1 => ?_
  have R1 : Hid (RU w w1 A zs) := Lib.hid (by
    rw [HA.out]
    refine ⟨?_, ?_, ?_⟩
    · rw [hw1]; exact heap_one w _ _
    · rw [hw1]; exact heap_two w _ _
    · rw [hw1]; exact below_alloc (below_alloc (Below.refl _ _) _) _)
  rw [← HA.out]
  clear hw1
  go_wp2_with fail
  go_loopg [4, 5, 6] 10 (fun k s4 s5 s6 wr => ∃ (i acc : Nat) (ys : List UInt8), k = 10 - i ∧ i ≤ 9 ∧ acc < 128 ^ i ∧ s4 = .int .u64 acc ∧ s5 = .int .u64 ((128 ^ i : Nat) : Int) ∧ s6 = .int .i64 i ∧ getU i acc ys = U ∧ RU w wr A ys)
  case atStart => exact ⟨0, 0, zs, rfl, by omega, by decide, rfl, rfl, rfl, by rw [UU.out]; rfl, R1.out⟩
  case round =>
    obtain ⟨i, acc, ys, hk, hi, hacc, rfl, rfl, rfl, hu, hr⟩ := hrel
    have HK := Lib.hid hk
    have HC := Lib.hid hacc
    have HU := Lib.hid hu
    have HI := Lib.hid hi
    have hi9 := hi
    have HB := Lib.hid hr.below
    obtain ⟨ii, hii⟩ : ∃ ii : Int, ii = (i : Int) := ⟨_, rfl⟩
    rw [← hii]
    have IE := Lib.hid hii
    obtain ⟨mi, hmi⟩ : ∃ mi : Int, mi = ((128 ^ i : Nat) : Int) := ⟨_, rfl⟩
    rw [← hmi]
    have ME := Lib.hid hmi
    obtain ⟨ai, hai⟩ : ∃ ai : Int, ai = (acc : Int) := ⟨_, rfl⟩
    rw [← hai]
    have AE := Lib.hid hai
    have d10 : decide (ii < 10) = true := decide_eq_true (by omega)
    have hbx := hr.box
    have hbo := hr.out
    obtain ⟨b1, b2, b3, b4⟩ := box_cells hr.box
    obtain ⟨o1, o2, o3, o4⟩ := box_cells hr.out
    clear hk hacc hu hi hr hii hmi hai R1
    cases ys with
    | nil =>
      have d1 : (strOf []).toList.isEmpty = true := by rw [str_nil]; rfl
      have U4 : Hid (U = (0, [], 10)) := Lib.hid (by rw [← HU.out]; rfl)
      generalize hs : strOf [] = s at d1 b1 o1
      go_wp2
      refine bodyPost_ret (v := .tuple #[.agg #[.string s, .int .i64 10], .int .u64 0]) ?_ rfl ⟨?_, ?_⟩
      · simp [results, Try.results35, go_sem, *]
      · rw [U4.out, ← hs]
        try rfl
      · have := HA.out
        repeat with_reducible (first | exact HB.out | refine Below.setCell ?_ (by simp; omega) _)
    | cons z r =>
      have d1 : (strOf (z :: r)).toList.isEmpty = false := by rw [str_nil]; rfl
      have x1 := str_drop (z :: r) 1
      have x2 : (1 : Int) ≤ ((strOf (z :: r)).size : Int) := by rw [str_size]; simp; omega
      rw [show (z :: r).drop 1 = r from rfl] at x1
      have H2 : Hid (RU w (wr.setCell ⟨A, 0, none⟩ (.string (strOf r))) A r) := Lib.hid (by
        refine ⟨?_, ?_, ?_⟩
        · exact heap_setCell_same _ hbx
        · exact heap_setCell_ne _ hbo (by simp)
        · have := HA.out
          exact Below.setCell HB.out (by simp; omega) _)
      obtain ⟨zn, hzn⟩ : ∃ zn, zn = z.toNat := ⟨_, rfl⟩
      have hz8 := Lib.hid (show zn < 256 by rw [hzn]; exact z.toNat_lt)
      obtain ⟨zi, hzi⟩ : ∃ zi : Int, zi = (zn : Int) := ⟨_, rfl⟩
      have ZI := Lib.hid hzi
      have ZN := Lib.hid hzn
      obtain ⟨s, hsz⟩ : ∃ s, s = strOf (z :: r) := ⟨_, rfl⟩
      have x4 : 0 < s.size := by rw [hsz]; exact Nat.succ_pos _
      have x5 : (((s[0]'x4).toNat : Nat) : Int) = zi := by
        subst hsz
        rw [hzi, hzn]
        rfl
      rw [← hsz] at d1 b1 x1 x2
      generalize hs : strOf r = s2 at x1 H2
      clear hsz hzn hzi hbx hbo
      go_upto_region 13 with fail
      refine wp_named fun w2 hw2 => ?_
      rw [← hw2] at H2
      have HB := Lib.hid H2.out.below
      have H3 := H2
      clear hw2 b1 b2 b3 b4 o1 o2 o3 o4 d1 x1 x2 x5 x4
      obtain ⟨b1, b2, b3, b4⟩ := box_cells H3.out.box
      obtain ⟨o1, o2, o3, o4⟩ := box_cells H3.out.out
      rw [hs] at b1
      generalize hs0 : strOf [] = s0 at o1
      have U3 : Hid ((if (i = 9 ∧ 1 < zn) ∨ (0 < i ∧ zn = 0) then (0, r, 11) else if zn < 128 then (acc + zn * 128 ^ i, r, 0) else getU (i + 1) (acc + zn % 128 * 128 ^ i) r) = U) := Lib.hid (by
        have := HU.out
        rw [getU] at this
        rw [ZN.out]
        exact this)
      clear H2 HU
      by_cases hb : (i = 9 ∧ 1 < zn) ∨ (0 < i ∧ zn = 0)
      · have U4 : Hid (U = (0, r, 11)) := Lib.hid (by rw [← U3.out, if_pos hb])
        have gd : ((ii == 9) = true ∧ decide (1 < zi) = true) ∨ ((ii == 9) = true ∧ decide (1 < zi) = false ∧ decide (0 < ii) = true ∧ (zi == 0) = true) ∨ ((ii == 9) = false ∧ decide (0 < ii) = true ∧ (zi == 0) = true) := by
          have := IE.out
          have := ZI.out
          simp only [beq_iff_eq, decide_eq_true_eq, decide_eq_false_iff_not, beq_eq_false_iff_ne, ne_eq]
          omega
        clear hb U3 d10
        rcases gd with ⟨d1, d2⟩ | ⟨d1, d2, d3, d4⟩ | ⟨d1, d3, d4⟩
        · go_wp2
          refine bodyPost_ret (v := .tuple #[.agg #[.string s2, .int .i64 11], .int .u64 0]) ?_ rfl ⟨?_, ?_⟩
          · simp [results, Try.results35, go_sem, *]
          · rw [U4.out, ← hs]
            try rfl
          · have := HA.out
            repeat with_reducible (first | exact HB.out | refine Below.setCell ?_ (by simp; omega) _)
        · go_wp2
          refine bodyPost_ret (v := .tuple #[.agg #[.string s2, .int .i64 11], .int .u64 0]) ?_ rfl ⟨?_, ?_⟩
          · simp [results, Try.results35, go_sem, *]
          · rw [U4.out, ← hs]
            try rfl
          · have := HA.out
            repeat with_reducible (first | exact HB.out | refine Below.setCell ?_ (by simp; omega) _)
        · go_wp2
          refine bodyPost_ret (v := .tuple #[.agg #[.string s2, .int .i64 11], .int .u64 0]) ?_ rfl ⟨?_, ?_⟩
          · simp [results, Try.results35, go_sem, *]
          · rw [U4.out, ← hs]
            try rfl
          · have := HA.out
            repeat with_reducible (first | exact HB.out | refine Below.setCell ?_ (by simp; omega) _)
      · have U4 : Hid ((if zn < 128 then (acc + zn * 128 ^ i, r, 0) else getU (i + 1) (acc + zn % 128 * 128 ^ i) r) = U) := Lib.hid (by rw [← U3.out, if_neg hb])
        have gd : ((ii == 9) = true ∧ decide (1 < zi) = false ∧ decide (0 < ii) = true ∧ (zi == 0) = false) ∨ ((ii == 9) = false ∧ decide (0 < ii) = false) ∨ ((ii == 9) = false ∧ decide (0 < ii) = true ∧ (zi == 0) = false) := by
          have := IE.out
          have := ZI.out
          simp only [beq_iff_eq, decide_eq_true_eq, decide_eq_false_iff_not, beq_eq_false_iff_ne, ne_eq]
          omega
        have HN := Lib.hid hb
        clear hb U3 d10
        rcases gd with ⟨d1, d2, d3, d4⟩ | ⟨d1, d3⟩ | ⟨d1, d3, d4⟩
        all_goals go_upto_region 16 with fail
        all_goals
          clear d1 d3
          go_upto_region 17 with fail
        all_goals
          have OE := dig_step HC.out hi9 hz8.out (by have := HN.out; omega)
          rw [← ZI.out, ← ME.out, ← AE.out] at OE
          rw [OE]
          obtain ⟨V, hV⟩ : ∃ V, V = acc + zn % 128 * 128 ^ i := ⟨_, rfl⟩
          rw [← hV] at U4 ⊢
          have VV := Lib.hid hV
          clear OE hV
          by_cases hsm : zn < 128
          · have hs1 : decide (zi < 128) = true := decide_eq_true (by have := ZI.out; omega)
            replace U4 : Hid (U = (V, r, 0)) := Lib.hid (by
              rw [← U4.out, if_pos hsm, VV.out, Nat.mod_eq_of_lt hsm])
            go_wp2
            refine bodyPost_ret (v := .tuple #[.agg #[.string s2, .int .i64 0], .int .u64 (V : Int)]) ?_ rfl ⟨?_, ?_⟩
            · simp [results, Try.results35, go_sem, *]
            · rw [U4.out, ← hs]
              try rfl
            · have := HA.out
              repeat with_reducible (first | exact HB.out | refine Below.setCell ?_ (by simp; omega) _)
          · have hs1 : decide (zi < 128) = false := decide_eq_false (by have := ZI.out; omega)
            have U5 : Hid (getU (i + 1) V r = U) := Lib.hid (by
              have := U4.out
              rw [if_neg hsm] at this
              exact this)
            have h9 : i < 9 := by
              rcases Nat.lt_or_ge i 9 with h | h
              · exact h
              · exact absurd (Or.inl ⟨by omega, by omega⟩) HN.out
            have VL : Hid (V < 128 ^ (i + 1)) := Lib.hid (by rw [VV.out]; exact dig_lt HC.out)
            have ML : IntKind.u64.wrap (mi * 128) = ((128 ^ (i + 1) : Nat) : Int) := by rw [ME.out]; exact mul_step h9
            have AI : IntKind.i64.wrap (ii + 1) = ((i + 1 : Nat) : Int) := by rw [IntKind.wrap_i64, IE.out]; omega
            clear U4 hsm HN
            go_wp2
            go_roundg (10 - (i + 1))
            case measure => rw [HK.out]; omega
            case rel => exact ⟨i + 1, V, r, rfl, by omega, VL.out, rfl, rfl, rfl, U5.out, H3.out⟩
theorem r_one (s : ByteArray) (e : Int) : (#[.string s, .int .i64 e] : Array Value).all (·.oneCell') = true := by simp [Value.oneCell']
theorem results_cc {P : Program} {w : World} {fn : Func} {q r : Tmp} {ty ty2 : TypeId} (h : fn.results = #[.cell q ty, .cell r ty2]) (tmps : Array Value) (b b2 : Nat) (C C2 : Array Value) (d d2 : TypeDesc)
    (hq : tmps.getD q undef = .pointer (some ⟨b, 0, none⟩)) (hr : tmps.getD r undef = .pointer (some ⟨b2, 0, none⟩)) (hc : Lies w b 0 C) (hc2 : Lies w b2 0 C2)
    (hu : P.underlying ty = some d) (hd : d.isRow = true) (hi : (P.info? ty).map (·.size) = some C.size) (hu2 : P.underlying ty2 = some d2) (hd2 : d2.isRow = true) (hi2 : (P.info? ty2).map (·.size) = some C2.size) :
    (results fn tmps).run P w = .ok (.tuple #[.agg C, .agg C2]) w := by
  have hq' : tmps[q]?.getD undef = .pointer (some ⟨b, 0, none⟩) := by simpa using hq
  have hr' : tmps[r]?.getD undef = .pointer (some ⟨b2, 0, none⟩) := by simpa using hr
  have hl := run_loadVar_mid (P := P) w b 0 ty C.toList d hc hu hd (by simpa using hi)
  have hl2 := run_loadVar_mid (P := P) w b2 0 ty2 C2.toList d2 hc2 hu2 hd2 (by simpa using hi2)
  simp [results, h, hq', hr', asAddr, hl, hl2]
theorem size_R : (Try.prog.info? 82).map (·.size) = some 2 := by kernel_rfl
theorem idCells_get (xs : List UInt8) {k : Nat} (h : k < 32) : (idCells xs)[k]? = some (cell (xs[k]?.getD 0)) := by
  unfold idCells
  rw [List.getElem?_map, List.getElem?_take, if_pos h]
  by_cases hk : k < xs.length
  · rw [List.getElem?_append_left hk, List.getElem?_eq_getElem hk]
    rfl
  · rw [List.getElem?_append_right (by omega), List.getElem?_replicate, if_pos (by omega), List.getElem?_eq_none (by omega)]
    rfl
theorem idCells_step {ss : List UInt8} {j : Nat} {z : UInt8} (hj : ss[j]? = some z) (h32 : j < 32) : (idCells (ss.take j)).toArray.setIfInBounds j (cell z) = (idCells (ss.take (j + 1))).toArray := by
  rw [List.setIfInBounds_toArray]
  congr 1
  apply List.ext_getElem?
  intro k
  rw [List.getElem?_set, idCells_len]
  by_cases h : k < 32
  · rw [idCells_get _ h, idCells_get _ h, List.getElem?_take, List.getElem?_take]
    by_cases hk : j = k
    · subst hk
      rw [if_pos rfl, if_pos h32, if_pos (by omega), hj]
      rfl
    · rw [if_neg hk]
      by_cases h2 : k < j
      · rw [if_pos h2, if_pos (by omega)]
      · rw [if_neg h2, if_neg (by omega)]
  · rw [List.getElem?_eq_none (l := idCells (ss.take j)) (by rw [idCells_len]; omega), List.getElem?_eq_none (l := idCells (ss.take (j + 1))) (by rw [idCells_len]; omega), if_neg (by omega)]
theorem heap_three (w : World) (o p q : Obj) : (((w.alloc o).alloc p).alloc q).heap[w.heap.size + 1 + 1]? = some q := by
  have := heap_at ((w.alloc o).alloc p) q
  simpa using this
theorem grown_one {w : World} {b i : Nat} {cs : Array Value} {t : TypeId} {fz : Nat × Nat} {v : Value} (_h : w.heap[b]? = some (.cells cs t fz)) : w.grownBy (w.setCell ⟨b, i, none⟩ v) (some b) :=
  ⟨rfl, rfl, rfl, by rw [World.size_setCell]; exact Nat.le_refl _, fun k _ hk => heap_setCell_ne v rfl (show k ≠ b from fun e => hk (by rw [e]))⟩
theorem grown_two {w : World} {b i j : Nat} {u v : Value} {cs : Array Value} {t : TypeId} {fz : Nat × Nat} (h : w.heap[b]? = some (.cells cs t fz)) : w.grownBy ((w.setCell ⟨b, i, none⟩ u).setCell ⟨b, j, none⟩ v) (some b) :=
  grown_trans (grown_one h) (grown_one (heap_setCell_same u h))
theorem idCells_nil : idCells [] = encId zid := rfl
/-- Fixed, of 32, whatever there is. -/
theorem rfixed_any (w : World) (zs : List UInt8) (er : Int) : ∃ ss : List UInt8, ss.length ≤ 32 ∧ idCells ss = encId (idOf zs er).1 ∧
    Calls Try.prog 46 #[.agg (rR zs er).toArray, .int .i64 32] w fun e w' => e = .returned (.tuple #[.agg (rR (idOf zs er).2.1 (idOf zs er).2.2).toArray, .string (strOf ss)]) ∧ Below w.heap.size w w' := by
  by_cases hbad : er ≠ 0 ∨ zs.length < 32
  · rw [idOf_short hbad]
    exact ⟨[], by simp, idCells_nil, rfixed_bad w zs er hbad⟩
  · obtain rfl : er = 0 := by omega
    rw [idOf_full (by omega)]
    exact ⟨zs.take 32, by rw [List.length_take]; omega, rfl, rfixed_fine w zs (by omega)⟩
theorem stored {w : World} {b : Nat} {C D : Array Value} {t : TypeId} (h : w.heap[b]? = some (.cells C t (0, 0))) (hs : D.size = C.size) :
    (w.setCells b 0 D.toList).heap[b]? = some (.cells D t (0, 0)) ∧ (∀ k, k ≠ b → (w.setCells b 0 D.toList).heap[k]? = w.heap[k]?) ∧ w.grownBy (w.setCells b 0 D.toList) (some b) :=
  ⟨heap_setCells_whole h hs, fun _ hk => heap_setCells_ne h (by simp; omega) hk, grown_setCells h (by simp; omega)⟩
set_option linter.unusedSimpArgs false in
set_option maxRecDepth 100000 in
set_option maxHeartbeats 4000000 in
theorem refid_any (w : World) (zs : List UInt8) (er : Int) :
    Calls Try.prog 36 #[.agg (rR zs er).toArray] w fun e w' => e = .returned (.tuple #[.agg (rR (idOf zs er).2.1 (idOf zs er).2.2).toArray, keyI (idOf zs er).1]) ∧ Below w.heap.size w w' := by
  obtain ⟨A, hA⟩ : ∃ A, A = w.heap.size := ⟨_, rfl⟩
  have HA := Lib.hid hA
  obtain ⟨D, hD⟩ : ∃ D, D = idOf zs er := ⟨_, rfl⟩
  obtain ⟨s0, hs0⟩ : ∃ s0, s0 = strOf zs := ⟨_, rfl⟩
  have HS0 := Lib.hid hs0
  have HD := Lib.hid hD
  obtain ⟨s2, hs2⟩ : ∃ s2, s2 = strOf D.2.1 := ⟨_, rfl⟩
  have HS2 := Lib.hid hs2
  obtain ⟨e2, he2⟩ : ∃ e2, e2 = D.2.2 := ⟨_, rfl⟩
  rw [← hD]
  unfold rR
  rw [← hs0, ← hs2, ← he2]
  have HE2 := Lib.hid he2
  clear hA hD hs0 hs2 he2
  go_enter Try.func36, Try.ntmps36
  go_upto_region 1 with fail
  rw [← HA.out]
  refine wp_named fun w1 hw1 => ?_
  have a1 : w1.heap[A]? = some (.cells #[.string s0, .int .i64 er] 82 (0, 0)) := by rw [hw1, HA.out]; exact heap_up (heap_one w _ _)
  have a2 : ∃ C : Array Value, C.size = 2 ∧ w1.heap[A + 1]? = some (.cells C 82 (0, 0)) := by rw [hw1, HA.out]; exact ⟨_, rfl, heap_up (heap_two w _ _)⟩
  have a3 : ∃ C : Array Value, C.size = 32 ∧ w1.heap[A + 1 + 1]? = some (.cells C 31 (0, 0)) := by
    rw [hw1, HA.out]
    refine ⟨_, ?_, heap_three w _ _ _⟩
    rfl
  have b1 : Below w.heap.size w w1 := by rw [hw1]; exact below_alloc (below_alloc (below_alloc (Below.refl _ _) _) _) _
  obtain ⟨C2, hC2, a2⟩ := a2
  obtain ⟨C3, hC3, a3⟩ := a3
  have A1 := Lib.hid a1
  have A2 := Lib.hid a2
  have A3 := Lib.hid a3
  have Z2 := Lib.hid hC2
  have Z3 := Lib.hid hC3
  have B1 := Lib.hid b1
  obtain ⟨ss, hss, hes, fx⟩ := rfixed_any w1 zs er
  rw [← HD.out] at hes fx
  unfold rR at fx
  rw [← HS0.out, ← HS2.out, ← HE2.out] at fx
  have FX := Lib.hid fx
  have HES := Lib.hid hes
  obtain ⟨c1, c2, c3, c4⟩ := box_cells a1
  clear hw1 a1 a2 a3 b1 hC2 hC3 fx hes
  go_wp2_with fail
  refine FX.out.mono ?_
  rintro e w2 ⟨rfl, b2⟩
  have A12 := Lib.hid (aRegionKept A1.out b2)
  have A22 := Lib.hid (aRegionKept A2.out b2)
  have A32 := Lib.hid (aRegionKept A3.out b2)
  have B2 := Lib.hid (B1.out.trans (b2.mono B1.out.size))
  obtain ⟨c1, c2, c3, c4⟩ := box_cells A12.out
  clear b2 FX A1 A2 A3 B1
  obtain ⟨sv, hsv⟩ : ∃ sv, sv = strOf ss := ⟨_, rfl⟩
  rw [← hsv]
  have SV := Lib.hid hsv
  clear hsv
  go_upto_region 3 with fail
  refine wp_named fun w3 hw3 => ?_
  obtain ⟨I, hI⟩ : ∃ I, I = w2.heap.size := ⟨_, rfl⟩
  rw [← hI]
  have hAI : A + 1 + 1 < I := by rw [hI]; exact (Array.getElem?_eq_some_iff.1 A32.out).1
  have g3 : w2.grownBy w3 (some A) := by
    rw [hw3]
    exact grown_trans (grown_two A12.out) (grown_below (below_alloc (Below.refl _ _) _) _)
  have k1 : w3.heap[A]? = some (.cells #[.string s2, .int .i64 e2] 82 (0, 0)) := by
    rw [hw3]
    exact heap_up (heap_setCell_same (.int .i64 e2) (heap_setCell_same (.string s2) A12.out))
  have kI : w3.heap[I]? = some (.cells (idCells (ss.take 0)).toArray 31 (0, 0)) := by
    rw [hw3]
    have := heap_at ((w2.setCell ⟨A, 0, none⟩ (.string s2)).setCell ⟨A, 1, none⟩ (.int .i64 e2)) (.cells (idCells []).toArray 31)
    rw [World.size_setCell, World.size_setCell, ← hI] at this
    exact this
  have K1 := Lib.hid k1
  have K2 : Hid (w3.heap[A + 1]? = some (.cells C2 82 (0, 0))) := Lib.hid ((g3.block _ (Array.getElem?_eq_some_iff.1 A22.out).1 (fun e => by have := Option.some.inj e; omega)).trans A22.out)
  have K3 : Hid (w3.heap[A + 1 + 1]? = some (.cells C3 31 (0, 0))) := Lib.hid ((g3.block _ (Array.getElem?_eq_some_iff.1 A32.out).1 (fun e => by have := Option.some.inj e; omega)).trans A32.out)
  have KI := Lib.hid kI
  have B3 := Lib.hid (B2.out.trans (below_grown g3 B2.out.size (by rw [HA.out]; exact Nat.le_refl _)))
  have SZ : (sv.size : Int) = (ss.length : Int) := by rw [SV.out, str_size]
  clear hw3 hI g3 k1 kI A12 A22 A32 B2
  obtain ⟨n, hn⟩ : ∃ n, n = ss.length := ⟨_, rfl⟩
  rw [← hn] at SZ hss
  have NN := Lib.hid hn
  clear hn c1 c2 c3 c4
  go_wp2_with fail
  go_loopg [6] n (fun k s6 wr => ∃ j : Nat, j ≤ n ∧ k = n - j ∧ s6 = .int .i64 j ∧ wr.heap[I]? = some (.cells (idCells (ss.take j)).toArray 31 (0, 0)) ∧ w3.grownBy wr (some I))
  case atStart => exact ⟨0, Nat.zero_le _, rfl, rfl, KI.out, grown_refl _ _⟩
  case round =>
    obtain ⟨j, hj, hk, rfl, hI, hg⟩ := hrel
    have HK := Lib.hid hk
    have HI := Lib.hid hI
    have HG := Lib.hid hg
    have j0 : (0 : Int) ≤ (j : Int) := Int.natCast_nonneg _
    clear hk hI hg
    by_cases hlt : j < n
    · have hlt' : (j : Int) < (n : Int) := by omega
      have hlt2 : (j : Int) < (sv.size : Int) := by rw [SZ]; exact hlt'
      have hlt3 : (j : Int) < 32 := by omega
      obtain ⟨z, hz⟩ : ∃ z, ss[j]? = some z := ⟨ss[j]'(by rw [← NN.out]; exact hlt), List.getElem?_eq_getElem _⟩
      have hq : j < sv.size := by omega
      have x5 : sv[j]'hq = z := by
        have hs := SV.out
        subst hs
        have := (List.getElem?_eq_some_iff.1 hz).2
        rw [← this]
        rfl
      have cz : wr.cell? ⟨I, j, none⟩ = some (cell ((ss.take j)[j]?.getD 0)) := blk_cell HI.out (idCells_get _ (by omega))
      have fz := blk_free HI.out j
      have ST := Lib.hid (idCells_step hz (by omega))
      clear hz
      go_wp2
      go_roundg (n - (j + 1))
      case measure => rw [HK.out]; omega
      case rel =>
        refine ⟨j + 1, by omega, rfl, by go_num, ?_, ?_⟩
        · rw [← ST.out]
          exact heap_setCell_same (cell z) HI.out
        · exact grown_trans HG.out (grown_one HI.out)
    · obtain rfl : j = n := by omega
      have hlt' : ¬ (j : Int) < (j : Int) := by omega
      have hI := HI.out
      rw [List.take_of_length_le (by rw [← NN.out]; exact Nat.le_refl _)] at hI
      have kp : ∀ k o, k ≠ I → w3.heap[k]? = some o → wr.heap[k]? = some o := fun k o hk h => (HG.out.block k (Array.getElem?_eq_some_iff.1 h).1 (fun e => hk (Option.some.inj e))).trans h
      have R1 := Lib.hid (kp A _ (by omega) K1.out)
      have R2 := Lib.hid (kp (A + 1) _ (by omega) K2.out)
      have R3 := Lib.hid (kp (A + 1 + 1) _ (by omega) K3.out)
      have RI := Lib.hid hI
      have BW := Lib.hid (B3.out.trans (below_grown HG.out B3.out.size (by have := HA.out; omega)))
      clear hI kp HI HG K1 K2 K3 KI B3
      go_upto_region 7 with fail
      refine wp_region_held_drew (S := fun w' => w'.heap[A]? = some (.cells #[.string s2, .int .i64 e2] 82 (0, 0)) ∧ w'.heap[I]? = some (.cells (idCells ss).toArray 31 (0, 0))) (by kernel_rfl) (show wr.drew.heap[A]? = _ ∧ wr.drew.heap[I]? = _ from ⟨R1.out, RI.out⟩) (fun hHeld => ?_)
      refine wpAnyH_take (i := 0) (v := ?_) rfl (by kernel_rfl) (by kernel_rfl) (by kernel_rfl) (fun _ _ _ h => h) (Or.inl ⟨by kernel_rfl, ?_⟩) (by assumption) ?_
      rotate_left
      · (intro w hSw; (obtain ⟨q1, q2, q3, q4⟩ := box_cells hSw.1; go_simp; try with_reducible rfl))
      try simp only [Act.put, List.getElem_toArray, List.getElem_cons_succ, List.getElem_cons_zero, List.setIfInBounds_toArray, List.set_cons_zero, List.set_cons_succ]
      refine' wpAnyH_take (i := 1) (v := _) rfl (by kernel_rfl) (by kernel_rfl) (by kernel_rfl) (fun _ _ _ h => h) (yieldsIf_load_mid (by kernel_rfl) _ _ rfl I 0 rfl (idCells ss) _ ?hS1 Try.underlying31 rfl (by rw [size_id, idCells_len])) (by assumption) ?rest1
      case hS1 => exact fun w' hw => lies_range (lies_block hw.2)
      case rest1 =>
      try simp only [Act.put, List.getElem_toArray, List.getElem_cons_succ, List.getElem_cons_zero, List.setIfInBounds_toArray, List.set_cons_zero, List.set_cons_succ]
      refine wpAnyH_ready (rs := [2]) (by kernel_rfl) (by simp) (AllReadyH.cons rfl (fun K1 hK1 => ?_) AllReadyH.nil)
      · have f2 : wr.drew.heap[A + 1]? = _ := R2.out
        refine step_store_mid rfl 82 (.tmp 2) (.tmp 23) rfl (A + 1) 0 #[.string s2, .int .i64 e2] rfl rfl (there_block f2 (by rw [Z2.out]; exact Nat.le_refl _)) size_R (r_one s2 e2) ?_
        obtain ⟨p1, p2, p3⟩ := stored (D := #[.string s2, .int .i64 e2]) f2 (by rw [Z2.out]; rfl)
        generalize wr.drew.setCells (A + 1) 0 (#[.string s2, .int .i64 e2] : Array Value).toList = w5 at p1 p2 p3 ⊢
        have f3 := (p2 (A + 1 + 1) (by omega)).trans R3.out
        refine hK1.out _ _ ⟨(p2 A (by omega)).trans R1.out, (p2 I (by omega)).trans RI.out⟩ (fun hH => ?_)
        clear hHeld hK1
        try simp only [Act.put, List.getElem_toArray, List.getElem_cons_succ, List.getElem_cons_zero, List.setIfInBounds_toArray, List.set_cons_zero, List.set_cons_succ]
        refine wpAnyH_ready (rs := [3]) (by kernel_rfl) (by simp) (AllReadyH.cons rfl (fun K1 hK1 => ?_) AllReadyH.nil)
        refine step_store_mid rfl 31 (.tmp 3) (.tmp 24) rfl (A + 1 + 1) 0 (idCells ss).toArray rfl rfl (there_block f3 (by rw [Z3.out]; simp [idCells_len])) (by rw [size_id]; simp [idCells_len]) (all_oneCell_toArray (idCells_one ss)) ?_
        obtain ⟨q1, q2, q3⟩ := stored (D := (idCells ss).toArray) f3 (by rw [Z3.out]; simp [idCells_len])
        generalize w5.setCells (A + 1 + 1) 0 (idCells ss).toArray.toList = w6 at q1 q2 q3 ⊢
        have m1 := (q2 (A + 1) (by omega)).trans p1
        refine hK1.out _ _ ⟨(q2 A (by omega)).trans hH.1, (q2 I (by omega)).trans hH.2⟩ (fun hH2 => ?_)
        clear hH hK1
        try simp only [Act.put, List.getElem_toArray, List.getElem_cons_succ, List.getElem_cons_zero, List.setIfInBounds_toArray, List.set_cons_zero, List.set_cons_succ]
        refine wpAnyH_done (by kernel_rfl) ?_ _
        go_wp2
        refine bodyPost_ret (results_cc rfl _ (A + 1) (A + 1 + 1) #[.string s2, .int .i64 e2] (idCells ss).toArray _ _ rfl rfl (lies_block m1) (lies_block q1) Try.underlying82 rfl size_R Try.underlying31 rfl (by rw [size_id]; simp [idCells_len])) rfl ⟨by rw [HES.out], ?_⟩
        have hb := HA.out
        exact ((below_drew BW.out).grown p3 (by have := BW.out.size; exact this) (fun k hk => by cases hk; omega)).grown q3 (Nat.le_trans BW.out.size p3.size) (fun k hk => by cases hk; omega)
theorem stored_part {w : World} {b : Nat} {C : Array Value} {t : TypeId} (h : w.heap[b]? = some (.cells C t (0, 0))) {vs : List Value} {i : Nat} (hi : i + vs.length ≤ C.size) :
    (w.setCells b i vs).heap[b]? = some (.cells (C.toList.take i ++ vs ++ C.toList.drop (i + vs.length)).toArray t (0, 0)) := by
  rw [setCells_row h vs i hi, setRow_heap w b C _ t _ h]
theorem e_id (a a2 : Id32) (p : Pl) : (ecells (a, p)).take 0 ++ encId a2 ++ (ecells (a, p)).drop (0 + (encId a2).length) = ecells (a2, p) := by
  rw [List.take_zero, List.nil_append, Nat.zero_add, encId_len]
  unfold ecells
  rw [List.drop_append_of_le_length (by rw [encId_len]; exact Nat.le_refl _), List.drop_of_length_le (by rw [encId_len]; exact Nat.le_refl _), List.nil_append]
theorem e_pack (a b b2 : Id32) (n : Int) : (ecells (a, ⟨b, n⟩)).take 32 ++ encId b2 ++ (ecells (a, ⟨b, n⟩)).drop (32 + (encId b2).length) = ecells (a, ⟨b2, n⟩) := by
  rw [encId_len]
  unfold ecells plcells
  rw [List.take_append_of_le_length (by rw [encId_len]; exact Nat.le_refl _), List.take_of_length_le (by rw [encId_len]; exact Nat.le_refl _)]
  have e : (encId a ++ (encId b ++ [Value.int .i64 n])).drop (32 + 32) = [Value.int .i64 n] := by
    rw [← List.append_assoc, List.drop_append_of_le_length (by rw [List.length_append, encId_len, encId_len]; exact Nat.le_refl _), List.drop_of_length_le (by rw [List.length_append, encId_len, encId_len]; exact Nat.le_refl _), List.nil_append]
  rw [e, List.append_assoc]
theorem e_num (a b : Id32) (n m : Int) : (ecells (a, ⟨b, n⟩)).toArray.setIfInBounds 64 (.int .i64 m) = (ecells (a, ⟨b, m⟩)).toArray := by
  rw [List.setIfInBounds_toArray]
  congr 1
  unfold ecells plcells
  rw [← List.append_assoc, ← List.append_assoc, List.set_append_right _ _ (by rw [List.length_append, encId_len, encId_len]; exact Nat.le_refl _), List.length_append, encId_len, encId_len]
  rfl
/-- What stands in memory in a round of the reference's Get: the reader, the object, all objects so far. -/
structure RG (w wr : World) (L T : Nat) (zs : List UInt8) (er : Int) (e : Ent) (v : Value) (q : Nat) (xs : List Value) : Prop where
  box : wr.heap[L]? = some (.cells #[.string (strOf zs), .int .i64 er] 82 (0, 0))
  ent : wr.heap[T]? = some (.cells (ecells e).toArray 41 (0, 0))
  own : wr.ownsRow (L + 1) 41 65 v q xs
  blk : v.ownBlock ≠ some T
  below : Below w.heap.size w wr
  lo : w.heap.size ≤ L
  lt : L < T
theorem RG.later {w wr w' : World} {L T : Nat} {zs : List UInt8} {er : Int} {e : Ent} {v : Value} {q : Nat} {xs : List Value} (h : RG w wr L T zs er e v q xs) (hb : Below wr.heap.size wr w') : RG w w' L T zs er e v q xs :=
  ⟨aRegionKept h.box hb, aRegionKept h.ent hb, own_later h.own hb, h.blk, h.below.trans (hb.mono h.below.size), h.lo, h.lt⟩
theorem RG.read {w wr : World} {L T : Nat} {zs : List UInt8} {er : Int} {e : Ent} {v : Value} {q : Nat} {xs : List Value} (h : RG w wr L T zs er e v q xs) (zs2 : List UInt8) (er2 : Int) :
    RG w ((wr.setCell ⟨L, 0, none⟩ (.string (strOf zs2))).setCell ⟨L, 1, none⟩ (.int .i64 er2)) L T zs2 er2 e v q xs := by
  have hg : wr.grownBy ((wr.setCell ⟨L, 0, none⟩ (.string (strOf zs2))).setCell ⟨L, 1, none⟩ (.int .i64 er2)) (some L) := grown_two h.box
  refine ⟨heap_setCell_same (.int .i64 er2) (heap_setCell_same (.string (strOf zs2)) h.box), (hg.block T (Array.getElem?_eq_some_iff.1 h.ent).1 (fun e => by have := Option.some.inj e; have := h.lt; omega)).trans h.ent, ?_, h.blk, h.below.trans (below_grown hg h.below.size h.lo), h.lo, h.lt⟩
  exact own_of h.own fun k _ hk hc => (hg.block k (Array.getElem?_eq_some_iff.1 hc).1 (fun e => by have := Option.some.inj e; have := (own_row h.own hk).1; omega)).trans hc
theorem RG.part {w wr w' : World} {L T : Nat} {zs : List UInt8} {er : Int} {e e2 : Ent} {v : Value} {q : Nat} {xs : List Value} (h : RG w wr L T zs er e v q xs) (hg : wr.grownBy w' (some T)) (he : w'.heap[T]? = some (.cells (ecells e2).toArray 41 (0, 0))) :
    RG w w' L T zs er e2 v q xs := by
  have hlt := h.lt
  have hlo := h.lo
  refine ⟨(hg.block L (Array.getElem?_eq_some_iff.1 h.box).1 (fun e => by have := Option.some.inj e; omega)).trans h.box, he, ?_, h.blk, h.below.trans (below_grown hg h.below.size (by omega)), h.lo, h.lt⟩
  exact own_of h.own fun k _ hk hc => (hg.block k (Array.getElem?_eq_some_iff.1 hc).1 (fun e => h.blk (by rw [hk]; exact e))).trans hc
theorem RG.id {w wr : World} {L T : Nat} {zs : List UInt8} {er : Int} {a : Id32} {p : Pl} {v : Value} {q : Nat} {xs : List Value} (h : RG w wr L T zs er (a, p) v q xs) (a2 : Id32) : RG w (wr.setCells T 0 (encId a2).toArray.toList) L T zs er (a2, p) v q xs := by
  refine h.part (grown_setCells h.ent (by simp [ecells_len, encId_len])) ?_
  have := stored_part h.ent (vs := encId a2) (i := 0) (by simp [ecells_len, encId_len])
  rw [show (ecells (a, p)).toArray.toList = ecells (a, p) from rfl, e_id] at this
  exact this
theorem RG.pack {w wr : World} {L T : Nat} {zs : List UInt8} {er : Int} {a b : Id32} {n : Int} {v : Value} {q : Nat} {xs : List Value} (h : RG w wr L T zs er (a, ⟨b, n⟩) v q xs) (b2 : Id32) : RG w (wr.setCells T 32 (encId b2).toArray.toList) L T zs er (a, ⟨b2, n⟩) v q xs := by
  refine h.part (grown_setCells h.ent (by simp [ecells_len, encId_len])) ?_
  have := stored_part h.ent (vs := encId b2) (i := 32) (by simp [ecells_len, encId_len])
  rw [show (ecells (a, ⟨b, n⟩)).toArray.toList = ecells (a, ⟨b, n⟩) from rfl, e_pack] at this
  exact this
theorem RG.num {w wr : World} {L T : Nat} {zs : List UInt8} {er : Int} {a b : Id32} {n : Int} {v : Value} {q : Nat} {xs : List Value} (h : RG w wr L T zs er (a, ⟨b, n⟩) v q xs) (m : Int) : RG w (wr.setCell ⟨T, 64, none⟩ (.int .i64 m)) L T zs er (a, ⟨b, m⟩) v q xs := by
  refine h.part (grown_one h.ent) ?_
  have := heap_setCell_same (i := 64) (.int .i64 m) h.ent
  rw [e_num] at this
  exact this
theorem RG.there {w wr : World} {L T : Nat} {zs : List UInt8} {er : Int} {e : Ent} {v : Value} {q : Nat} {xs : List Value} (h : RG w wr L T zs er e v q xs) {i : Nat} (hi : i ≤ 33) (x : Id32) : wr.there T i (encId x).toArray.size :=
  there_block h.ent (by simp [ecells_len, encId_len]; omega)
end Go.Proofs.Ytgbghjpkdbjdgaa
