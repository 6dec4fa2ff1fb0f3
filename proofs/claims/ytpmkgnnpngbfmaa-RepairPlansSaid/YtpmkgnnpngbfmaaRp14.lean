/- The example runs as told. -/
import Derived.Test.YtpmkgnnpngbfmaaRp13
import Derived.Test.YtpmkgnnpngbfmaaRp10
import Derived.Great.BuildSlice
namespace Go.Proofs.Ytpmkgnnpngbfmaa
open Go.RowKit
open Extern.Stop (cell)

/-- A slice literal whose elements have many cells. -/
theorem wpList_rows {P : Program} {ops : Array Oper} {rest : List Oper} {o : Oper} {a : Act} {w : World} {Q : Exit → Act → World → Prop} (hg : o.guard = none) (t e : TypeId) (len : Nat) (parts : Array (Nat × Operand)) (ho : o.op = .buildSlice t len parts)
    (vals : List Value) (S : Nat) (ie : TypeInfo) (z : Value) (hu : P.underlying t = some (.slice e)) (hie : P.info? e = some ie) (hz : ie.zero = some z) (hS : ie.size = S) (h0 : 0 < S) (hl : vals.length = len) (hl0 : 0 < len) (hsm : len * S ≤ 16777216)
    (hv : ∀ v ∈ vals, v.cells.size = S) (hp : (parts.map fun (i, x) => (i, a.eval x)).toList = (vals.zipIdx 0).map fun x => (x.2, x.1))
    (h : wpList P ops Q rest (a.put o.dst (.slice (some ⟨w.heap.size, 0, none⟩) len len)) (w.alloc (.cells (vals.flatMap fun v => v.cells.toList).toArray e))) : wpList P ops Q (o :: rest) a w := by
  refine wpList_buildSlice hg t e len parts ho _ ie z hu hie hz (by rw [hS]; omega) (by rw [hS]; exact Nat.ne_of_gt (Nat.mul_pos hl0 h0)) ?_ h
  rw [hp, hS]
  exact Great.fill_whole h0 vals _ hv (by simp [hl])
theorem lies_left {w : World} {b i : Nat} {C D : List Value} (h : Lies w b i (C ++ D).toArray) : Lies w b i C.toArray := fun j v hj => h j v (by
  simp only at hj ⊢
  rw [List.getElem?_append_left (List.getElem?_eq_some_iff.1 hj).1]
  exact hj)
theorem lies_one {w : World} {b i : Nat} {C : List Value} (h : Lies w b i C.toArray) {j : Nat} {v : Value} (hj : C[j]? = some v) : w.cell? ⟨b, i + j, none⟩ = some v := h j v (by simpa using hj)
theorem all_one {α : Type} {P : α → Prop} {a : α} (h : P a) : ∀ x ∈ [a], P x := fun x hx => by rw [List.mem_singleton.1 hx]; exact h
theorem aggs_flat {α : Type} (f : α → List Value) (l : List α) : ((l.map fun x => Value.agg (f x).toArray).flatMap fun v => v.cells.toList) = l.flatMap f := by
  induction l with
  | nil => rfl
  | cons x r ih => rw [List.map_cons, List.flatMap_cons, List.flatMap_cons, ih]; rfl
theorem alloc_size (w : World) (o : Obj) : (w.alloc o).heap.size = w.heap.size + 1 := by simp
/-- The id of one byte. -/
def idOne (x : UInt8) : List UInt8 := x :: List.replicate 31 0
theorem idOne_len (x : UInt8) : (idOne x).length = 32 := by simp [idOne]
theorem built_id (x : UInt8) : Try.prog.built 37 [(0, .int .u8 (x.toNat : Int))] = some (idCells (idOne x)).toArray := by kernel_rfl
theorem built_id7 : Try.prog.built 37 [(0, .int .u8 7)] = some (idCells (idOne 7)).toArray := by kernel_rfl
theorem built_pk (p : Pk) : Try.prog.built 46 [(0, .agg (idCells p.id).toArray), (1, .int .u64 p.size), (2, .slice p.ad p.hs.length p.cap)] = some (pcells p).toArray := by
  obtain ⟨c0, c1, c2, c3, c4, c5, c6, c7, c8, c9, c10, c11, c12, c13, c14, c15, c16, c17, c18, c19, c20, c21, c22, c23, c24, c25, c26, c27, c28, c29, c30, c31, h⟩ := list32 (idCells_len p.id)
  unfold pcells
  rw [h]
  kernel_rfl
theorem pk_lies {w : World} {b i : Nat} {p : Pk} (h : Lies w b i (pcells p).toArray) : Lies w b i (idCells p.id).toArray ∧ w.cell? ⟨b, i + 32, none⟩ = some (.int .u64 p.size) ∧ w.cell? ⟨b, i + 33, none⟩ = some (.slice p.ad p.hs.length p.cap) :=
  ⟨lies_left h, lies_one h (by simp [pcells, idCells_len]), lies_one h (by simp [pcells, idCells_len])⟩
theorem mv_lies {w : World} {b i : Nat} {x : Mv} (h : Lies w b i (mcells x).toArray) : Lies w b i (idCells x.pack).toArray ∧ w.cell? ⟨b, i + 32, none⟩ = some (.int .i64 x.to) :=
  ⟨lies_left h, lies_one h (by simp [mcells, idCells_len])⟩
abbrev awP (H : Nat) : Pk := ⟨idOne 7, 5, [1], some ⟨H, 0, none⟩, 1⟩
abbrev awF : List (Int × Int) := [(1, 9), (2, 4), (3, 5)]
theorem built_aw (H : Nat) : Try.prog.built 46 [(0, .agg (idCells (idOne 7)).toArray), (1, .int .u64 5), (2, .slice (some ⟨H, 0, none⟩) 1 1)] = some (pcells (awP H)).toArray := built_pk (awP H)
theorem aw_plan (H : Nat) : (planOf 2 (frees awF) (isort keyOfPk [awP H])).2 = [⟨idOne 7, 3⟩] := by
  rw [isort_short _ (by simp)]
  kernel_rfl
theorem aw_after (H : Nat) : afts [⟨idOne 7, 3⟩] [awP H] 1 = [(idOne 7, 5, [1, 3])] := by
  have h : (behind [⟨idOne 7, 3⟩] (aget (seenIds (([awP H] : List Pk).take 0)) (([awP H] : List Pk).getD 0 default).id).isSome (([awP H] : List Pk).getD 0 default)).map Prod.fst = [1, 3] := by kernel_rfl
  show [(idOne 7, (5 : Int), keysOf _)] = _
  unfold keysOf
  rw [h, List.mergeSort_of_pairwise (by decide)]
theorem aw_lack (H : Nat) : lackOf 2 [awP H] = 1 := by kernel_rfl
theorem aw_lack2 (q : Pk) (h : q.hs = [1, 3]) : lackOf 2 [q] = 0 := by unfold lackOf; simp only [List.map_cons, List.map_nil, h]; kernel_rfl
set_option maxHeartbeats 1000000 in
set_option maxRecDepth 100000 in
theorem awake_any (w : World) : Calls Try.prog 7 #[] w fun e w' => e = .returned (.bool true) ∧ Below w.heap.size w w' := by
  obtain ⟨i0, hi, hz0, hz1, hz2⟩ := info_parts info_pk
  go_enter Try.func7, Try.ntmps7
  go_upto_region 2 with (first | (refine wpList_build_eq rfl 37 _ rfl (idCells (idOne 7)).toArray (by simpa [Act.eval] using built_id7) ?_) | (refine wpList_build_eq rfl 46 _ rfl (pcells (awP w.heap.size)).toArray (by simpa [Act.eval] using built_aw w.heap.size) ?_) | (refine wpList_rows rfl 22 46 1 #[(0, .tmp 6)] rfl [.agg (pcells (awP w.heap.size)).toArray] 34 i0 _ Try.underlying22 hi hz0 hz1 (by decide) rfl (by decide) (by decide) (by simp [Value.cells, pcells_len]) (by kernel_rfl) ?_))
  refine wp_named fun W hW => ?_
  obtain ⟨H, hH⟩ : ∃ H, H = w.heap.size := ⟨_, rfl⟩
  rw [← hH]
  have e0 : W.heap[H]? = some (.cells #[.int .i64 1] 3 (0, 0)) := by rw [hW, hH]; exact heap_up (heap_at _ _)
  have e1 : W.heap[H + 1]? = some (.cells (pcells (awP H)).toArray 46 (0, 0)) := by
    rw [hW, hH]
    have := heap_at (w.alloc (.cells #[.int .i64 1] 3)) (.cells ((([awP w.heap.size] : List Pk).map fun x => Value.agg (pcells x).toArray).flatMap fun v => v.cells.toList).toArray 46)
    rw [alloc_size, aggs_flat, List.flatMap_singleton] at this
    rw [← this]
  have b0 : Below w.heap.size w W := by rw [hW]; exact below_alloc (below_alloc (Below.refl _ _) _) _
  have r0 : RowAt W (some ⟨H + 1, 0, none⟩) (([awP H] : List Pk).flatMap pcells) := by simpa using rowAt_block e1
  have p0 : PkOk W (awP H) := ⟨idOne_len 7, intsRd_block (l := [1]) e0, by simp, all_one (by decide)⟩
  have R0 := Lib.hid r0
  have P0 := Lib.hid p0
  have B0 := Lib.hid b0
  clear hW e0 e1 b0 r0 p0 hi hz0 hz1 hz2 hH
  go_wp2_with fail
  have u1 := below_alloc (Below.refl W.heap.size W) (.cells #[.int .i64 1, .int .u64 9, .int .i64 2, .int .u64 4, .int .i64 3, .int .u64 5] 51)
  have PL := plan_any (l := [awP H]) (c := 1) (f := awF) (cf := 3) (k := 2) (R0.out.later u1) (by simp) (fun h => by cases h) (all_one (P0.out.later u1)) (all_one (by simp)) (rowAt_block (heap_at W _)) (by decide) (by intro x hx; simp at hx; rcases hx with rfl | rfl | rfl <;> decide) (by decide) (by decide)
  rw [aw_plan] at PL
  refine PL.mono ?_
  rintro e w2 ⟨v2, rfl, h2, b2⟩
  obtain ⟨x2, c2, rfl⟩ := own_slice h2
  have u2 := u1.trans (b2.mono u1.size)
  have M2 := Lib.hid h2
  have U2 := Lib.hid u2
  clear PL h2 b2 u1 u2
  go_wp2_with fail
  have AF := after_any (c := 1) (cm := c2) (l := [awP H]) (ms := [⟨idOne 7, 3⟩]) (R0.out.later U2.out) (by simp) (all_one (P0.out.later U2.out)) (rowAt_own M2.out) (by decide) (all_one ⟨idOne_len 7, by decide⟩)
  refine AF.mono ?_
  rintro e w3 ⟨v3, ps, rfl, hs, h3, ho, b3⟩
  rw [show ([awP H] : List Pk).length = 1 from rfl, aw_after] at hs
  obtain ⟨q, rfl, hq⟩ := List.map_eq_singleton_iff.1 hs
  obtain ⟨x3, c3, rfl⟩ := own_slice h3
  obtain ⟨q1, q2, q3⟩ : q.id = idOne 7 ∧ q.size = 5 ∧ q.hs = [1, 3] := by unfold says at hq; simpa using hq
  have u3 := U2.out.trans (b3.mono U2.out.size)
  have m3 := own_later M2.out b3
  obtain ⟨gm, rfl, _, lm, _⟩ := own_elem mcells_len (by decide) m3 (i := 0) (x := ⟨idOne 7, 3⟩) rfl
  obtain ⟨mi, mt⟩ := mv_lies lm
  obtain ⟨gp, rfl, _, lp, _⟩ := own_elem pcells_len (by decide) h3 (i := 0) (x := q) rfl
  have pt := (pk_lies lp).2.2
  rw [q3] at pt
  simp only [Nat.zero_mul, Nat.zero_add] at mi mt pt
  have qrd : IntsRd w3 q.ad q.hs := (ho q (by simp)).rd
  have qok : PkOk w3 q := ⟨by rw [q1]; exact idOne_len 7, qrd, by rw [q3]; decide, by rw [q3]; intro x hx; simp at hx; rcases hx with rfl | rfl <;> decide⟩
  have K1 := lack_any (c := 1) (l := [awP H]) (k := 2) (R0.out.later u3) (by simp) (all_one (P0.out.later u3)) (by decide) (by decide)
  rw [aw_lack] at K1
  have K2 : ∀ W', Below w3.heap.size w3 W' → Calls Try.prog 12 #[.slice (some ⟨gp, 0, none⟩) 1 c3, .int .i64 2] W' fun e w' => e = .returned (.int .i64 0) ∧ Below W'.heap.size W' w' := fun W' hb => by
    have := lack_any (w := W') (c := c3) (l := [q]) (k := 2) ((rowAt_own h3).later hb) (by simp) (all_one (qok.later hb)) (by decide) (by decide)
    rw [aw_lack2 q q3] at this
    exact this
  have EQ := eqi_ids (idOne_len 7) (idOne_len 7)
  simp only [beq_self_eq_true] at EQ
  have B3 := Lib.hid (B0.out.trans (u3.mono B0.out.size))
  have MI := Lib.hid mi
  have KK1 := Lib.hid K1
  have KK2 := Lib.hid K2
  clear AF hs ho h3 hq q1 q2 q3 u3 m3 lm lp qrd qok K1 K2 mi b3 U2 M2
  go_wp2_with (first | (refine wpList_load_if (by rfl) 37 (.tmp 30) rfl gm 0 rfl (idCells (idOne 7)).toArray _ MI.out Try.underlying37 rfl (sizei (idOne 7)) ?_) | (refine wpList_build_if (by rfl) 37 _ rfl (idCells (idOne 7)).toArray (by simpa [Act.eval] using built_id7) ?_))
  refine KK1.out.mono ?_
  rintro e w4 ⟨rfl, b4⟩
  have B4 := Lib.hid b4
  clear b4
  go_wp2_with fail
  refine (KK2.out _ B4.out).mono ?_
  rintro e w5 ⟨rfl, b5⟩
  go_wp2
  go_ret
  exact ⟨rfl, B3.out.trans ((B4.out.trans (b5.mono B4.out.size)).mono B3.out.size)⟩
end Go.Proofs.Ytpmkgnnpngbfmaa
