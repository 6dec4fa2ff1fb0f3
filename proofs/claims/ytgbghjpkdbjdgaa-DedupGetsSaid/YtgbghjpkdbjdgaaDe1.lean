/- The reference's rows of objects: cells; Find. -/
import Derived.Test.YtgbghjpkdbjdgaaDd24
namespace Go.Proofs.Ytgbghjpkdbjdgaa
open Go.RowKit
open Extern.Stop (cell)

abbrev Ent := Id32 × Pl
/-- An object's cells. -/
def ecells (e : Ent) : List Value := encId e.1 ++ plcells e.2
theorem ecells_len (e : Ent) : (ecells e).length = 65 := by simp [ecells, encId_len, plcells_len]
theorem ecells_one (e : Ent) : ∀ u ∈ ecells e, u.oneCell' = true := by
  intro u hu
  rcases List.mem_append.1 hu with hu | hu
  · exact encId_one _ u hu
  · exact plcells_one _ u hu
theorem size_e : (Try.prog.info? 41).map (·.size) = some 65 := by kernel_rfl
theorem sizee (e : Ent) : (Try.prog.info? 41).map (·.size) = some (ecells e).toArray.size := by rw [size_e]; simp [ecells_len]
theorem built_e (i p : Id32) (n : Int) : Try.prog.built 41 [(0, .agg (encId i).toArray), (1, .agg (encId p).toArray), (2, .int .i64 n)] = some (ecells (i, ⟨p, n⟩)).toArray := by
  obtain ⟨c0, c1, c2, c3, c4, c5, c6, c7, c8, c9, c10, c11, c12, c13, c14, c15, c16, c17, c18, c19, c20, c21, c22, c23, c24, c25, c26, c27, c28, c29, c30, c31, h⟩ := list32 (encId_len i)
  obtain ⟨d0, d1, d2, d3, d4, d5, d6, d7, d8, d9, d10, d11, d12, d13, d14, d15, d16, d17, d18, d19, d20, d21, d22, d23, d24, d25, d26, d27, d28, d29, d30, d31, h2⟩ := list32 (encId_len p)
  unfold ecells plcells
  rw [h, h2]
  kernel_rfl
/-- Where an object's parts lie. -/
theorem e_lies {w : World} {b o : Nat} {e : Ent} (h : Lies w b o (ecells e).toArray) : Lies w b o (encId e.1).toArray ∧ Lies w b (o + 32) (encId e.2.pack).toArray ∧ w.cell? ⟨b, o + 64, none⟩ = some (.int .i64 e.2.n) := by
  refine ⟨fun j v hj => ?_, fun j v hj => ?_, ?_⟩
  · have hj' : (encId e.1)[j]? = some v := by simpa using hj
    have hl := (List.getElem?_eq_some_iff.1 hj').1
    exact h j v (by
      show (ecells e)[j]? = some v
      rw [ecells, List.getElem?_append_left hl]
      exact hj')
  · have hj' : (encId e.2.pack)[j]? = some v := by simpa using hj
    have hl := (List.getElem?_eq_some_iff.1 hj').1
    have := h (32 + j) v (by
      show (ecells e)[32 + j]? = some v
      rw [ecells, List.getElem?_append_right (by rw [encId_len]; omega), encId_len, show 32 + j - 32 = j by omega, plcells, List.getElem?_append_left hl]
      exact hj')
    rw [← Nat.add_assoc] at this
    exact this
  · exact h 64 _ (by
      show (ecells e)[64]? = _
      rw [ecells, List.getElem?_append_right (by rw [encId_len]; omega), encId_len, plcells, List.getElem?_append_right (by rw [encId_len]; omega), encId_len]
      rfl)
/-- A row of objects that can be read. -/
abbrev ERow (w : World) (ad : Option Addr) (es : List Ent) : Prop := RowAt w ad (es.flatMap ecells)
theorem erow_elem {w : World} {ad : Option Addr} {es : List Ent} (h : ERow w ad es) {j : Nat} {e : Ent} (he : es[j]? = some e) : ∃ b off, ad = some ⟨b, off, none⟩ ∧ b < w.heap.size ∧ Lies w b (off + j * 65) (ecells e).toArray := rowAt_elem ecells_len (by decide) h he
theorem take_has {es : List Ent} {id : Id32} (h : ∀ e ∈ es, e.1 ≠ id) : aget es id = none := (aget_none_iff es id).2 h
set_option linter.unusedSimpArgs false in
set_option maxRecDepth 100000 in
set_option maxHeartbeats 4000000 in
theorem rfind_any {w : World} {ad : Option Addr} {es : List Ent} {c : Nat} (hrow : ERow w ad es) (hl : es.length ≤ 1000000) (id : Id32) :
    Calls Try.prog 16 #[.slice ad es.length c, keyI id] w fun e w' => (∃ r : Int, e = .returned (.int .i64 r) ∧ decide (0 ≤ r) = (aget es id).isSome ∧ r ≤ 1000000) ∧ Below w.heap.size w w' := by
  have ROW := Lib.hid hrow
  obtain ⟨n, hn⟩ : ∃ n, n = es.length := ⟨_, rfl⟩
  have NN := Lib.hid hn
  rw [← hn] at hl ⊢
  have n1 : (n : Int) ≤ 1000000 := by omega
  obtain ⟨I, hI⟩ : ∃ I, I = w.heap.size := ⟨_, rfl⟩
  have II := Lib.hid hI
  clear hrow hn hI
  go_enter Try.func16, Try.ntmps16
  go_upto_region 1 with fail
  rw [← II.out]
  refine wp_named fun W hW => ?_
  have e1 : W.heap[I]? = some (.cells (encId id).toArray 31 (0, 0)) := by rw [hW, II.out]; exact heap_at _ _
  have b0 : Below w.heap.size w W := by rw [hW]; exact below_alloc (Below.refl _ _) _
  have E1 := Lib.hid e1
  have B0 := Lib.hid b0
  clear hW e1 b0
  go_wp2_with fail
  go_loopg [5] n (fun k s5 wr => ∃ j : Nat, j ≤ n ∧ k = n - j ∧ s5 = .int .i64 j ∧ (∀ e ∈ es.take j, e.1 ≠ id) ∧ Below W.heap.size W wr)
  case atStart => exact ⟨0, Nat.zero_le _, rfl, rfl, by simp, Below.refl _ _⟩
  case round =>
    obtain ⟨j, hj, hk, rfl, hno, hb⟩ := hrel
    have HK := Lib.hid hk
    have NO := Lib.hid hno
    have HB := Lib.hid hb
    have j0 : (0 : Int) ≤ (j : Int) := Int.natCast_nonneg _
    clear hk hno hb
    by_cases hlt : j < n
    · have hlt' : (j : Int) < (n : Int) := by omega
      obtain ⟨e, he⟩ : ∃ e, es[j]? = some e := ⟨es[j]'(by rw [← NN.out]; exact hlt), List.getElem?_eq_getElem _⟩
      obtain ⟨b, off, rfl, hb2, hL⟩ := erow_elem (ROW.out.later (B0.out.trans (HB.out.mono B0.out.size))) he
      have LA := Lib.hid (e_lies hL).1
      have LI := Lib.hid (lies_block (aRegionKept E1.out HB.out))
      have HE := Lib.hid he
      have hq := eqi32 e.1 id
      clear hL he
      go_upto_region 4 with fail
      by_cases heq : e.1 = id
      · have hd : decide (e.1 = id) = true := decide_eq_true heq
        have FND : Hid ((aget es id).isSome = true) := Lib.hid (by
          cases hg : aget es id with
          | some v => rfl
          | none => exact absurd heq ((aget_none_iff es id).1 hg e (List.mem_of_getElem? HE.out)))
        clear heq
        refine wp_region_quiet_lit (by kernel_rfl) (by kernel_rfl) ?_
        iterate 4 go_big_quiet_step (fail)
        refine wpQuiet_load (by kernel_rfl) 31 (.tmp 15) rfl b (off + j * 65) rfl (encId e.1).toArray _ (lies_drewN (LA.out)) Try.underlying31 rfl (sizei e.1.1) ?_
        try simp only [Act.put, List.setIfInBounds_toArray, List.set_cons_zero, List.set_cons_succ]
        refine wpQuiet_load (by kernel_rfl) 31 (.tmp 3) rfl I (0) rfl (encId id).toArray _ (lies_drewN (LI.out)) Try.underlying31 rfl (sizei id.1) ?_
        try simp only [Act.put, List.setIfInBounds_toArray, List.set_cons_zero, List.set_cons_succ]
        repeat go_big_quiet_step (fail)
        refine wpQuiet_nil ?_
        intro _ hw9
        obtain ⟨nq, hw9⟩ := hw9
        subst hw9
        go_wp2
        go_ret
        refine ⟨⟨(j : Int), rfl, ?_, by omega⟩, B0.out.trans ((below_drewN HB.out _).mono B0.out.size)⟩
        rw [FND.out]
        exact decide_eq_true j0
      · have hd : decide (e.1 = id) = false := decide_eq_false heq
        have NE := Lib.hid heq
        clear heq
        refine wp_region_quiet_lit (by kernel_rfl) (by kernel_rfl) ?_
        iterate 4 go_big_quiet_step (fail)
        refine wpQuiet_load (by kernel_rfl) 31 (.tmp 15) rfl b (off + j * 65) rfl (encId e.1).toArray _ (lies_drewN (LA.out)) Try.underlying31 rfl (sizei e.1.1) ?_
        try simp only [Act.put, List.setIfInBounds_toArray, List.set_cons_zero, List.set_cons_succ]
        refine wpQuiet_load (by kernel_rfl) 31 (.tmp 3) rfl I (0) rfl (encId id).toArray _ (lies_drewN (LI.out)) Try.underlying31 rfl (sizei id.1) ?_
        try simp only [Act.put, List.setIfInBounds_toArray, List.set_cons_zero, List.set_cons_succ]
        repeat go_big_quiet_step (fail)
        refine wpQuiet_nil ?_
        intro _ hw9
        obtain ⟨nq, hw9⟩ := hw9
        subst hw9
        go_wp2
        go_roundg (n - (j + 1))
        case measure => rw [HK.out]; omega
        case rel =>
          refine ⟨j + 1, by omega, rfl, by go_num, ?_, below_drewN HB.out _⟩
          rw [List.take_add_one, HE.out]
          intro x hx
          rcases List.mem_append.1 hx with hx | hx
          · exact NO.out x hx
          · have : x = e := by simpa using hx
            rw [this]
            exact NE.out
    · obtain rfl : j = n := by omega
      have hlt' : ¬ (j : Int) < (j : Int) := by omega
      have NF : Hid (aget es id = none) := Lib.hid (by
        have := NO.out
        rw [List.take_of_length_le (by rw [← NN.out]; exact Nat.le_refl _)] at this
        exact take_has this)
      go_wp2
      go_ret
      exact ⟨⟨-1, rfl, by rw [NF.out]; rfl, by decide⟩, B0.out.trans (HB.out.mono B0.out.size)⟩
end Go.Proofs.Ytgbghjpkdbjdgaa
