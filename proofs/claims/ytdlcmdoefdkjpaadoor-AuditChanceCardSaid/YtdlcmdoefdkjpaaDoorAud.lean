/- What an auditor holds in memory: targets, questions, and the functions of slices at them. -/
import Derived.Test.YtdlcmdoefdkjpaaDoorSlP
import Derived.Test.YtdlcmdoefdkjpaaDoorFrame
import Derived.Test.YtdlcmdoefdkjpaaDoorRange
import Derived.Deep.RegionLaw
import Derived.Deep.LoopGhost
import Derived.IntWalk
namespace Go.Proofs.YtdlcmdoefdkjpaaDoor
open Go.RowKit
open Extern.Stop (cell)

structure Tgt where
  who : Int
  pack : List UInt8
  leaves : Int
structure Qn where
  who : Int
  pack : List UInt8
  nonce : Int
  leaf : Int
  leaves : Int
  since : Int
/-- An id's cells: as many as an id has. -/
def idCells (x : List UInt8) : List Value := ((x ++ List.replicate 32 0).take 32).map cell
theorem idCells_len (x : List UInt8) : (idCells x).length = 32 := by simp [idCells]
theorem idCells_of {x : List UInt8} (h : x.length = 32) : idCells x = x.map cell := by
  unfold idCells
  rw [List.take_append_of_le_length (by omega), List.take_of_length_le (by omega)]
theorem idCells_one (x : List UInt8) : ∀ u ∈ idCells x, u.oneCell' = true := by
  intro u hu
  obtain ⟨c, _, rfl⟩ := List.mem_map.1 hu
  rfl
def tcells (t : Tgt) : List Value := .int .i64 t.who :: (idCells t.pack ++ [.int .i64 t.leaves])
theorem tcells_len (t : Tgt) : (tcells t).length = 34 := by simp [tcells, idCells_len]
theorem tcells_one (t : Tgt) : ∀ u ∈ tcells t, u.oneCell' = true := by
  intro u hu
  simp only [tcells, List.mem_cons, List.mem_append, List.not_mem_nil, or_false] at hu
  rcases hu with rfl | hu | rfl
  · rfl
  · exact idCells_one _ u hu
  · rfl
def qcells (q : Qn) : List Value := .int .i64 q.who :: (idCells q.pack ++ [.int .u64 q.nonce, .int .i64 q.leaf, .int .i64 q.leaves, .int .u64 q.since])
theorem qcells_len (q : Qn) : (qcells q).length = 37 := by simp [qcells, idCells_len]
theorem qcells_one (q : Qn) : ∀ u ∈ qcells q, u.oneCell' = true := by
  intro u hu
  simp only [qcells, List.mem_cons, List.mem_append, List.not_mem_nil, or_false] at hu
  rcases hu with rfl | hu | rfl | rfl | rfl | rfl
  · rfl
  · exact idCells_one _ u hu
  all_goals rfl
theorem size_tgt : (Tryd.prog.info? 37).map (·.size) = some 34 := by kernel_rfl
theorem size_qn : (Tryd.prog.info? 98).map (·.size) = some 37 := by kernel_rfl

set_option maxHeartbeats 2000000 in
theorem index_draw {w : World} {ad : Option Addr} {c : Nat} {es : List Tgt}  (hrow : RowAt w ad (es.flatMap tcells)) (hfew : es.length ≤ 1000000) (p : Tgt → Bool)
    (hp : ∀ W, Below w.heap.size w W → ∀ x ∈ es, Calls Tryd.prog 36 #[.agg (tcells x).toArray] W fun e W' => e = .returned (.bool (p x)) ∧ Below W.heap.size W W') :
    Calls Tryd.prog 63 #[.slice ad es.length c, .func (.func 36) #[] #[]] w fun e w' => e = .returned (.int .i64 (idxOf p es)) ∧ Below w.heap.size w w' := by
  have R := Lib.hid hrow
  have HP := Lib.hid hp
  obtain ⟨n, hn⟩ : ∃ n, n = es.length := ⟨_, rfl⟩
  have HN := Lib.hid hn
  rw [← hn] at hfew ⊢
  have eg : ∀ args w, (callFunc 36 args).run Tryd.prog w = .ok (.enter 36 args) w := fun _ _ => by kernel_rfl
  clear hrow hp hn
  go_enter Tryd.func63, Tryd.ntmps63
  go_wp2_with fail
  go_loopg [5, 8] n (fun k _ s8 wr => ∃ j : Nat, j ≤ n ∧ k = n - j ∧ s8 = .int .i64 j ∧ Below w.heap.size w wr ∧ ∀ q y, q < j → es[q]? = some y → p y = false)
  case atStart => exact ⟨0, Nat.zero_le _, rfl, rfl, Below.refl _ _, fun q y h _ => absurd h (Nat.not_lt_zero _)⟩
  case round =>
    obtain ⟨j, hj, hk, rfl, hB, hall⟩ := hrel
    have HB := Lib.hid hB
    have HK := Lib.hid hk
    have HA := Lib.hid hall
    by_cases hlt : j < n
    · obtain ⟨x, hx⟩ : ∃ x, es[j]? = some x := ⟨es[j]'(by rw [← HN.out]; exact hlt), List.getElem?_eq_getElem _⟩
      obtain ⟨b, off, rfl, hbl, hl⟩ := rowAt_elem tcells_len (by decide) (R.out.later hB) hx
      have LL := Lib.hid hl
      have FC := Lib.hid (HP.out wr hB x (List.mem_of_getElem? hx))
      have HX := Lib.hid hx
      have j0 : (0 : Int) ≤ (j : Int) := Int.natCast_nonneg _
      have j1 : (j : Int) < (n : Int) := by omega
      clear hB hk hall hl hx
      go_wp2_with (refine wpList_load_agg rfl 37 (.tmp 14) rfl b (off + j * 34) rfl (tcells x).toArray _ LL.out Tryd.underlying37 rfl (by rw [size_tgt]; simp [tcells_len]) ?_)
      generalize hpv : p x = pv at *
      have PV := Lib.hid hpv
      clear hpv
      refine FC.out.mono ?_
      rintro e w2 ⟨rfl, hg⟩
      have HG := Lib.hid hg
      clear hg FC
      cases pv
      · go_wp2
        go_roundg (n - (j + 1))
        case measure => rw [HK.out]; omega
        case rel =>
          refine ⟨j + 1, by omega, rfl, by go_num, HB.out.trans (HG.out.mono HB.out.size), fun q y hq hy => ?_⟩
          by_cases hqj : q < j
          · exact HA.out q y hqj hy
          · obtain rfl : q = j := by omega
            rw [HX.out] at hy
            cases hy
            exact PV.out
      · go_wp2
        go_ret
        exact ⟨by rw [idxOf_at HX.out PV.out HA.out]; rfl, HB.out.trans (HG.out.mono HB.out.size)⟩
    · obtain rfl : j = n := by omega
      clear hB hk hall
      go_wp2
      go_ret
      refine ⟨?_, HB.out⟩
      rw [idxOf_none fun x hx => by obtain ⟨q, hq⟩ := List.mem_iff_getElem?.1 hx; exact HA.out q x (by rw [HN.out]; exact (List.getElem?_eq_some_iff.1 hq).1) hq]
      rfl
end Go.Proofs.YtdlcmdoefdkjpaaDoor
