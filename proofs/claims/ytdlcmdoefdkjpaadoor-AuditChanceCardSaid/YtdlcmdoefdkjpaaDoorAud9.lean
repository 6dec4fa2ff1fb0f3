/- What Chance reckons; Late of one that is none. -/
import Derived.Test.YtdlcmdoefdkjpaaDoorAud8
import Derived.Test.YtdlcmdoefdkjpaaDoorInts
import Derived.Deep.OwnRows
namespace Go.Proofs.YtdlcmdoefdkjpaaDoor
open Go.RowKit
open Extern.Stop (cell)

/-- Of each of n: whether it is one of some. -/
def seenOf (n : Nat) (zs : List Int) : List Bool := (List.range n).map fun (i : Nat) => decide ((i : Int) ∈ zs)
def hitsOf (n : Nat) (zs : List Int) : Nat := (seenOf n zs).countP id
theorem seen_len (n : Nat) (zs : List Int) : (seenOf n zs).length = n := by simp [seenOf]
theorem seen_get (n : Nat) (zs : List Int) {i : Nat} (hi : i < n) : (seenOf n zs)[i]? = some (decide ((i : Int) ∈ zs)) := by simp [seenOf, hi]
theorem seen_nil (n : Nat) : seenOf n [] = List.replicate n false := by
  apply List.ext_getElem?
  intro i
  by_cases hi : i < n
  · rw [seen_get n [] hi, List.getElem?_replicate, if_pos hi]; simp
  · rw [List.getElem?_eq_none (by rw [seen_len]; omega), List.getElem?_eq_none (by simp; omega)]
theorem seen_out {n : Nat} {zs : List Int} {x : Int} (h : ¬ (0 ≤ x ∧ x < n)) : seenOf n (zs ++ [x]) = seenOf n zs := by
  apply List.ext_getElem?
  intro i
  by_cases hi : i < n
  · rw [seen_get n _ hi, seen_get n _ hi]
    have : (i : Int) ≠ x := by omega
    simp [this]
  · rw [List.getElem?_eq_none (by rw [seen_len]; omega), List.getElem?_eq_none (by rw [seen_len]; omega)]
theorem seen_in {n : Nat} {zs : List Int} {k : Nat} (_hk : k < n) : seenOf n (zs ++ [(k : Int)]) = (seenOf n zs).set k true := by
  apply List.ext_getElem?
  intro i
  by_cases hi : i < n
  · rw [seen_get n _ hi]
    by_cases e : k = i
    · subst e
      rw [List.getElem?_set_self (by rw [seen_len]; exact hi)]
      simp
    · rw [List.getElem?_set_ne e, seen_get n _ hi]
      have : ¬ (i : Int) = (k : Int) := by omega
      simp [this]
  · rw [List.getElem?_eq_none (by rw [seen_len]; omega), List.getElem?_eq_none (by rw [List.length_set, seen_len]; omega)]
theorem set_same {l : List Bool} {k : Nat} (h : l[k]? = some true) : l.set k true = l := by
  apply List.ext_getElem?
  intro i
  by_cases e : k = i
  · subst e
    rw [List.getElem?_set_self (List.getElem?_eq_some_iff.1 h).1, h]
  · rw [List.getElem?_set_ne e]
theorem count_set {l : List Bool} {k : Nat} (h : l[k]? = some false) : (l.set k true).countP id = l.countP id + 1 := by
  induction l generalizing k with
  | nil => simp at h
  | cons b r ih =>
    cases k with
    | zero => simp at h; subst h; simp
    | succ k =>
      simp at h
      rw [List.set_cons_succ, List.countP_cons, List.countP_cons, ih h]
      omega
theorem hits_nil (n : Nat) : hitsOf n [] = 0 := by
  unfold hitsOf
  rw [seen_nil, List.countP_eq_zero]
  intro b hb
  rw [List.eq_of_mem_replicate hb]
  decide
theorem hits_le (n : Nat) (zs : List Int) : hitsOf n zs ≤ n := by
  have := List.countP_le_length (p := id) (l := seenOf n zs)
  rw [seen_len] at this
  exact this
theorem info_bool : (Tryd.prog.info? 4).map (fun i => (i.zero, i.size, i.bytes)) = some (some (.bool false), 1, 1) := by kernel_rfl
theorem made_bools (n : Nat) : madeCells #[Value.bool false] n = ((List.replicate n false).map Value.bool).toArray := by
  apply Array.ext'
  simp [madeCells]
  apply List.ext_getElem?
  intro i
  by_cases hi : i < n <;> simp [hi, Nat.mod_one]
abbrev BoolsIs (w : World) (b : Nat) (s : List Bool) : Prop := w.heap[b]? = some (.cells (s.map Value.bool).toArray 4 (0, 0))
theorem BoolsIs.at {w : World} {b : Nat} {s : List Bool} (h : BoolsIs w b s) {i : Nat} {x : Bool} (hi : s[i]? = some x) : w.cell? ⟨b, i, none⟩ = some (.bool x) ∧ w.frozen? ⟨b, i, none⟩ = false := by
  have h' : w.heap[b]? = some (.cells (s.map Value.bool).toArray 4 (0, 0)) := h
  simp [World.cell?, World.frozen?, h', hi]
theorem BoolsIs.set {w : World} {b : Nat} {s : List Bool} (h : BoolsIs w b s) (i : Nat) (x : Bool) : BoolsIs (w.setCell ⟨b, i, none⟩ (.bool x)) b (s.set i x) := by
  show (w.setCell ⟨b, i, none⟩ (.bool x)).heap[b]? = _
  rw [heap_setCell_same _ h]
  simp [List.map_set]
set_option maxHeartbeats 2000000 in
set_option maxRecDepth 100000 in
theorem chance_any {w : World} {n : Nat} (hn : n ≤ 60) {a : Option Addr} {c : Nat} {zs : List Int} (hr : IntsRd w a zs) (hz : zs.length ≤ 60) :
    Calls Tryd.prog 29 #[.int .i64 n, .slice a zs.length c] w fun e w' => e = .returned (.tuple #[.int .i64 (hitsOf n zs : Nat), .int .i64 n]) ∧ Below w.heap.size w w' := by
  have R := Lib.hid hr
  obtain ⟨m, hm⟩ : ∃ m, m = zs.length := ⟨_, rfl⟩
  have HM := Lib.hid hm
  rw [← hm] at hz ⊢
  have n0 : (0 : Int) ≤ (n : Int) := by omega
  have n1 : (n : Int) ≤ 65536 := by omega
  have hmin : min (n : Int) 65536 = (n : Int) := by omega
  have hmk := run_make_row' (P := Tryd.prog) 77 4 (.bool false) 1 Tryd.underlying77 info_bool rfl .i64 .i64 n (by omega) (by omega)
  clear hr hm
  go_enter Tryd.func29, Tryd.ntmps29
  go_wp2_with fail
  clear hmk hmin
  obtain ⟨N, hN⟩ : ∃ N, N = w.heap.size := ⟨_, rfl⟩
  rw [← hN]
  refine wp_named fun W hW => ?_
  have s0 : BoolsIs W N (seenOf n []) := by
    rw [hW, hN, seen_nil]
    show (w.alloc _).heap[w.heap.size]? = _
    rw [← made_bools]; exact heap_at w _
  have b0 : Below w.heap.size w W := by rw [hW]; exact below_alloc (Below.refl _ _) _
  have S0 := Lib.hid s0
  have B0 := Lib.hid b0
  have HN := Lib.hid hN
  clear hW s0 b0 hN
  go_loopg [7, 9, 17] m (fun k s7 _ s17 wr => ∃ j : Nat, j ≤ m ∧ k = m - j ∧ s17 = .int .i64 j ∧ s7 = .int .i64 (hitsOf n (zs.take j) : Nat) ∧ BoolsIs wr N (seenOf n (zs.take j)) ∧ Below w.heap.size w wr)
  case atStart => exact ⟨0, Nat.zero_le _, rfl, rfl, by rw [List.take_zero, hits_nil]; rfl, S0.out, B0.out⟩
  case round =>
    obtain ⟨j, hj, hk, rfl, rfl, hS, hB⟩ := hrel
    have HK := Lib.hid hk
    have SS := Lib.hid hS
    have BB := Lib.hid hB
    have h0 := hits_le n (zs.take j)
    clear hk hS hB S0 B0
    by_cases hlt : j < m
    · obtain ⟨x, hx⟩ : ∃ x, zs[j]? = some x := ⟨zs[j]'(by rw [← HM.out]; exact hlt), List.getElem?_eq_getElem _⟩
      obtain ⟨b, off, rfl, hb, hc⟩ := R.out j x hx
      have hc' := (BB.out.cell (p := ⟨b, off + j, none⟩) hb).trans hc
      have tk : zs.take (j + 1) = zs.take j ++ [x] := by rw [List.take_add_one, hx]; rfl
      have TK := Lib.hid tk
      have j0 : (0 : Int) ≤ (j : Int) := by omega
      have j1 : (j : Int) < (m : Int) := by omega
      clear hc tk hx
      by_cases hin : 0 ≤ x ∧ x < n
      · obtain ⟨i, rfl⟩ := Int.eq_ofNat_of_zero_le hin.1
        have hil : i < n := by omega
        have hg := seen_get n (zs.take j) hil
        have hnx := seen_in (zs := zs.take j) hil
        have q1 : (0 : Int) ≤ (i : Int) := by omega
        have q2 : (i : Int) < (n : Int) := by omega
        generalize decide ((i : Int) ∈ zs.take j) = seen at *
        obtain ⟨tc, tf⟩ := SS.out.at hg
        have HG := Lib.hid hg
        have HX := Lib.hid hnx
        clear hg hnx hin
        cases seen
        · have hits : Hid (hitsOf n (zs.take (j + 1)) = hitsOf n (zs.take j) + 1) := Lib.hid (by unfold hitsOf; rw [TK.out, HX.out, count_set HG.out])
          go_wp2
          go_roundg (m - (j + 1))
          case measure => rw [HK.out]; omega
          case rel => exact ⟨j + 1, by omega, rfl, by go_num, by rw [hits.out]; go_num, by rw [TK.out, HX.out]; exact SS.out.set i true, BB.out.setCell (by rw [HN.out]; exact Nat.le_refl _) _⟩
        · go_wp2
          go_roundg (m - (j + 1))
          case measure => rw [HK.out]; omega
          case rel =>
            have e : seenOf n (zs.take (j + 1)) = seenOf n (zs.take j) := by rw [TK.out, HX.out, set_same HG.out]
            exact ⟨j + 1, by omega, rfl, by go_num, by unfold hitsOf; rw [e], by rw [e]; exact SS.out, BB.out⟩
      · have e : seenOf n (zs.take (j + 1)) = seenOf n (zs.take j) := by rw [TK.out, seen_out hin]
        have E := Lib.hid e
        clear e
        by_cases hx0 : 0 ≤ x
        · have hx1 : ¬ x < (n : Int) := by omega
          clear hin
          go_wp2
          go_roundg (m - (j + 1))
          case measure => rw [HK.out]; omega
          case rel => exact ⟨j + 1, by omega, rfl, by go_num, by unfold hitsOf; rw [E.out], by rw [E.out]; exact SS.out, BB.out⟩
        · clear hin
          go_wp2
          go_roundg (m - (j + 1))
          case measure => rw [HK.out]; omega
          case rel => exact ⟨j + 1, by omega, rfl, by go_num, by unfold hitsOf; rw [E.out], by rw [E.out]; exact SS.out, BB.out⟩
    · obtain rfl : j = m := by omega
      have tk : zs.take j = zs := List.take_of_length_le (by rw [← HM.out]; exact Nat.le_refl _)
      rw [tk]
      clear hlt
      go_wp2
      go_ret2
      exact ⟨rfl, BB.out⟩
set_option maxHeartbeats 1000000 in
set_option maxRecDepth 100000 in
theorem late_none (w : World) (now wait : Int) : Calls Tryd.prog 25 #[.pointer none, .int .u64 now, .int .u64 wait] w fun e w' => e = .returned (.slice none 0 0) ∧ Below w.heap.size w w' := by
  have CN := close_none
  have SN := sort_nil
  go_enter Tryd.func25, Tryd.ntmps25
  go_wp2_with fail
  go_loopg [7, 8, 9] 1 (fun k s7 _ _ wr => k = 1 ∧ s7 = .slice none 0 0 ∧ Below w.heap.size w wr)
  case atStart => exact ⟨rfl, rfl, below_alloc (below_alloc (Below.refl _ _) _) _⟩
  case round =>
    obtain ⟨hk, rfl, hB⟩ := hrel
    have BB := Lib.hid hB
    clear hk hB
    go_wp2_with fail
    refine (CN _ _).mono ?_
    rintro e w1 ⟨rfl, c1⟩
    have B1 := Lib.hid (BB.out.trans (c1.mono BB.out.size))
    clear c1
    go_wp2_with (refine wpList_store_new rfl 98 (.tmp 8) (.tmp 14) rfl _ (qcells q0).toArray rfl rfl (sizeq q0) (by simp [qcells_len]) (all_oneCell_toArray (qcells_one q0)) ?_)
    refine (SN _).mono ?_
    rintro e w2 ⟨rfl, rfl⟩
    go_wp2
    go_ret
    exact ⟨rfl, below_alloc B1.out _⟩
end Go.Proofs.YtdlcmdoefdkjpaaDoor
