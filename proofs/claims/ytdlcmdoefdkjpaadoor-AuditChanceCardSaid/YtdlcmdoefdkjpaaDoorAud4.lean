/- What Draw does where there is nobody to be asked. -/
import Derived.Test.YtdlcmdoefdkjpaaDoorAud3
import Derived.Deep.RegionHeld3
import Derived.Deep.QuietTactic
import Derived.BigQuiet
namespace Go.Proofs.YtdlcmdoefdkjpaaDoor
open Go.RowKit
open Extern.Stop (cell)

def ncells (k : Int) (pack : List UInt8) (n nonce : Int) (bv wv : Value) : List Value := .int .i64 k :: (idCells pack ++ [.int .u64 n, .int .u64 nonce, bv, wv])
theorem ncells_len (k : Int) (pack : List UInt8) (n nonce : Int) (bv wv : Value) : (ncells k pack n nonce bv wv).length = 37 := by simp [ncells, idCells_len]
theorem ncells_one {k : Int} {pack : List UInt8} {n nonce : Int} {bv wv : Value} (h1 : bv.oneCell' = true) (h2 : wv.oneCell' = true) : ∀ u ∈ ncells k pack n nonce bv wv, u.oneCell' = true := by
  intro u hu
  simp only [ncells, List.mem_cons, List.mem_append, List.not_mem_nil, or_false] at hu
  rcases hu with rfl | hu | rfl | rfl | rfl | rfl
  · rfl
  · exact idCells_one _ u hu
  · rfl
  · rfl
  · exact h1
  · exact h2
abbrev nnil : Value := .slice none 0 0
def note0 : List Value := ncells 0 [] 0 0 nnil nnil
theorem built_note0 : Tryd.prog.built 33 [] = some note0.toArray := by kernel_rfl
theorem size_note : (Tryd.prog.info? 33).map (·.size) = some 37 := by kernel_rfl
theorem zero_note (w : World) : (zeroValue 33).run Tryd.prog w = .ok (.agg note0.toArray) w := by kernel_rfl
theorem note0_len : note0.toArray.size = 37 := by rfl
theorem note0_one : note0.toArray.all (·.oneCell') = true := all_oneCell_toArray (ncells_one rfl rfl)
/-- Those that may be asked. -/
def elig (ts : List Tgt) : List Tgt := ts.filter fun t => !tbad t
set_option maxHeartbeats 1000000 in
set_option maxRecDepth 100000 in
theorem draw_no {w : World} {p ad : Option Addr} {c : Nat} {ts : List Tgt} (lot now : Int) (hrow : RowAt w ad (ts.flatMap tcells)) (hfew : ts.length ≤ 1000000) (hnil : ad = none → c = 0) (h : p = none ∨ elig ts = []) :
    Calls Tryd.prog 13 #[.pointer p, .slice ad ts.length c, .int .u64 lot, .int .u64 now] w fun e w' => e = .returned (.tuple #[.int .i64 0, .agg note0.toArray, .bool false]) ∧ Below w.heap.size w w' := by
  have R := Lib.hid hrow
  obtain ⟨n, hn⟩ : ∃ n, n = ts.length := ⟨_, rfl⟩
  have HN := Lib.hid hn
  rw [← hn] at hfew ⊢
  clear hrow hn
  go_enter Tryd.func13, Tryd.ntmps13
  go_upto_region 1 with fail
  obtain ⟨N, hN⟩ : ∃ N, N = w.heap.size := ⟨_, rfl⟩
  rw [← hN]
  refine wp_named fun W hW => ?_
  have b0 : Below w.heap.size w W := by rw [hW]; exact below_alloc (Below.refl _ _) _
  have k0 : W.heap[N]? = some (.cells note0.toArray 33 (0, 0)) := by rw [hW, hN]; exact heap_at w _
  have z0 : W.heap.size = N + 1 := by rw [hW, hN]; simp
  have CL := clone_tgt (R.out.later b0) (by rw [← HN.out]; exact hfew) hnil
  rw [← HN.out] at CL
  replace CL := Lib.hid CL
  have B0 := Lib.hid b0
  have K0 := Lib.hid k0
  have Z0 := Lib.hid z0
  have HNN := Lib.hid hN
  clear hW b0 k0 z0 hN hnil R
  go_wp2_with fail
  refine CL.out.mono ?_
  rintro e w1 ⟨v1, rfl, h1, c1⟩
  obtain ⟨x1, c1', rfl⟩ := own_slice h1
  have DF := delfunc_draw (es := ts) (by rw [← HN.out]; exact h1) (by rw [← HN.out]; exact hfew) tbad (fun W _ x _ => drawp_any x W)
  have B1 := Lib.hid (B0.out.trans (c1.mono B0.out.size))
  have K1 := Lib.hid (heap_kept c1 K0.out (by rw [Z0.out]; omega))
  have lo : ∀ k, (Value.slice x1 n c1').ownBlock = some k → N + 1 ≤ k := fun k hk => by have := (own_row h1 hk).1; rw [Z0.out] at this; exact this
  have LO := Lib.hid lo
  replace DF := Lib.hid DF
  clear h1 c1 lo CL B0 K0
  go_wp2_with fail
  refine DF.out.mono ?_
  rintro e w2 ⟨v2, rfl, h2, g2⟩
  obtain ⟨x2, c2', rfl⟩ := own_slice h2
  have z1 : N + 1 ≤ w1.heap.size := by have := B1.out.size; have := (Array.getElem?_eq_some_iff.1 K1.out).1; omega
  have b2 := B1.out.grown g2 B1.out.size (fun k hk => by have := LO.out k hk; have := HNN.out; omega)
  have k2 : w2.heap[N]? = some (.cells note0.toArray 33 (0, 0)) := (g2.block N (by omega) (fun e => by have := LO.out N e.symm; omega)).trans K1.out
  have B2 := Lib.hid b2
  have K2 := Lib.hid k2
  clear h2 g2 b2 k2 DF LO K1 B1
  have TH := there_block K2.out (i := 0) (n := 37) (by rw [note0_len]; omega)
  have EL : Hid (p = none ∨ (ts.filter fun t => !tbad t).length = 0) := Lib.hid (by rcases h with h | h; exact .inl h; exact .inr (by unfold elig at h; rw [h]; rfl))
  generalize (ts.filter fun t => !tbad t).length = m at *
  have EE := EL.out
  clear h EL
  have EE : p = none ∨ (∃ pa, p = some pa ∧ m = 0) := by
    rcases EE with h | h
    · exact .inl h
    · cases p with
      | none => exact .inl rfl
      | some pa => exact .inr ⟨pa, rfl, h⟩
  rcases EE with rfl | ⟨pa, rfl, rfl⟩
  all_goals
    go_wp2_with (first | (refine wpList_build_eq rfl 33 #[] rfl note0.toArray built_note0 ?_) | (refine wpList_store_mid rfl 33 (.tmp 9) (.tmp 24) rfl N 0 note0.toArray rfl rfl TH (by rw [size_note, note0_len]) note0_one ?_))
    have k3 := heap_setCells_whole (D := note0.toArray) K2.out rfl
    have b3 := B2.out.grown (grown_setCells (vs := note0.toArray.toList) (i := 0) K2.out (by simp)) B2.out.size (fun k hk => by cases hk; rw [HNN.out]; exact Nat.le_refl _)
    refine bodyPost_ret (results3_mid rfl _ N note0.toArray _ rfl (lies_block k3) Tryd.underlying33 rfl (by rw [size_note, note0_len])) rfl ⟨rfl, b3⟩
end Go.Proofs.YtdlcmdoefdkjpaaDoor
