/- RepairRoom: how its packs are made. -/
import Derived.Test.YtpmkgnnpngbfmaaRm2
import Derived.Test.YtpmkgnnpngbfmaaRepFirst
namespace Go.Proofs.Ytpmkgnnpngbfmaa
open Go.RowKit
open Extern.Stop (cell)

theorem pcells_set (p : Pk) (a : Option Addr) (hs : List Int) (c : Nat) : (pcells p).toArray.setIfInBounds 33 (.slice a hs.length c) = (pcells ⟨p.id, p.size, hs, a, c⟩).toArray := by
  rw [List.setIfInBounds_toArray]
  congr 1
  unfold pcells
  rw [List.set_append_right _ _ (by rw [idCells_len]; omega), idCells_len]
  rfl
theorem built_idi {i : Nat} (h : i < 256) : Try.prog.built 37 [(0, .int .u8 (i : Int))] = some (idCells (idOne (UInt8.ofNat i))).toArray := by
  have := built_id (UInt8.ofNat i)
  rw [show (UInt8.ofNat i).toNat = i by simp; omega] at this
  exact this
theorem built_two (id : List UInt8) (s : Int) : Try.prog.built 46 [(0, .agg (idCells id).toArray), (1, .int .u64 s)] = some (pcells ⟨id, s, [], none, 0⟩).toArray := by
  obtain ⟨c0, c1, c2, c3, c4, c5, c6, c7, c8, c9, c10, c11, c12, c13, c14, c15, c16, c17, c18, c19, c20, c21, c22, c23, c24, c25, c26, c27, c28, c29, c30, c31, h⟩ := list32 (idCells_len id)
  unfold pcells
  rw [h]
  kernel_rfl
/-- The first holders of the i-th pack. -/
def rmH (held : List Int) (all : Nat) (i j : Nat) : List Int := ((held.drop (3 * i)).take j).map (· % (all : Int))
theorem rmH_snoc {held : List Int} {all i j : Nat} {x : Int} (h : held[3 * i + j]? = some x) : rmH held all i (j + 1) = rmH held all i j ++ [x % (all : Int)] := by
  unfold rmH
  rw [List.take_add_one, List.getElem?_drop, h]
  simp
theorem rmH_len (held : List Int) (all i j : Nat) : (rmH held all i j).length ≤ j := by
  unfold rmH
  rw [List.length_map]
  exact List.length_take_le _ _
theorem rmH_end {held : List Int} {all i j : Nat} (hj : j ≤ 3) (h : held.length ≤ 3 * i + j) : rmH held all i j = rmH held all i 3 := by
  unfold rmH
  rw [List.take_of_length_le (by rw [List.length_drop]; omega), List.take_of_length_le (by rw [List.length_drop]; omega)]
/-- The i-th pack, as it is made. -/
def rmP (zs held : List Int) (all i : Nat) : List UInt8 × Int × List Int := (idOne (UInt8.ofNat i), zs.getD i 0, rmH held all i 3)
def rmPs (zs held : List Int) (all n : Nat) : List (List UInt8 × Int × List Int) := (List.range n).map (rmP zs held all)
theorem rmPs_succ (zs held : List Int) (all n : Nat) : rmPs zs held all (n + 1) = rmPs zs held all n ++ [rmP zs held all n] := by simp [rmPs, List.range_succ]
theorem pk_at {w : World} {T : Nat} {p : Pk} {t : TypeId} (h : w.heap[T]? = some (.cells (pcells p).toArray t (0, 0))) : w.cell? ⟨T, 32, none⟩ = some (.int .u64 p.size) ∧ w.cell? ⟨T, 33, none⟩ = some (.slice p.ad p.hs.length p.cap) ∧ w.frozen? ⟨T, 33, none⟩ = false :=
  ⟨(pk_part h).1, (pk_part h).2, blk_free h 33⟩
section
variable {P : Program} {ops : Array Oper} {rest : List Oper} {o : Oper} {a : Act} {w : World} {Q : Exit → Act → World → Prop}
theorem wpList_build_by (hg : o.guard = none) (t : TypeId) (parts : Array (Nat × Operand)) (ho : o.op = .build t parts) (l : List (Nat × Value)) (hp : (parts.map fun (i, x) => (i, a.eval x)).toList = l) (cells : Array Value) (hb : P.built t l = some cells)
    (h : wpList P ops Q rest (a.put o.dst (.agg cells)) w) : wpList P ops Q (o :: rest) a w := wpList_build_eq hg t parts ho cells (by rw [hp]; exact hb) h
theorem wpList_one_row (hg : o.guard = none) (t e : TypeId) (x : Operand) (ho : o.op = .buildSlice t 1 #[(0, x)]) (C : Array Value) (hx : a.eval x = .agg C) (S : Nat) (ie : TypeInfo) (z : Value) (hu : P.underlying t = some (.slice e)) (hie : P.info? e = some ie) (hz : ie.zero = some z) (hS : ie.size = S) (h0 : 0 < S) (hC : C.size = S) (hsm : S ≤ 16777216)
    (h : wpList P ops Q rest (a.put o.dst (.slice (some ⟨w.heap.size, 0, none⟩) 1 1)) (w.alloc (.cells C e))) : wpList P ops Q (o :: rest) a w := by
  refine wpList_rows hg t e 1 #[(0, x)] ho [.agg C] S ie z hu hie hz hS h0 rfl (by decide) (by omega) (by simp [Value.cells, hC]) (by simp [hx]) ?_
  have e1 : (([Value.agg C] : List Value).flatMap fun v => v.cells.toList).toArray = C := by simp [Value.cells]
  rw [e1]
  exact h
end
end Go.Proofs.Ytpmkgnnpngbfmaa
