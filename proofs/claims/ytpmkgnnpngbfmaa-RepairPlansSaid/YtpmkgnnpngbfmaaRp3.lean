/- Ids compared, and as a map's keys. -/
import Derived.Test.YtpmkgnnpngbfmaaRp2
import Derived.DeepKeys4
namespace Go.Proofs.Ytpmkgnnpngbfmaa
open Go.RowKit
open Extern.Stop (cell)

def norm32 (x : List UInt8) : List UInt8 := (x ++ List.replicate 32 0).take 32
theorem norm32_len (x : List UInt8) : (norm32 x).length = 32 := by simp [norm32]
theorem norm32_of {x : List UInt8} (h : x.length = 32) : norm32 x = x := by
  unfold norm32
  rw [List.take_append_of_le_length (by omega), List.take_of_length_le (by omega)]
theorem size_u8 : ∀ w, (sizeOf 5).run Try.prog w = .ok 1 w := fun w => by
  have h : (Try.prog.info? 5).map (·.size) = some 1 := by kernel_rfl
  obtain ⟨i, hi, hs⟩ := Option.map_eq_some_iff.1 h
  simp [sizeOf, typeInfo, hi, hs]
theorem size_id : (Try.prog.info? 37).map (·.size) = some 32 := by kernel_rfl
theorem eqi_ids {x y : List UInt8} (hx : x.length = 32) (hy : y.length = 32) (w : World) : (Op.equalIn 10000 37 (.agg (idCells x).toArray) (.agg (idCells y).toArray)).run Try.prog w = .ok (x == y) w := by
  rw [idCells_of hx, idCells_of hy]
  exact run_equalIn_bytes w 9998 37 5 32 Try.underlying37 Try.underlying5 size_u8 x y hx hy
/-- An id, by value. -/
abbrev idk (x : List UInt8) : Value := .agg (idCells x).toArray
theorem id_law : WideMaps.KeyLaw Try.prog 37 := deep_law_laid laidOut (m := 2) (by omega) (of_decide_eq_true (by kernel_rfl)) (by kernel_rfl) (by rw [Try.underlying37])
theorem keyed_id : Maps.Keyed Try.prog 37 := Maps.Keyed.of_law id_law
theorem cells_id : Try.prog.cellsOf 37 = 32 := by kernel_rfl
theorem cells_u8 : Try.prog.cellsOf 5 = 1 := by kernel_rfl
theorem mapM_some {α β : Type} {f : α → Option β} {g : α → β} : ∀ {l : List α}, (∀ a ∈ l, f a = some (g a)) → l.mapM f = some (l.map g)
  | [], _ => rfl
  | a :: l, h => by
    rw [List.mapM_cons, h a (by simp), mapM_some (l := l) fun x hx => h x (by simp [hx])]
    rfl
theorem id_key (x : List UInt8) : ∃ kl, keyOf Try.prog 37 (idk x) = some kl := by
  have hk : Try.prog.keyType 37 = true := by kernel_rfl
  obtain ⟨d, hd⟩ : ∃ d, Try.prog.types.size = d + 1 := ⟨Try.prog.types.size - 1, by have : 0 < Try.prog.types.size := of_decide_eq_true (by kernel_rfl); omega⟩
  have hlits : ∃ L, Try.prog.keyLits (Try.prog.types.size + 1) 37 (idCells x) = some L := by
    rw [hd]
    unfold Program.keyLits
    simp only [Try.underlying37, idCells_len, cells_id, cells_u8, if_true]
    have h1 : ∀ i ∈ List.range 32, Try.prog.keyLits (d + 1) 5 (((idCells x).drop (i * 1)).take 1) = some ((((idCells x).drop (i * 1)).take 1).map fun v => match v with | .int k n => Lit.int k n | _ => .bool false) := by
      intro i hi
      have hi' : i < 32 := List.mem_range.1 hi
      have hlt : i < (idCells x).length := by rw [idCells_len]; exact hi'
      have hone : ((idCells x).drop (i * 1)).take 1 = [(idCells x)[i]] := by
        rw [Nat.mul_one, List.drop_eq_getElem_cons hlt]
        rfl
      rw [hone]
      obtain ⟨c, _, hc⟩ := List.mem_map.1 (List.getElem_mem hlt)
      have hc' : (idCells x)[i] = cell c := hc.symm
      rw [hc']
      unfold Program.keyLits
      have hwf : (Lit.int .u8 (c.toNat : Int)).wf = true := by
        have := c.toNat_lt
        have h1 : IntKind.u8.min = 0 := rfl
        have h2 : IntKind.u8.max = 255 := rfl
        simp [Lit.wf, h1, h2]
        omega
      simp only [Try.underlying5, cell]
      rw [if_pos ⟨trivial, hwf⟩]
      rfl
    exact ⟨_, by rw [mapM_some h1]; rfl⟩
  obtain ⟨L, hL⟩ := hlits
  refine ⟨.string (keyBytes L), ?_⟩
  unfold keyOf
  simp only [Try.underlying37]
  have hf : (idk x).formed Try.prog 37 = true := by simp [Value.formed, Try.underlying37, cells_id, idCells_len]
  rw [hk, hf]
  simp only [Bool.and_self, if_true]
  show (Try.prog.keyLits _ _ (idCells x).toArray.toList).map _ = _
  rw [List.toList_toArray, hL]
  rfl
theorem idk_idv {x : List UInt8} (hx : x.length = 32) : idk x = idv x := by
  show Value.agg _ = Value.agg _
  rw [idCells_of hx]
  rfl
theorem idv_inj (x y : List UInt8) (h : idv x = idv y) : x = y := bts_inj (Value.agg.inj h)
theorem idv_key {x : List UInt8} (hx : x.length = 32) : ∃ kl, keyOf Try.prog 37 (idv x) = some kl := by
  rw [← idk_idv hx]
  exact id_key x
end Go.Proofs.Ytpmkgnnpngbfmaa
