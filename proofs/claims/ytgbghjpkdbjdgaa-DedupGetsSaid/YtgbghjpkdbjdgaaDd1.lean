/- Ids by value: as cells, compared, as a map's keys; places; bytes.Compare; rising. -/
import Derived.Test.YtgbghjpkdbjdgaaHeld
import Derived.Test.YtgbghjpkdbjdgaaSlP
import Derived.Test.YtgbghjpkdbjdgaaFrame
import Derived.Test.YtgbghjpkdbjdgaaRange
import Derived.Test.YtgbghjpkdbjdgaaQuiet
import Derived.Test.YtgbghjpkdbjdgaaShelf
import Derived.DeepKeys4
import Derived.Deep.RegionLaw
import Derived.Deep.LoopGhost
import Derived.Deep.DeepCutAuto
import Derived.IntWalk
import Derived.Lib.Bytealg
import Derived.Lib.BytesEntry
namespace Go.Proofs.Ytgbghjpkdbjdgaa
open Go.RowKit
open Extern.Stop (cell)

/-- An id's cells: as many as an id has. -/
def idCells (x : List UInt8) : List Value := ((x ++ List.replicate 32 0).take 32).map cell
theorem idCells_len (x : List UInt8) : (idCells x).length = 32 := by simp [idCells]
theorem idCells_of {x : List UInt8} (h : x.length = 32) : idCells x = x.map cell := by
  unfold idCells
  rw [List.take_append_of_le_length (by omega), List.take_of_length_le (by omega)]
theorem idCells_one (x : List UInt8) : ∀ u ∈ idCells x, u.oneCell' = true := by
  intro u hu
  obtain ⟨c, _, rfl⟩ := List.mem_map.1 hu
  rfl
theorem size_u8 : ∀ w, (sizeOf 5).run Try.prog w = .ok 1 w := fun w => by
  have h : (Try.prog.info? 5).map (·.size) = some 1 := by kernel_rfl
  obtain ⟨i, hi, hs⟩ := Option.map_eq_some_iff.1 h
  simp [sizeOf, typeInfo, hi, hs]
theorem size_id : (Try.prog.info? 31).map (·.size) = some 32 := by kernel_rfl
theorem eqi_ids {x y : List UInt8} (hx : x.length = 32) (hy : y.length = 32) (w : World) : (Op.equalIn 10000 31 (.agg (idCells x).toArray) (.agg (idCells y).toArray)).run Try.prog w = .ok (x == y) w := by
  rw [idCells_of hx, idCells_of hy]
  exact run_equalIn_bytes w 9998 31 5 32 Try.underlying31 Try.underlying5 size_u8 x y hx hy
/-- An id, by value. -/
abbrev idk (x : List UInt8) : Value := .agg (idCells x).toArray
theorem id_law : WideMaps.KeyLaw Try.prog 31 := deep_law_laid laidOut (m := 2) (by omega) (of_decide_eq_true (by kernel_rfl)) (by kernel_rfl) (by rw [Try.underlying31])
theorem keyed_id : Maps.Keyed Try.prog 31 := Maps.Keyed.of_law id_law
theorem cells_id : Try.prog.cellsOf 31 = 32 := by kernel_rfl
theorem cells_u8 : Try.prog.cellsOf 5 = 1 := by kernel_rfl
theorem mapM_some {α β : Type} {f : α → Option β} {g : α → β} : ∀ {l : List α}, (∀ a ∈ l, f a = some (g a)) → l.mapM f = some (l.map g)
  | [], _ => rfl
  | a :: l, h => by
    rw [List.mapM_cons, h a (by simp), mapM_some (l := l) fun x hx => h x (by simp [hx])]
    rfl
theorem id_key (x : List UInt8) : ∃ kl, keyOf Try.prog 31 (idk x) = some kl := by
  have hk : Try.prog.keyType 31 = true := by kernel_rfl
  obtain ⟨d, hd⟩ : ∃ d, Try.prog.types.size = d + 1 := ⟨Try.prog.types.size - 1, by have : 0 < Try.prog.types.size := of_decide_eq_true (by kernel_rfl); omega⟩
  have hlits : ∃ L, Try.prog.keyLits (Try.prog.types.size + 1) 31 (idCells x) = some L := by
    rw [hd]
    unfold Program.keyLits
    simp only [Try.underlying31, idCells_len, cells_id, cells_u8, if_true]
    have h1 : ∀ i ∈ List.range 32, Try.prog.keyLits (d + 1) 5 (((idCells x).drop (i * 1)).take 1) = some ((((idCells x).drop (i * 1)).take 1).map fun v => match v with | .int k n => Lit.int k n | _ => .bool false) := by
      intro i hi
      have hi' : i < 32 := List.mem_range.1 hi
      have hlt : i < (idCells x).length := by rw [idCells_len]; exact hi'
      have hone : ((idCells x).drop (i * 1)).take 1 = [(idCells x)[i]] := by
        rw [Nat.mul_one, List.drop_eq_getElem_cons hlt]
        rfl
      rw [hone]
      obtain ⟨c, _, hc⟩ := List.mem_map.1 (List.getElem_mem hlt)
      have hc' : (idCells x)[i] = cell c := hc.symm
      rw [hc']
      unfold Program.keyLits
      have hwf : (Lit.int .u8 (c.toNat : Int)).wf = true := by
        have := c.toNat_lt
        have h1 : IntKind.u8.min = 0 := rfl
        have h2 : IntKind.u8.max = 255 := rfl
        simp [Lit.wf, h1, h2]
        omega
      simp only [Try.underlying5, cell]
      rw [if_pos ⟨trivial, hwf⟩]
      rfl
    exact ⟨_, by rw [mapM_some h1]; rfl⟩
  obtain ⟨L, hL⟩ := hlits
  refine ⟨.string (keyBytes L), ?_⟩
  unfold keyOf
  simp only [Try.underlying31]
  have hf : (idk x).formed Try.prog 31 = true := by simp [Value.formed, Try.underlying31, cells_id, idCells_len]
  rw [hk, hf]
  simp only [Bool.and_self, if_true]
  show (Try.prog.keyLits _ _ (idCells x).toArray.toList).map _ = _
  rw [List.toList_toArray, hL]
  rfl
theorem idk_idv {x : List UInt8} (hx : x.length = 32) : idk x = idv x := by
  show Value.agg _ = Value.agg _
  rw [idCells_of hx]
  rfl
theorem idv_inj (x y : List UInt8) (h : idv x = idv y) : x = y := bts_inj (Value.agg.inj h)
theorem idv_key {x : List UInt8} (hx : x.length = 32) : ∃ kl, keyOf Try.prog 31 (idv x) = some kl := by
  rw [← idk_idv hx]
  exact id_key x
theorem sizei (x : List UInt8) : (Try.prog.info? 31).map (·.size) = some (idCells x).toArray.size := by rw [size_id]; simp [idCells_len]
/-- Ids. -/
abbrev Id32 := { x : List UInt8 // x.length = 32 }
instance : Inhabited Id32 := ⟨⟨List.replicate 32 0, by simp⟩⟩
def encId (x : Id32) : List Value := idCells x.1
theorem encId_len (x : Id32) : (encId x).length = 32 := idCells_len _
theorem encId_one (x : Id32) : ∀ u ∈ encId x, u.oneCell' = true := idCells_one x.1
/-- An id as a map's key. -/
abbrev keyI (x : Id32) : Value := .agg (encId x).toArray
theorem keyI_inj (x y : Id32) (h : keyI x = keyI y) : x = y := by
  have h1 : idv x.1 = idv y.1 := by rw [← idk_idv x.2, ← idk_idv y.2]; exact h
  exact Subtype.ext (idv_inj _ _ h1)
theorem keyI_ok (x : Id32) : ∃ kl, keyOf Try.prog 31 (keyI x) = some kl := id_key x.1
/-- A place: a pack, and a number. -/
structure Pl where
  pack : Id32
  n : Int
def plcells (p : Pl) : List Value := encId p.pack ++ [.int .i64 p.n]
theorem plcells_len (p : Pl) : (plcells p).length = 33 := by simp [plcells, encId_len]
theorem plcells_one (p : Pl) : ∀ u ∈ plcells p, u.oneCell' = true := by
  intro u hu
  simp only [plcells, List.mem_cons, List.mem_append, List.not_mem_nil, or_false] at hu
  rcases hu with hu | rfl
  · exact idCells_one _ u hu
  all_goals rfl
abbrev plv (p : Pl) : Value := .agg (plcells p).toArray
theorem size_pl : (Try.prog.info? 37).map (·.size) = some 33 := by kernel_rfl
theorem sizepl (p : Pl) : (Try.prog.info? 37).map (·.size) = some (plcells p).toArray.size := by rw [size_pl]; simp [plcells_len]
theorem built_pl (pack : Id32) (n : Int) : Try.prog.built 37 [(0, .agg (encId pack).toArray), (1, .int .i64 n)] = some (plcells ⟨pack, n⟩).toArray := by
  obtain ⟨c0, c1, c2, c3, c4, c5, c6, c7, c8, c9, c10, c11, c12, c13, c14, c15, c16, c17, c18, c19, c20, c21, c22, c23, c24, c25, c26, c27, c28, c29, c30, c31, h⟩ := list32 (encId_len pack)
  unfold plcells
  rw [h]
  kernel_rfl

/-! ### bytes -/
/-- A slice of bytes that can be read, wherever it lies. -/
def BytesRd (w : World) (a : Option Addr) (zs : List UInt8) : Prop := ∀ (j : Nat) (z : UInt8), zs[j]? = some z → ∃ b off, a = some ⟨b, off, none⟩ ∧ b < w.heap.size ∧ w.cell? ⟨b, off + j, none⟩ = some (cell z)
theorem BytesRd.later {w w' : World} {a : Option Addr} {zs : List UInt8} (h : BytesRd w a zs) (hb : Below w.heap.size w w') : BytesRd w' a zs := fun j z hj => by
  obtain ⟨b, off, h1, h2, h3⟩ := h j z hj
  exact ⟨b, off, h1, Nat.lt_of_lt_of_le h2 hb.size, (hb.cell (p := ⟨b, off + j, none⟩) h2).trans h3⟩
theorem run_bytesOf {P : Program} {w : World} {a : Option Addr} {zs : List UInt8} (h : BytesRd w a zs) (c : Nat) : (Extern.Bytes.bytesOf (.slice a zs.length c)).run P w = .ok ⟨zs.toArray⟩ w := by
  cases a with
  | none =>
    have : zs = [] := by
      cases zs with
      | nil => rfl
      | cons z r => obtain ⟨_, _, e, _⟩ := h 0 z rfl; cases e
    subst this
    rfl
  | some ad =>
    have hl := Lib.run_loadBytesX (P := P) w (zs.map fun z => (z.toNat : Int)) ad .empty (fun j x hj => by
      rw [List.getElem?_map] at hj
      obtain ⟨z, hz, rfl⟩ := Option.map_eq_some_iff.1 hj
      obtain ⟨b, off, e, _, hc⟩ := h j z hz
      cases e
      have e2 : (⟨b, off, none⟩ : Addr).add j = ⟨b, off + j, none⟩ := by unfold Addr.add; split <;> simp_all
      rw [e2, hc]
      rfl)
    rw [List.length_map] at hl
    have e3 : Lib.bytesOf (zs.map fun z => (z.toNat : Int)) = zs := by
      unfold Lib.bytesOf
      rw [List.map_map]
      have : ((fun x : Int => x.toNat.toUInt8) ∘ fun z : UInt8 => (z.toNat : Int)) = _root_.id := by
        funext z
        simp [Function.comp]
      rw [this, List.map_id]
    rw [e3] at hl
    have he : (⟨ByteArray.empty.data ++ zs.toArray⟩ : ByteArray) = ⟨zs.toArray⟩ := by
      apply ByteArray.ext
      show (#[] : Array UInt8) ++ zs.toArray = zs.toArray
      simp
    rw [he] at hl
    exact hl
theorem run_compare {P : Program} {w : World} {a b : Option Addr} {xs ys : List UInt8} (ha : BytesRd w a xs) (hb : BytesRd w b ys) (c d : Nat) : (Extern.BytealgCompare.compare #[.slice a xs.length c, .slice b ys.length d]).run P w = .ok (.int .i64 (Lib.compareBytes xs ys)) w := by
  change Sem.run P (do pure (goInt (Extern.BytealgCompare.cmp (← Extern.Bytes.bytesOf (.slice a xs.length c)) (← Extern.Bytes.bytesOf (.slice b ys.length d))))) w = _
  simp only [Sem.run_bind, Sem.run_pure, run_bytesOf ha, run_bytesOf hb, Result.andThen]
  rw [Lib.cmp_eq]
  rfl
theorem compare_any {w : World} {a b : Option Addr} {xs ys : List UInt8} (ha : BytesRd w a xs) (hb : BytesRd w b ys) (c d : Nat) :
    Calls Try.prog 45 #[.slice a xs.length c, .slice b ys.length d] w fun e w' => e = .returned (.int .i64 (Lib.compareBytes xs ys)) ∧ w' = w := by
  have RC := Lib.hid (run_compare (P := Try.prog) ha hb c d)
  clear ha hb
  go_enter Try.func45, Try.ntmps45
  go_wp2
  rw [run_callFunc_extern Try.func51 (by kernel_rfl) (by kernel_rfl) (by kernel_rfl) (e := Extern.BytealgCompare.compare) (by kernel_rfl), RC.out]
  simp only [Result.andThen]
  rw [Oper.upon_value]
  go_wp2
  go_ret
  exact ⟨rfl, rfl⟩
theorem id_rd {w : World} {b : Nat} {x : List UInt8} {t : TypeId} {fz : Nat × Nat} (hx : x.length = 32) (h : w.heap[b]? = some (.cells (idCells x).toArray t fz)) : BytesRd w (some ⟨b, 0, none⟩) x := fun j z hj => by
  refine ⟨b, 0, rfl, (Array.getElem?_eq_some_iff.1 h).1, ?_⟩
  rw [Nat.zero_add, cell_of_row w b j _ t fz h, idCells_of hx]
  simp [hj]
end Go.Proofs.Ytgbghjpkdbjdgaa
