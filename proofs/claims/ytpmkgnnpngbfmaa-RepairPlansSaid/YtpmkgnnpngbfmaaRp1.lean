/- Packs as they lie in memory; sets of holders. -/
import Derived.Test.YtpmkgnnpngbfmaaInts
import Derived.Test.YtpmkgnnpngbfmaaSlP
import Derived.Test.YtpmkgnnpngbfmaaAgg
import Derived.Test.YtpmkgnnpngbfmaaFrame
import Derived.Test.YtpmkgnnpngbfmaaRange
import Derived.Deep.RegionLaw
import Derived.Deep.LoopGhost
import Derived.IntWalk
namespace Go.Proofs.Ytpmkgnnpngbfmaa
open Go.RowKit
open Extern.Stop (cell)

/-- An id's cells: as many as an id has. -/
def idCells (x : List UInt8) : List Value := ((x ++ List.replicate 32 0).take 32).map cell
theorem idCells_len (x : List UInt8) : (idCells x).length = 32 := by simp [idCells]
theorem idCells_of {x : List UInt8} (h : x.length = 32) : idCells x = x.map cell := by
  unfold idCells
  rw [List.take_append_of_le_length (by omega), List.take_of_length_le (by omega)]
theorem idCells_one (x : List UInt8) : ∀ u ∈ idCells x, u.oneCell' = true := by
  intro u hu
  obtain ⟨c, _, rfl⟩ := List.mem_map.1 hu
  rfl
/-- A pack: its id, its size, its holders, and where they lie. -/
structure Pk where
  id : List UInt8
  size : Int
  hs : List Int
  ad : Option Addr
  cap : Nat
structure Mv where
  pack : List UInt8
  to : Int
def pcells (p : Pk) : List Value := idCells p.id ++ [.int .u64 p.size, .slice p.ad p.hs.length p.cap]
theorem pcells_len (p : Pk) : (pcells p).length = 34 := by simp [pcells, idCells_len]
theorem pcells_one (p : Pk) : ∀ u ∈ pcells p, u.oneCell' = true := by
  intro u hu
  simp only [pcells, List.mem_cons, List.mem_append, List.not_mem_nil, or_false] at hu
  rcases hu with hu | rfl | rfl
  · exact idCells_one _ u hu
  all_goals rfl
def mcells (m : Mv) : List Value := idCells m.pack ++ [.int .i64 m.to]
theorem mcells_len (m : Mv) : (mcells m).length = 33 := by simp [mcells, idCells_len]
theorem mcells_one (m : Mv) : ∀ u ∈ mcells m, u.oneCell' = true := by
  intro u hu
  simp only [mcells, List.mem_cons, List.mem_append, List.not_mem_nil, or_false] at hu
  rcases hu with hu | rfl
  · exact idCells_one _ u hu
  all_goals rfl
theorem size_pk : (Try.prog.info? 46).map (·.size) = some 34 := by kernel_rfl
theorem size_mv : (Try.prog.info? 39).map (·.size) = some 33 := by kernel_rfl
/-- A pack that may be: its id is one, its holders can be read, each is an int. -/
structure PkOk (w : World) (p : Pk) : Prop where
  id : p.id.length = 32
  rd : IntsRd w p.ad p.hs
  few : p.hs.length ≤ 1000
  wf : ∀ x ∈ p.hs, (Lit.int .i64 x).wf = true
theorem PkOk.later {w w' : World} {p : Pk} (h : PkOk w p) (hb : Below w.heap.size w w') : PkOk w' p := ⟨h.id, h.rd.later hb, h.few, h.wf⟩

theorem keyed_int : Maps.Keyed Try.prog 3 := Maps.int_keyed Try.underlying3
abbrev ikey (x : Int) : Value := .int .i64 x
theorem ikey_inj (x y : Int) (h : ikey x = ikey y) : x = y := by cases h; rfl
theorem ikey_ok {x : Int} (h : (Lit.int .i64 x).wf = true) : keyOf Try.prog 3 (ikey x) = some (.int .i64 x) := Maps.keyOf_int_mk Try.underlying3 h
/-- A map whose values are all true: a set. -/
abbrev SetIs (w : World) (b : Nat) (l : List (Int × Bool)) : Prop := MapIs Try.prog 3 ikey Value.bool w b l
/-- The set of some. -/
def hput (m : List (Int × Bool)) (hs : List Int) : List (Int × Bool) := hs.foldl (fun m x => aput m x true) m
abbrev hset (hs : List Int) : List (Int × Bool) := hput [] hs
theorem hput_snoc (m : List (Int × Bool)) (hs : List Int) (x : Int) : hput m (hs ++ [x]) = aput (hput m hs) x true := by simp [hput]
theorem hput_get (m : List (Int × Bool)) (hs : List Int) (x : Int) : aget (hput m hs) x = if x ∈ hs then some true else aget m x := by
  induction hs generalizing m with
  | nil => simp [hput]
  | cons y r ih =>
    show aget (hput (aput m y true) r) x = _
    rw [ih, aget_aput]
    by_cases h : x ∈ r
    · simp [h]
    · by_cases e : y = x
      · subst e; simp
      · have : ¬ x = y := fun e' => e e'.symm
        simp [h, e, this]
theorem hput_apart {m : List (Int × Bool)} (h : Apart m) (hs : List Int) : Apart (hput m hs) := by
  induction hs generalizing m with
  | nil => exact h
  | cons y r ih => exact ih (h.aput y true)
theorem hset_mem {hs : List Int} {x : Int} : x ∈ (hset hs).map Prod.fst ↔ x ∈ hs := by
  have h := hput_get [] hs x
  constructor
  · intro hx
    by_cases e : x ∈ hs
    · exact e
    · rw [if_neg e] at h
      obtain ⟨p, hp, rfl⟩ := List.mem_map.1 hx
      exact absurd rfl ((aget_none_iff _ _).1 (h.trans rfl) p hp)
  · intro hx
    rw [if_pos hx] at h
    exact List.mem_map.2 ⟨_, aget_mem h, rfl⟩
theorem hput_len (m : List (Int × Bool)) (hs : List Int) : (hput m hs).length ≤ m.length + hs.length := by
  induction hs generalizing m with
  | nil => exact Nat.le_refl _
  | cons y r ih =>
    have := ih (aput m y true)
    have := length_aput m y true
    show (hput (aput m y true) r).length ≤ _
    rw [List.length_cons]
    omega

/-- 'len(m)'. -/
theorem MapIs.len {α β : Type} {P : Program} {k : TypeId} {eK : α → Value} {eV : β → Value} {w : World} {b : Nat} {l : List (α × β)} (h : MapIs P k eK eV w b l) {t e : TypeId} (ht : P.underlying t = some (.map k e)) (ty : TypeId) :
    (Builtin.len_ #[t] ty #[.map (some b)]).run P w = .ok (.int .i64 l.length) w := by
  obtain ⟨es, clk, h1, h2, _⟩ := h
  have hl := congrArg List.length h2
  simp only [List.length_map, Array.length_toList] at hl
  simp [Builtin.len_, run_underlying ht, MapKept.run_getObj_map h1, goInt, Result.andThen, hl]
end Go.Proofs.Ytpmkgnnpngbfmaa
