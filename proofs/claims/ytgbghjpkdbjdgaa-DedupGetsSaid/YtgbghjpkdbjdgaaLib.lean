/- Plain words for maps and steps of worlds: a map block read as a list of pairs, and what its operations do. -/
import Derived.Maps.Keyed
import Derived.OwnWalk
import Derived.WalkKit
import Derived.Maps.OwnOps
import Derived.Deep.QuietTactic
import Derived.BigQuiet
import Derived.Lib.Hide
import Derived.RegionTactic
import Derived.ChangeAlike
namespace Go.Proofs.Ytgbghjpkdbjdgaa
open Go.Maps (Keyed)
open Go.MapKept (Stamped)

theorem bcell {W w1 : World} (hb : RowKit.Below W.heap.size W w1) : (∀ b o, b < W.heap.size → w1.cell? ⟨b, o, none⟩ = W.cell? ⟨b, o, none⟩) ∧ (∀ b o, b < W.heap.size → w1.frozen? ⟨b, o, none⟩ = W.frozen? ⟨b, o, none⟩) :=
  ⟨fun b o h => hb.cell (p := ⟨b, o, none⟩) h, fun b o h => hb.frozen (p := ⟨b, o, none⟩) h⟩

/-- A block known whole: its cells, and that none is frozen. -/
theorem blk1 {w : World} {b : Nat} {c0 : Value} {t : TypeId} (h : w.heap[b]? = some (.cells #[c0] t (0, 0))) : w.cell? ⟨b, 0, none⟩ = some c0 ∧ w.frozen? ⟨b, 0, none⟩ = false := by
  simp [World.cell?, World.frozen?, h]
theorem blk2 {w : World} {b : Nat} {c0 c1 : Value} {t : TypeId} (h : w.heap[b]? = some (.cells #[c0, c1] t (0, 0))) : (w.cell? ⟨b, 0, none⟩ = some c0 ∧ w.cell? ⟨b, 1, none⟩ = some c1) ∧ w.frozen? ⟨b, 0, none⟩ = false ∧ w.frozen? ⟨b, 1, none⟩ = false := by
  simp [World.cell?, World.frozen?, h]
theorem blk3 {w : World} {b : Nat} {c0 c1 c2 : Value} {t : TypeId} (h : w.heap[b]? = some (.cells #[c0, c1, c2] t (0, 0))) : (w.cell? ⟨b, 0, none⟩ = some c0 ∧ w.cell? ⟨b, 1, none⟩ = some c1 ∧ w.cell? ⟨b, 2, none⟩ = some c2) ∧ w.frozen? ⟨b, 0, none⟩ = false ∧ w.frozen? ⟨b, 1, none⟩ = false ∧ w.frozen? ⟨b, 2, none⟩ = false := by
  simp [World.cell?, World.frozen?, h]
theorem heap_at (w : World) (o : Obj) : (w.alloc o).heap[w.heap.size]? = some o := (MapKept.heap_alloc w o).1
theorem heap_up {w : World} {o : Obj} {b : Nat} {x : Obj} (h : w.heap[b]? = some x) : (w.alloc o).heap[b]? = some x := by
  rw [RowKit.Below.heap_alloc _ _ _ (Array.getElem?_eq_some_iff.1 h).1]; exact h
theorem heap_kept {w w' : World} {B b : Nat} {x : Obj} (hb : RowKit.Below B w w') (h : w.heap[b]? = some x) (hB : b < B) : w'.heap[b]? = some x := (hb.block b hB).trans h

@[go_sem] theorem setCell_twice (w : World) (a : Addr) (u v : Value) : (w.setCell a u).setCell a v = w.setCell a v := by
  unfold World.setCell
  congr 1
  apply Array.ext_getElem?
  intro i
  simp only [Array.getElem?_modify]
  by_cases h : a.block = i
  · simp only [if_pos h]
    cases w.heap[i]? with
    | none => rfl
    | some o => cases o <;> simp; split <;> simp
  · simp only [if_neg h]

theorem heap_setCell_same {w : World} {b i : Nat} {cs : Array Value} {t : TypeId} {fz : Nat × Nat} (v : Value) (h : w.heap[b]? = some (.cells cs t fz)) : (w.setCell ⟨b, i, none⟩ v).heap[b]? = some (.cells (cs.setIfInBounds i v) t fz) := by
  simp [World.setCell, Array.getElem?_modify, h]
theorem heap_setCell_ne {w : World} {b : Nat} {a : Addr} {x : Option Obj} (v : Value) (h : w.heap[b]? = x) (hne : b ≠ a.block) : (w.setCell a v).heap[b]? = x := by
  rw [RowKit.Below.heap_setCell _ _ _ _ hne]; exact h
/-- The world gets a name ahead of a piece of code. -/
theorem wp_named {P : Program} {c : Code} {Q : Exit → Act → World → Prop} {a : Act} {w : World} (h : ∀ W, W = w → c.wp P Q a W) : c.wp P Q a w := h w rfl

theorem below_drewN {B : Nat} {a w : World} (h : RowKit.Below B a w) (n : Nat) : RowKit.Below B a (w.drewN n) := ⟨h.os, h.tape, h.output, h.size, h.block⟩
theorem below_drew {B : Nat} {a w : World} (h : RowKit.Below B a w) : RowKit.Below B a w.drew := ⟨h.os, h.tape, h.output, h.size, h.block⟩
theorem below_alloc {w w' : World} (h : RowKit.Below w.heap.size w w') (o : Obj) : RowKit.Below w.heap.size w (w'.alloc o) := h.alloc h.size o

theorem grown_trans {a b c : World} {row : Option Nat} (h : a.grownBy b row) (k : b.grownBy c row) : a.grownBy c row :=
  ⟨k.os.trans h.os, k.tape.trans h.tape, k.output.trans h.output, Nat.le_trans h.size k.size, fun i hi hr => (k.block i (Nat.lt_of_lt_of_le hi h.size) hr).trans (h.block i hi hr)⟩
theorem grown_below {a b : World} (h : RowKit.Below a.heap.size a b) (row : Option Nat) : a.grownBy b row := ⟨h.os, h.tape, h.output, h.size, fun i hi _ => h.block i hi⟩
theorem grown_refl (a : World) (row : Option Nat) : a.grownBy a row := ⟨rfl, rfl, rfl, Nat.le_refl _, fun _ _ _ => rfl⟩
theorem below_grown {a b : World} {m : Nat} {B : Nat} (h : a.grownBy b (some m)) (hB : B ≤ a.heap.size) (hm : B ≤ m) : RowKit.Below B a b := ⟨h.os, h.tape, h.output, h.size, fun i hi => h.block i (Nat.lt_of_lt_of_le hi hB) (fun e => by cases e; omega)⟩

/-! ### regions that draw their order, whose callees make memory of their own and change nothing that was there -/
/-- A world later than W: what was there is as it was. -/
structure Later (W : World) where
  w : World
  below : RowKit.Below W.heap.size W w
instance laterThere (W : World) : Nonempty (Later W) := ⟨⟨W, RowKit.Below.refl _ _⟩⟩
@[go_sem] theorem later_cell {W : World} (x : Later W) (b o : Nat) (h : b < W.heap.size) : x.w.cell? ⟨b, o, none⟩ = W.cell? ⟨b, o, none⟩ := x.below.cell (p := ⟨b, o, none⟩) h
@[go_sem] theorem later_frozen {W : World} (x : Later W) (b o : Nat) (h : b < W.heap.size) : x.w.frozen? ⟨b, o, none⟩ = W.frozen? ⟨b, o, none⟩ := x.below.frozen (p := ⟨b, o, none⟩) h
theorem wp_region_later {P : Program} {id : Nat} {Q : Exit → Act → World → Prop} {a : Act} {W : World} {l : List Oper} (hm : P.follows .mixedOrders = true) (hB : Region.lexB .any l.toArray = true)
    (h : wpQuiet P l.toArray (fun w' => ∃ x : Later W, w' = x.w) (fun a' => ∀ w', (∃ x : Later W, w' = x.w) → Q .normal a' w') l a) : (Code.region id l.toArray true).wp P Q a W :=
  wp_region_quiet (C := fun w' => ∃ x : Later W, w' = x.w) hm hB ⟨⟨W.drew, (RowKit.Below.refl _ _).drew⟩, rfl⟩ (by simpa using h)
theorem later_call {P : Program} {f : FuncId} {args : Array Value} {W : World} {x : Later W} {v : Value} (h : Calls P f args x.w fun e w' => e = .returned v ∧ RowKit.Below x.w.heap.size x.w w') :
    Calls P f args x.w fun e w'' => e = .returned v ∧ ∃ y : Later W, w'' = y.w :=
  h.mono fun _ w' ⟨he, hb⟩ => ⟨he, ⟨w', x.below.trans (hb.mono x.below.size)⟩, rfl⟩

theorem quiet_same_add {P : Program} {f : FuncId} {args : Array Value} {w : World} {a n : Nat} {v : Value} (h : Calls P f args (w.drewN (a + n)) fun e w' => e = .returned v ∧ w' = w.drewN (a + n)) :
    Calls P f args (w.drewN (a + n)) fun e w'' => e = .returned v ∧ ∃ m, w'' = w.drewN (a + m) := h.mono fun _ _ ⟨he, hm⟩ => ⟨he, n, hm⟩

/-! ### association lists -/
section
variable {α β : Type} [DecidableEq α]
def aget : List (α × β) → α → Option β
  | [], _ => none
  | (k, v) :: r, a => if k = a then some v else aget r a
def aput : List (α × β) → α → β → List (α × β)
  | [], a, b => [(a, b)]
  | (k, v) :: r, a, b => if k = a then (a, b) :: r else (k, v) :: aput r a b
def adel : List (α × β) → α → List (α × β)
  | [], _ => []
  | (k, v) :: r, a => if k = a then r else (k, v) :: adel r a
def Apart (l : List (α × β)) : Prop := (l.map Prod.fst).Nodup

theorem aget_aput (l : List (α × β)) (a a' : α) (b : β) : aget (aput l a b) a' = if a = a' then some b else aget l a' := by
  induction l with
  | nil => simp [aput, aget]
  | cons p r ih =>
    obtain ⟨k, v⟩ := p
    by_cases h : k = a
    · subst h; simp only [aput, if_true, aget]; split <;> rfl
    · simp only [aput, if_neg h, aget, ih]
      by_cases h' : k = a'
      · subst h'; simp [Ne.symm h]
      · simp [h']
theorem aget_none_iff (l : List (α × β)) (a : α) : aget l a = none ↔ ∀ p ∈ l, p.1 ≠ a := by
  induction l with
  | nil => simp [aget]
  | cons p r ih =>
    obtain ⟨k, v⟩ := p
    by_cases h : k = a <;> simp [aget, h, ih]
theorem aget_mem {l : List (α × β)} {a : α} {b : β} (h : aget l a = some b) : (a, b) ∈ l := by
  induction l with
  | nil => simp [aget] at h
  | cons p r ih =>
    obtain ⟨k, v⟩ := p
    by_cases e : k = a
    · subst e; simp [aget] at h; simp [h]
    · simp [aget, e] at h; exact List.mem_cons_of_mem _ (ih h)
theorem aget_of_mem {l : List (α × β)} {a : α} {b : β} (hd : Apart l) (h : (a, b) ∈ l) : aget l a = some b := by
  induction l with
  | nil => simp at h
  | cons p r ih =>
    obtain ⟨k, v⟩ := p
    unfold Apart at hd
    simp only [List.map_cons, List.nodup_cons] at hd
    rcases List.mem_cons.1 h with h | h
    · cases h; simp [aget]
    · have : k ≠ a := fun e => hd.1 (by subst e; exact List.mem_map.2 ⟨_, h, rfl⟩)
      simp [aget, this]; exact ih hd.2 h
theorem aput_none {l : List (α × β)} {a : α} (b : β) (h : aget l a = none) : aput l a b = l ++ [(a, b)] := by
  induction l with
  | nil => rfl
  | cons p r ih =>
    obtain ⟨k, v⟩ := p
    by_cases e : k = a
    · simp [aget, e] at h
    · simp [aget, e] at h; simp [aput, e, ih h]
theorem keys_aput (l : List (α × β)) (a : α) (b : β) : (aput l a b).map Prod.fst = if (aget l a).isSome then l.map Prod.fst else l.map Prod.fst ++ [a] := by
  induction l with
  | nil => simp [aput, aget]
  | cons p r ih =>
    obtain ⟨k, v⟩ := p
    by_cases e : k = a
    · simp [aput, aget, e]
    · simp only [aput, if_neg e, List.map_cons, ih, aget]; split <;> simp
theorem Apart.aput {l : List (α × β)} (h : Apart l) (a : α) (b : β) : Apart (aput l a b) := by
  unfold Apart; rw [keys_aput]; split
  · exact h
  · rename_i hn
    refine List.nodup_append.2 ⟨h, by simp, ?_⟩
    intro x hx y hy e
    simp at hy; subst hy; subst e
    obtain ⟨p, hp, hp'⟩ := List.mem_map.1 hx
    have : aget l x = none := by cases e : aget l x <;> simp_all
    exact (aget_none_iff l x).1 this p hp hp'
theorem length_aput (l : List (α × β)) (a : α) (b : β) : (aput l a b).length ≤ l.length + 1 := by
  induction l with
  | nil => simp [Go.Proofs.Ytgbghjpkdbjdgaa.aput]
  | cons p r ih => obtain ⟨k, v⟩ := p; simp only [Go.Proofs.Ytgbghjpkdbjdgaa.aput]; split <;> simp; exact ih
end

/-! ### a map's block -/
variable {α β : Type}
/-- Block b of w is a map that reads as the list l. -/
def MapIs (P : Program) (k : TypeId) (eK : α → Value) (eV : β → Value) (w : World) (b : Nat) (l : List (α × β)) : Prop :=
  ∃ es clk, w.heap[b]? = some (.map es clk) ∧ es.toList.map (fun e => (e.key, e.val)) = l.map (fun p => (eK p.1, eV p.2)) ∧ Stamped es clk ∧ ∀ p ∈ l, ∃ kl, keyOf P k (eK p.1) = some kl

section
variable {P : Program} {k : TypeId} {eK : α → Value} {eV : β → Value} {w w' : World} {b : Nat} {l : List (α × β)}
theorem MapIs.of_block (h : MapIs P k eK eV w b l) (hb : w'.heap[b]? = w.heap[b]?) : MapIs P k eK eV w' b l := by
  obtain ⟨es, clk, h1, h2⟩ := h
  exact ⟨es, clk, hb.trans h1, h2⟩
theorem MapIs.lt (h : MapIs P k eK eV w b l) : b < w.heap.size := by
  obtain ⟨es, clk, h1, _⟩ := h
  exact (Array.getElem?_eq_some_iff.1 h1).1
theorem MapIs.alloc (h : MapIs P k eK eV w b l) (o : Obj) : MapIs P k eK eV (w.alloc o) b l := h.of_block (RowKit.Below.heap_alloc _ _ _ h.lt)
theorem MapIs.drew (h : MapIs P k eK eV w b l) : MapIs P k eK eV w.drew b l := h
theorem MapIs.drewN (h : MapIs P k eK eV w b l) (n : Nat) : MapIs P k eK eV (w.drewN n) b l := h
theorem MapIs.setCell (h : MapIs P k eK eV w b l) {a : Addr} (ha : a.block ≠ b) (v : Value) : MapIs P k eK eV (w.setCell a v) b l := h.of_block (RowKit.Below.heap_setCell _ _ _ _ (fun e => ha e.symm))
theorem MapIs.grown (h : MapIs P k eK eV w b l) {row : Option Nat} (hg : w.grownBy w' row) (hr : some b ≠ row) : MapIs P k eK eV w' b l := h.of_block (hg.block b h.lt hr)
theorem MapIs.made (w : World) (P : Program) (k : TypeId) (eK : α → Value) (eV : β → Value) : MapIs P k eK eV (w.alloc (.map #[] 0)) w.heap.size ([] : List (α × β)) :=
  ⟨#[], 0, (MapKept.heap_alloc w _).1, by simp, MapKept.stamped_empty 0, by simp⟩
theorem MapIs.apart (h : MapIs P k eK eV w b l) : Apart l := by
  obtain ⟨es, clk, h1, h2, h3, h4⟩ := h
  have hn : ((es.toList.map (fun e => (e.key, e.val))).map Prod.fst).Nodup := by rw [List.map_map]; exact h3.2.2
  rw [h2, List.map_map] at hn
  unfold Apart
  unfold List.Nodup at *
  rw [List.pairwise_map] at *
  exact hn.imp (fun {a b} hab e => hab (by simp [e]))
end

section
variable [DecidableEq α] {P : Program} {k : TypeId} {eK : α → Value} {eV : β → Value} {w : World} {b : Nat} {l : List (α × β)}

theorem idx_none (inj : ∀ x y, eK x = eK y → x = y) {es : List MapEntry} (h2 : es.map (fun e => (e.key, e.val)) = l.map (fun p => (eK p.1, eV p.2))) {a : α} :
    aget l a = none ↔ ∀ e ∈ es, e.key ≠ eK a := by
  rw [aget_none_iff]
  constructor
  · intro h e he hk
    have : (e.key, e.val) ∈ es.map (fun e => (e.key, e.val)) := List.mem_map.2 ⟨e, he, rfl⟩
    rw [h2] at this
    obtain ⟨p, hp, e2⟩ := List.mem_map.1 this
    simp only [Prod.mk.injEq] at e2
    exact h p hp (inj _ _ (e2.1.trans hk))
  · intro h p hp e1
    have : (eK p.1, eV p.2) ∈ l.map (fun p => (eK p.1, eV p.2)) := List.mem_map.2 ⟨p, hp, rfl⟩
    rw [← h2] at this
    obtain ⟨x, hx, e2⟩ := List.mem_map.1 this
    simp only [Prod.mk.injEq] at e2
    exact h x hx (by rw [e2.1, e1])

/-- What a look-up finds. -/
theorem MapIs.find (h : MapIs P k eK eV w b l) (K : Keyed P k) (inj : ∀ x y, eK x = eK y → x = y) {a : α} {kl : Lit} (hkey : keyOf P k (eK a) = some kl) :
    ∃ es clk, w.heap[b]? = some (.map es clk) ∧ Stamped es clk ∧ es.toList.map (fun e => (e.key, e.val)) = l.map (fun p => (eK p.1, eV p.2)) ∧ (∀ p ∈ l, ∃ kl, keyOf P k (eK p.1) = some kl) ∧
      (((Instr.findKey k (eK a) es.toList).run P w = .ok none w ∧ aget l a = none) ∨
       ∃ j e v, (Instr.findKey k (eK a) es.toList).run P w = .ok (some (j, eV v)) w ∧ es.toList[j]? = some e ∧ e.key = eK a ∧ e.val = eV v ∧ aget l a = some v ∧ l[j]? = some (a, v)) := by
  have hap := h.apart
  obtain ⟨es, clk, h1, h2, h3, h4⟩ := h
  refine ⟨es, clk, h1, h3, h2, h4, ?_⟩
  have hks : ∀ e ∈ es.toList, ∃ l, keyOf P k e.key = some l := by
    intro e he
    have : (e.key, e.val) ∈ es.toList.map (fun e => (e.key, e.val)) := List.mem_map.2 ⟨e, he, rfl⟩
    rw [h2] at this
    obtain ⟨p, hp, e2⟩ := List.mem_map.1 this
    simp only [Prod.mk.injEq] at e2
    rw [← e2.1]; exact h4 p hp
  rcases K.find w hkey es.toList hks with ⟨f1, f2⟩ | ⟨j, e0, f1, f2, f3⟩
  · exact Or.inl ⟨f1, (idx_none inj h2).2 f2⟩
  · right
    have hl : (es.toList.map (fun e => (e.key, e.val)))[j]? = some (e0.key, e0.val) := by simp [f2]
    rw [h2, List.getElem?_map] at hl
    obtain ⟨p, hp, e2⟩ := Option.map_eq_some_iff.1 hl
    obtain ⟨pa, pv⟩ := p
    simp only [Prod.mk.injEq] at e2
    obtain rfl : pa = a := inj _ _ (e2.1.trans f3)
    refine ⟨j, e0, pv, by rw [e2.2]; exact f1, f2, f3, e2.2.symm, aget_of_mem hap (List.mem_of_getElem? hp), hp⟩

theorem MapIs.look_none (h : MapIs P k eK eV w b l) (K : Keyed P k) (inj : ∀ x y, eK x = eK y → x = y) {t e : TypeId} (ht : P.underlying t = some (.map k e)) {z : Value} (hz : (zeroValue e).run P w = .ok z w) (c : Bool) {a : α} {kl : Lit}
    (hkey : keyOf P k (eK a) = some kl) (hg : aget l a = none) : (Instr.lookup t (.map (some b)) (eK a) c).run P w = .ok (if c then .tuple #[z, .bool false] else z) w := by
  obtain ⟨es, clk, h1, _, _, _, hf⟩ := h.find K inj hkey
  rcases hf with ⟨f1, _⟩ | ⟨j, e, v, _, _, _, _, hs, _⟩
  · simp [Instr.lookup, run_underlying ht, MapKept.run_getObj_map h1, K.check w _ hkey, f1, hz, Result.andThen]
  · rw [hg] at hs; cases hs

theorem MapIs.look_some (h : MapIs P k eK eV w b l) (K : Keyed P k) (inj : ∀ x y, eK x = eK y → x = y) {t e : TypeId} (ht : P.underlying t = some (.map k e)) (c : Bool) {a : α} {kl : Lit} {v : β}
    (hkey : keyOf P k (eK a) = some kl) (hg : aget l a = some v) : (Instr.lookup t (.map (some b)) (eK a) c).run P w = .ok (if c then .tuple #[eV v, .bool true] else eV v) w := by
  obtain ⟨es, clk, h1, _, _, _, hf⟩ := h.find K inj hkey
  rcases hf with ⟨_, hn⟩ | ⟨j, e, v', f1, _, _, _, hs, _⟩
  · rw [hg] at hn; cases hn
  · rw [hg] at hs; cases hs
    simp [Instr.lookup, run_underlying ht, MapKept.run_getObj_map h1, K.check w _ hkey, f1, Result.andThen]

omit [DecidableEq α] in
theorem aput_set [DecidableEq α] : ∀ {l : List (α × β)} {j : Nat} {a : α} {v v' : β}, Apart l → l[j]? = some (a, v) → aput l a v' = l.set j (a, v')
  | [], j, a, v, v', _, h => by simp at h
  | (k, x) :: r, 0, a, v, v', _, h => by simp at h; obtain ⟨rfl, rfl⟩ := h; simp [aput]
  | (k, x) :: r, j + 1, a, v, v', hd, h => by
    unfold Apart at hd
    simp only [List.map_cons, List.nodup_cons] at hd
    simp at h
    have hm := List.mem_of_getElem? h
    have : k ≠ a := fun e => hd.1 (by subst e; exact List.mem_map.2 ⟨_, hm, rfl⟩)
    simp [aput, this, aput_set (v' := v') hd.2 h]
omit [DecidableEq α] in
theorem adel_erase [DecidableEq α] : ∀ {l : List (α × β)} {j : Nat} {a : α} {v : β}, Apart l → l[j]? = some (a, v) → adel l a = l.eraseIdx j
  | [], j, a, v, _, h => by simp at h
  | (k, x) :: r, 0, a, v, _, h => by simp at h; obtain ⟨rfl, rfl⟩ := h; simp [adel]
  | (k, x) :: r, j + 1, a, v, hd, h => by
    unfold Apart at hd
    simp only [List.map_cons, List.nodup_cons] at hd
    simp at h
    have hm := List.mem_of_getElem? h
    have : k ≠ a := fun e => hd.1 (by subst e; exact List.mem_map.2 ⟨_, hm, rfl⟩)
    simp [adel, this, adel_erase hd.2 h]
omit [DecidableEq α] in
theorem adel_none [DecidableEq α] : ∀ {l : List (α × β)} {a : α}, aget l a = none → adel l a = l
  | [], _, _ => rfl
  | (k, x) :: r, a, h => by
    by_cases e : k = a
    · simp [aget, e] at h
    · simp [aget, e] at h; simp [adel, e, adel_none h]

/-- 'm[k] = v'. -/
theorem MapIs.store (h : MapIs P k eK eV w b l) (K : Keyed P k) (inj : ∀ x y, eK x = eK y → x = y) {t e : TypeId} (ht : P.underlying t = some (.map k e)) {a : α} {kl : Lit} (v : β) (hkey : keyOf P k (eK a) = some kl) :
    ∃ w', (Instr.mapUpdate t (.map (some b)) (eK a) (eV v)).run P w = .ok () w' ∧ MapIs P k eK eV w' b (aput l a v) ∧ w.grownBy w' (some b) ∧ w'.heap.size = w.heap.size := by
  have hap := h.apart
  obtain ⟨es, clk, h1, h3, h2, h4, hf⟩ := h.find K inj hkey
  have fin : ∀ o, w.grownBy (ChangeMaps.setBlock w b o) (some b) ∧ (ChangeMaps.setBlock w b o).heap.size = w.heap.size := fun o =>
    ⟨⟨rfl, rfl, rfl, by simp [ChangeMaps.setBlock], fun i _ hi => ChangeMaps.heap_setBlock_other h1 _ (fun e => hi (by rw [e]))⟩, by simp [ChangeMaps.setBlock]⟩
  rcases hf with ⟨f1, hn⟩ | ⟨j, e0, v0, f1, fj, fk, fv, hs, hl⟩
  · refine ⟨ChangeMaps.setBlock w b (.map (es.push ⟨eK a, eV v, clk⟩) (clk + 1)), ?_, ⟨_, _, ChangeMaps.heap_setBlock_same h1 _, ?_, MapKept.stamped_push h3 ((idx_none inj h2).1 hn), ?_⟩, fin _⟩
    · simp [Instr.mapUpdate, run_underlying ht, MapKept.run_getObj_map h1, K.check w false hkey, f1, MapKept.run_setObj_map _ h1, Result.andThen, ChangeMaps.setBlock]
    · rw [aput_none _ hn, Array.toList_push, List.map_append, h2, List.map_append]; rfl
    · rw [aput_none _ hn]
      intro p hp
      rcases List.mem_append.1 hp with hp | hp
      · exact h4 p hp
      · simp at hp; subst hp; exact ⟨kl, hkey⟩
  · have hj : es[j]? = some e0 := by simpa using fj
    have hkeyf : ∀ e', es[j]? = some e' → ({ e' with key := eK a, val := eV v } : MapEntry).key = e'.key := fun e' he' => by rw [hj] at he'; cases he'; exact fk.symm
    have hlist : (es.modify j (fun e' => { e' with key := eK a, val := eV v })).toList = es.toList.set j { e0 with key := eK a, val := eV v } := by rw [Array.toList_modify, ChangeMaps.modify_eq_set _ _ _ _ fj]
    refine ⟨ChangeMaps.setBlock w b (.map (es.modify j (fun e' => { e' with key := eK a, val := eV v })) clk), ?_, ⟨_, _, ChangeMaps.heap_setBlock_same h1 _, ?_, MapKept.stamped_modify h3 _ _ (fun _ _ => rfl) (fun e' _ he' => hkeyf e' he'), ?_⟩, fin _⟩
    · simp [Instr.mapUpdate, run_underlying ht, MapKept.run_getObj_map h1, K.check w false hkey, f1, hj, fk, K.stays w hkey, MapKept.run_setObj_map _ h1, Result.andThen, ChangeMaps.setBlock]
    · rw [hlist, List.map_set, h2, aput_set hap hl, List.map_set]
    · rw [aput_set hap hl]
      intro p hp
      rcases List.mem_or_eq_of_mem_set hp with hp | rfl
      · exact h4 p hp
      · exact ⟨kl, hkey⟩

/-- 'delete(m, k)'. -/
theorem MapIs.drop (h : MapIs P k eK eV w b l) (K : Keyed P k) (inj : ∀ x y, eK x = eK y → x = y) {t e ty : TypeId} (ht : P.underlying t = some (.map k e)) {a : α} {kl : Lit} (hkey : keyOf P k (eK a) = some kl) :
    ∃ w', (Builtin.delete_ #[t, k] ty #[.map (some b), eK a]).run P w = .ok (.tuple #[]) w' ∧ MapIs P k eK eV w' b (adel l a) ∧ w.grownBy w' (some b) ∧ w'.heap.size = w.heap.size := by
  have hap := h.apart
  obtain ⟨es, clk, h1, h3, h2, h4, hf⟩ := h.find K inj hkey
  have fin : ∀ o, w.grownBy (ChangeMaps.setBlock w b o) (some b) ∧ (ChangeMaps.setBlock w b o).heap.size = w.heap.size := fun o =>
    ⟨⟨rfl, rfl, rfl, by simp [ChangeMaps.setBlock], fun i _ hi => ChangeMaps.heap_setBlock_other h1 _ (fun e => hi (by rw [e]))⟩, by simp [ChangeMaps.setBlock]⟩
  rcases hf with ⟨f1, hn⟩ | ⟨j, e0, v0, f1, fj, fk, fv, hs, hl⟩
  · refine ⟨ChangeMaps.setBlock w b (.map es clk), ?_, ⟨_, _, ChangeMaps.heap_setBlock_same h1 _, by rw [adel_none hn]; exact h2, h3, by rw [adel_none hn]; exact h4⟩, fin _⟩
    simp [Builtin.delete_, run_underlying ht, MapKept.run_getObj_map h1, K.check w _ hkey, f1, MapKept.run_setObj_map _ h1, Result.andThen, ChangeMaps.setBlock]
  · have hjl : j < es.toList.length := (List.getElem?_eq_some_iff.1 fj).1
    have hjs : j < es.size := by simpa using hjl
    have hsub : (es.eraseIdxIfInBounds j).toList = es.toList.eraseIdx j := by
      unfold Array.eraseIdxIfInBounds
      rw [dif_pos hjs]
      simp
    refine ⟨ChangeMaps.setBlock w b (.map (es.eraseIdxIfInBounds j) clk), ?_, ⟨_, _, ChangeMaps.heap_setBlock_same h1 _, ?_, MapKept.stamped_erase h3 j, ?_⟩, fin _⟩
    · simp [Builtin.delete_, run_underlying ht, MapKept.run_getObj_map h1, K.check w _ hkey, f1, MapKept.run_setObj_map _ h1, Result.andThen, ChangeMaps.setBlock]
    · rw [hsub, ChangeMaps.map_eraseIdx, h2, adel_erase hap hl, ChangeMaps.map_eraseIdx]
    · rw [adel_erase hap hl]
      intro p hp
      exact h4 p ((List.eraseIdx_sublist _ _).subset hp)
end

/-! ### at the operation, for the walk -/
section
variable [DecidableEq α] {P : Program} (w : World) {ops : Array Oper} {rest : List Oper} {o : Oper} {a : Act} {Q : Exit → Act → World → Prop}
theorem wpList_mapput (hg : o.guard = none) (m x v : Operand) (t : TypeId) (hop : o.op = Op.mapUpdate t m x v)
    (k e : TypeId) (K : Keyed P k) (ht : P.underlying t = some (.map k e)) (eK : α → Value) (eV : β → Value) (inj : ∀ x y, eK x = eK y → x = y) (b : Nat) (l : List (α × β)) (h : MapIs P k eK eV w b l)
    (hm : a.eval m = .map (some b)) (key : α) (val : β) (kl : Lit) (hx : a.eval x = eK key) (hv : a.eval v = eV val) (hkey : keyOf P k (eK key) = some kl)
    (hK : ∀ w', MapIs P k eK eV w' b (aput l key val) → w.grownBy w' (some b) → w'.heap.size = w.heap.size → wpList P ops Q rest (a.put o.dst undef) w') :
    wpList P ops Q (o :: rest) a w := by
  refine wpList_plain hg fun K' hK' => ?_
  obtain ⟨w', hrun, r1, r2, r3⟩ := h.store K inj ht val hkey
  unfold Oper.wp
  simp [execOp, hop, hm, hx, hv, hrun, Result.andThen]
  exact hK' _ _ (hK w' r1 r2 r3)
end
end Go.Proofs.Ytgbghjpkdbjdgaa
