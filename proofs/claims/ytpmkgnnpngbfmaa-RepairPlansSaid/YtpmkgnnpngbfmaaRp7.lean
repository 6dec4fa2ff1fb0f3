/- Plan: what it reckons, and its first part. -/
import Derived.Test.YtpmkgnnpngbfmaaRp6
import Derived.Great.BuildSlice
namespace Go.Proofs.Ytpmkgnnpngbfmaa
open Go.RowKit Go.Sort Go.Shelf Go.Lib
open Extern.Stop (cell)

/-- The best among some. -/
def bestOf (f : Int → Int) (zs : List Int) : Option Int := zs.foldl (fun acc x => match acc with | none => some x | some m => if f m < f x ∨ (f x = f m ∧ x < m) then some x else some m) none
theorem bestOf_snoc (f : Int → Int) (zs : List Int) (x : Int) : bestOf f (zs ++ [x]) = match bestOf f zs with | none => some x | some m => if f m < f x ∨ (f x = f m ∧ x < m) then some x else some m := by
  simp [bestOf]
theorem bestOf_spec (f : Int → Int) (zs : List Int) : (zs = [] ∧ bestOf f zs = none) ∨ ∃ a, bestOf f zs = some a ∧ IsBest f zs a := by
  induction h : zs.length generalizing zs with
  | zero => exact .inl ⟨List.eq_nil_of_length_eq_zero h, by rw [List.eq_nil_of_length_eq_zero h]; rfl⟩
  | succ n ih =>
    right
    have hne : zs ≠ [] := by rintro rfl; simp at h
    obtain ⟨ys, x, rfl⟩ : ∃ ys x, zs = ys ++ [x] := ⟨zs.dropLast, zs.getLast hne, (List.dropLast_concat_getLast hne).symm⟩
    rw [bestOf_snoc]
    rcases ih ys (by simpa using h) with ⟨rfl, e⟩ | ⟨a, e, ha⟩
    · rw [e]
      exact ⟨x, rfl, by simp, fun y hy => .inl (by simpa using hy)⟩
    · rw [e]
      by_cases hx : f a < f x ∨ (f x = f a ∧ x < a)
      · refine ⟨x, by simp only [if_pos hx], by simp, fun y hy => ?_⟩
        rcases List.mem_append.1 hy with hy | hy
        · rcases ha.2 y hy with e1 | e1 | e1
          · subst e1; omega
          · omega
          · omega
        · exact .inl (by simpa using hy)
      · refine ⟨a, by simp only [if_neg hx], List.mem_append_left _ ha.1, fun y hy => ?_⟩
        rcases List.mem_append.1 hy with hy | hy
        · exact ha.2 y hy
        · have : y = x := by simpa using hy
          subst this
          omega
theorem bestOf_eq {f : Int → Int} {zs ys : List Int} (hp : zs.Perm ys) {a : Int} (h : IsBest f zs a) : bestOf f ys = some a := by
  rcases bestOf_spec f ys with ⟨rfl, _⟩ | ⟨b, e, hb⟩
  · have := hp.mem_iff.1 h.1; simp at this
  · rw [e, (h.perm hp).eq hb]
/-- Who may be taken for a pack. -/
def fitsOf (left : List (Int × Int)) (has : List (Int × Bool)) (size : Int) : List Int := (left.map Prod.fst).filter fun who => !nofit has left size who
/-- What is at hand while a pack is planned: room, who was chosen for it, and all moves. -/
structure Pl where
  left : List (Int × Int)
  gs : List Int
  out : List Mv
def giveOne (p : Pk) (s : Pl) : Option Pl :=
  (bestOf (roomOf s.left) (fitsOf s.left (hset (p.hs ++ s.gs)) p.size)).map fun who => ⟨aput s.left who (roomOf s.left who - p.size), s.gs ++ [who], s.out ++ [⟨p.id, who⟩]⟩
def give (p : Pk) : Nat → Pl → Pl
  | 0, s => s
  | n + 1, s => match giveOne p s with
    | none => s
    | some s' => give p n s'
def planOne (k : Int) (s : List (Int × Int) × List Mv) (p : Pk) : List (Int × Int) × List Mv :=
  let r := give p (k - ((hset p.hs).length : Int)).toNat ⟨s.1, [], s.2⟩
  (r.left, r.out)
def planOf (k : Int) (left : List (Int × Int)) (l : List Pk) : List (Int × Int) × List Mv := l.foldl (planOne k) (left, [])
theorem planOf_snoc (k : Int) (left : List (Int × Int)) (l : List Pk) (p : Pk) : planOf k left (l ++ [p]) = planOne k (planOf k left l) p := by simp [planOf]

theorem give_zero (p : Pk) (s : Pl) : give p 0 s = s := rfl
theorem give_stop {p : Pk} {s : Pl} (h : fitsOf s.left (hset (p.hs ++ s.gs)) p.size = []) (n : Nat) : give p n s = s := by
  cases n with
  | zero => rfl
  | succ n =>
    have : giveOne p s = none := by unfold giveOne; rw [h]; rfl
    unfold give
    rw [this]
theorem give_on {p : Pk} {s : Pl} {who : Int} (h : bestOf (roomOf s.left) (fitsOf s.left (hset (p.hs ++ s.gs)) p.size) = some who) {n : Nat} (hn : 0 < n) :
    give p n s = give p (n - 1) ⟨aput s.left who (roomOf s.left who - p.size), s.gs ++ [who], s.out ++ [⟨p.id, who⟩]⟩ := by
  obtain ⟨m, rfl⟩ : ∃ m, n = m + 1 := ⟨n - 1, by omega⟩
  have : giveOne p s = some ⟨aput s.left who (roomOf s.left who - p.size), s.gs ++ [who], s.out ++ [⟨p.id, who⟩]⟩ := by unfold giveOne; rw [h]; rfl
  conv => lhs; unfold give
  rw [this]
  rfl
/-- Room that may be. -/
def LeftOk (l : List (Int × Int)) : Prop := ∀ x ∈ l, (Lit.int .i64 x.1).wf = true ∧ 0 ≤ x.2 ∧ x.2 ≤ 18446744073709551615
theorem mem_aput {α β : Type} [DecidableEq α] {l : List (α × β)} {a : α} {b : β} {x : α × β} (h : x ∈ aput l a b) : x = (a, b) ∨ x ∈ l := by
  induction l with
  | nil => simp [aput] at h; exact .inl h
  | cons p r ih =>
    obtain ⟨k, v⟩ := p
    unfold aput at h
    split at h
    · rcases List.mem_cons.1 h with e | e
      · exact .inl e
      · exact .inr (List.mem_cons_of_mem _ e)
    · rcases List.mem_cons.1 h with e | e
      · exact .inr (by rw [e]; simp)
      · rcases ih e with e | e
        · exact .inl e
        · exact .inr (List.mem_cons_of_mem _ e)
theorem LeftOk.put {l : List (Int × Int)} (h : LeftOk l) {a b : Int} (ha : (Lit.int .i64 a).wf = true) (h0 : 0 ≤ b) (h1 : b ≤ 18446744073709551615) : LeftOk (aput l a b) := fun x hx => by
  rcases mem_aput hx with rfl | hx
  · exact ⟨ha, h0, h1⟩
  · exact h x hx
theorem LeftOk.room {l : List (Int × Int)} (h : LeftOk l) (a : Int) : 0 ≤ roomOf l a ∧ roomOf l a ≤ 18446744073709551615 := by
  unfold roomOf
  cases hg : aget l a with
  | none => simp
  | some v => exact (h (a, v) (aget_mem hg)).2

/-- What Plan holds in memory. -/
structure PlanIs (w : World) (B Bl L : Nat) (left : List (Int × Int)) (vo : Value) (ord : List Pk) (u : Value) (mv : List Mv) : Prop where
  box : w.heap[Bl]? = some (.cells #[.map (some L)] 60 (0, 0))
  left : LeftIs w L left
  row : w.ownsRow B 46 34 vo ord.length (ord.flatMap pcells)
  out : w.ownsRow B 39 33 u mv.length (mv.flatMap mcells)
section
variable {w w' : World} {B Bl L : Nat} {left left' : List (Int × Int)} {vo : Value} {ord : List Pk} {u : Value} {mv : List Mv}
theorem PlanIs.later (h : PlanIs w B Bl L left vo ord u mv) (hb : Below w.heap.size w w') : PlanIs w' B Bl L left vo ord u mv :=
  ⟨(hb.block Bl (Array.getElem?_eq_some_iff.1 h.box).1).trans h.box, h.left.of_block (hb.block L h.left.lt), own_later h.row hb, own_later h.out hb⟩
theorem box_not_map {α β : Type} {P : Program} {k : TypeId} {eK : α → Value} {eV : β → Value} {l : List (α × β)} {q : Nat} (h : MapIs P k eK eV w q l) {b : Nat} {cs : Array Value} {t : TypeId} {fz : Nat × Nat} (hb : w.heap[b]? = some (.cells cs t fz)) : b ≠ q := by
  rintro rfl
  obtain ⟨es, clk, h1, _⟩ := h
  rw [h1] at hb
  cases hb
/-- A map was turned. -/
theorem PlanIs.turn (h : PlanIs w B Bl L left vo ord u mv) {α β : Type} {P : Program} {k : TypeId} {eK : α → Value} {eV : β → Value} {l : List (α × β)} {q : Nat} (hq : MapIs P k eK eV w q l) (hg : w.grownBy w' (some q)) (hl : LeftIs w' L left') : PlanIs w' B Bl L left' vo ord u mv :=
  ⟨(hg.block Bl (Array.getElem?_eq_some_iff.1 h.box).1 (fun e => box_not_map hq h.box (Option.some.inj e))).trans h.box, hl, own_grown h.row hg (own_not_map hq h.row), own_grown h.out hg (own_not_map hq h.out)⟩
/-- Moves have come. -/
theorem PlanIs.app (h : PlanIs w B Bl L left vo ord u mv) {u' : Value} {mv' : List Mv} (hg : w.grownBy w' u.ownBlock) (ho : w'.ownsRow B 39 33 u' mv'.length (mv'.flatMap mcells)) : PlanIs w' B Bl L left vo ord u' mv' := by
  have ur : ∀ k, u.ownBlock = some k → ∃ cur, w.heap[k]? = some (.cells cur 39 (0, 0)) := fun k hk => (own_row h.out hk).2
  refine ⟨(hg.block Bl (Array.getElem?_eq_some_iff.1 h.box).1 (fun e => ?_)).trans h.box, h.left.of_block (hg.block L h.left.lt (fun e => ?_)), own_other h.row hg ur (by decide), ho⟩
  · obtain ⟨cur, hc⟩ := ur Bl e.symm
    rw [h.box] at hc
    simp at hc
  · obtain ⟨cur, hc⟩ := ur L e.symm
    exact box_not_map h.left hc rfl
end
/-- What Plan holds in memory for a pack. -/
structure HasIs (w : World) (T : Nat) (p : Pk) (Bh Hb : Nat) (hs : List Int) : Prop where
  pk : w.heap[T]? = some (.cells (pcells p).toArray 46 (0, 0))
  box : w.heap[Bh]? = some (.cells #[.map (some Hb)] 65 (0, 0))
  set : SetIs w Hb (hset hs)
section
variable {w w' : World} {T Bh Hb : Nat} {p : Pk} {hs hs' : List Int}
theorem HasIs.later (h : HasIs w T p Bh Hb hs) (hb : Below w.heap.size w w') : HasIs w' T p Bh Hb hs :=
  ⟨(hb.block T (Array.getElem?_eq_some_iff.1 h.pk).1).trans h.pk, (hb.block Bh (Array.getElem?_eq_some_iff.1 h.box).1).trans h.box, h.set.of_block (hb.block Hb h.set.lt)⟩
theorem HasIs.turn (h : HasIs w T p Bh Hb hs) {α β : Type} {P : Program} {k : TypeId} {eK : α → Value} {eV : β → Value} {l : List (α × β)} {q : Nat} (hq : MapIs P k eK eV w q l) (hg : w.grownBy w' (some q)) (hl : SetIs w' Hb (hset hs')) : HasIs w' T p Bh Hb hs' :=
  ⟨(hg.block T (Array.getElem?_eq_some_iff.1 h.pk).1 (fun e => box_not_map hq h.pk (Option.some.inj e))).trans h.pk, (hg.block Bh (Array.getElem?_eq_some_iff.1 h.box).1 (fun e => box_not_map hq h.box (Option.some.inj e))).trans h.box, hl⟩
theorem HasIs.app (h : HasIs w T p Bh Hb hs) {row : Option Nat} (hr : ∀ k, row = some k → ∃ cur, w.heap[k]? = some (.cells cur 39 (0, 0))) (hg : w.grownBy w' row) : HasIs w' T p Bh Hb hs := by
  refine ⟨(hg.block T (Array.getElem?_eq_some_iff.1 h.pk).1 (fun e => ?_)).trans h.pk, (hg.block Bh (Array.getElem?_eq_some_iff.1 h.box).1 (fun e => ?_)).trans h.box, h.set.of_block (hg.block Hb h.set.lt (fun e => ?_))⟩
  · obtain ⟨cur, hc⟩ := hr T e.symm
    rw [h.pk] at hc
    simp at hc
  · obtain ⟨cur, hc⟩ := hr Bh e.symm
    rw [h.box] at hc
    simp at hc
  · obtain ⟨cur, hc⟩ := hr Hb e.symm
    exact box_not_map h.set hc rfl
end
/-- append of cells that are known, as the walk takes it. -/
theorem wpList_append_news {P : Program} {w : World} {ops : Array Oper} {rest : List Oper} {o : Oper} {a : Act} {Q : Exit → Act → World → Prop} (hgd : o.guard = none) (s x : Operand) (t : TypeId)
    (ho : o.op = .call { callee := .builtin .append, args := #[s, x], argTypes := #[t, t] })
    (base : Nat) (e : TypeId) (i : TypeInfo) (z : Value) (size bytes : Nat) (ht : P.underlying t = some (.slice e)) (hi : P.info? e = some i) (hz : i.zero = some z)
    (hsize : i.size = size) (hby : i.bytes = bytes) (hzs : z.cells.size = size) (hsz : 0 < size)
    (v : Value) (n : Nat) (xs : List Value) (hs : a.eval s = v) (hown : w.ownsRow base e size v n xs)
    (ad : Addr) (m c : Nat) (news : List Value) (hx : a.eval x = .slice (some ad) m c) (hl : news.length = m * size) (hnews : ∀ j u, news[j]? = some u → w.cell? (ad.add j) = some u) (h1 : ∀ u ∈ news, u.oneCell' = true)
    (h63 : n + m ≤ maxLen) (hbytes : (n + m) * bytes ≤ 140737488355328) (hbase : base ≤ w.heap.size)
    (h : ∀ v' w', w'.ownsRow base e size v' (n + m) (xs ++ news) → w.grownBy w' v.ownBlock → (v'.ownBlock = v.ownBlock ∨ v'.ownBlock = some w.heap.size) → wpList P ops Q rest (a.put o.dst v') w') : wpList P ops Q (o :: rest) a w := by
  refine wpList_plain hgd fun K hK => ?_
  obtain ⟨v', w', hr, h2, h3, h4⟩ := run_append_own_opt (P := P) w base t o.type e i z size bytes ht hi hz hsize hby hzs hsz v n xs hown ad m c news hl hnews h1 h63 hbytes hbase
  unfold Oper.wp execOp
  simp only [ho, resolve, invoke, builtin, Sem.run_bind, Sem.run_pure, Result.andThen_ok, List.map_toArray, List.map_cons, List.map_nil, hs, hx, hr]
  exact hK _ _ (h v' w' h2 h3 h4)
theorem sizef (x : Int × Int) : (Try.prog.info? 51).map (·.size) = some (fcells x).toArray.size := by rw [size_free]; simp [fcells_len]
theorem info_mv : (Try.prog.info? 39).map (fun i => (i.zero, i.size, i.bytes)) = some (some (.agg (mcells ⟨[], 0⟩).toArray), 33, 40) := by kernel_rfl
theorem built_mv (pack : List UInt8) (to : Int) : Try.prog.built 39 [(0, .agg (idCells pack).toArray), (1, .int .i64 to)] = some (mcells ⟨pack, to⟩).toArray := by
  obtain ⟨c0, c1, c2, c3, c4, c5, c6, c7, c8, c9, c10, c11, c12, c13, c14, c15, c16, c17, c18, c19, c20, c21, c22, c23, c24, c25, c26, c27, c28, c29, c30, c31, h⟩ := list32 (idCells_len pack)
  unfold mcells
  rw [h]
  kernel_rfl
theorem fill_mv (pack : List UInt8) (to : Int) : Instr.fill (fun i => some (i * 33, 33)) ((Array.range (1 * 33)).map ((Value.agg (mcells ⟨[], 0⟩).toArray).cells[· % (Value.agg (mcells ⟨[], 0⟩).toArray).cells.size]!)) [(0, .agg (mcells ⟨pack, to⟩).toArray)] = some (mcells ⟨pack, to⟩).toArray := by
  have h := Great.fill_whole (s := 33) (by decide) [Value.agg (mcells ⟨pack, to⟩).toArray] ((Array.range (1 * 33)).map ((Value.agg (mcells ⟨[], 0⟩).toArray).cells[· % (Value.agg (mcells ⟨[], 0⟩).toArray).cells.size]!)) (by
    intro v hv
    simp only [List.mem_singleton] at hv
    subst hv
    simp [Value.cells, mcells_len]) (by simp)
  have e : [Value.agg (mcells ⟨pack, to⟩).toArray].flatMap (fun v => v.cells.toList) = mcells ⟨pack, to⟩ := by simp [Value.cells]
  rw [e] at h
  exact h
theorem news_made (w : World) (l : List Value) (t : TypeId) (j : Nat) (u : Value) (h : l[j]? = some u) : (w.alloc (.cells l.toArray t)).cell? ((⟨w.heap.size, 0, none⟩ : Addr).add j) = some u :=
  World.news_of_block (w := w.alloc _) (heap_at w _) j u (by simpa using h)
end Go.Proofs.Ytpmkgnnpngbfmaa
