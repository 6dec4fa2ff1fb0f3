/- The index: Packs, plain: how many objects each pack has. Steps for 'm[k]++' in a drawn region. -/
import Derived.Test.YtgbghjpkdbjdgaaDd9
namespace Go.Proofs.Ytgbghjpkdbjdgaa
open Go.RowKit
open Extern.Stop (cell)

/-- How many objects each pack has. -/
def cmIn (c : List (Id32 × Nat)) (l : List (Id32 × Pl)) : List (Id32 × Nat) := l.foldl (fun c e => aput c e.2.pack ((aget c e.2.pack).getD 0 + 1)) c
def cm (l : List (Id32 × Pl)) : List (Id32 × Nat) := cmIn [] l
def packsOf (l : List (Id32 × Pl)) : List Id32 := sortIds ((cm l).map Prod.fst)
theorem cm_snoc (l : List (Id32 × Pl)) (k : Id32) (v : Pl) : cm (l ++ [(k, v)]) = aput (cm l) v.pack ((aget (cm l) v.pack).getD 0 + 1) := by simp [cm, cmIn]
theorem cntOf_cons (k : Id32) (e : Id32 × Pl) (l : List (Id32 × Pl)) : cntOf k (e :: l) = (if e.2.pack = k then 1 else 0) + cntOf k l := by
  unfold cntOf
  rw [List.filter_cons]
  by_cases h : e.2.pack = k <;> simp [h]; omega
theorem cmIn_get : ∀ (l : List (Id32 × Pl)) (c : List (Id32 × Nat)) (k : Id32), (aget (cmIn c l) k).getD 0 = (aget c k).getD 0 + cntOf k l ∧ ((aget (cmIn c l) k).isSome = true ↔ (aget c k).isSome = true ∨ 0 < cntOf k l)
  | [], c, k => by simp [cmIn, cntOf]
  | e :: l, c, k => by
    have h := cmIn_get l (aput c e.2.pack ((aget c e.2.pack).getD 0 + 1)) k
    have e1 : cmIn c (e :: l) = cmIn (aput c e.2.pack ((aget c e.2.pack).getD 0 + 1)) l := rfl
    rw [e1, h.1, h.2, cntOf_cons, aget_aput]
    by_cases hk : e.2.pack = k
    · subst hk
      simp
      omega
    · simp [hk]
theorem cmIn_apart : ∀ (l : List (Id32 × Pl)) (c : List (Id32 × Nat)), Apart c → Apart (cmIn c l)
  | [], _, h => h
  | _ :: l, _, h => cmIn_apart l _ (h.aput _ _)
theorem cm_get (l : List (Id32 × Pl)) (k : Id32) : (aget (cm l) k).getD 0 = cntOf k l := by
  have := (cmIn_get l [] k).1
  simpa [cm, aget] using this
theorem cm_has (l : List (Id32 × Pl)) (k : Id32) : (aget (cm l) k).isSome = true ↔ 0 < cntOf k l := by
  have := (cmIn_get l [] k).2
  simpa [cm, aget] using this
theorem cm_apart (l : List (Id32 × Pl)) : Apart (cm l) := cmIn_apart l [] (by simp [Apart])
theorem mem_keys {β : Type} {l : List (Id32 × β)} {k : Id32} : k ∈ l.map Prod.fst ↔ (aget l k).isSome = true := by
  constructor
  · intro h
    cases hg : aget l k with
    | some v => rfl
    | none =>
      obtain ⟨p, hp, e⟩ := List.mem_map.1 h
      exact absurd e ((aget_none_iff l k).1 hg p hp)
  · intro h
    obtain ⟨v, hv⟩ := Option.isSome_iff_exists.1 h
    exact List.mem_map.2 ⟨_, aget_mem hv, rfl⟩
theorem mem_cm {l : List (Id32 × Pl)} {k : Id32} : k ∈ (cm l).map Prod.fst ↔ 0 < cntOf k l := mem_keys.trans (cm_has l k)
theorem packs_perm {a b : List (Id32 × Pl)} (h : a.Perm b) : packsOf a = packsOf b := by
  unfold packsOf
  refine sortIds_perm ((List.perm_ext_iff_of_nodup (cm_apart a) (cm_apart b)).2 fun k => ?_)
  rw [mem_cm, mem_cm, cntOf_perm h]
theorem cm_len (l : List (Id32 × Pl)) : (cm l).length ≤ l.length := by
  have : ∀ (l : List (Id32 × Pl)) (c : List (Id32 × Nat)), (cmIn c l).length ≤ c.length + l.length := by
    intro l
    induction l with
    | nil => intro c; exact Nat.le_refl _
    | cons e l ih =>
      intro c
      have h1 := ih (aput c e.2.pack ((aget c e.2.pack).getD 0 + 1))
      have h2 := length_aput c e.2.pack ((aget c e.2.pack).getD 0 + 1)
      have e1 : cmIn c (e :: l) = cmIn (aput c e.2.pack ((aget c e.2.pack).getD 0 + 1)) l := rfl
      rw [e1, List.length_cons]
      omega
  simpa [cm] using this l []
theorem packs_len (l : List (Id32 × Pl)) : (packsOf l).length ≤ l.length := by
  unfold packsOf
  rw [show sortIds ((cm l).map Prod.fst) = ((cm l).map Prod.fst).mergeSort (fun a b => !(ltOf cfId) b a) from rfl, List.length_mergeSort, List.length_map]
  exact cm_len l
theorem mem_packs {l : List (Id32 × Pl)} {k : Id32} : k ∈ packsOf l ↔ 0 < cntOf k l := by
  rw [← mem_cm]
  unfold packsOf
  rw [show sortIds ((cm l).map Prod.fst) = ((cm l).map Prod.fst).mergeSort (fun a b => !(ltOf cfId) b a) from rfl, List.mem_mergeSort]
/-- A count. -/
def cntv (n : Nat) : Value := .int .i64 n
theorem zero_int (w : World) : (zeroValue 3).run Try.prog w = .ok (cntv 0) w := by kernel_rfl
theorem look_cnt {w : World} {M : Nat} {l : List (Id32 × Nat)} (h : IdMap cntv w M l) (id : Id32) :
    (Instr.lookup 88 (.map (some M)) (keyI id) false).run Try.prog w = .ok (cntv ((aget l id).getD 0)) w := by
  obtain ⟨kl, hkl⟩ := keyI_ok id
  cases hg : aget l id with
  | none => exact h.look_none keyed_id keyI_inj Try.underlying88 (zero_int w) false hkl hg
  | some v => exact h.look_some keyed_id keyI_inj Try.underlying88 false hkl hg
section
variable {P : Program} {w : World} {ops : Array Oper} {o : Oper} {a : Act} {K : Act → World → Prop} {Q : Exit → Act → World → Prop} {E : Prop}
theorem step_lookup (hg : o.guard = none) (t : TypeId) (m x : Operand) (c : Bool) (ho : o.op = .lookup t m x c) (mv xv v : Value) (hm : a.eval m = mv) (hx : a.eval x = xv) (hr : (Instr.lookup t mv xv c).run P w = .ok v w)
    (h : K (a.put o.dst v) w) : if Region.wanted o (yielded ops a.tmps) = true then Oper.wp P o a w K Q else E := by
  have hw : Region.wanted o (yielded ops a.tmps) = true := by simp [Region.wanted, hg]
  rw [if_pos hw]
  unfold Oper.wp execOp
  simp only [ho, hm, hx, Sem.run_bind, hr, Result.andThen_ok, Sem.run_pure]
  exact h
theorem step_mapEntry (hg : o.guard = none) (t : TypeId) (m x : Operand) (ho : o.op = .mapEntry t m x) (mv xv v : Value) (w' : World) (hm : a.eval m = mv) (hx : a.eval x = xv) (hr : (Instr.mapEntry t mv xv).run P w = .ok v w')
    (h : K (a.put o.dst v) w') : if Region.wanted o (yielded ops a.tmps) = true then Oper.wp P o a w K Q else E := by
  have hw : Region.wanted o (yielded ops a.tmps) = true := by simp [Region.wanted, hg]
  rw [if_pos hw]
  unfold Oper.wp execOp
  simp only [ho, hm, hx, Sem.run_bind, hr, Result.andThen_ok, Sem.run_pure]
  exact h
theorem step_entryStore (hg : o.guard = none) (t : TypeId) (m x v : Operand) (ho : o.op = .entryStore t m x v) (mv xv vv : Value) (w' : World) (hm : a.eval m = mv) (hx : a.eval x = xv) (hv : a.eval v = vv) (hr : (Instr.entryStore t mv xv vv).run P w = .ok () w')
    (h : K (a.put o.dst undef) w') : if Region.wanted o (yielded ops a.tmps) = true then Oper.wp P o a w K Q else E := by
  have hw : Region.wanted o (yielded ops a.tmps) = true := by simp [Region.wanted, hg]
  rw [if_pos hw]
  unfold Oper.wp execOp
  simp only [ho, hm, hx, hv, Sem.run_bind, hr, Result.andThen_ok, Sem.run_pure]
  exact h
end
theorem wpList_lookup_is {P : Program} {w : World} {ops : Array Oper} {rest : List Oper} {o : Oper} {a : Act} {Q : Exit → Act → World → Prop} (hg : o.guard = none) (t : TypeId) (m x : Operand) (c : Bool) (ho : o.op = .lookup t m x c) (mv xv v : Value) (hm : a.eval m = mv) (hx : a.eval x = xv) (hr : (Instr.lookup t mv xv c).run P w = .ok v w)
    (h : wpList P ops Q rest (a.put o.dst v) w) : wpList P ops Q (o :: rest) a w := by
  refine wpList_plain hg fun K' hK' => ?_
  unfold Oper.wp execOp
  simp only [ho, hm, hx, Sem.run_bind, hr, Result.andThen_ok, Sem.run_pure]
  exact hK' _ _ h
theorem aput_same {α β : Type} [DecidableEq α] : ∀ (l : List (α × β)) (a : α) (b c : β), aput (aput l a b) a c = aput l a c
  | [], a, b, c => by simp [aput]
  | (k, v) :: r, a, b, c => by
    by_cases h : k = a
    · subst h; simp [aput]
    · simp [aput, h, aput_same r a b c]
end Go.Proofs.Ytgbghjpkdbjdgaa
