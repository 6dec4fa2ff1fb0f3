/- Regions that draw their order and only read: loads of many cells. -/
import Derived.Test.YtgbghjpkdbjdgaaAgg
import Derived.BigQuiet
namespace Go.Proofs.Ytgbghjpkdbjdgaa
open Go.RowKit

section
variable {P : Program} {ops : Array Oper} {C : World → Prop} {Q : Act → Prop} {a : Act} {o : Oper} {rest : List Oper}
theorem wpQuiet_load (hw : Region.wanted o (yielded ops a.tmps) = true) (ty : TypeId) (x : Operand) (ho : o.op = .load ty x) (b i : Nat) (hx : a.eval x = .pointer (some ⟨b, i, none⟩)) (cs : Array Value) (d : TypeDesc) (hc : ∀ w, C w → Lies w b i cs)
    (hu : P.underlying ty = some d) (hd : d.isRow = true) (hi : (P.info? ty).map (·.size) = some cs.size) (h : wpQuiet P ops C Q rest (a.put o.dst (.agg cs))) : wpQuiet P ops C Q (o :: rest) a := by
  refine BigFrame.wpQuiet_want hw fun K hK => ⟨_, fun w hC => ?_, hK _ h⟩
  unfold Oper.quietAt
  have hr : (execOp a.eval o).run P w = .ok (.value (.agg cs)) w := by
    unfold execOp
    simp only [ho, hx, Instr.loadAt, Instr.sureAddr, Sem.run_bind, Sem.run_pure, Result.andThen_ok, run_loadVar_mid w b i ty cs.toList d (hc w hC) hu hd (by simpa using hi)]
  rw [hr]
  exact ⟨rfl, rfl⟩
/-- There is an operation to be walked (else nothing is tried). -/
theorem wpQuiet_same (h : wpQuiet P ops C Q (o :: rest) a) : wpQuiet P ops C Q (o :: rest) a := h
theorem wpQuiet_build (hw : Region.wanted o (yielded ops a.tmps) = true) (t : TypeId) (parts : Array (Nat × Operand)) (ho : o.op = .build t parts) (cells : Array Value) (hf : P.built t (parts.map fun (i, x) => (i, a.eval x)).toList = some cells)
    (h : wpQuiet P ops C Q rest (a.put o.dst (.agg cells))) : wpQuiet P ops C Q (o :: rest) a := by
  refine BigFrame.wpQuiet_want hw fun K hK => ⟨_, fun w hC => ?_, hK _ h⟩
  unfold Oper.quietAt
  have hr : (execOp a.eval o).run P w = .ok (.value (.agg cells)) w := by
    unfold execOp
    simp only [ho]
    simp only [Sem.run_bind, run_build w t _ cells hf, Result.andThen_ok, Sem.run_pure]
  rw [hr]
  exact ⟨rfl, rfl⟩
theorem lies_drewN {w : World} {b i : Nat} {cs : Array Value} (h : Lies w b i cs) : ∀ w', (∃ n, w' = w.drewN n) → Lies w' b i cs := by
  rintro w' ⟨n, rfl⟩
  exact fun j v hj => by
    have := h j v hj
    simpa [World.cell?] using this
end
end Go.Proofs.Ytgbghjpkdbjdgaa
