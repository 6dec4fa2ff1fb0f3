/- The law RepairAfter: behind moves packs have the holders that they had, and those that moves tell, rising, each once. No conditions. -/
import Derived.Test.YtpmkgnnpngbfmaaRepAfter
namespace Go.Proofs.Ytpmkgnnpngbfmaa
open Go.ChangeShapes Go.WideShapes Go.ChangeAt Go.RowKit
open Extern.Stop (cell)

theorem RepairAfter_walk (ad : Option Addr) (l : List Pk) (c : Nat) (adm : Option Addr) (ms : List Mv) (cm : Nat) (W : World) (hrow : RowAt W ad (l.flatMap pcells)) (hraw : ∀ p ∈ l, PkRaw W p) (hl : l.length ≤ c) (hc : c ≤ maxLen) (_hb : c * Try.prog.bytesOf 46 ≤ 140737488351232) (_hn : ad = none → c = 0)
    (hrm : RowAt W adm (ms.flatMap mcells)) (hmo : ∀ x ∈ ms, MvOk x) (hml : ms.length ≤ cm) (hcm : cm ≤ maxLen) (_hbm : cm * Try.prog.bytesOf 39 ≤ 140737488351232) (_hnm : adm = none → cm = 0) :
    Calls Try.prog 5 #[.slice ad l.length c, .slice adm ms.length cm] W fun e w' => e = .returned (.bool true) ∧ Below W.heap.size W w' :=
  after_law W hrow hraw (by unfold maxLen at hc; omega) hrm hmo (by unfold maxLen at hcm; omega)
set_option maxRecDepth 100000 in
theorem RepairAfter_lifted (os : Os) (started : os.Started) (H : Type) (enc : TypeId × Value → H) :
    ReturnsInHanded {} Try.checked os 5 .any (Rows.repairAfterSpec.pre6 enc Try.prog Try.f5 Rows.repairAfterRow.domain false) (Rows.repairAfterSpec.post enc Try.prog Try.f5 false true false false) := by
  refine returnsInHanded_of_change_sized (C := Try.checked) own started (by kernel_rfl) Try.func5
    (ChangeSpec.witness6 (enc := enc) (C := Try.checked) false ⟨#[], #[.slice none 0 0, .slice none 0 0], []⟩ 8 (by kernel_rfl) (by kernel_rfl) (by kernel_rfl) (by kernel_rfl)) ?_
  intro W base args ds gs before hval0 hW hcnd hsz0 _
  have hval : ∀ (j : Nat) t v, Try.f5.params[j]? = some t → args[j]? = some v → Value.okWide Try.prog W .any base t v := hval0
  have hW' := hW
  obtain ⟨p, q, hA0, hV, rfl, hfz, hnd⟩ := hW
  have hA : DataW.TrodAll enc Try.prog W 0 (fun _ => true) true Try.f5.params.toList args.toList ds p := hA0
  have hsz : (DataW.weightsEach Try.prog (Try.f5.params.toList ++ Rows.repairAfterSpec.plain.varTypes Try.prog) (ds ++ gs)).all (· ≤ reachBytes) = true := hsz0
  rw [Try.params5] at hA hval hsz
  obtain ⟨v0, vs0, d0, ds0, p0, q0, hargs, rfl, rfl, h0, r0⟩ := trodAll_cons hA
  obtain ⟨v1, vs1, d1, ds1, p1, q1, rfl, rfl, rfl, h1, r1⟩ := trodAll_cons r0
  obtain ⟨rfl, rfl, rfl⟩ := trodAll_nil r1
  obtain rfl : args = #[v0, v1] := by cases args; simp_all
  obtain ⟨a0, z0, c0, rfl, x0, y0, l0, m0, b0, n0⟩ := rows_of pcells_len cells_pk (by decide) Try.underlying22 (fun _ h => rz_pk h) (hval 0 22 v0 rfl rfl) (RZ.of h0 hsz (j := 0) rfl rfl)
  obtain ⟨a1, z1, c1, rfl, x1, y1, l1, m1, b1, n1⟩ := rows_of mcells_len cells_mv (by decide) Try.underlying30 (fun _ h => rz_mv h) (hval 1 30 v1 rfl rfl) (RZ.of h1 hsz (j := 1) rfl rfl)
  refine (RepairAfter_walk a0 z0 c0 a1 z1 c1 W x0 y0 l0 m0 b0 n0 x1 y1 l1 m1 b1 n1).mono fun e W' ⟨he, hb⟩ => ?_
  subst he
  exact ⟨_, rfl, law_post laidOut (by kernel_rfl) rfl rfl Try.underlying4 rfl hW' hb⟩
theorem RepairAfter_holds : Rows.RepairAfterSaid :=
  OpenClaim.holds_of_wide 5 Try.f5 rfl rfl rfl rfl rfl rfl rfl ⟨rfl, rfl, rfl, rfl, rfl⟩ rfl rfl rfl rfl rfl (by kernel_rfl) Try.func5 (by kernel_rfl)
    (of_decide_eq_true (by kernel_rfl)) (by unfold Func.isWrapper; rw [if_neg (by decide +kernel)]; exact ⟨rfl, rfl⟩)
    (fun os started H enc _ => RepairAfter_lifted os started H enc)
end Go.Proofs.Ytpmkgnnpngbfmaa
