/- The law RepairPlans: how many holders any packs lack, who is to hold what, and the packs behind that, are the document's. No conditions. -/
import Derived.Test.YtpmkgnnpngbfmaaRepPlans
namespace Go.Proofs.Ytpmkgnnpngbfmaa
open Go.ChangeShapes Go.WideShapes Go.ChangeAt Go.RowKit
open Extern.Stop (cell)

theorem RepairPlans_walk (ad : Option Addr) (l : List Pk) (c : Nat) (k : Int) (adf : Option Addr) (f : List (Int × Int)) (cf : Nat) (W : World) (hrow : RowAt W ad (l.flatMap pcells)) (hraw : ∀ p ∈ l, PkCame W p) (hl : l.length ≤ c) (hc : c ≤ maxLen) (_hb : c * Try.prog.bytesOf 46 ≤ 140737488351232) (hn : ad = none → c = 0)
    (_hk : (Lit.int .i64 k).wf = true) (hrf : RowAt W adf (f.flatMap fcells)) (hfo : ∀ x ∈ f, FrCame x) (hfl : f.length ≤ cf) (hcf : cf ≤ maxLen) (_hbf : cf * Try.prog.bytesOf 51 ≤ 140737488351232) (_hnf : adf = none → cf = 0) :
    Calls Try.prog 3 #[.slice ad l.length c, .int .i64 k, .slice adf f.length cf] W fun e w' => e = .returned (.bool true) ∧ Below W.heap.size W w' :=
  plans_law W hrow hraw (by unfold maxLen at hc; omega) hn hrf (fun x hx => ⟨(hfo x hx).who, (hfo x hx).left⟩) (by unfold maxLen at hcf; omega)
set_option maxRecDepth 100000 in
theorem RepairPlans_lifted (os : Os) (started : os.Started) (H : Type) (enc : TypeId × Value → H) :
    ReturnsInHanded {} Try.checked os 3 .any (Rows.repairPlansSpec.pre6 enc Try.prog Try.f3 Rows.repairPlansRow.domain false) (Rows.repairPlansSpec.post enc Try.prog Try.f3 false true false false) := by
  refine returnsInHanded_of_change_sized (C := Try.checked) own started (by kernel_rfl) Try.func3
    (ChangeSpec.witness6 (enc := enc) (C := Try.checked) false ⟨#[], #[.slice none 0 0, .int .i64 0, .slice none 0 0], []⟩ 8 (by kernel_rfl) (by kernel_rfl) (by kernel_rfl) (by kernel_rfl)) ?_
  intro W base args ds gs before hval0 hW hcnd hsz0 _
  have hval : ∀ (j : Nat) t v, Try.f3.params[j]? = some t → args[j]? = some v → Value.okWide Try.prog W .any base t v := hval0
  have hW' := hW
  obtain ⟨p, q, hA0, hV, rfl, hfz, hnd⟩ := hW
  have hA : DataW.TrodAll enc Try.prog W 0 (fun _ => true) true Try.f3.params.toList args.toList ds p := hA0
  have hsz : (DataW.weightsEach Try.prog (Try.f3.params.toList ++ Rows.repairPlansSpec.plain.varTypes Try.prog) (ds ++ gs)).all (· ≤ reachBytes) = true := hsz0
  rw [Try.params3] at hA hval hsz
  obtain ⟨v0, vs0, d0, ds0, p0, q0, hargs, rfl, rfl, h0, r0⟩ := trodAll_cons hA
  obtain ⟨v1, vs1, d1, ds1, p1, q1, rfl, rfl, rfl, h1, r1⟩ := trodAll_cons r0
  obtain ⟨v2, vs2, d2, ds2, p2, q2, rfl, rfl, rfl, h2, r2⟩ := trodAll_cons r1
  obtain ⟨rfl, rfl, rfl⟩ := trodAll_nil r2
  obtain rfl : args = #[v0, v1, v2] := by cases args; simp_all
  obtain ⟨a0, z0, c0, rfl, x0, y0, l0, m0, b0, n0⟩ := rows_of pcells_len cells_pk (by decide) Try.underlying22 (fun _ h => rz_pk2 h) (hval 0 22 v0 rfl rfl) (RZ.of h0 hsz (j := 0) rfl rfl)
  obtain ⟨a1, rfl, rfl, rfl, w1⟩ := open_int Try.underlying3 (hval 1 3 v1 rfl rfl) h1
  obtain ⟨a2, z2, c2, rfl, x2, y2, l2, m2, b2, n2⟩ := rows_of fcells_len cells_fr (by decide) Try.underlying23 (fun _ h => rz_fr h) (hval 2 23 v2 rfl rfl) (RZ.of h2 hsz (j := 2) rfl rfl)
  refine (RepairPlans_walk a0 z0 c0 a1 a2 z2 c2 W x0 y0 l0 m0 b0 n0 w1 x2 y2 l2 m2 b2 n2).mono fun e W' ⟨he, hb⟩ => ?_
  subst he
  exact ⟨_, rfl, law_post laidOut (by kernel_rfl) rfl rfl Try.underlying4 rfl hW' hb⟩
theorem RepairPlans_holds : Rows.RepairPlansSaid :=
  OpenClaim.holds_of_wide 3 Try.f3 rfl rfl rfl rfl rfl rfl rfl ⟨rfl, rfl, rfl, rfl, rfl⟩ rfl rfl rfl rfl rfl (by kernel_rfl) Try.func3 (by kernel_rfl)
    (of_decide_eq_true (by kernel_rfl)) (by unfold Func.isWrapper; rw [if_neg (by decide +kernel)]; exact ⟨rfl, rfl⟩)
    (fun os started H enc _ => RepairPlans_lifted os started H enc)
end Go.Proofs.Ytpmkgnnpngbfmaa
