/- The law DedupPlays: whatever places are added, and packs dropped, what is told, all places, and the bytes, are the document's. No conditions. -/
import Derived.Test.YtgbghjpkdbjdgaaDedPlays
namespace Go.Proofs.Ytgbghjpkdbjdgaa
open Go.RowKit Go.ChangeShapes Go.WideShapes

theorem cells_act : Try.prog.cellsOf 28 = 4 := by kernel_rfl
theorem list4 {α : Type} {cs : List α} (h : cs.length = 4) : ∃ a b c d, cs = [a, b, c, d] := by
  match cs, h with
  | [a, b, c, d], _ => exact ⟨a, b, c, d, rfl⟩
theorem u8_nat {n : Int} (h : (Lit.int .u8 n).wf = true) : ∃ z : Nat, n = (z : Int) ∧ z < 256 := by
  have h0 : 0 ≤ n ∧ n ≤ 255 := by simpa [Lit.wf, IntKind.min, IntKind.max, IntKind.signed, IntKind.bits] using h
  exact ⟨n.toNat, by omega, by omega⟩
theorem rz_act {w : World} {cs : List Value} (h : RZ Try.prog w 28 cs) : ∃ x : AcD, cs = acells x ∧ AcOk x := by
  obtain ⟨hl, hi⟩ := h.struct Try.underlying28
  rw [cells_act] at hl
  obtain ⟨a, h1, _⟩ := (show RZ Try.prog w 3 ((cs.drop 0).take (Try.prog.cellsOf 3)) from hi 0 _ rfl).int Try.underlying3
  obtain ⟨b, h2, w2⟩ := (show RZ Try.prog w 5 ((cs.drop 1).take (Try.prog.cellsOf 5)) from hi 1 _ rfl).int Try.underlying5
  obtain ⟨c, h3, w3⟩ := (show RZ Try.prog w 5 ((cs.drop 2).take (Try.prog.cellsOf 5)) from hi 2 _ rfl).int Try.underlying5
  obtain ⟨d, h4, _⟩ := (show RZ Try.prog w 3 ((cs.drop 3).take (Try.prog.cellsOf 3)) from hi 3 _ rfl).int Try.underlying3
  obtain ⟨zb, rfl, l2⟩ := u8_nat w2
  obtain ⟨zc, rfl, l3⟩ := u8_nat w3
  have c1 : Try.prog.cellsOf 3 = 1 := by kernel_rfl
  have c2 : Try.prog.cellsOf 5 = 1 := by kernel_rfl
  rw [c1] at h1 h4
  rw [c2] at h2 h3
  refine ⟨⟨a, zb, zc, d⟩, ?_, l2, l3⟩
  obtain ⟨v0, v1, v2, v3, rfl⟩ := list4 hl
  have e1 : v0 = .int .i64 a := by injection h1
  have e2 : v1 = .int .u8 (zb : Int) := by injection h2
  have e3 : v2 = .int .u8 (zc : Int) := by injection h3
  have e4 : v3 = .int .i64 d := by injection h4
  rw [e1, e2, e3, e4]
  rfl
open Go.ChangeAt in
theorem DedupPlays_walk (ad : Option Addr) (l : List AcD) (c : Nat) (W : World) (hrow : RowAt W ad (l.flatMap acells)) (hraw : ∀ p ∈ l, AcOk p) (_hl : l.length ≤ c) (_hc : c ≤ maxLen) (_hb : c * Try.prog.bytesOf 28 ≤ 140737488351232) (_hn : ad = none → c = 0) :
    Calls Try.prog 3 #[.slice ad l.length c] W fun e w' => e = .returned (.bool true) ∧ Below W.heap.size W w' :=
  plays_law hrow hraw
open Go.ChangeAt
set_option maxRecDepth 100000 in
theorem DedupPlays_lifted (os : Os) (started : os.Started) (H : Type) (enc : TypeId × Value → H) :
    ReturnsInHanded {} Try.checked os 3 .any (Rows.dedupPlaysSpec.pre6 enc Try.prog Try.f3 Rows.dedupPlaysRow.domain false) (Rows.dedupPlaysSpec.post enc Try.prog Try.f3 false true false false) := by
  refine returnsInHanded_of_change_sized (C := Try.checked) own started (by kernel_rfl) Try.func3
    (ChangeSpec.witness6 (enc := enc) (C := Try.checked) false ⟨#[], #[.slice none 0 0], []⟩ 8 (by kernel_rfl) (by kernel_rfl) (by kernel_rfl) (by kernel_rfl)) ?_
  intro W base args ds gs before hval0 hW hcnd hsz0 _
  have hval : ∀ (j : Nat) t v, Try.f3.params[j]? = some t → args[j]? = some v → Value.okWide Try.prog W .any base t v := hval0
  have hW' := hW
  obtain ⟨p, q, hA0, hV, rfl, hfz, hnd⟩ := hW
  have hA : DataW.TrodAll enc Try.prog W 0 (fun _ => true) true Try.f3.params.toList args.toList ds p := hA0
  have hsz : (DataW.weightsEach Try.prog (Try.f3.params.toList ++ Rows.dedupPlaysSpec.plain.varTypes Try.prog) (ds ++ gs)).all (· ≤ reachBytes) = true := hsz0
  rw [Try.params3] at hA hval hsz
  obtain ⟨v0, vs0, d0, ds0, p0, q0, hargs, rfl, rfl, h0, r0⟩ := trodAll_cons hA
  obtain ⟨rfl, rfl, rfl⟩ := trodAll_nil r0
  obtain rfl : args = #[v0] := by cases args; simp_all
  obtain ⟨a0, z0, c0, rfl, x0, y0, l0, m0, b0, n0⟩ := rows_of acells_len cells_act (by decide) Try.underlying22 (fun _ h => rz_act h) (hval 0 22 v0 rfl rfl) (RZ.of h0 hsz (j := 0) rfl rfl)
  refine (DedupPlays_walk a0 z0 c0 W x0 y0 l0 m0 b0 n0).mono fun e W' ⟨he, hb⟩ => ?_
  subst he
  exact ⟨_, rfl, law_post laidOut (by kernel_rfl) rfl rfl Try.underlying4 rfl hW' hb⟩
theorem DedupPlays_holds : Rows.DedupPlaysSaid :=
  OpenClaim.holds_of_wide 3 Try.f3 rfl rfl rfl rfl rfl rfl rfl ⟨rfl, rfl, rfl, rfl, rfl⟩ rfl rfl rfl rfl rfl (by kernel_rfl) Try.func3 (by kernel_rfl)
    (of_decide_eq_true (by kernel_rfl)) (by unfold Func.isWrapper; rw [if_neg (by decide +kernel)]; exact ⟨rfl, rfl⟩)
    (fun os started H enc _ => DedupPlays_lifted os started H enc)
end Go.Proofs.Ytgbghjpkdbjdgaa
