/- What Pass, Fail, Late and Forget do. -/
import Derived.Test.YtbbamnglnnanpaaScore
namespace Go.Proofs.Ytbbamnglnnanpaa
open Go.RowKit

set_option maxHeartbeats 1000000 in
theorem change_pass {w : World} {b m : Nat} {l : List (Int × Int)} (h : IsBook w b m l) {who : Int} (hw : (Lit.int .i64 who).wf = true) :
    Calls Try.prog 22 #[.pointer (some ⟨b, 0, none⟩), .int .i64 who, .func (.func 23) #[] #[]] w fun e w' => e = .returned (.int .i64 (withDo (pts l who) (1))) ∧ IsBook w' b m (changeDo l who (1)) ∧ w.grownBy w' (some m) := by
  obtain ⟨e0, e1⟩ := blk1 h.box
  obtain ⟨p0, p1⟩ := h.ptsIn who
  have C := pass_any p0 p1
  have hlk := h.drew.look hw
  have hf := few_change (more := 1) h.few (h.ptsIn who) hw
  obtain ⟨w2, hrun, hm2, hg2, hs2⟩ := h.map.drew.store keyed_int ikey_inj Try.underlying45 (a := who) (withDo (pts l who) (1)) (ikey_ok hw)
  have hI2 : IsBook w2 b m (changeDo l who (1)) := ⟨(hg2.block b h.ltb (by simpa using h.ne)).trans h.box, hm2, hf⟩
  have hl2 := hI2.look hw
  rw [show pts (changeDo l who (1)) who = withDo (pts l who) (1) by unfold changeDo; rw [pts_aput, if_pos rfl]] at hl2
  obtain ⟨g0, g1⟩ := blk1 hI2.box
  have I2 := Lib.hid hI2
  have G2 := Lib.hid hg2
  have CC := Lib.hid C
  generalize pts l who = v at *
  generalize hvv : withDo v (1) = v' at *
  clear hI2 hg2 hs2 hm2 h hw hf C p0 p1 hvv
  go_enter Try.func22, Try.ntmps22
  go_wp2_with fail
  go_region_law (first | (go_simp; go_at_call 23; refine (CC.out _).mono ?_; rintro e w3 ⟨rfl, rfl⟩))
  all_goals
    go_wp2
    go_ret
    exact ⟨rfl, I2.out, G2.out.os, G2.out.tape, G2.out.output, G2.out.size, G2.out.block⟩
theorem mpass_any {w : World} {b m : Nat} {l : List (Int × Int)} (h : IsBook w b m l) {who : Int} (hw : (Lit.int .i64 who).wf = true) :
    Calls Try.prog 9 #[.pointer (some ⟨b, 0, none⟩), .int .i64 who] w fun e w' => e = .returned (.int .i64 (withDo (pts l who) (1))) ∧ IsBook w' b m (changeDo l who (1)) ∧ w.grownBy w' (some m) := by
  have C := Lib.hid (change_pass h hw)
  generalize withDo (pts l who) (1) = v at *
  clear h hw
  go_enter Try.func9, Try.ntmps9
  go_wp2_with fail
  refine C.out.mono ?_
  rintro e w' ⟨rfl, h1, h2⟩
  have H1 := Lib.hid h1
  have H2 := Lib.hid h2
  clear h1 h2
  go_wp2
  go_ret
  exact ⟨rfl, H1.out, H2.out⟩
theorem mpass_none (w : World) (who : Value) : Calls Try.prog 9 #[.pointer none, who] w fun e w' => e = .returned (.int .i64 0) ∧ w' = w := by
  go_enter Try.func9, Try.ntmps9
  go_wp2_with fail
  refine (change_none _ _ _).mono ?_
  rintro e w' ⟨rfl, rfl⟩
  go_wp2
  go_ret
  exact ⟨rfl, rfl⟩
set_option maxHeartbeats 1000000 in
theorem change_fail {w : World} {b m : Nat} {l : List (Int × Int)} (h : IsBook w b m l) {who : Int} (hw : (Lit.int .i64 who).wf = true) :
    Calls Try.prog 22 #[.pointer (some ⟨b, 0, none⟩), .int .i64 who, .func (.func 25) #[] #[]] w fun e w' => e = .returned (.int .i64 (withDo (pts l who) (-10))) ∧ IsBook w' b m (changeDo l who (-10)) ∧ w.grownBy w' (some m) := by
  obtain ⟨e0, e1⟩ := blk1 h.box
  obtain ⟨p0, p1⟩ := h.ptsIn who
  have C := fail_any p0 p1
  have hlk := h.drew.look hw
  have hf := few_change (more := -10) h.few (h.ptsIn who) hw
  obtain ⟨w2, hrun, hm2, hg2, hs2⟩ := h.map.drew.store keyed_int ikey_inj Try.underlying45 (a := who) (withDo (pts l who) (-10)) (ikey_ok hw)
  have hI2 : IsBook w2 b m (changeDo l who (-10)) := ⟨(hg2.block b h.ltb (by simpa using h.ne)).trans h.box, hm2, hf⟩
  have hl2 := hI2.look hw
  rw [show pts (changeDo l who (-10)) who = withDo (pts l who) (-10) by unfold changeDo; rw [pts_aput, if_pos rfl]] at hl2
  obtain ⟨g0, g1⟩ := blk1 hI2.box
  have I2 := Lib.hid hI2
  have G2 := Lib.hid hg2
  have CC := Lib.hid C
  generalize pts l who = v at *
  generalize hvv : withDo v (-10) = v' at *
  clear hI2 hg2 hs2 hm2 h hw hf C p0 p1 hvv
  go_enter Try.func22, Try.ntmps22
  go_wp2_with fail
  go_region_law (first | (go_simp; go_at_call 25; refine (CC.out _).mono ?_; rintro e w3 ⟨rfl, rfl⟩))
  all_goals
    go_wp2
    go_ret
    exact ⟨rfl, I2.out, G2.out.os, G2.out.tape, G2.out.output, G2.out.size, G2.out.block⟩
theorem mfail_any {w : World} {b m : Nat} {l : List (Int × Int)} (h : IsBook w b m l) {who : Int} (hw : (Lit.int .i64 who).wf = true) :
    Calls Try.prog 11 #[.pointer (some ⟨b, 0, none⟩), .int .i64 who] w fun e w' => e = .returned (.int .i64 (withDo (pts l who) (-10))) ∧ IsBook w' b m (changeDo l who (-10)) ∧ w.grownBy w' (some m) := by
  have C := Lib.hid (change_fail h hw)
  generalize withDo (pts l who) (-10) = v at *
  clear h hw
  go_enter Try.func11, Try.ntmps11
  go_wp2_with fail
  refine C.out.mono ?_
  rintro e w' ⟨rfl, h1, h2⟩
  have H1 := Lib.hid h1
  have H2 := Lib.hid h2
  clear h1 h2
  go_wp2
  go_ret
  exact ⟨rfl, H1.out, H2.out⟩
theorem mfail_none (w : World) (who : Value) : Calls Try.prog 11 #[.pointer none, who] w fun e w' => e = .returned (.int .i64 0) ∧ w' = w := by
  go_enter Try.func11, Try.ntmps11
  go_wp2_with fail
  refine (change_none _ _ _).mono ?_
  rintro e w' ⟨rfl, rfl⟩
  go_wp2
  go_ret
  exact ⟨rfl, rfl⟩
set_option maxHeartbeats 1000000 in
theorem change_late {w : World} {b m : Nat} {l : List (Int × Int)} (h : IsBook w b m l) {who : Int} (hw : (Lit.int .i64 who).wf = true) :
    Calls Try.prog 22 #[.pointer (some ⟨b, 0, none⟩), .int .i64 who, .func (.func 24) #[] #[]] w fun e w' => e = .returned (.int .i64 (withDo (pts l who) (-3))) ∧ IsBook w' b m (changeDo l who (-3)) ∧ w.grownBy w' (some m) := by
  obtain ⟨e0, e1⟩ := blk1 h.box
  obtain ⟨p0, p1⟩ := h.ptsIn who
  have C := late_any p0 p1
  have hlk := h.drew.look hw
  have hf := few_change (more := -3) h.few (h.ptsIn who) hw
  obtain ⟨w2, hrun, hm2, hg2, hs2⟩ := h.map.drew.store keyed_int ikey_inj Try.underlying45 (a := who) (withDo (pts l who) (-3)) (ikey_ok hw)
  have hI2 : IsBook w2 b m (changeDo l who (-3)) := ⟨(hg2.block b h.ltb (by simpa using h.ne)).trans h.box, hm2, hf⟩
  have hl2 := hI2.look hw
  rw [show pts (changeDo l who (-3)) who = withDo (pts l who) (-3) by unfold changeDo; rw [pts_aput, if_pos rfl]] at hl2
  obtain ⟨g0, g1⟩ := blk1 hI2.box
  have I2 := Lib.hid hI2
  have G2 := Lib.hid hg2
  have CC := Lib.hid C
  generalize pts l who = v at *
  generalize hvv : withDo v (-3) = v' at *
  clear hI2 hg2 hs2 hm2 h hw hf C p0 p1 hvv
  go_enter Try.func22, Try.ntmps22
  go_wp2_with fail
  go_region_law (first | (go_simp; go_at_call 24; refine (CC.out _).mono ?_; rintro e w3 ⟨rfl, rfl⟩))
  all_goals
    go_wp2
    go_ret
    exact ⟨rfl, I2.out, G2.out.os, G2.out.tape, G2.out.output, G2.out.size, G2.out.block⟩
theorem mlate_any {w : World} {b m : Nat} {l : List (Int × Int)} (h : IsBook w b m l) {who : Int} (hw : (Lit.int .i64 who).wf = true) :
    Calls Try.prog 10 #[.pointer (some ⟨b, 0, none⟩), .int .i64 who] w fun e w' => e = .returned (.int .i64 (withDo (pts l who) (-3))) ∧ IsBook w' b m (changeDo l who (-3)) ∧ w.grownBy w' (some m) := by
  have C := Lib.hid (change_late h hw)
  generalize withDo (pts l who) (-3) = v at *
  clear h hw
  go_enter Try.func10, Try.ntmps10
  go_wp2_with fail
  refine C.out.mono ?_
  rintro e w' ⟨rfl, h1, h2⟩
  have H1 := Lib.hid h1
  have H2 := Lib.hid h2
  clear h1 h2
  go_wp2
  go_ret
  exact ⟨rfl, H1.out, H2.out⟩
theorem mlate_none (w : World) (who : Value) : Calls Try.prog 10 #[.pointer none, who] w fun e w' => e = .returned (.int .i64 0) ∧ w' = w := by
  go_enter Try.func10, Try.ntmps10
  go_wp2_with fail
  refine (change_none _ _ _).mono ?_
  rintro e w' ⟨rfl, rfl⟩
  go_wp2
  go_ret
  exact ⟨rfl, rfl⟩
theorem few_adel {l : List (Int × Int)} (who : Int) (h : ∀ p ∈ l, (-20 ≤ p.2 ∧ p.2 ≤ 20) ∧ (Lit.int .i64 p.1).wf = true) : ∀ p ∈ adel l who, (-20 ≤ p.2 ∧ p.2 ≤ 20) ∧ (Lit.int .i64 p.1).wf = true := by
  induction l with
  | nil => simp [adel]
  | cons q r ih =>
    obtain ⟨k, v⟩ := q
    intro p hp
    simp only [adel] at hp
    split at hp
    · exact h p (List.mem_cons_of_mem _ hp)
    · rcases List.mem_cons.1 hp with hp | hp
      · exact h p (by rw [hp]; exact List.mem_cons_self)
      · exact ih (fun p hp => h p (List.mem_cons_of_mem _ hp)) p hp
theorem forget_any {w : World} {b m : Nat} {l : List (Int × Int)} (h : IsBook w b m l) {who : Int} (hw : (Lit.int .i64 who).wf = true) :
    Calls Try.prog 15 #[.pointer (some ⟨b, 0, none⟩), .int .i64 who] w fun e w' => e = .returned (.tuple #[]) ∧ IsBook w' b m (adel l who) ∧ w.grownBy w' (some m) := by
  obtain ⟨e0, e1⟩ := blk1 h.box
  have hd := fun ty => h.map.drop keyed_int ikey_inj Try.underlying45 (ty := ty) (a := who) (ikey_ok hw)
  have hI : ∀ w2, PtMap w2 m (adel l who) → w.grownBy w2 (some m) → IsBook w2 b m (adel l who) := fun w2 hm2 hg2 => ⟨(hg2.block b h.ltb (by simpa using h.ne)).trans h.box, hm2, few_adel who h.few⟩
  have HI := Lib.hid hI
  clear hI h hw
  obtain ⟨w2, hrun, hm2, hg2, _⟩ := hd 0
  have M2 := Lib.hid hm2
  have G2 := Lib.hid hg2
  clear hd hm2 hg2
  go_enter Try.func15, Try.ntmps15
  go_wp2
  go_end0
  exact ⟨rfl, HI.out _ M2.out ⟨G2.out.os, G2.out.tape, G2.out.output, G2.out.size, G2.out.block⟩, G2.out.os, G2.out.tape, G2.out.output, G2.out.size, G2.out.block⟩
end Go.Proofs.Ytbbamnglnnanpaa
