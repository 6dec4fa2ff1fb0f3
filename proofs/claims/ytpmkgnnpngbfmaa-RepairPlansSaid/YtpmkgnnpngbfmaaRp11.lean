/- How the stable sort compares two packs; the order that it makes. -/
import Derived.Test.YtpmkgnnpngbfmaaRp9
namespace Go.Proofs.Ytpmkgnnpngbfmaa
open Go.RowKit Go.Lib
open Extern.Stop (cell)

theorem lies_range {w : World} {b i : Nat} {l : List Value} (h : Lies w b i l.toArray) : w.rangeAt b i l := fun j v hj => h j v (by simpa using hj)
theorem sizeq (p : Pk) : (Try.prog.info? 46).map (·.size) = some (pcells p).length := by rw [size_pk, pcells_len]
abbrev keyOfPk (p : Pk) : Int := ((hset p.hs).length : Int)
set_option linter.unusedSimpArgs false in
set_option maxRecDepth 100000 in
set_option maxHeartbeats 2000000 in
theorem cmp_any {w : World} {p q : Pk} (hp : PkOk w p) (hq : PkOk w q) :
    Calls Try.prog 19 #[.agg (pcells p).toArray, .agg (pcells q).toArray] w fun e w' => e = .returned (.int .i64 (Lib.compareInt (keyOfPk p) (keyOfPk q))) ∧ Below w.heap.size w w' := by
  have PP := Lib.hid hp
  have QQ := Lib.hid hq
  clear hp hq
  go_enter Try.func19, Try.ntmps19
  go_wp2_with fail
  obtain ⟨T, hT⟩ : ∃ T, T = w.heap.size := ⟨_, rfl⟩
  rw [← hT]
  refine wp_named fun W hW => ?_
  have e1 : W.heap[T]? = some (.cells (pcells p).toArray 46 (0, 0)) := by rw [hW, hT]; exact heap_up (heap_at _ _)
  have e2 : W.heap[T + 1]? = some (.cells (pcells q).toArray 46 (0, 0)) := by
    rw [hW, hT]
    have := heap_at (w.alloc (.cells (pcells p).toArray 46)) (.cells (pcells q).toArray 46)
    simpa using this
  have b0 : Below w.heap.size w W := by rw [hW]; exact below_alloc (below_alloc (Below.refl _ _) _) _
  have R1 := Lib.hid (lies_range (lies_block e1))
  have R2 := Lib.hid (lies_range (lies_block e2))
  have B0 := Lib.hid b0
  clear hW e1 e2 b0 hT
  refine wp_region_held_drew (S := fun w' => Below W.heap.size W w') (by kernel_rfl) (below_drew (Below.refl _ _)) (fun hHeld => ?_)
  refine' wpAnyH_take (i := 0) (v := _) rfl (by kernel_rfl) (by kernel_rfl) (by kernel_rfl) (fun _ _ _ h => h) (yieldsIf_load_mid (by rfl) _ _ rfl _ _ rfl (pcells p) _ ?hS Try.underlying46 rfl (sizeq p)) (by assumption) ?rest
  case hS => exact fun w' hw => rangeAt_below R1.out hw
  case rest =>
  try simp only [Act.put, List.setIfInBounds_toArray, List.set_cons_zero, List.set_cons_succ]
  refine' wpAnyH_take (i := 3) (v := _) rfl (by kernel_rfl) (by kernel_rfl) (by kernel_rfl) (fun _ _ _ h => h) (yieldsIf_load_mid (by rfl) _ _ rfl _ _ rfl (pcells q) _ ?hS2 Try.underlying46 rfl (sizeq q)) (by assumption) ?rest2
  case hS2 => exact fun w' hw => rangeAt_below R2.out hw
  case rest2 =>
  try simp only [Act.put, List.setIfInBounds_toArray, List.set_cons_zero, List.set_cons_succ]
  refine wpAnyH_ready (rs := [1]) (by kernel_rfl) (by simp) (AllReadyH.cons rfl (fun K hK => ?_) AllReadyH.nil)
  go_simp
  refine (holders_any ((PP.out.later B0.out).later hHeld)).mono ?_
  rintro e w2 ⟨m1, rfl, _, s1, b1⟩
  have l1 := MapIs.len s1 Try.underlying65 3
  refine hK.out _ _ (hHeld.trans (b1.mono hHeld.size)) (fun hH => ?_)
  clear hHeld hK b1 s1
  try simp only [Act.put, List.setIfInBounds_toArray, List.set_cons_zero, List.set_cons_succ]
  refine wpAnyH_ready (rs := [2]) (by kernel_rfl) (by simp) (AllReadyH.cons rfl (fun K hK => ?_) AllReadyH.nil)
  go_simp
  refine hK.out _ _ hH (fun _ => ?_)
  clear hK l1
  try simp only [Act.put, List.setIfInBounds_toArray, List.set_cons_zero, List.set_cons_succ]
  refine wpAnyH_ready (rs := [4]) (by kernel_rfl) (by simp) (AllReadyH.cons rfl (fun K hK => ?_) AllReadyH.nil)
  go_simp
  refine (holders_any ((QQ.out.later B0.out).later hH)).mono ?_
  rintro e w3 ⟨m2, rfl, _, s2, b2⟩
  have l2 := MapIs.len s2 Try.underlying65 3
  refine hK.out _ _ (hH.trans (b2.mono hH.size)) (fun hH2 => ?_)
  clear hH hK b2 s2
  try simp only [Act.put, List.setIfInBounds_toArray, List.set_cons_zero, List.set_cons_succ]
  refine wpAnyH_ready (rs := [5]) (by kernel_rfl) (by simp) (AllReadyH.cons rfl (fun K hK => ?_) AllReadyH.nil)
  go_simp
  refine hK.out _ _ hH2 (fun _ => ?_)
  clear hK l2
  try simp only [Act.put, List.setIfInBounds_toArray, List.set_cons_zero, List.set_cons_succ]
  refine wpAnyH_ready (rs := [6]) (by kernel_rfl) (by simp) (AllReadyH.cons rfl (fun K hK => ?_) AllReadyH.nil)
  go_simp
  refine (Try.cmp_Compare_int _ _ w3).mono ?_
  rintro e w4 ⟨rfl, rfl⟩
  refine hK.out _ _ hH2 (fun _ => ?_)
  clear hK
  try simp only [Act.put, List.setIfInBounds_toArray, List.set_cons_zero, List.set_cons_succ]
  refine wpAnyH_ready (rs := [7]) (by kernel_rfl) (by simp) (AllReadyH.cons rfl (fun K hK => ?_) AllReadyH.nil)
  go_simp
  refine hK.out _ _ hH2 (fun _ => ?_)
  clear hK
  try simp only [Act.put, List.setIfInBounds_toArray, List.set_cons_zero, List.set_cons_succ]
  refine wpAnyH_done (by kernel_rfl) ?_ _
  go_wp2
  go_ret
  exact ⟨rfl, B0.out.trans (hH2.mono B0.out.size)⟩

/-! ### The order -/
section
variable {α : Type} (key : α → Int)
def insR (x : α) (s : List α) : List α := s.filter (fun y => decide (key y ≤ key x)) ++ x :: s.filter (fun y => decide (key x < key y))
def isort (l : List α) : List α := l.foldl (fun s x => insR key x s) []
theorem isort_snoc (l : List α) (x : α) : isort key (l ++ [x]) = insR key x (isort key l) := by simp [isort]
theorem insR_len (x : α) (s : List α) : (insR key x s).length = s.length + 1 := by
  unfold insR
  have h : ∀ s : List α, (s.filter fun y => decide (key y ≤ key x)).length + (s.filter fun y => decide (key x < key y)).length = s.length := by
    intro s
    induction s with
    | nil => rfl
    | cons y r ih =>
      by_cases e : key y ≤ key x
      · have e' : ¬ key x < key y := by omega
        simp [e, e'] at ih ⊢; omega
      · have e' : key x < key y := by omega
        simp [e, e'] at ih ⊢; omega
  have := h s
  simp only [List.length_append, List.length_cons]
  omega
theorem insR_perm (x : α) (s : List α) : (insR key x s).Perm (x :: s) := by
  unfold insR
  refine List.perm_middle.trans (List.Perm.cons x ?_)
  have h := List.filter_append_perm (fun y => decide (key y ≤ key x)) s
  have e : (s.filter fun y => !decide (key y ≤ key x)) = s.filter fun y => decide (key x < key y) := by
    apply List.filter_congr
    intro y _
    by_cases e : key y ≤ key x
    · simp [e]
    · have e' : key x < key y := by omega
      simp [e, e']
  rw [e] at h
  exact h
theorem isort_perm (l : List α) : (isort key l).Perm l := by
  have : ∀ n, ∀ l : List α, l.length = n → (isort key l).Perm l := by
    intro n
    induction n with
    | zero => intro l h; rw [List.eq_nil_of_length_eq_zero h]; exact List.Perm.refl _
    | succ n ih =>
      intro l h
      have hne : l ≠ [] := by rintro rfl; simp at h
      obtain ⟨r, x, rfl⟩ : ∃ r x, l = r ++ [x] := ⟨l.dropLast, l.getLast hne, (List.dropLast_concat_getLast hne).symm⟩
      rw [isort_snoc]
      have hr := ih r (by simpa using h)
      refine (insR_perm key x _).trans ?_
      exact ((List.Perm.cons x hr).trans (List.perm_append_singleton x r).symm)
  exact this _ l rfl
def Rising (s : List α) : Prop := s.Pairwise fun a b => key a ≤ key b
theorem insR_rising {x : α} {s : List α} (h : Rising key s) : Rising key (insR key x s) := by
  unfold Rising insR at *
  rw [List.pairwise_append]
  refine ⟨h.filter _, ?_, ?_⟩
  · rw [List.pairwise_cons]
    refine ⟨fun a ha => ?_, h.filter _⟩
    have := (List.mem_filter.1 ha).2
    simp at this
    omega
  · intro a ha b hb
    have h1 := (List.mem_filter.1 ha).2
    simp at h1
    rcases List.mem_cons.1 hb with rfl | hb
    · exact h1
    · have h2 := (List.mem_filter.1 hb).2
      simp at h2
      omega
theorem isort_rising (l : List α) : Rising key (isort key l) := by
  have : ∀ (l s : List α), Rising key s → Rising key (l.foldl (fun s x => insR key x s) s) := by
    intro l
    induction l with
    | nil => intro s h; exact h
    | cons x r ih => intro s h; exact ih _ (insR_rising key h)
  exact this l [] List.Pairwise.nil
/-- Where the new one stands. -/
theorem insR_at {s : List α} (h : Rising key s) {x : α} {j : Nat} (h1 : ∀ y ∈ s.drop j, key x < key y) (h2 : j = 0 ∨ ∃ y, s[j - 1]? = some y ∧ key y ≤ key x) : insR key x s = s.take j ++ x :: s.drop j := by
  have h3 : ∀ y ∈ s.take j, key y ≤ key x := by
    intro y hy
    rcases h2 with rfl | ⟨z, hz, hzx⟩
    · simp at hy
    · obtain ⟨i, hi, e⟩ := List.mem_iff_getElem.1 hy
      have hi' : i < j ∧ i < s.length := by rw [List.length_take] at hi; omega
      rw [List.getElem_take] at e
      obtain ⟨hj, e2⟩ := List.getElem?_eq_some_iff.1 hz
      by_cases hij : i = j - 1
      · subst hij; rw [← e, e2]; exact hzx
      · have := (List.pairwise_iff_getElem.1 h) i (j - 1) hi'.2 hj (by omega)
        rw [e, e2] at this
        omega
  unfold insR
  have e : s = s.take j ++ s.drop j := (List.take_append_drop j s).symm
  have f1 : s.filter (fun y => decide (key y ≤ key x)) = s.take j := by
    conv => lhs; rw [e]
    rw [List.filter_append, List.filter_eq_self.2 (fun y hy => by simpa using h3 y hy), List.filter_eq_nil_iff.2 (fun y hy => by have := h1 y hy; simp; omega), List.append_nil]
  have f2 : s.filter (fun y => decide (key x < key y)) = s.drop j := by
    conv => lhs; rw [e]
    rw [List.filter_append, List.filter_eq_nil_iff.2 (fun y hy => by have := h3 y hy; simp; omega), List.filter_eq_self.2 (fun y hy => by simpa using h1 y hy), List.nil_append]
  rw [f1, f2]
end
end Go.Proofs.Ytpmkgnnpngbfmaa
