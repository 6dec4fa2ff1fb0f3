/- The stable sort of few packs; Plan. -/
import Derived.Test.YtpmkgnnpngbfmaaRp12
namespace Go.Proofs.Ytpmkgnnpngbfmaa
open Go.RowKit

theorem stable_by {a : Option Addr} {n c : Nat} (hn : n ≤ 19) (fv : Value) {w : World} {R : World → Prop}
    (hins : Calls Try.prog 42 #[.slice a n c, .int .i64 0, .int .i64 n, fv] w fun e w' => e = .returned (.tuple #[]) ∧ R w') :
    Calls Try.prog 34 #[.slice a n c, .int .i64 n, fv] w fun e w' => e = .returned (.tuple #[]) ∧ R w' := by
  have h0 : (0 : Int) ≤ (n : Int) := Int.natCast_nonneg _
  have h1 : ¬ (20 : Int) ≤ (n : Int) := by omega
  have h2 : ¬ (20 : Int) < (n : Int) := by omega
  have IS := Lib.hid hins
  clear hins
  go_enter Try.func34, Try.ntmps34
  go_wp2_with fail
  go_loopg [7, 8] 1 (fun _ s7 s8 wr => s7 = .int .i64 (0 : Int) ∧ s8 = .int .i64 (20 : Int) ∧ wr = w)
  case atStart => exact ⟨rfl, rfl, rfl⟩
  case round =>
    obtain ⟨rfl, rfl, rfl⟩ := hrel
    go_wp2_with fail
    refine IS.out.mono ?_
    rintro e w' ⟨rfl, hr⟩
    have HR := Lib.hid hr
    clear hr
    go_wp2_with fail
    go_loopg [6, 7, 8, 9] 1 (fun _ s6 _ _ _ wr => s6 = .int .i64 (20 : Int) ∧ wr = w')
    case atStart => exact ⟨rfl, rfl⟩
    case round =>
      obtain ⟨rfl, rfl⟩ := hrel
      go_wp2
      first | go_end0 | refine bodyPost_ret (results_none rfl _ _ _) rfl ?_
      exact ⟨rfl, HR.out⟩
theorem sort_by {a : Option Addr} {n c : Nat} (hn : n ≤ 19) (fv : Value) {w : World} {R : World → Prop}
    (hins : Calls Try.prog 42 #[.slice a n c, .int .i64 0, .int .i64 n, fv] w fun e w' => e = .returned (.tuple #[]) ∧ R w') :
    Calls Try.prog 18 #[.slice a n c, fv] w fun e w' => e = .returned (.tuple #[]) ∧ R w' := by
  have SS := Lib.hid (stable_by hn fv hins)
  clear hins
  go_enter Try.func18, Try.ntmps18
  go_wp2_with fail
  refine SS.out.mono ?_
  rintro e w' ⟨rfl, hr⟩
  have HR := Lib.hid hr
  clear hr
  go_wp2
  first | go_end0 | refine bodyPost_ret (results_none rfl _ _ _) rfl ?_
  exact ⟨rfl, HR.out⟩
theorem isort_short {α : Type} (key : α → Int) {l : List α} (h : l.length ≤ 1) : isort key l = l := by
  match l, h with
  | [], _ => rfl
  | [x], _ => simp [isort, insR]
theorem sort_few {w0 w : World} {B : Nat} {v : Value} {l : List Pk} (hb : Below w0.heap.size w0 w) (hB : w0.heap.size ≤ B) (hok : ∀ p ∈ l, PkOk w0 p) (hl : l.length ≤ 19) (hrow : PkRow B w v l) :
    Calls Try.prog 18 #[v, .func (.func 19) #[] #[]] w fun e w' => e = .returned (.tuple #[]) ∧ PkRow B w' v (isort keyOfPk l) ∧ w.grownBy w' v.ownBlock := by
  obtain ⟨x, c, rfl⟩ := own_slice hrow
  by_cases h : l.length ≤ 1
  · refine (sort_short h _ w).mono ?_
    rintro e w' ⟨rfl, rfl⟩
    exact ⟨rfl, by rw [isort_short _ h]; exact hrow, grown_refl _ _⟩
  · obtain ⟨p, hp⟩ : ∃ p, l[0]? = some p := ⟨l[0]'(by omega), List.getElem?_eq_getElem _⟩
    obtain ⟨g, rfl, _, _, _⟩ := own_elem pcells_len (by decide) hrow hp
    exact sort_by hl _ (insert_any hb hB hok rfl (by omega) (by omega) hrow)
theorem plan_any {w : World} {ad adf : Option Addr} {c cf : Nat} {l : List Pk} {f : List (Int × Int)} {k : Int} (hrow : RowAt w ad (l.flatMap pcells)) (hfew : l.length ≤ 19) (hnil : ad = none → c = 0) (hok : ∀ p ∈ l, PkOk w p) (hsz : ∀ p ∈ l, 0 ≤ p.size ∧ p.size ≤ 18446744073709551615)
    (hrf : RowAt w adf (f.flatMap fcells)) (hff : f.length ≤ 1000) (hfo : LeftOk f) (k0 : -1000 ≤ k) (k1 : k ≤ 1000) :
    Calls Try.prog 10 #[.slice ad l.length c, .int .i64 k, .slice adf f.length cf] w fun e w' => ∃ v, e = .returned v ∧ w'.ownsRow w.heap.size 39 33 v (planOf k (frees f) (isort keyOfPk l)).2.length ((planOf k (frees f) (isort keyOfPk l)).2.flatMap mcells) ∧ Below w.heap.size w w' :=
  plan_over hrow (by omega) hnil hok hsz hrf hff hfo k0 k1 (isort_perm keyOfPk l) (fun W v B hb hB ho => sort_few hb hB hok hfew ho)
/-- What may be, of what Plan tells. -/
theorem planOf_ok {k : Int} {left : List (Int × Int)} {l : List Pk} (hok : ∀ p ∈ l, p.id.length = 32) (hl : LeftOk left) (hz : ∀ p ∈ l, 0 ≤ p.size) : LeftOk (planOf k left l).1 ∧ ∀ x ∈ (planOf k left l).2, MvOk x := by
  have G : ∀ (p : Pk), p.id.length = 32 → 0 ≤ p.size → ∀ n (s : Pl), LeftOk s.left → (∀ x ∈ s.out, MvOk x) → LeftOk (give p n s).left ∧ ∀ x ∈ (give p n s).out, MvOk x := by
    intro p hp hz n
    induction n with
    | zero => intro s h1 h2; exact ⟨h1, h2⟩
    | succ n ih =>
      intro s h1 h2
      unfold give
      cases hg : giveOne p s with
      | none => exact ⟨h1, h2⟩
      | some s' =>
        unfold giveOne at hg
        rcases bestOf_spec (roomOf s.left) (fitsOf s.left (hset (p.hs ++ s.gs)) p.size) with ⟨_, e⟩ | ⟨who, e, hb⟩
        · rw [e] at hg; cases hg
        · rw [e] at hg
          cases hg
          have hm := hb.1
          unfold fitsOf at hm
          rw [List.mem_filter] at hm
          obtain ⟨q, hq, rfl⟩ := List.mem_map.1 hm.1
          have hf := hm.2
          have hw := (h1 q hq).1
          have hr := h1.room q.1
          unfold nofit at hf
          simp only [Bool.not_eq_true', Bool.or_eq_false_iff, decide_eq_false_iff_not] at hf
          exact ih _ (h1.put hw (by omega) (by omega)) (fun x hx => by
            rcases List.mem_append.1 hx with hx | hx
            · exact h2 x hx
            · have : x = ⟨p.id, q.1⟩ := by simpa using hx
              rw [this]
              exact ⟨hp, hw⟩)
  have : ∀ (l : List Pk), (∀ p ∈ l, p.id.length = 32) → (∀ p ∈ l, 0 ≤ p.size) → ∀ s : List (Int × Int) × List Mv, LeftOk s.1 → (∀ x ∈ s.2, MvOk x) → LeftOk (l.foldl (planOne k) s).1 ∧ ∀ x ∈ (l.foldl (planOne k) s).2, MvOk x := by
    intro l
    induction l with
    | nil => intro _ _ s h1 h2; exact ⟨h1, h2⟩
    | cons p r ih =>
      intro ho hz s h1 h2
      have g := G p (ho p (by simp)) (hz p (by simp)) (k - ((hset p.hs).length : Int)).toNat ⟨s.1, [], s.2⟩ h1 h2
      exact ih (fun q hq => ho q (by simp [hq])) (fun q hq => hz q (by simp [hq])) _ g.1 g.2
  exact this l hok hz (left, []) hl (by simp)
end Go.Proofs.Ytpmkgnnpngbfmaa
