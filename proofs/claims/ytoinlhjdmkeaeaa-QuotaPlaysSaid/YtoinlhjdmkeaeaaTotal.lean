/- 'Total': the sums of all accounts, or that one is too great. -/
import Derived.Test.YtoinlhjdmkeaeaaMeth
import Derived.Test.YtoinlhjdmkeaeaaRange
namespace Go.Proofs.Ytoinlhjdmkeaeaa
open Go.RowKit

def addS (x n : Int) : Int := (x + n) % 18446744073709551616
def addC (x n : Int) : Int := (x + n) / 18446744073709551616
def orB (o c : Int) : Int := bits BinOp.or IntKind.u64 o c

theorem call_add64 (x n : Int) (hx : 0 ≤ x) (hn : 0 ≤ n) (w : World) :
    (callFunc 26 #[.int .u64 x, .int .u64 n, .int .u64 0]).run Try.prog w = .ok (.value (.tuple #[.int .u64 (addS x n), .int .u64 (addC x n)])) w := by
  rw [run_callFunc_extern Try.func26 (by kernel_rfl) (by kernel_rfl) (by kernel_rfl) (e := add64Entry) (by kernel_rfl), run_add64 x n 0 hx hn (by omega) (by omega)]
  simp [addS, addC, Result.andThen]

set_option maxHeartbeats 400000 in
theorem add_any {w : World} {to ov : Addr} {x n o : Int} (h1 : w.cell? to = some (.int .u64 x)) (h2 : w.cell? ov = some (.int .u64 o)) (h3 : w.frozen? to = false) (h4 : w.frozen? ov = false) (hne : to ≠ ov) (hx : 0 ≤ x) (hn : 0 ≤ n) :
    Calls Try.prog 25 #[.pointer (some to), .int .u64 n, .pointer (some ov)] w fun e w' => e = .returned (.tuple #[]) ∧ (w.setCell to (.int .u64 (addS x n))).setCell ov (.int .u64 (orB o (addC x n))) = w' := by
  have hcall := fun W => call_add64 x n hx hn W
  have hf : (w.setCell to (.int .u64 (addS x n))).frozen? ov = false := by rw [← h4]; exact World.frozen?_setCell _ _ _ _
  clear hx hn
  go_enter Try.func25, Try.ntmps25
  go_wp2
  go_end0
  exact ⟨rfl, rfl⟩

def tot (f : Acc → Int) : List (Int × Acc) → Int
  | [] => 0
  | p :: l => f p.2 + tot f l
structure Acc.ok (a : Acc) : Prop where
  g0 : 0 ≤ a.g
  g1 : a.g ≤ 18446744073709551615
  r0 : 0 ≤ a.r
  r1 : a.r ≤ 18446744073709551615
  u0 : 0 ≤ a.u
  u1 : a.u ≤ 18446744073709551615
theorem tot_erase (f : Acc → Int) : ∀ (l : List (Int × Acc)) (j : Nat) (p : Int × Acc), l[j]? = some p → tot f l = f p.2 + tot f (l.eraseIdx j)
  | [], _, _, h => by simp at h
  | q :: l, 0, p, h => by simp at h; subst h; simp [tot]
  | q :: l, j + 1, p, h => by
    simp at h
    simp only [List.eraseIdx_cons_succ, tot, tot_erase f l j p h]; omega
theorem tot_le (f : Acc → Int) (hf : ∀ a : Acc, a.ok → 0 ≤ f a) : ∀ (l : List (Int × Acc)), (∀ p ∈ l, p.2.ok) → 0 ≤ tot f l
  | [], _ => by simp [tot]
  | q :: l, h => by
    have h1 := tot_le f hf l (fun p hp => h p (by simp [hp]))
    have h2 := hf _ (h q (by simp))
    simp only [tot]; omega
/-- What has been added: the sums so far, and whether one was too great. -/
structure Sums (l left : List (Int × Acc)) (G R U o : Int) : Prop where
  g : G = (tot Acc.g l - tot Acc.g left) % 18446744073709551616
  r : R = (tot Acc.r l - tot Acc.r left) % 18446744073709551616
  u : U = (tot Acc.u l - tot Acc.u left) % 18446744073709551616
  o : o = if tot Acc.g l - tot Acc.g left < 18446744073709551616 ∧ tot Acc.r l - tot Acc.r left < 18446744073709551616 ∧ tot Acc.u l - tot Acc.u left < 18446744073709551616 then 0 else 1
  pg : tot Acc.g left ≤ tot Acc.g l
  pr : tot Acc.r left ≤ tot Acc.r l
  pu : tot Acc.u left ≤ tot Acc.u l
theorem Sums.start (l : List (Int × Acc)) : Sums l l 0 0 0 0 := by constructor <;> simp
theorem orB_01 {o c : Int} (ho : o = 0 ∨ o = 1) (hc : c = 0 ∨ c = 1) : orB o c = if o = 0 ∧ c = 0 then 0 else 1 := by
  rcases ho with rfl | rfl <;> rcases hc with rfl | rfl <;> rfl
theorem if_iff {A B : Prop} [Decidable A] [Decidable B] {x y : Int} (h : A ↔ B) : (if A then x else y) = (if B then x else y) := by
  by_cases a : A
  · rw [if_pos a, if_pos (h.1 a)]
  · rw [if_neg a, if_neg (fun b => a (h.2 b))]
theorem one_sum {S n x : Int} (hS : 0 ≤ S) (hn : 0 ≤ n) (hn' : n ≤ 18446744073709551615) (hx : x = S % 18446744073709551616) :
    addS x n = (S + n) % 18446744073709551616 ∧ (addC x n = 0 ∨ addC x n = 1) ∧ ((S < 18446744073709551616 ∧ addC x n = 0) ↔ S + n < 18446744073709551616) := by
  subst hx; unfold addS addC; omega
theorem Sums.step {l left : List (Int × Acc)} {G R U o : Int} (h : Sums l left G R U o) {j : Nat} {p : Int × Acc} (hj : left[j]? = some p) (ok : p.2.ok) :
    Sums l (left.eraseIdx j) (addS G p.2.g) (addS R p.2.r) (addS U p.2.u) (orB (orB (orB o (addC G p.2.g)) (addC R p.2.r)) (addC U p.2.u)) := by
  have eg := tot_erase Acc.g left j p hj
  have er := tot_erase Acc.r left j p hj
  have eu := tot_erase Acc.u left j p hj
  obtain ⟨hg, hr, hu, ho, pg, pr, pu⟩ := h
  obtain ⟨g1, g2, g3⟩ := one_sum (show 0 ≤ tot Acc.g l - tot Acc.g left by omega) ok.g0 ok.g1 hg
  obtain ⟨r1, r2, r3⟩ := one_sum (show 0 ≤ tot Acc.r l - tot Acc.r left by omega) ok.r0 ok.r1 hr
  obtain ⟨u1, u2, u3⟩ := one_sum (show 0 ≤ tot Acc.u l - tot Acc.u left by omega) ok.u0 ok.u1 hu
  have og := ok.g0; have or_ := ok.r0; have ou := ok.u0
  have ho01 : o = 0 ∨ o = 1 := by rw [ho]; split <;> simp
  have e1 := orB_01 ho01 g2
  have h1 : orB o (addC G p.2.g) = 0 ∨ orB o (addC G p.2.g) = 1 := by rw [e1]; split <;> simp
  have e2 := orB_01 h1 r2
  have h2 : orB (orB o (addC G p.2.g)) (addC R p.2.r) = 0 ∨ orB (orB o (addC G p.2.g)) (addC R p.2.r) = 1 := by rw [e2]; split <;> simp
  have e3 := orB_01 h2 u2
  refine ⟨by rw [g1]; congr 1; omega, by rw [r1]; congr 1; omega, by rw [u1]; congr 1; omega, ?_, by omega, by omega, by omega⟩
  rw [e3, show tot Acc.g l - tot Acc.g (left.eraseIdx j) = tot Acc.g l - tot Acc.g left + p.2.g by omega, show tot Acc.r l - tot Acc.r (left.eraseIdx j) = tot Acc.r l - tot Acc.r left + p.2.r by omega,
    show tot Acc.u l - tot Acc.u (left.eraseIdx j) = tot Acc.u l - tot Acc.u left + p.2.u by omega]
  have ho' : o = 0 ↔ tot Acc.g l - tot Acc.g left < 18446744073709551616 ∧ tot Acc.r l - tot Acc.r left < 18446744073709551616 ∧ tot Acc.u l - tot Acc.u left < 18446744073709551616 := by
    rw [ho]; split <;> simp_all
  have e1' : orB o (addC G p.2.g) = 0 ↔ o = 0 ∧ addC G p.2.g = 0 := by rw [e1]; split <;> simp_all
  have e2' : orB (orB o (addC G p.2.g)) (addC R p.2.r) = 0 ↔ (o = 0 ∧ addC G p.2.g = 0) ∧ addC R p.2.r = 0 := by rw [e2, ← e1']; split <;> simp_all
  refine if_iff ?_
  rw [e2', ho', ← g3, ← r3, ← u3]
  constructor
  · rintro ⟨⟨⟨⟨a, b, c⟩, d⟩, e⟩, f⟩; exact ⟨⟨a, d⟩, ⟨b, e⟩, ⟨c, f⟩⟩
  · rintro ⟨⟨a, d⟩, ⟨b, e⟩, ⟨c, f⟩⟩; exact ⟨⟨⟨⟨a, b, c⟩, d⟩, e⟩, f⟩

def totalDo (l : List (Int × Acc)) : Acc × Int :=
  if tot Acc.g l < 18446744073709551616 ∧ tot Acc.r l < 18446744073709551616 ∧ tot Acc.u l < 18446744073709551616 then (⟨tot Acc.g l, tot Acc.r l, tot Acc.u l⟩, 0) else (⟨0, 0, 0⟩, 38)
theorem Sums.done {l : List (Int × Acc)} {G R U o : Int} (h : Sums l [] G R U o) (hl : ∀ p ∈ l, p.2.ok) : (o = 0 ∧ totalDo l = (⟨G, R, U⟩, 0)) ∨ (o = 1 ∧ totalDo l = (⟨0, 0, 0⟩, 38)) := by
  obtain ⟨hg, hr, hu, ho, pg, pr, pu⟩ := h
  simp only [tot, Int.sub_zero] at *
  have zg := tot_le Acc.g (fun a h => h.g0) l hl
  have zr := tot_le Acc.r (fun a h => h.r0) l hl
  have zu := tot_le Acc.u (fun a h => h.u0) l hl
  unfold totalDo
  by_cases hc : tot Acc.g l < 18446744073709551616 ∧ tot Acc.r l < 18446744073709551616 ∧ tot Acc.u l < 18446744073709551616
  · left
    rw [if_pos hc] at ho ⊢
    obtain ⟨c1, c2, c3⟩ := hc
    refine ⟨ho, ?_⟩
    rw [hg, hr, hu, Int.emod_eq_of_lt zg c1, Int.emod_eq_of_lt zr c2, Int.emod_eq_of_lt zu c3]
  · right
    rw [if_neg hc] at ho ⊢
    exact ⟨ho, rfl⟩
end Go.Proofs.Ytoinlhjdmkeaeaa
