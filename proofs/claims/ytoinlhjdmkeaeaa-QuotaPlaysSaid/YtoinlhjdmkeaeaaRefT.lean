/- The document's sums, walked. -/
import Derived.Test.YtoinlhjdmkeaeaaRef
import Derived.Deep.LoopGhost
import Derived.Laws.Rows
namespace Go.Proofs.Ytoinlhjdmkeaeaa
open Go.RowKit

def addW (a b : Int) : Int := IntKind.u64.wrap (a + b)
def fits (a b : Int) : Bool := decide (a ≤ IntKind.u64.wrap (18446744073709551615 - b))
theorem sum_any (a b : Int) (w : World) : Calls Try.prog 29 #[.int .u64 a, .int .u64 b] w fun e w' => e = .returned (.tuple #[.int .u64 (addW a b), .bool (fits a b)]) ∧ w' = w := by
  unfold addW fits
  go_enter Try.func29, Try.ntmps29
  go_wp2
  go_ret2
  exact ⟨rfl, rfl⟩

/-- The 64 accounts in their cells. -/
structure ArrIs (cs : Array Value) (R : Nat → RefA) : Prop where
  size : cs.size = 256
  is : ∀ i, i < 64 → cs[i * 4]? = some (.bool (R i).is)
  g : ∀ i, i < 64 → cs[i * 4 + 1]? = some (.int .u64 (R i).g)
  r : ∀ i, i < 64 → cs[i * 4 + 2]? = some (.int .u64 (R i).r)
  u : ∀ i, i < 64 → cs[i * 4 + 3]? = some (.int .u64 (R i).u)

structure RefA.ok (a : RefA) : Prop where
  g0 : 0 ≤ a.g
  g1 : a.g ≤ 18446744073709551615
  r0 : 0 ≤ a.r
  r1 : a.r ≤ 18446744073709551615
  u0 : 0 ≤ a.u
  u1 : a.u ≤ 18446744073709551615
def pre (f : RefA → Int) (R : Nat → RefA) : Nat → Int
  | 0 => 0
  | j + 1 => pre f R j + f (R j)
theorem pre_le (f : RefA → Int) (R : Nat → RefA) (h : ∀ i, 0 ≤ f (R i)) : ∀ j, 0 ≤ pre f R j
  | 0 => by simp [pre]
  | j + 1 => by have := pre_le f R h j; have := h j; simp only [pre]; omega
structure RSums (R : Nat → RefA) (j : Nat) (G Q U : Int) (o : Bool) : Prop where
  g : G = pre RefA.g R j % 18446744073709551616
  r : Q = pre RefA.r R j % 18446744073709551616
  u : U = pre RefA.u R j % 18446744073709551616
  o : o = true ↔ pre RefA.g R j < 18446744073709551616 ∧ pre RefA.r R j < 18446744073709551616 ∧ pre RefA.u R j < 18446744073709551616
theorem RSums.start (R : Nat → RefA) : RSums R 0 0 0 0 true := by constructor <;> simp [pre]
theorem one_fit {S n x : Int} (hS : 0 ≤ S) (hn : 0 ≤ n) (hn' : n ≤ 18446744073709551615) (hx : x = S % 18446744073709551616) :
    addW x n = (S + n) % 18446744073709551616 ∧ ((S < 18446744073709551616 ∧ fits x n = true) ↔ S + n < 18446744073709551616) := by
  subst hx
  have hw : IntKind.u64.wrap (18446744073709551615 - n) = 18446744073709551615 - n := by
    simp [IntKind.wrap, IntKind.signed, IntKind.bits]; omega
  constructor
  · simp [addW, IntKind.wrap, IntKind.signed, IntKind.bits]
  · simp only [fits, hw, decide_eq_true_eq]; omega
theorem RSums.step {R : Nat → RefA} {j : Nat} {G Q U : Int} {o : Bool} (h : RSums R j G Q U o) (ok : ∀ i, (R i).ok) :
    RSums R (j + 1) (addW G (R j).g) (addW Q (R j).r) (addW U (R j).u) (o && fits G (R j).g && fits Q (R j).r && fits U (R j).u) := by
  have zg := pre_le RefA.g R (fun i => (ok i).g0) j
  have zr := pre_le RefA.r R (fun i => (ok i).r0) j
  have zu := pre_le RefA.u R (fun i => (ok i).u0) j
  obtain ⟨hg, hr, hu, ho⟩ := h
  obtain ⟨g1, g2⟩ := one_fit zg (ok j).g0 (ok j).g1 hg
  obtain ⟨r1, r2⟩ := one_fit zr (ok j).r0 (ok j).r1 hr
  obtain ⟨u1, u2⟩ := one_fit zu (ok j).u0 (ok j).u1 hu
  refine ⟨g1, r1, u1, ?_⟩
  simp only [pre, Bool.and_eq_true, ho, ← g2, ← r2, ← u2]
  constructor
  · rintro ⟨⟨⟨⟨a, b, c⟩, d⟩, e⟩, f⟩; exact ⟨⟨a, d⟩, ⟨b, e⟩, ⟨c, f⟩⟩
  · rintro ⟨⟨a, d⟩, ⟨b, e⟩, ⟨c, f⟩⟩; exact ⟨⟨⟨⟨a, b, c⟩, d⟩, e⟩, f⟩
def totR (R : Nat → RefA) : RefA × Int :=
  if pre RefA.g R 64 < 18446744073709551616 ∧ pre RefA.r R 64 < 18446744073709551616 ∧ pre RefA.u R 64 < 18446744073709551616 then (⟨false, pre RefA.g R 64, pre RefA.r R 64, pre RefA.u R 64⟩, 0) else (⟨false, 0, 0, 0⟩, 38)
theorem RSums.done {R : Nat → RefA} {G Q U : Int} {o : Bool} (h : RSums R 64 G Q U o) (ok : ∀ i, (R i).ok) : (o = true ∧ totR R = (⟨false, G, Q, U⟩, 0)) ∨ (o = false ∧ totR R = (⟨false, 0, 0, 0⟩, 38)) := by
  have zg := pre_le RefA.g R (fun i => (ok i).g0) 64
  have zr := pre_le RefA.r R (fun i => (ok i).r0) 64
  have zu := pre_le RefA.u R (fun i => (ok i).u0) 64
  obtain ⟨hg, hr, hu, ho⟩ := h
  unfold totR
  by_cases hc : pre RefA.g R 64 < 18446744073709551616 ∧ pre RefA.r R 64 < 18446744073709551616 ∧ pre RefA.u R 64 < 18446744073709551616
  · left
    refine ⟨ho.2 hc, ?_⟩
    rw [if_pos hc, hg, hr, hu, Int.emod_eq_of_lt zg hc.1, Int.emod_eq_of_lt zr hc.2.1, Int.emod_eq_of_lt zu hc.2.2]
  · right
    refine ⟨?_, by rw [if_neg hc]⟩
    cases o
    · rfl
    · exact absurd (ho.1 rfl) hc

/-- What holds at the head of the loop. -/
structure RTIs (w : World) (cs : Array Value) (R : Nat → RefA) (bx br bo : Nat) (j : Nat) (o : Bool) (G Q U : Int) (wr : World) : Prop where
  box : wr.heap[bx]? = some (.cells cs 42 (0, 0))
  out : wr.heap[bo]? = some (.cells #[.bool false, .int .u64 G, .int .u64 Q, .int .u64 U] 41 (0, 0))
  res : wr.heap[br]? = some (.cells #[.bool false, .int .u64 0, .int .u64 0, .int .u64 0] 41 (0, 0))
  below : Below w.heap.size w wr
  sums : RSums R j G Q U o
theorem row_cell {w : World} {b j : Nat} {cs : Array Value} {t : TypeId} {v : Value} (h : w.heap[b]? = some (.cells cs t (0, 0))) (hv : cs[j]? = some v) : w.cell? ⟨b, j, none⟩ = some v := by
  simp [World.cell?, h, hv]
theorem row_frozen {w : World} {b j : Nat} {cs : Array Value} {t : TypeId} (h : w.heap[b]? = some (.cells cs t (0, 0))) : w.frozen? ⟨b, j, none⟩ = false := by
  simp [World.frozen?, h]
theorem blk4 {w : World} {b : Nat} {c0 c1 c2 c3 : Value} {t : TypeId} (h : w.heap[b]? = some (.cells #[c0, c1, c2, c3] t (0, 0))) :
    (w.cell? ⟨b, 0, none⟩ = some c0 ∧ w.cell? ⟨b, 1, none⟩ = some c1 ∧ w.cell? ⟨b, 2, none⟩ = some c2 ∧ w.cell? ⟨b, 3, none⟩ = some c3) ∧ w.frozen? ⟨b, 0, none⟩ = false ∧ w.frozen? ⟨b, 1, none⟩ = false ∧ w.frozen? ⟨b, 2, none⟩ = false ∧ w.frozen? ⟨b, 3, none⟩ = false := by
  simp [World.cell?, World.frozen?, h]

set_option maxHeartbeats 2000000 in
theorem reftotal_any (cs : Array Value) (R : Nat → RefA) (hR : ArrIs cs R) (ok : ∀ i, (R i).ok) (w : World) :
    Calls Try.prog 19 #[.agg cs] w fun e w' => e = .returned (.tuple #[(totR R).1.v, .int .i64 (totR R).2]) ∧ Below w.heap.size w w' := by
  go_enter Try.func19, Try.ntmps19
  go_wp2
  have i0 : RTIs w cs R w.heap.size (w.heap.size + 1) (w.heap.size + 1 + 1) 0 true 0 0 0 (((w.alloc (.cells cs 42)).alloc (.cells #[.bool false, .int .u64 0, .int .u64 0, .int .u64 0] 41)).alloc (.cells #[.bool false, .int .u64 0, .int .u64 0, .int .u64 0] 41)) := by
    refine ⟨heap_up (heap_up (heap_at _ _)), ?_, heap_up ?_, below_alloc (below_alloc (below_alloc (Below.refl _ _) _) _) _, RSums.start R⟩
    · have := heap_at ((w.alloc (.cells cs 42)).alloc (.cells #[.bool false, .int .u64 0, .int .u64 0, .int .u64 0] 41)) (.cells #[.bool false, .int .u64 0, .int .u64 0, .int .u64 0] 41)
      simpa using this
    · have := heap_at (w.alloc (.cells cs 42)) (.cells #[.bool false, .int .u64 0, .int .u64 0, .int .u64 0] 41)
      simpa using this
  have I0 := Lib.hid i0
  clear i0
  obtain ⟨bx, hbx⟩ : ∃ bx, bx = w.heap.size := ⟨_, rfl⟩
  obtain ⟨br, hbr⟩ : ∃ br, br = bx + 1 := ⟨_, rfl⟩
  obtain ⟨bo, hbo⟩ : ∃ bo, bo = br + 1 := ⟨_, rfl⟩
  rw [← hbx, ← hbr, ← hbo]
  refine wp_named fun W hW => ?_
  have I1 : Hid (RTIs w cs R bx br bo 0 true 0 0 0 W) := by rw [hW, hbo, hbr, hbx]; exact I0
  have o1 : bx < br := by omega
  have o2 : br < bo := by omega
  have o3 : w.heap.size ≤ bx := by omega
  clear I0 hbx hbr hbo hW
  have HR := Lib.hid hR
  have OK := Lib.hid ok
  clear hR ok
  go_loopg [5, 6] 64 (fun k ok i wr => ∃ (j : Nat) (o : Bool) (G Q U : Int), j ≤ 64 ∧ k = 64 - j ∧ i = .int .i64 j ∧ ok = .bool o ∧ RTIs w cs R bx br bo j o G Q U wr)
  case atStart => exact ⟨0, true, 0, 0, 0, by omega, rfl, rfl, rfl, I1.out⟩
  case round =>
    obtain ⟨j, o, G, Q, U, hj, hk, rfl, rfl, hI⟩ := hrel
    have HK := Lib.hid hk
    have HI := Lib.hid hI
    obtain ⟨⟨c0, c1, c2, c3⟩, c4, c5, c6, c7⟩ := blk4 hI.out
    clear hk hI I1
    by_cases hlt : j < 64
    · have d1 := row_cell HI.out.box (HR.out.g j hlt)
      have d2 := row_cell HI.out.box (HR.out.r j hlt)
      have d3 := row_cell HI.out.box (HR.out.u j hlt)
      have st := HI.out.sums.step OK.out
      have ST := Lib.hid st
      clear st
      generalize (R j).g = g at *
      generalize (R j).r = r at *
      generalize (R j).u = u at *
      go_wp2_with fail
      go_quiet ((go_at_call 29; exact Calls.quiet_of_same (sum_any _ _ _)))
      go_wp2_with fail
      go_quiet ((go_at_call 29; exact quiet_same_add (sum_any _ _ _)))
      go_wp2_with fail
      go_quiet ((go_at_call 29; exact quiet_same_add (sum_any _ _ _)))
      go_wp2
      all_goals
        go_roundg (64 - (j + 1))
        case measure => rw [HK.out]; omega
        case rel =>
          refine ⟨j + 1, _, addW G g, addW Q r, addW U u, by omega, rfl, by go_num, rfl, ⟨?_, ?_, ?_, ?_, by simpa [*] using ST.out⟩⟩
          · exact heap_setCell_ne _ (heap_setCell_ne _ (heap_setCell_ne _ (heap_setCell_ne _ HI.out.box (by simp; omega)) (by simp; omega)) (by simp; omega)) (by simp; omega)
          · exact heap_setCell_same _ (heap_setCell_same _ (heap_setCell_same _ (heap_setCell_same _ HI.out.out)))
          · exact heap_setCell_ne _ (heap_setCell_ne _ (heap_setCell_ne _ (heap_setCell_ne _ HI.out.res (by simp; omega)) (by simp; omega)) (by simp; omega)) (by simp; omega)
          · exact ((((below_drewN HI.out.below _).setCell (by simp; omega) _).setCell (by simp; omega) _).setCell (by simp; omega) _).setCell (by simp; omega) _
    · have hj64 : j = 64 := by omega
      subst hj64
      obtain ⟨⟨f0, f1, f2, f3⟩, f4, f5, f6, f7⟩ := blk4 HI.out.res
      have hbr : w.heap.size ≤ br := by omega
      rcases HI.out.sums.done OK.out with ⟨rfl, ht⟩ | ⟨rfl, ht⟩
      · have HT := Lib.hid ht
        clear ht
        go_wp2
        refine bodyPost_ret (v := .tuple #[.agg #[.bool false, .int .u64 G, .int .u64 Q, .int .u64 U], .int .i64 0]) ?_ rfl ⟨by rw [HT.out], ?_⟩
        · simp [results, Try.results19, go_sem, *]
        · exact (((HI.out.below.setCell hbr _).setCell hbr _).setCell hbr _).setCell hbr _
      · have HT := Lib.hid ht
        clear ht
        go_wp2
        refine bodyPost_ret (v := .tuple #[.agg #[.bool false, .int .u64 0, .int .u64 0, .int .u64 0], .int .i64 38]) ?_ rfl ⟨by rw [HT.out], ?_⟩
        · simp [results, Try.results19, go_sem, *]
        · exact (((HI.out.below.setCell hbr _).setCell hbr _).setCell hbr _).setCell hbr _
end Go.Proofs.Ytoinlhjdmkeaeaa
