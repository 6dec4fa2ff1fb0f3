/- What stands in memory while the reference plans; plain facts of it. -/
import Derived.Test.YtpmkgnnpngbfmaaRq4
namespace Go.Proofs.Ytpmkgnnpngbfmaa
open Go.RowKit
open Extern.Stop (cell)

structure RPl (B : Nat) (w : World) (vg : Value) (g : List (Int × Int)) (vo : Value) (out : List Mv) : Prop where
  g : RfRow B w vg g
  out : RmRow B w vo out
theorem RPl.later {B : Nat} {w w' : World} {vg vo : Value} {g : List (Int × Int)} {out : List Mv} (h : RPl B w vg g vo out) (hb : Below w.heap.size w w') : RPl B w' vg g vo out := ⟨own_later h.g hb, own_later h.out hb⟩
/-- One more int on a row of ints. -/
theorem RPl.ints {B : Nat} {w w' : World} {vg vo v : Value} {g : List (Int × Int)} {out : List Mv} {n : Nat} {xs : List Value} (h : RPl B w vg g vo out) (hv : w.ownsRow B 3 1 v n xs) (hg : w.grownBy w' v.ownBlock) : RPl B w' vg g vo out :=
  ⟨own_other h.g hg (fun _ hk => (own_row hv hk).2) (by decide), own_other h.out hg (fun _ hk => (own_row hv hk).2) (by decide)⟩
/-- A move more. -/
theorem RPl.move {B : Nat} {w w' : World} {vg vo vo' : Value} {g : List (Int × Int)} {out out' : List Mv} (h : RPl B w vg g vo out) (hg : w.grownBy w' vo.ownBlock) (ho : RmRow B w' vo' out') : RPl B w' vg g vo' out' :=
  ⟨own_other h.g hg (fun _ hk => (own_row h.out hk).2) (by decide), ho⟩
theorem ints_other {B : Nat} {w w' : World} {v : Value} {xs : List Int} (h : IntsIs B w v xs) {B' n s : Nat} {e : TypeId} {u : Value} {ys : List Value} (hu : w.ownsRow B' e s u n ys) (hg : w.grownBy w' u.ownBlock) (he : 3 ≠ e) : IntsIs B w' v xs :=
  own_other h hg (fun _ hk => (own_row hu hk).2) he
/-- Room taken. -/
theorem fr_store {B g n c b : Nat} {w : World} {l : List (Int × Int)} {a v v' : Int} (h : RfRow B w (.slice (some ⟨g, 0, none⟩) n c) l) (hn : n = l.length) (hb : l[b]? = some (a, v)) :
    RfRow B (w.setCell ⟨g, b * 2 + 1, none⟩ (.int .u64 v')) (.slice (some ⟨g, 0, none⟩) n c) (l.set b (a, v')) ∧ w.grownBy (w.setCell ⟨g, b * 2 + 1, none⟩ (.int .u64 v')) (some g) := by
  subst hn
  obtain ⟨h1, h2⟩ := World.ownsRow.stored h (b * 2 + 1) (.int .u64 v')
  rw [flat_set fcells 2 fcells_len l b 1 (by decide) hb (.int .u64 v') (b := (a, v')) rfl] at h1
  refine ⟨?_, h2⟩
  show World.ownsRow _ _ _ _ _ (l.set b (a, v')).length _
  rw [List.length_set]
  exact h1
/-- How the levels go. -/
abbrev keyN (p : Pk) : Nat := (hset p.hs).length
theorem keyN_le (p : Pk) : keyN p ≤ p.hs.length := by have := hput_len [] p.hs; simpa using this
def stAt (k : Int) (f : List (Int × Int)) (l : List Pk) (n i : Nat) : List (Int × Int) × List Mv := planOf k (frees f) (upTo keyN l n i)
theorem stAt_zero (k : Int) (f : List (Int × Int)) (l : List Pk) : stAt k f l 0 0 = (frees f, []) := rfl
theorem stAt_next (k : Int) (f : List (Int × Int)) (l : List Pk) (n : Nat) : stAt k f l n l.length = stAt k f l (n + 1) 0 := by unfold stAt; rw [upTo_next]
theorem stAt_off {k : Int} {f : List (Int × Int)} {l : List Pk} {n i : Nat} {p : Pk} (hp : l[i]? = some p) (hk : ¬ keyN p = n) : stAt k f l n (i + 1) = stAt k f l n i := by unfold stAt; rw [upTo_off keyN hp hk]
theorem stAt_on {k : Int} {f : List (Int × Int)} {l : List Pk} {n i : Nat} {p : Pk} (hp : l[i]? = some p) (hk : keyN p = n) {s : Pl} (h : give p (k - (n : Int)).toNat ⟨(stAt k f l n i).1, [], (stAt k f l n i).2⟩ = s) : stAt k f l n (i + 1) = (s.left, s.out) := by
  unfold stAt at *
  rw [upTo_on keyN hp hk, planOf_snoc]
  unfold planOne
  have e : ((hset p.hs).length : Int) = (n : Int) := by rw [← hk]
  rw [e, h]
theorem stAt_end {k : Int} {f : List (Int × Int)} {l : List Pk} (m : Nat) (hm : ∀ p ∈ l, keyN p < m) : stAt k f l m 0 = planOf k (frees f) (isort keyOfPk l) := by
  unfold stAt
  rw [← isort_levels keyN l m hm]
/-- What stands when one more was given. -/
theorem give_next {p : Pk} {s : Pl} {has : List Int} (hap : Apart s.left) (hh : ∀ x, x ∈ has ↔ x ∈ p.hs ++ s.gs) {b : Nat} (hb : BestAt s.left has p.size (b : Int)) : ∃ x, s.left[b]? = some x ∧ fitq has p.size x = true ∧ ∀ n, 0 < n → give p n s = give p (n - 1) ⟨s.left.set b (x.1, x.2 - p.size), s.gs ++ [x.1], s.out ++ [⟨p.id, x.1⟩]⟩ := by
  obtain ⟨x, h1, h2, h3⟩ := best_some hap hh hb
  refine ⟨x, h1, h2, fun n hn => ?_⟩
  rw [give_on h3 hn, apart_room hap (List.mem_of_getElem? h1), aput_set (v := x.2) hap h1]
theorem apart_set {l : List (Int × Int)} (h : Apart l) {b : Nat} {x : Int × Int} (hx : l[b]? = some x) (v : Int) : Apart (l.set b (x.1, v)) := by
  rw [← aput_set (v := x.2) h hx]
  exact h.aput _ _
theorem fitq_le {has : List Int} {size : Int} {x : Int × Int} (h : fitq has size x = true) : size ≤ x.2 := by
  unfold fitq at h
  simp only [Bool.and_eq_true, Bool.not_eq_true', decide_eq_false_iff_not] at h
  omega
theorem LeftOk.set {l : List (Int × Int)} (h : LeftOk l) {b : Nat} {x : Int × Int} (hx : l[b]? = some x) {v : Int} (h0 : 0 ≤ v) (h1 : v ≤ 18446744073709551615) : LeftOk (l.set b (x.1, v)) := fun y hy => by
  rcases List.mem_or_eq_of_mem_set hy with hy | rfl
  · exact h y hy
  · exact ⟨(h x (List.mem_of_getElem? hx)).1, h0, h1⟩
theorem LeftOk.frees {f : List (Int × Int)} (h : LeftOk f) : LeftOk (frees f) := by
  have : ∀ (l : List (Int × Int)) (m : List (Int × Int)), LeftOk l → LeftOk m → LeftOk (l.foldl freeStep m) := by
    intro l
    induction l with
    | nil => intro m _ hm; exact hm
    | cons x r ih =>
      intro m hl hm
      refine ih _ (fun y hy => hl y (by simp [hy])) ?_
      unfold freeStep
      split
      · exact hm
      · have := hl x (by simp); exact hm.put this.1 this.2.1 this.2.2
  exact this f [] h (fun x hx => by simp at hx)
/-- What is so of the state. -/
structure StOk (k : Int) (f : List (Int × Int)) (l : List Pk) (n i : Nat) : Prop where
  apart : Apart (stAt k f l n i).1
  ok : LeftOk (stAt k f l n i).1
  few : (stAt k f l n i).1.length ≤ 30
  short : (stAt k f l n i).2.length ≤ 2000 * (n * 12 + i)
/-- What is so of the state while one pack is planned. -/
structure InOk (g0 : List (Int × Int)) (o0 : List Mv) (t : Nat) (s : Pl) : Prop where
  apart : Apart s.left
  ok : LeftOk s.left
  few : s.left.length ≤ 30
  short : s.out.length ≤ o0.length + t
  gl : s.gs.length ≤ t
end Go.Proofs.Ytpmkgnnpngbfmaa
