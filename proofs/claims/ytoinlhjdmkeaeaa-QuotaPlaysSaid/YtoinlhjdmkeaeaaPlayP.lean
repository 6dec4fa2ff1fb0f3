/- The book and the document's accounts, step by step: plain. -/
import Derived.Test.YtoinlhjdmkeaeaaRefT
import Derived.Test.YtoinlhjdmkeaeaaTotalW
import Derived.Test.YtoinlhjdmkeaeaaGrant
namespace Go.Proofs.Ytoinlhjdmkeaeaa

structure Acc.inv (a : Acc) : Prop where
  g1 : a.g ≤ 18446744073709551615
  r0 : 0 ≤ a.r
  u0 : 0 ≤ a.u
  s : a.r + a.u ≤ a.g
def toRef : Option Acc → RefA
  | none => ⟨false, 0, 0, 0⟩
  | some a => ⟨true, a.g, a.r, a.u⟩
structure Sim (l : List (Int × Acc)) (R : Nat → RefA) : Prop where
  at_ : ∀ i : Nat, R i = toRef (aget l i)
  key : ∀ p ∈ l, 0 ≤ p.1 ∧ p.1 < 64 ∧ p.2.inv
  ap : Apart l
theorem Sim.start : Sim [] (fun _ => ⟨false, 0, 0, 0⟩) := ⟨fun _ => rfl, by simp, by simp [Apart]⟩
theorem Sim.inv {l : List (Int × Acc)} {R : Nat → RefA} (h : Sim l R) {k : Int} {a : Acc} (hk : aget l k = some a) : a.inv := (h.key _ (aget_mem hk)).2.2
theorem Sim.ok {l : List (Int × Acc)} {R : Nat → RefA} (h : Sim l R) : ∀ p ∈ l, p.2.ok := by
  intro p hp
  obtain ⟨_, _, i⟩ := h.key p hp
  obtain ⟨g1, r0, u0, s⟩ := i
  constructor <;> omega
theorem Sim.rok {l : List (Int × Acc)} {R : Nat → RefA} (h : Sim l R) (i : Nat) : (R i).ok := by
  rw [h.at_]
  cases hg : aget l i with
  | none => constructor <;> simp [toRef]
  | some a =>
    obtain ⟨g1, r0, u0, s⟩ := h.inv hg
    constructor <;> simp only [toRef] <;> omega

def upd (R : Nat → RefA) (k : Nat) (x : RefA) : Nat → RefA := fun i => if i = k then x else R i
theorem pre_upd (f : RefA → Int) (R : Nat → RefA) (k : Nat) (x : RefA) : ∀ j, pre f (upd R k x) j = pre f R j + if k < j then f x - f (R k) else 0
  | 0 => by simp [pre]
  | j + 1 => by
    simp only [pre, pre_upd f R k x j, upd]
    by_cases h1 : k < j
    · have : j ≠ k := by omega
      simp only [if_pos h1, if_neg this, if_pos (show k < j + 1 by omega)]; omega
    · by_cases h2 : j = k
      · subst h2; simp only [if_neg h1, if_true, if_pos (show j < j + 1 by omega)]; omega
      · simp only [if_neg h1, if_neg h2, if_neg (show ¬ k < j + 1 by omega)]; omega
theorem pre_congr (f : RefA → Int) {R R' : Nat → RefA} (h : ∀ i, R i = R' i) : ∀ j, pre f R j = pre f R' j
  | 0 => rfl
  | j + 1 => by simp only [pre, pre_congr f h j, h]
theorem pre_zero (f : RefA → Int) (hf : f ⟨false, 0, 0, 0⟩ = 0) : ∀ j, pre f (fun _ => ⟨false, 0, 0, 0⟩) j = 0
  | 0 => rfl
  | j + 1 => by simp [pre, pre_zero f hf j, hf]
theorem tot_pre (f : RefA → Int) (F : Acc → Int) (hf : f ⟨false, 0, 0, 0⟩ = 0) (hF : ∀ a : Acc, f ⟨true, a.g, a.r, a.u⟩ = F a) :
    ∀ (l : List (Int × Acc)), Apart l → (∀ p ∈ l, 0 ≤ p.1 ∧ p.1 < 64) → pre f (fun i => toRef (aget l i)) 64 = tot F l
  | [], _, _ => pre_zero f hf 64
  | (k, a) :: r, hap, hk => by
    have hap' : Apart r ∧ k ∉ r.map Prod.fst := by unfold Apart at *; simp only [List.map_cons, List.nodup_cons] at hap; exact ⟨hap.2, hap.1⟩
    obtain ⟨k0, k1⟩ := hk (k, a) (by simp)
    dsimp only at k0 k1
    obtain ⟨n, rfl⟩ := Int.eq_ofNat_of_zero_le k0
    have hnone : aget r (n : Int) = none := (aget_none_iff r _).2 (fun p hp e => hap'.2 (List.mem_map.2 ⟨p, hp, e⟩))
    have e : ∀ i : Nat, (fun i : Nat => toRef (aget ((((n : Nat) : Int), a) :: r) i)) i = upd (fun i => toRef (aget r i)) n (toRef (some a)) i := by
      intro i
      simp only [upd, aget]
      by_cases h : i = n
      · subst h; simp
      · rw [if_neg h, if_neg (by omega)]
    rw [pre_congr f e, pre_upd, tot_pre f F hf hF r hap'.1 (fun p hp => hk p (by simp [hp]))]
    simp only [if_pos (show n < 64 by omega), hnone, tot]
    simp only [toRef, hf, hF]; omega
theorem Sim.total {l : List (Int × Acc)} {R : Nat → RefA} (h : Sim l R) : (totR R).2 = (totalDo l).2 ∧ (totR R).1.g = (totalDo l).1.g ∧ (totR R).1.r = (totalDo l).1.r ∧ (totR R).1.u = (totalDo l).1.u := by
  have hk : ∀ p ∈ l, 0 ≤ p.1 ∧ p.1 < 64 := fun p hp => ⟨(h.key p hp).1, (h.key p hp).2.1⟩
  have eg : pre RefA.g R 64 = tot Acc.g l := by rw [pre_congr _ h.at_]; exact tot_pre RefA.g Acc.g rfl (fun _ => rfl) l h.ap hk
  have er : pre RefA.r R 64 = tot Acc.r l := by rw [pre_congr _ h.at_]; exact tot_pre RefA.r Acc.r rfl (fun _ => rfl) l h.ap hk
  have eu : pre RefA.u R 64 = tot Acc.u l := by rw [pre_congr _ h.at_]; exact tot_pre RefA.u Acc.u rfl (fun _ => rfl) l h.ap hk
  unfold totR totalDo
  rw [eg, er, eu]
  by_cases hc : tot Acc.g l < 18446744073709551616 ∧ tot Acc.r l < 18446744073709551616 ∧ tot Acc.u l < 18446744073709551616
  · rw [if_pos hc, if_pos hc]; exact ⟨rfl, rfl, rfl, rfl⟩
  · rw [if_neg hc, if_neg hc]; exact ⟨rfl, rfl, rfl, rfl⟩

def opDo (k : Int) : List (Int × Acc) → Int → Int → List (Int × Acc) × Int :=
  if k = 0 then grantDo else if k = 1 then bookDo Acc.reserve else if k = 2 then bookDo Acc.release else if k = 3 then bookDo Acc.use else bookDo Acc.free
theorem w64 {n : Int} (h : 0 ≤ n) (h' : n ≤ 18446744073709551615) : IntKind.u64.wrap n = n := by
  simp [IntKind.wrap, IntKind.signed, IntKind.bits]; omega
/-- What is told of partners that may not be. -/
theorem op_out {k : Int} {l : List (Int × Acc)} {R : Nat → RefA} (h : Sim l R) {who n : Int} (hout : who < 0 ∨ 63 < who) : opDo k l who n = (l, if k = 0 then 1 else 32) := by
  have hn : aget l who = none := (aget_none_iff l who).2 (fun p hp e => by have := h.key p hp; omega)
  unfold opDo
  by_cases h0 : k = 0
  · rw [if_pos h0, if_pos h0]; unfold grantDo; rw [if_pos (by omega)]
  · rw [if_neg h0, if_neg h0]
    split
    · unfold bookDo; rw [hn]
    · split
      · unfold bookDo; rw [hn]
      · split <;> (unfold bookDo; rw [hn])
theorem Sim.put {l : List (Int × Acc)} {R : Nat → RefA} (h : Sim l R) {k : Nat} (hk : k < 64) {a : Acc} (ha : a.inv) : Sim (aput l k a) (upd R k (toRef (some a))) := by
  refine ⟨fun i => ?_, fun p hp => ?_, h.ap.aput _ _⟩
  · simp only [upd, aget_aput]
    by_cases e : i = k
    · subst e; simp
    · rw [if_neg e, if_neg (by omega)]; exact h.at_ i
  · have hap := h.ap.aput (k : Int) a
    have hg := aget_of_mem hap (show (p.1, p.2) ∈ _ from hp)
    rw [aget_aput] at hg
    by_cases e : (k : Int) = p.1
    · rw [if_pos e] at hg; cases hg; exact ⟨by omega, by omega, ha⟩
    · rw [if_neg e] at hg; exact h.key _ (aget_mem hg)
theorem upd_same {R : Nat → RefA} {k : Nat} {x : RefA} (h : x = R k) : ∀ i, upd R k x i = R i := by
  intro i; unfold upd; by_cases e : i = k
  · subst e; simp [h]
  · simp [e]
theorem Sim.same {l : List (Int × Acc)} {R : Nat → RefA} (h : Sim l R) {k : Nat} {x : RefA} (hx : x = R k) : Sim l (upd R k x) := ⟨fun i => (upd_same hx i).trans (h.at_ i), h.key, h.ap⟩
theorem aput_twice {l : List (Int × Acc)} {k : Int} {a b : Acc} : aput (aput l k a) k b = aput l k b := by
  induction l with
  | nil => simp [aput]
  | cons p r ih => obtain ⟨x, y⟩ := p; by_cases e : x = k <;> simp [aput, e, ih]

/-- One step: what is told is the same; the accounts go on alike. -/
theorem Sim.step {l : List (Int × Acc)} {R : Nat → RefA} (h : Sim l R) {k : Int} (hk0 : 0 ≤ k) (hk4 : k ≤ 4) {who : Nat} (hw : who < 64) {n : Int} (hn0 : 0 ≤ n) (hn : n ≤ 18446744073709551615) :
    Sim (opDo k l who n).1 (upd R who (doR (R who) k n).1) ∧ (opDo k l who n).2 = (doR (R who) k n).2 := by
  have hRw : R who = toRef (aget l who) := h.at_ who
  have hk : k = 0 ∨ k = 1 ∨ k = 2 ∨ k = 3 ∨ k = 4 := by omega
  cases hg : aget l (who : Int) with
  | none =>
    rw [hg] at hRw
    simp only [toRef] at hRw
    by_cases h0 : k = 0
    · subst h0
      have e1 : doR (R who) 0 n = (⟨true, n, 0, 0⟩, 0) := by
        rw [hRw]; unfold doR; rw [if_pos rfl, if_neg (by dsimp only; rw [w64 (by omega) (by omega)]; omega)]
      have e2 : opDo 0 l who n = (aput l who ⟨n, 0, 0⟩, 0) := by
        unfold opDo grantDo bookDo
        rw [if_pos rfl, if_neg (by omega), if_pos hg, aget_aput, if_pos rfl]
        dsimp only
        have : Acc.grant ⟨0, 0, 0⟩ n = (⟨n, 0, 0⟩, 0) := by unfold Acc.grant; exact if_neg (by dsimp only; rw [w64 (by omega) (by omega)]; omega)
        rw [this]
        dsimp only
        rw [if_pos rfl, aput_twice]
      rw [e1, e2]
      exact ⟨h.put hw ⟨hn, Int.le_refl _, Int.le_refl _, by dsimp only; omega⟩, rfl⟩
    · have e1 : doR (R who) k n = (R who, 32) := by
        rw [hRw]; unfold doR; rw [if_neg h0, if_pos rfl]
      have e2 : opDo k l who n = (l, 32) := by
        unfold opDo; rw [if_neg h0]
        rcases hk with rfl | rfl | rfl | rfl | rfl
        · exact absurd rfl h0
        all_goals (simp [bookDo, hg])
      rw [e1, e2]
      exact ⟨h.same rfl, rfl⟩
  | some a =>
    have ia := h.inv hg
    obtain ⟨g1, r0, u0, s⟩ := ia
    obtain ⟨g, r, u⟩ := a
    dsimp only at g1 r0 u0 s
    rw [hg] at hRw
    simp only [toRef] at hRw
    have no : ∀ {e : Int} {F : Acc → Int → Acc × Int} {a' : Acc}, e ≠ 0 → F ⟨g, r, u⟩ n = (a', e) → bookDo F l who n = (l, e) := by
      intro e F a' he hF
      unfold bookDo; rw [hg]; dsimp only; rw [hF]; dsimp only; rw [if_neg he]
    have yes : ∀ {F : Acc → Int → Acc × Int} {a' : Acc}, F ⟨g, r, u⟩ n = (a', 0) → bookDo F l who n = (aput l who a', 0) := by
      intro F a' hF
      unfold bookDo; rw [hg]; dsimp only; rw [hF]; dsimp only; rw [if_pos rfl]
    have lft : (Acc.mk g r u).left = g - r - u := by
      show IntKind.u64.wrap (IntKind.u64.wrap (g - r) - u) = _
      rw [w64 (n := g - r) (by omega) (by omega), w64 (by omega) (by omega)]
    have lftR : (RefA.mk true g r u).left = g - r - u := by
      show IntKind.u64.wrap (IntKind.u64.wrap (g - u) - r) = _
      rw [w64 (n := g - u) (by omega) (by omega), w64 (by omega) (by omega)]; omega
    rw [hRw]
    rcases hk with rfl | rfl | rfl | rfl | rfl
    · have eg : grantDo l who n = bookDo Acc.grant l who n := by unfold grantDo; rw [if_neg (by omega), if_neg (by simp [hg])]
      unfold opDo doR; rw [if_pos rfl, if_pos rfl, eg]
      dsimp only
      rw [w64 (n := r + u) (by omega) (by omega)]
      by_cases c : n < r + u
      · rw [if_pos c, no (e := 34) (by decide) (by unfold Acc.grant; dsimp only; rw [w64 (n := r + u) (by omega) (by omega), if_pos c])]
        exact ⟨h.same hRw.symm, rfl⟩
      · rw [if_neg c, yes (by unfold Acc.grant; dsimp only; rw [w64 (n := r + u) (by omega) (by omega), if_neg c])]
        exact ⟨h.put hw ⟨hn, r0, u0, by dsimp only; omega⟩, rfl⟩
    · unfold opDo doR; simp only [if_neg (show ¬ ((1 : Int) = 0) by decide), if_true, Bool.true_eq_false, if_false, lftR]
      by_cases c : g - r - u < n
      · rw [if_pos c, no (e := 34) (by decide) (by unfold Acc.reserve; rw [lft, if_pos c])]
        exact ⟨h.same hRw.symm, rfl⟩
      · rw [if_neg c, yes (by unfold Acc.reserve; rw [lft, if_neg c])]
        rw [w64 (n := r + n) (by omega) (by omega)]
        exact ⟨h.put hw ⟨g1, by dsimp only; omega, u0, by dsimp only; omega⟩, rfl⟩
    · unfold opDo doR; simp only [if_neg (show ¬ ((2 : Int) = 0) by decide), if_neg (show ¬ ((2 : Int) = 1) by decide), if_neg (show ¬ ((2 : Int) = 4) by decide), if_neg (show ¬ ((2 : Int) = 3) by decide), if_true, Bool.true_eq_false, if_false]
      by_cases c : r < n
      · rw [if_pos c, no (e := 36) (by decide) (by unfold Acc.release; rw [if_pos c])]
        exact ⟨h.same hRw.symm, rfl⟩
      · rw [if_neg c, yes (by unfold Acc.release; rw [if_neg c])]
        rw [w64 (n := r - n) (by omega) (by omega)]
        exact ⟨h.put hw ⟨g1, by dsimp only; omega, u0, by dsimp only; omega⟩, rfl⟩
    · unfold opDo doR; simp only [if_neg (show ¬ ((3 : Int) = 0) by decide), if_neg (show ¬ ((3 : Int) = 1) by decide), if_neg (show ¬ ((3 : Int) = 4) by decide), if_neg (show ¬ ((3 : Int) = 2) by decide), if_true, Bool.true_eq_false, if_false]
      by_cases c : r < n
      · rw [if_pos c, no (e := 36) (by decide) (by unfold Acc.use; rw [if_pos c])]
        exact ⟨h.same hRw.symm, rfl⟩
      · rw [if_neg c, yes (by unfold Acc.use; rw [if_neg c])]
        rw [w64 (n := r - n) (by omega) (by omega), w64 (n := u + n) (by omega) (by omega)]
        exact ⟨h.put hw ⟨g1, by dsimp only; omega, by dsimp only; omega, by dsimp only; omega⟩, rfl⟩
    · unfold opDo doR; simp only [if_neg (show ¬ ((4 : Int) = 0) by decide), if_neg (show ¬ ((4 : Int) = 1) by decide), if_neg (show ¬ ((4 : Int) = 3) by decide), if_neg (show ¬ ((4 : Int) = 2) by decide), if_true, Bool.true_eq_false, if_false]
      by_cases c : u < n
      · rw [if_pos c, no (e := 36) (by decide) (by unfold Acc.free; rw [if_pos c])]
        exact ⟨h.same hRw.symm, rfl⟩
      · rw [if_neg c, yes (by unfold Acc.free; rw [if_neg c])]
        rw [w64 (n := u - n) (by omega) (by omega)]
        exact ⟨h.put hw ⟨g1, r0, by dsimp only; omega, by dsimp only; omega⟩, rfl⟩
/-- 64 accounts that are none. -/
def zlist : Nat → List Value
  | 0 => []
  | n + 1 => .bool false :: .int .u64 0 :: .int .u64 0 :: .int .u64 0 :: zlist n
def zarr : Array Value := (zlist 64).toArray
theorem zlist_at : ∀ (n i : Nat), i < n → (zlist n)[i * 4]? = some (.bool false) ∧ (zlist n)[i * 4 + 1]? = some (.int .u64 0) ∧ (zlist n)[i * 4 + 2]? = some (.int .u64 0) ∧ (zlist n)[i * 4 + 3]? = some (.int .u64 0)
  | 0, _, h => by omega
  | n + 1, 0, _ => by simp [zlist]
  | n + 1, i + 1, h => by
    have := zlist_at n i (by omega)
    rw [show (i + 1) * 4 = i * 4 + 1 + 1 + 1 + 1 by omega]
    simpa [zlist] using this
theorem zlist_length : ∀ n, (zlist n).length = n * 4
  | 0 => rfl
  | n + 1 => by simp [zlist, zlist_length n]; omega
theorem zarr_is : ArrIs zarr (fun _ => ⟨false, 0, 0, 0⟩) :=
  ⟨by simp [zarr, zlist_length], fun i h => by simpa [zarr] using (zlist_at 64 i h).1, fun i h => by simpa [zarr] using (zlist_at 64 i h).2.1, fun i h => by simpa [zarr] using (zlist_at 64 i h).2.2.1, fun i h => by simpa [zarr] using (zlist_at 64 i h).2.2.2⟩
theorem zero_arr (w : World) : (zeroValue 42).run Try.prog w = .ok (.agg zarr) w := by kernel_rfl
/-- One account of the 64 written. -/
def arrPut (cs : Array Value) (k : Nat) (x : RefA) : Array Value := (((cs.setIfInBounds (k * 4) (.bool x.is)).setIfInBounds (k * 4 + 1) (.int .u64 x.g)).setIfInBounds (k * 4 + 2) (.int .u64 x.r)).setIfInBounds (k * 4 + 3) (.int .u64 x.u)
theorem ArrIs.put {cs : Array Value} {R : Nat → RefA} (h : ArrIs cs R) {k : Nat} (hk : k < 64) (x : RefA) : ArrIs (arrPut cs k x) (upd R k x) := by
  have hs := h.size
  refine ⟨by simp [arrPut, hs], ?_, ?_, ?_, ?_⟩ <;> intro i hi <;> simp only [arrPut, upd, Array.getElem?_setIfInBounds, Array.size_setIfInBounds, hs]
  · by_cases e : i = k
    · subst e; rw [if_neg (by omega), if_neg (by omega), if_neg (by omega), if_pos rfl, if_pos (by omega)]; simp
    · rw [if_neg (by omega), if_neg (by omega), if_neg (by omega), if_neg (by omega), if_neg e]; exact h.is i hi
  · by_cases e : i = k
    · subst e; rw [if_neg (by omega), if_neg (by omega), if_pos rfl, if_pos (by omega)]; simp
    · rw [if_neg (by omega), if_neg (by omega), if_neg (by omega), if_neg (by omega), if_neg e]; exact h.g i hi
  · by_cases e : i = k
    · subst e; rw [if_neg (by omega), if_pos rfl, if_pos (by omega)]; simp
    · rw [if_neg (by omega), if_neg (by omega), if_neg (by omega), if_neg (by omega), if_neg e]; exact h.r i hi
  · by_cases e : i = k
    · subst e; rw [if_pos rfl, if_pos (by omega)]; simp
    · rw [if_neg (by omega), if_neg (by omega), if_neg (by omega), if_neg (by omega), if_neg e]; exact h.u i hi
open Go.RowKit in
/-- 'Account' in the document's words. -/
theorem account_ref {w : World} {b m : Nat} {l : List (Int × Acc)} {who : Int} (h : IsBook w b m l) (hw : (Lit.int .i64 who).wf = true) {x : RefA} (hx : x = toRef (aget l who)) :
    Calls Try.prog 12 #[.pointer (some ⟨b, 0, none⟩), .int .i64 who] w fun e w' => e = .returned (.tuple #[(Acc.mk x.g x.r x.u).v, .bool x.is]) ∧ Below w.heap.size w w' := by
  subst hx
  cases hg : aget l who with
  | none => exact account_none h hw hg
  | some a => exact account_some h hw hg
theorem ref_inv {l : List (Int × Acc)} {R : Nat → RefA} (h : Sim l R) (q : Nat) : 0 ≤ (R q).r ∧ 0 ≤ (R q).u ∧ (R q).r + (R q).u ≤ (R q).g ∧ (R q).g ≤ 18446744073709551615 := by
  rw [h.at_]
  cases hg : aget l (q : Int) with
  | none => simp [toRef]
  | some a =>
    obtain ⟨g1, r0, u0, s⟩ := h.inv hg
    exact ⟨r0, u0, s, g1⟩
theorem totR_is (R : Nat → RefA) : (totR R).1.is = false := by unfold totR; split <;> rfl
theorem left_val {g r u : Int} (hr : 0 ≤ r) (hu : 0 ≤ u) (hs : r + u ≤ g) (hg : g ≤ 18446744073709551615) : (Acc.mk g r u).left = g - r - u ∧ IntKind.u64.wrap (IntKind.u64.wrap (g - u) - r) = g - r - u := by
  constructor
  · show IntKind.u64.wrap (IntKind.u64.wrap (g - r) - u) = _
    rw [w64 (n := g - r) (by omega) (by omega), w64 (by omega) (by omega)]
  · rw [w64 (n := g - u) (by omega) (by omega), w64 (by omega) (by omega)]; omega
end Go.Proofs.Ytoinlhjdmkeaeaa
