/- RepairRoom: what is so of the moves, of its packs and partners. -/
import Derived.Test.YtpmkgnnpngbfmaaRm3
namespace Go.Proofs.Ytpmkgnnpngbfmaa
open Go.RowKit
open Extern.Stop (cell)

def sumZ (l : List Int) : Int := l.sum
theorem sumZ_snoc (l : List Int) (z : Int) : sumZ (l ++ [z]) = sumZ l + z := by simp [sumZ]
theorem sumZ_in : ∀ {l : List Int}, (∀ z ∈ l, 0 ≤ z ∧ z ≤ 255) → 0 ≤ sumZ l ∧ sumZ l ≤ 255 * l.length
  | [], _ => by simp [sumZ]
  | z :: r, h => by
    have h1 := sumZ_in (l := r) fun y hy => h y (by simp [hy])
    have h2 := h z (by simp)
    have e : sumZ (z :: r) = z + sumZ r := by simp [sumZ]
    rw [e, List.length_cons]
    omega
def rsOf (tight : Bool) (S : Int) (n : Nat) : List Int := (List.range n).map fun i : Nat => if tight = true then (i : Int) * 7 else S
theorem rsOf_succ (tight : Bool) (S : Int) (n : Nat) : rsOf tight S (n + 1) = rsOf tight S n ++ [if tight = true then (n : Int) * 7 else S] := by simp [rsOf, List.range_succ]
theorem rsOf_len (tight : Bool) (S : Int) (n : Nat) : (rsOf tight S n).length = n := by simp [rsOf]
theorem rsOf_get {tight : Bool} {S : Int} {n i : Nat} (h : i < n) : (rsOf tight S n)[i]? = some (if tight = true then (i : Int) * 7 else S) := by
  unfold rsOf
  rw [List.getElem?_map, List.getElem?_range h]
  rfl
def szOf (zs : List Int) (id : List UInt8) : Int := zs.getD (id.headD 0).toNat 0
section
variable {zs held : List Int} {all m K : Nat} {tight : Bool} {ps : List Pk}
theorem ps_at (hps : ps.map says = rmPs zs held all m) {i : Nat} {p : Pk} (hp : ps[i]? = some p) : i < m ∧ p.id = idOne (UInt8.ofNat i) ∧ p.size = zs.getD i 0 ∧ p.hs = rmH held all i 3 := by
  have hpl : ps.length = m := by have := congrArg List.length hps; simpa [rmPs] using this
  have hi : i < m := by rw [← hpl]; exact (List.getElem?_eq_some_iff.1 hp).1
  have h1 : (ps.map says)[i]? = some (rmP zs held all i) := by
    rw [hps]
    unfold rmPs
    rw [List.getElem?_map, List.getElem?_range hi]
    rfl
  rw [List.getElem?_map, hp] at h1
  have h2 := Option.some.inj h1
  unfold says rmP at h2
  simp only [Prod.mk.injEq] at h2
  exact ⟨hi, h2.1, h2.2.1, h2.2.2⟩
theorem idOne_inj {i j : Nat} (hi : i < 256) (hj : j < 256) (h : idOne (UInt8.ofNat i) = idOne (UInt8.ofNat j)) : i = j := by
  unfold idOne at h
  have h1 := (List.cons.inj h).1
  have h2 := congrArg UInt8.toNat h1
  simp only [UInt8.toNat_ofNat'] at h2
  omega
theorem ps_one (hps : ps.map says = rmPs zs held all m) (hm : m ≤ 10) : OneId ps := by
  unfold OneId
  rw [List.nodup_iff_pairwise_ne, List.pairwise_iff_getElem]
  intro i j hi hj hij
  rw [List.length_map] at hi hj
  rw [List.getElem_map, List.getElem_map]
  intro e
  obtain ⟨a1, a2, _⟩ := ps_at hps (List.getElem?_eq_getElem hi)
  obtain ⟨b1, b2, _⟩ := ps_at hps (List.getElem?_eq_getElem hj)
  rw [a2, b2] at e
  have := idOne_inj (by omega) (by omega) e
  omega
theorem sz_ps (hps : ps.map says = rmPs zs held all m) (hm : m ≤ 10) {p : Pk} (hp : p ∈ ps) : szOf zs p.id = p.size := by
  obtain ⟨i, hi⟩ := List.mem_iff_getElem?.1 hp
  obtain ⟨a1, a2, a3, _⟩ := ps_at hps hi
  rw [a2, a3]
  unfold szOf idOne
  have : (UInt8.ofNat i).toNat = i := by simp; omega
  simp [this]
theorem total_ps (hps : ps.map says = rmPs zs held all m) (hm : m = zs.length) : totalOf ps = sumZ zs := by
  unfold totalOf sumZ
  congr 1
  have hpl : ps.length = m := by have := congrArg List.length hps; simpa [rmPs] using this
  apply List.ext_getElem?
  intro i
  rw [List.getElem?_map]
  by_cases hi : i < m
  · have hp : ps[i]? = some (ps[i]'(by omega)) := List.getElem?_eq_getElem _
    obtain ⟨_, _, a3, _⟩ := ps_at hps hp
    rw [hp, List.getElem?_eq_getElem (by omega), Option.map_some, a3, List.getD_eq_getElem?_getD, List.getElem?_eq_getElem (by omega)]
    rfl
  · rw [List.getElem?_eq_none (by omega), List.getElem?_eq_none (by omega)]
    rfl
/-- What is so of the moves. -/
structure MvFacts (zs : List Int) (all m : Nat) (tight : Bool) (K : Nat) (ps : List Pk) (mv : List Mv) : Prop where
  each : ∀ x ∈ mv, ∃ (i w : Nat) (p : Pk), i < m ∧ ps[i]? = some p ∧ x.pack = idOne (UInt8.ofNat i) ∧ w < all ∧ x.to = (w : Int) ∧ (w : Int) ∉ p.hs
  once : mv.Nodup
  room : ∀ w : Nat, w < all → takenBy (szOf zs) mv (w : Int) ≤ if tight = true then (w : Int) * 7 else sumZ zs
  lack : ∀ qs : List Pk, qs.map says = afts mv ps ps.length → lackOf (K : Int) qs = lackOf (K : Int) ps - (mv.length : Int) ∧ (tight = false → K ≤ all → lackOf (K : Int) qs = 0)
theorem mv_facts (hps : ps.map says = rmPs zs held all m) (hm : m = zs.length) (hm10 : m ≤ 10) (hz : ∀ z ∈ zs, 0 ≤ z ∧ z ≤ 255) (ha : all ≤ 12) :
    MvFacts zs all m tight K ps (planOf (K : Int) (frees (frOf (rsOf tight (sumZ zs) all))) (isort keyOfPk ps)).2 := by
  rw [frees_apart (frOf_apart _)]
  have hperm := isort_perm keyOfPk ps
  have hzp : ∀ p ∈ ps, 0 ≤ p.size := fun p hp => by
    obtain ⟨i, hi⟩ := List.mem_iff_getElem?.1 hp
    obtain ⟨a1, _, a3, _⟩ := ps_at hps hi
    rw [a3, List.getD_eq_getElem?_getD, List.getElem?_eq_getElem (by omega)]
    exact (hz _ (List.getElem_mem _)).1
  have hz2 : ∀ p ∈ isort keyOfPk ps, 0 ≤ p.size := fun p hp => hzp p (hperm.mem_iff.1 hp)
  obtain ⟨G, hG⟩ := plan_given (K : Int) (frOf (rsOf tight (sumZ zs) all)) _ (isort keyOfPk ps) rfl hz2
  have hs := sumZ_in hz
  have keyIn : ∀ x : Int, x ∈ (frOf (rsOf tight (sumZ zs) all)).map Prod.fst → ∃ w : Nat, w < all ∧ x = (w : Int) := fun x hx => by
    obtain ⟨y, hy, rfl⟩ := List.mem_map.1 hx
    obtain ⟨w, h1, h2⟩ := frOf_mem.1 hy
    have := (List.getElem?_eq_some_iff.1 h1).1
    rw [rsOf_len] at this
    exact ⟨w, this, h2⟩
  have roomAt : ∀ w : Nat, w < all → roomOf (frOf (rsOf tight (sumZ zs) all)) (w : Int) = if tight = true then (w : Int) * 7 else sumZ zs := fun w hw => room_fr (rsOf_get hw)
  have hlo : LeftOk (frOf (rsOf tight (sumZ zs) all)) := fun x hx => by
    obtain ⟨i, h1, h2⟩ := frOf_mem.1 hx
    have hi := (List.getElem?_eq_some_iff.1 h1).1
    rw [rsOf_len] at hi
    rw [rsOf_get hi] at h1
    have h3 := (Option.some.inj h1).symm
    refine ⟨?_, ?_, ?_⟩
    · rw [h2]
      simp [Lit.wf, IntKind.min, IntKind.max, IntKind.signed, IntKind.bits]
      omega
    · rw [h3]; split <;> omega
    · rw [h3]; split <;> omega
  have hone := ps_one hps hm10
  refine ⟨fun x hx => ?_, hG.once ((hperm.map _).nodup_iff.2 hone), fun w hw => ?_, fun qs hqs => ?_⟩
  · obtain ⟨p, hp, h1, h2, h3⟩ := hG.of_move hx
    obtain ⟨w, hw, e⟩ := keyIn _ h3
    obtain ⟨i, hi⟩ := List.mem_iff_getElem?.1 (hperm.mem_iff.1 hp)
    obtain ⟨a1, a2, _⟩ := ps_at hps hi
    exact ⟨i, w, p, a1, hi, by rw [h1, a2], hw, e, by rw [← e]; exact h2⟩
  · have := hG.room_ok hlo (fun p hp => by
      obtain ⟨i, hi⟩ := List.mem_iff_getElem?.1 (hperm.mem_iff.1 hp)
      rw [(ps_at hps hi).2.1]; exact idOne_len _) hz2 (fun p hp => sz_ps hps hm10 (hperm.mem_iff.1 hp)) (w : Int)
    rw [roomAt w hw] at this
    exact this
  · obtain ⟨h1, h2⟩ := lack_behind hG hperm hone hqs
    refine ⟨h1, fun ht hk => h2 (hG.all (frOf_apart _) (fun x hx => ?_) ?_)⟩
    · obtain ⟨w, hw, rfl⟩ := keyIn x hx
      rw [roomAt w hw, ht, if_neg (by simp)]
      have e1 : totalOf (isort keyOfPk ps) = totalOf ps := by unfold totalOf; exact sum_perm (hperm.map _)
      rw [e1, total_ps hps hm]
      exact Int.le_refl _
    · rw [frOf_len, rsOf_len]
      omega
end
end Go.Proofs.Ytpmkgnnpngbfmaa
