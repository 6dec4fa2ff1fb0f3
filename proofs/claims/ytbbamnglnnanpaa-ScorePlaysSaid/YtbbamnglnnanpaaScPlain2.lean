/- The document's Out and Rank (as printed): plain lists. -/
import Derived.Test.YtbbamnglnnanpaaScPlain
namespace Go.Proofs.Ytbbamnglnnanpaa
open Go.RowKit Go.Proofs.Ytbbamnglnnanpaa.PScorePlays Go.Proofs.YtbbamnglnnanpaaW.PrintWords

def outM (m : List Pt) : List Int := (m.filter fun p => decide (p.f1 = -20)).map (·.f0)
theorem outM_cons (p : Pt) (r : List Pt) : outM (p :: r) = if p.f1 = -20 then p.f0 :: outM r else outM r := by
  unfold outM
  by_cases h : p.f1 = -20 <;> simp [h]
theorem out_l (m : List Pt) (hm : m.length ≤ 1000000) : ∀ (d k j : Nat) (acc : List Int), m.length = j + d → d < k → acc.length ≤ j → baileeref25_Out.l0 k m acc (j : Int) = some (acc ++ outM (m.drop j))
  | 0, k, j, acc, h, hk, _ => by
    obtain ⟨k, rfl⟩ : ∃ q, k = q + 1 := ⟨k - 1, by omega⟩
    simp only [baileeref25_Out.l0]
    rw [if_neg (by omega), List.drop_of_length_le (by omega)]
    simp [outM]
  | d + 1, k, j, acc, h, hk, ha => by
    obtain ⟨k, rfl⟩ : ∃ q, k = q + 1 := ⟨k - 1, by omega⟩
    have hj : j < m.length := by omega
    simp only [baileeref25_Out.l0]
    rw [if_pos (by omega), if_pos (by omega), show rd_T54 m (j : Int) = m[j] from rdP_at hj, List.drop_eq_getElem_cons hj, wrap_succ hj hm]
    by_cases e : m[j].f1 = -20
    · rw [if_pos e, if_pos (by omega), out_l m hm d k (j + 1) _ (by omega) (by omega) (by simp; omega), outM_cons, if_pos e, List.append_assoc]
      rfl
    · rw [if_neg e, out_l m hm d k (j + 1) acc (by omega) (by omega) (by omega), outM_cons, if_neg e]
theorem out_f (m : List Pt) (hm : m.length ≤ 1000000) {k : Nat} (hk : m.length < k) : baileeref25_Out.f k m = some (outM m) := by
  have := out_l m hm m.length k 0 [] (by omega) hk (by simp)
  simpa [baileeref25_Out.f] using this

theorem rd_at {m : List Int} {j : Nat} (h : j < m.length) : rd m (j : Int) = m[j] := by
  show m.getD (j : Int).toNat _ = _
  rw [Int.toNat_natCast, List.getD_eq_getElem?_getD, List.getElem?_eq_getElem h]; rfl
def keepQ (f : Int → Int) (z y : Int) : Bool := decide (f z < f y ∨ (f y = f z ∧ y ≤ z))
def insR (f : Int → Int) (acc : List Int) (z : Int) : List Int := acc.takeWhile (keepQ f z) ++ [z] ++ acc.dropWhile (keepQ f z)
theorem insR_len (f : Int → Int) (acc : List Int) (z : Int) : (insR f acc z).length = acc.length + 1 := by
  unfold insR
  have h : (acc.takeWhile (keepQ f z)).length + (acc.dropWhile (keepQ f z)).length = acc.length := by
    rw [← List.length_append, List.takeWhile_append_dropWhile]
  simp only [List.length_append, List.length_cons, List.length_nil]
  omega
theorem rank_l1 (m : List Pt) (zs acc : List Int) (i : Nat) (hm : m.length ≤ 1000000) (hz : zs.length ≤ 1000000) (hi : i < zs.length) (ha : acc.length ≤ 1000000) :
    ∀ (d k j : Nat), (acc.takeWhile (keepQ (ptsM m) zs[i])).length = j + d → m.length + d + 1 < k → baileeref25_Rank.l1 k m zs acc (i : Int) (j : Int) = baileeref25_Rank.l0 (k - (d + 1)) m zs (insR (ptsM m) acc zs[i]) ((i + 1 : Nat) : Int)
  | 0, k, j, h, hk => by
    obtain ⟨k, rfl⟩ : ∃ q, k = q + 1 := ⟨k - 1, by omega⟩
    have hp : ∀ x, baileeref25_Points.f k m x = some (ptsM m x) := fun x => points_f m x hm (by omega)
    obtain ⟨h1, h2⟩ := take_while_at (keepQ (ptsM m) zs[i]) acc
    have hle : (acc.takeWhile (keepQ (ptsM m) zs[i])).length ≤ acc.length := (List.takeWhile_sublist _).length_le
    rw [show (acc.takeWhile (keepQ (ptsM m) zs[i])).length = j by omega] at h1 h2
    have l1 : (acc.take j).length < 17592186044416 := by rw [List.length_take]; omega
    have l2 : (acc.take j ++ [zs[i]]).length + (acc.drop j).length < 17592186044416 := by simp; omega
    simp only [baileeref25_Rank.l1, hp, Option.bind_some, Int.toNat_natCast, List.nil_append, List.length_nil, Nat.zero_add, rd_at hi, wrap_succ hi hz, Nat.add_sub_cancel]
    by_cases hj : j < acc.length
    · have hn : ¬ (ptsM m zs[i] < ptsM m acc[j] ∨ (ptsM m acc[j] = ptsM m zs[i] ∧ acc[j] ≤ zs[i])) := by
        have := while_end (keepQ (ptsM m) zs[i]) acc (by omega)
        simp only [show (acc.takeWhile (keepQ (ptsM m) zs[i])).length = j by omega] at this
        simpa [keepQ] using this
      simp only [rd_at hj]
      rw [if_pos (by omega), if_pos (by omega), if_pos (by omega), if_pos (by omega), if_neg (by omega)]
      by_cases he : ptsM m acc[j] = ptsM m zs[i]
      · rw [if_pos he, if_neg (by omega), if_pos (by omega), if_pos l1, if_pos l1, if_pos l2, h1, h2]; rfl
      · rw [if_neg he, if_pos (by omega), if_pos l1, if_pos l1, if_pos l2, h1, h2]; rfl
    · rw [if_neg (by omega), if_pos (by omega), if_pos (by omega), if_pos l1, if_pos (by omega), if_pos (by omega), if_pos l1, if_pos l2, h1, h2]; rfl
  | d + 1, k, j, h, hk => by
    obtain ⟨k, rfl⟩ : ∃ q, k = q + 1 := ⟨k - 1, by omega⟩
    have hp : ∀ x, baileeref25_Points.f k m x = some (ptsM m x) := fun x => points_f m x hm (by omega)
    obtain ⟨hj, hq⟩ := while_lt (keepQ (ptsM m) zs[i]) acc (j := j) (by omega)
    have hq' : ptsM m zs[i] < ptsM m acc[j] ∨ (ptsM m acc[j] = ptsM m zs[i] ∧ acc[j] ≤ zs[i]) := by simpa [keepQ] using hq
    simp only [baileeref25_Rank.l1, hp, Option.bind_some, rd_at hi, rd_at hj, wrap_succ hj ha]
    have ih := rank_l1 m zs acc i hm hz hi ha d k (j + 1) (by omega) (by omega)
    rw [if_pos (by omega), if_pos (by omega), if_pos (by omega), if_pos (by omega)]
    by_cases h1 : ptsM m acc[j] > ptsM m zs[i]
    · rw [if_pos h1, ih]; congr 1; omega
    · rw [if_neg h1, if_pos (by omega), if_pos (by omega), ih]; congr 1; omega
theorem rank_l0 (m : List Pt) (zs : List Int) (hm : m.length ≤ 1000000) (hz : zs.length ≤ 1000) :
    ∀ (d k i : Nat) (acc : List Int), zs.length = i + d → acc.length = i → m.length + (d + 1) * (zs.length + 3) < k → baileeref25_Rank.l0 k m zs acc (i : Int) = some ((zs.drop i).foldl (insR (ptsM m)) acc)
  | 0, k, i, acc, h, ha, hk => by
    obtain ⟨k, rfl⟩ : ∃ q, k = q + 1 := ⟨k - 1, by omega⟩
    simp only [baileeref25_Rank.l0]
    rw [if_neg (by omega), List.drop_of_length_le (by omega)]
    rfl
  | d + 1, k, i, acc, h, ha, hk => by
    obtain ⟨k, rfl⟩ : ∃ q, k = q + 1 := ⟨k - 1, by omega⟩
    have hi : i < zs.length := by omega
    have hle : (acc.takeWhile (keepQ (ptsM m) zs[i])).length ≤ acc.length := (List.takeWhile_sublist _).length_le
    have hk' : m.length + (d + 1) * (zs.length + 3) + (zs.length + 3) < k + 1 := by rw [Nat.add_assoc, ← Nat.succ_mul]; exact hk
    have hdz : zs.length + 3 ≤ (d + 1) * (zs.length + 3) := Nat.le_mul_of_pos_left _ (by omega)
    simp only [baileeref25_Rank.l0]
    rw [if_pos (by omega)]
    have h1 := rank_l1 m zs acc i hm (by omega) hi (by omega) (acc.takeWhile (keepQ (ptsM m) zs[i])).length k 0 (by omega) (by omega)
    rw [show ((0 : Nat) : Int) = 0 from rfl] at h1
    rw [h1, rank_l0 m zs hm hz d _ (i + 1) _ (by omega) (by rw [insR_len, ha]) (by omega), List.drop_eq_getElem_cons hi]
    rfl
def rankM (f : Int → Int) (zs : List Int) : List Int := zs.foldl (insR f) []
theorem rank_f (m : List Pt) (zs : List Int) (hm : m.length ≤ 1000000) (hz : zs.length ≤ 1000) {k : Nat} (hk : m.length + (zs.length + 1) * (zs.length + 3) < k) : baileeref25_Rank.f k m zs = some (rankM (ptsM m) zs) := by
  have := rank_l0 m zs hm hz zs.length k 0 [] (by omega) rfl hk
  simpa [baileeref25_Rank.f, rankM] using this
end Go.Proofs.Ytbbamnglnnanpaa
