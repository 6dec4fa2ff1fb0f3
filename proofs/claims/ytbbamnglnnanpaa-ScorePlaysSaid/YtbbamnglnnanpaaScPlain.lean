/- What the document's functions (as printed) come to: plain lists. -/
import Derived.Test.YtbbamnglnnanpaaScRank
import Derived.Test.YtbbamnglnnanpaaPScorePlaysx8
import Derived.Test.YtbbamnglnnanpaaPScorePlaysx9
import Derived.Test.YtbbamnglnnanpaaPScorePlaysx10
namespace Go.Proofs.Ytbbamnglnnanpaa
open Go.RowKit Go.Proofs.Ytbbamnglnnanpaa.PScorePlays

abbrev Pt := S54
abbrev rdP (m : List Pt) (i : Int) : Pt := rd_T54 m i
theorem rdP_at {m : List Pt} {j : Nat} (h : j < m.length) : rdP m (j : Int) = m[j] := by
  show m.getD (j : Int).toNat _ = _
  rw [Int.toNat_natCast, List.getD_eq_getElem?_getD, List.getElem?_eq_getElem h]; rfl
theorem wrap_succ {j n : Nat} (h : j < n) (hn : n ≤ 1000000) : wrap64 ((j : Int) + 1) = ((j + 1 : Nat) : Int) := by unfold wrap64; omega
def ptsM : List Pt → Int → Int
  | [], _ => 0
  | p :: r, who => if p.f0 = who then p.f1 else ptsM r who
theorem points_l (m : List Pt) (who : Int) (hm : m.length ≤ 1000000) : ∀ (d k j : Nat), m.length = j + d → d < k → baileeref25_Points.l0 k m who (j : Int) = some (ptsM (m.drop j) who)
  | 0, k, j, h, hk => by
    obtain ⟨k, rfl⟩ : ∃ q, k = q + 1 := ⟨k - 1, by omega⟩
    simp only [baileeref25_Points.l0]
    rw [if_neg (by omega), List.drop_of_length_le (by omega)]
    rfl
  | d + 1, k, j, h, hk => by
    obtain ⟨k, rfl⟩ : ∃ q, k = q + 1 := ⟨k - 1, by omega⟩
    have hj : j < m.length := by omega
    simp only [baileeref25_Points.l0]
    rw [if_pos (by omega), if_pos (by omega), show rd_T54 m (j : Int) = m[j] from rdP_at hj, List.drop_eq_getElem_cons hj]
    simp only [ptsM]
    split
    · rfl
    · rw [wrap_succ hj hm]
      exact points_l m who hm d k (j + 1) (by omega) (by omega)
theorem points_f (m : List Pt) (who : Int) (hm : m.length ≤ 1000000) {k : Nat} (hk : m.length < k) : baileeref25_Points.f k m who = some (ptsM m who) := by
  have := points_l m who hm m.length k 0 (by omega) hk
  simpa [baileeref25_Points.f] using this
def lessM (m : List Pt) (who : Int) : List Pt := m.filter fun p => !decide (p.f0 = who)
theorem lessM_cons (p : Pt) (r : List Pt) (who : Int) : lessM (p :: r) who = if p.f0 = who then lessM r who else p :: lessM r who := by
  unfold lessM
  by_cases h : p.f0 = who <;> simp [h]
theorem without_l (m : List Pt) (who : Int) (hm : m.length ≤ 1000000) : ∀ (d k j : Nat) (acc : List Pt), m.length = j + d → d < k → acc.length ≤ j → baileeref25_Without.l0 k m who acc (j : Int) = some (acc ++ lessM (m.drop j) who)
  | 0, k, j, acc, h, hk, _ => by
    obtain ⟨k, rfl⟩ : ∃ q, k = q + 1 := ⟨k - 1, by omega⟩
    simp only [baileeref25_Without.l0]
    rw [if_neg (by omega), List.drop_of_length_le (by omega)]
    simp [lessM]
  | d + 1, k, j, acc, h, hk, ha => by
    obtain ⟨k, rfl⟩ : ∃ q, k = q + 1 := ⟨k - 1, by omega⟩
    have hj : j < m.length := by omega
    simp only [baileeref25_Without.l0]
    rw [if_pos (by omega), if_pos (by omega), show rd_T54 m (j : Int) = m[j] from rdP_at hj, List.drop_eq_getElem_cons hj, wrap_succ hj hm]
    by_cases e : m[j].f0 = who
    · rw [if_pos e, without_l m who hm d k (j + 1) acc (by omega) (by omega) (by omega)]
      rw [lessM_cons, if_pos e]
    · rw [if_neg e, if_pos (by omega), without_l m who hm d k (j + 1) _ (by omega) (by omega) (by simp; omega), lessM_cons, if_neg e, List.append_assoc]
      rfl
theorem without_f (m : List Pt) (who : Int) (hm : m.length ≤ 1000000) {k : Nat} (hk : m.length < k) : baileeref25_Without.f k m who = some (lessM m who) := by
  have := without_l m who hm m.length k 0 [] (by omega) hk (by simp)
  simpa [baileeref25_Without.f] using this
def putM (m : List Pt) (who v : Int) : List Pt := m.takeWhile (fun p => decide (p.f0 < who)) ++ [⟨who, v⟩] ++ m.dropWhile (fun p => decide (p.f0 < who))
theorem take_while_at {α : Type} (q : α → Bool) (m : List α) : m.take (m.takeWhile q).length = m.takeWhile q ∧ m.drop (m.takeWhile q).length = m.dropWhile q := by
  induction m with
  | nil => simp
  | cons a r ih =>
    by_cases h : q a = true
    · simp [h, ih.1, ih.2]
    · simp [h]
theorem while_lt {α : Type} (q : α → Bool) (m : List α) {j : Nat} (h : j < (m.takeWhile q).length) : ∃ h' : j < m.length, q m[j] = true := by
  induction m generalizing j with
  | nil => simp at h
  | cons a r ih =>
    by_cases hq : q a = true
    · cases j with
      | zero => exact ⟨by simp, by simpa using hq⟩
      | succ j =>
        simp [hq] at h
        obtain ⟨h1, h2⟩ := ih h
        exact ⟨by simp; omega, by simpa using h2⟩
    · simp [hq] at h
theorem while_end {α : Type} (q : α → Bool) (m : List α) (h : (m.takeWhile q).length < m.length) : ¬ q (m[(m.takeWhile q).length]) = true := by
  induction m with
  | nil => simp at h
  | cons a r ih =>
    by_cases hq : q a = true
    · simp [hq] at h ⊢
      simpa using ih h
    · simp [hq]
theorem more_l (m : List Pt) (who v : Int) (hm : m.length ≤ 1000000) : ∀ (d k j : Nat), (m.takeWhile (fun p => decide (p.f0 < who))).length = j + d → d < k → baileeref25_More.l0 k m who v (j : Int) = some (putM m who v)
  | 0, k, j, h, hk => by
    obtain ⟨k, rfl⟩ : ∃ q, k = q + 1 := ⟨k - 1, by omega⟩
    obtain ⟨h1, h2⟩ := take_while_at (fun p : Pt => decide (p.f0 < who)) m
    have hle : (m.takeWhile (fun p => decide (p.f0 < who))).length ≤ m.length := (List.takeWhile_sublist _).length_le
    have hjm : j ≤ m.length := by omega
    rw [show (m.takeWhile (fun p => decide (p.f0 < who))).length = j by omega] at h1 h2
    simp only [baileeref25_More.l0, Int.toNat_natCast, Option.bind_some, List.nil_append, List.length_nil, Nat.zero_add]
    have l1 : (m.take j).length < 8796093022208 := by rw [List.length_take]; omega
    have l2 : (m.take j ++ [(⟨who, v⟩ : Pt)]).length + (m.drop j).length < 8796093022208 := by simp; omega
    by_cases hj : j < m.length
    · have hn : ¬ m[j].f0 < who := by
        have := while_end (fun p : Pt => decide (p.f0 < who)) m (by omega)
        simp only [show (m.takeWhile (fun p => decide (p.f0 < who))).length = j by omega] at this
        simpa using this
      rw [if_pos (by omega), if_pos (by omega), show rd_T54 m (j : Int) = m[j] from rdP_at hj, if_neg hn, if_pos (by omega), if_pos l1, if_pos l1, if_pos l2]
      rw [h1, h2]; rfl
    · rw [if_neg (by omega), if_pos (by omega), if_pos (by omega), if_pos l1, if_pos l1, if_pos l2]
      rw [h1, h2]; rfl
  | d + 1, k, j, h, hk => by
    obtain ⟨k, rfl⟩ : ∃ q, k = q + 1 := ⟨k - 1, by omega⟩
    obtain ⟨hj, hq⟩ := while_lt (fun p : Pt => decide (p.f0 < who)) m (j := j) (by omega)
    have hq' : m[j].f0 < who := by simpa using hq
    simp only [baileeref25_More.l0]
    rw [if_pos (by omega), if_pos (by omega), show rd_T54 m (j : Int) = m[j] from rdP_at hj, if_pos hq', wrap_succ hj hm]
    exact more_l m who v hm d k (j + 1) (by omega) (by omega)
def moreM (m : List Pt) (who d : Int) : List Pt := putM (lessM m who) who (withDo (ptsM m who) d)
theorem lessM_len (m : List Pt) (who : Int) : (lessM m who).length ≤ m.length := List.length_filter_le _ _
theorem more_f (m : List Pt) (who d : Int) (hm : m.length ≤ 1000000) (h0 : -20 ≤ ptsM m who) (h1 : ptsM m who ≤ 20) (d0 : -100 ≤ d) (d1 : d ≤ 100) {k : Nat} (hk : m.length + 3 < k) : baileeref25_More.f k m who d = some (moreM m who d) := by
  have hl := lessM_len m who
  have fin : ∀ v q, m.length < q → (baileeref25_Without.f q m who).bind (fun t => baileeref25_More.l0 q t who v 0) = some (putM (lessM m who) who v) := fun v q hq => by
    rw [without_f m who hm hq, Option.bind_some]
    have hle : ((lessM m who).takeWhile (fun p => decide (p.f0 < who))).length ≤ (lessM m who).length := (List.takeWhile_sublist _).length_le
    exact more_l (lessM m who) who v (by omega) _ q 0 (Nat.zero_add _).symm (by omega)
  have j2 : ∀ v q, m.length + 1 < q → baileeref25_More.j2 q m who v = some (putM (lessM m who) who v) := fun v q hq => by
    obtain ⟨q, rfl⟩ : ∃ z, q = z + 1 := ⟨q - 1, by omega⟩
    simp only [baileeref25_More.j2]
    exact fin v q (by omega)
  have j1 : ∀ v q, m.length + 2 < q → baileeref25_More.j1 q m who v = some (putM (lessM m who) who (max v (-20))) := fun v q hq => by
    obtain ⟨q, rfl⟩ : ∃ z, q = z + 1 := ⟨q - 1, by omega⟩
    simp only [baileeref25_More.j1]
    split
    · rw [j2 _ _ (by omega)]; congr 2; omega
    · rw [j2 _ _ (by omega)]; congr 2; omega
  have j0 : ∀ v q, m.length + 3 < q → baileeref25_More.j0 q m who v = some (putM (lessM m who) who (max (min v 20) (-20))) := fun v q hq => by
    obtain ⟨q, rfl⟩ : ∃ z, q = z + 1 := ⟨q - 1, by omega⟩
    simp only [baileeref25_More.j0]
    split
    · rw [j1 _ _ (by omega)]; congr 2; omega
    · rw [j1 _ _ (by omega)]; congr 2; omega
  unfold baileeref25_More.f moreM withDo
  rw [points_f m who hm (by omega), Option.bind_some]
  split
  · rw [j0 _ _ (by omega), if_neg (by omega), show wrap64 (ptsM m who + d) = ptsM m who + d by unfold wrap64; omega]
    congr 2
    omega
  · rw [j0 _ _ (by omega), if_pos (by omega)]
    congr 2
    omega
end Go.Proofs.Ytbbamnglnnanpaa
