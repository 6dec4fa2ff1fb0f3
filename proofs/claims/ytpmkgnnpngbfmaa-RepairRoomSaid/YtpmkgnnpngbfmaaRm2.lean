/- What comes of the moves that Plan tells: room, holders, what lacks. -/
import Derived.Test.YtpmkgnnpngbfmaaRm1
namespace Go.Proofs.Ytpmkgnnpngbfmaa
open Go.RowKit
open Extern.Stop (cell)

/-- Ids that are each one pack's. -/
def OneId (l : List Pk) : Prop := (l.map (·.id)).Nodup
theorem toOf_moves {G : List (Pk × List Int)} : ∀ {p : Pk} {gs : List Int}, (G.map fun x => x.1.id).Nodup → (p, gs) ∈ G → toOf (G.flatMap movesOf) p.id = gs := by
  have none : ∀ (G : List (Pk × List Int)) (id : List UInt8), id ∉ (G.map fun x => x.1.id) → toOf (G.flatMap movesOf) id = [] := by
    intro G
    induction G with
    | nil => intro id _; rfl
    | cons x r ih =>
      intro id hid
      simp only [List.map_cons, List.mem_cons, not_or] at hid
      have h1 := ih id hid.2
      unfold toOf at *
      rw [List.flatMap_cons, List.filter_append, List.map_append, h1, List.append_nil]
      have : (movesOf x).filter (fun y => y.pack == id) = [] := by
        rw [List.filter_eq_nil_iff]
        intro y hy
        obtain ⟨g, _, rfl⟩ := List.mem_map.1 hy
        simpa using fun h : x.1.id = id => hid.1 h.symm
      rw [this]
      rfl
  induction G with
  | nil => intro p gs _ h; simp at h
  | cons x r ih =>
    intro p gs hn h
    obtain ⟨h1, h2⟩ := List.nodup_cons.1 hn
    rcases List.mem_cons.1 h with e | h
    · subst e
      have e1 := none r p.id h1
      unfold toOf at *
      rw [List.flatMap_cons, List.filter_append, List.map_append, e1, List.append_nil]
      have : (movesOf (p, gs)).filter (fun y => y.pack == p.id) = movesOf (p, gs) := by
        rw [List.filter_eq_self]
        intro y hy
        obtain ⟨g, _, rfl⟩ := List.mem_map.1 hy
        simp
      rw [this]
      unfold movesOf
      rw [List.map_map]
      exact (List.map_congr_left fun _ _ => rfl).trans (List.map_id _)
    · have e1 := ih h2 h
      have hne : x.1.id ≠ p.id := fun e => h1 (by show x.1.id ∈ _; rw [e]; exact List.mem_map.2 ⟨_, h, rfl⟩)
      unfold toOf at *
      rw [List.flatMap_cons, List.filter_append, List.map_append, e1]
      have : (movesOf x).filter (fun y => y.pack == p.id) = [] := by
        rw [List.filter_eq_nil_iff]
        intro y hy
        obtain ⟨g, _, rfl⟩ := List.mem_map.1 hy
        simpa using hne
      rw [this]
      rfl
/-- What moves to a partner take, together. -/
def takenBy (sz : List UInt8 → Int) (out : List Mv) (w : Int) : Int := (out.map fun x => if x.to = w then sz x.pack else 0).sum
theorem taken_snoc (sz : List UInt8 → Int) (out : List Mv) (x : Mv) (w : Int) : takenBy sz (out ++ [x]) w = takenBy sz out w + if x.to = w then sz x.pack else 0 := by simp [takenBy]
theorem taken_app (sz : List UInt8 → Int) (a b : List Mv) (w : Int) : takenBy sz (a ++ b) w = takenBy sz a w + takenBy sz b w := by simp [takenBy]
theorem taken_moves {sz : List UInt8 → Int} {p : Pk} (hs : sz p.id = p.size) (w : Int) : ∀ {gs : List Int}, gs.Nodup → takenBy sz (movesOf (p, gs)) w = if w ∈ gs then p.size else 0
  | [], _ => by simp [takenBy, movesOf]
  | g :: gs, hn => by
    obtain ⟨h1, h2⟩ := List.nodup_cons.1 hn
    have ih := taken_moves hs w h2
    have e : takenBy sz (movesOf (p, g :: gs)) w = (if g = w then sz p.id else 0) + takenBy sz (movesOf (p, gs)) w := by simp [takenBy, movesOf]
    rw [e, ih, hs]
    by_cases e1 : g = w
    · subst e1
      rw [if_pos rfl, if_neg h1, if_pos (by simp)]
      omega
    · rw [if_neg e1]
      by_cases e2 : w ∈ gs
      · rw [if_pos e2, if_pos (by simp [e2])]; omega
      · rw [if_neg e2, if_neg (by simp only [List.mem_cons, not_or]; exact ⟨fun h => e1 h.symm, e2⟩)]; rfl
theorem taken_spent {sz : List UInt8 → Int} {G : List (Pk × List Int)} (hs : ∀ x ∈ G, sz x.1.id = x.1.size) (hn : ∀ x ∈ G, x.2.Nodup) (w : Int) : takenBy sz (G.flatMap movesOf) w = spentG G w := by
  induction G with
  | nil => rfl
  | cons x r ih =>
    rw [List.flatMap_cons, taken_app, ih (fun y hy => hs y (by simp [hy])) (fun y hy => hn y (by simp [hy])), show x = (x.1, x.2) from rfl, taken_moves (hs x (by simp)) w (hn x (by simp))]
    simp [spentG]
section
variable {k : Int} {left0 : List (Int × Int)} {l : List Pk} {G : List (Pk × List Int)}
/-- Nobody gets more than it has room for. -/
theorem Given.room_ok (h : Given k left0 l G) (hl : LeftOk left0) (ho : ∀ p ∈ l, p.id.length = 32) (hz : ∀ p ∈ l, 0 ≤ p.size) {sz : List UInt8 → Int} (hs : ∀ p ∈ l, sz p.id = p.size) (w : Int) : takenBy sz (planOf k left0 l).2 w ≤ roomOf left0 w := by
  have h1 := ((planOf_ok (k := k) ho hl hz).1.room w).1
  rw [h.room] at h1
  rw [h.out, taken_spent (fun x hx => hs x.1 (by rw [← h.fst]; exact List.mem_map.2 ⟨x, hx, rfl⟩)) h.nodup]
  omega
theorem Given.of_move (h : Given k left0 l G) {x : Mv} (hx : x ∈ (planOf k left0 l).2) : ∃ p ∈ l, x.pack = p.id ∧ x.to ∉ p.hs ∧ x.to ∈ left0.map Prod.fst := by
  rw [h.out, List.mem_flatMap] at hx
  obtain ⟨y, hy, hx⟩ := hx
  obtain ⟨g, hg, rfl⟩ := List.mem_map.1 hx
  obtain ⟨a1, a2⟩ := h.mem y hy g hg
  exact ⟨y.1, by rw [← h.fst]; exact List.mem_map.2 ⟨y, hy, rfl⟩, rfl, a2, a1⟩
theorem Given.ids (h : Given k left0 l G) (hn : OneId l) : (G.map fun x => x.1.id).Nodup := by
  have : (G.map fun x => x.1.id) = l.map (·.id) := by rw [← h.fst, List.map_map]; rfl
  rw [this]
  exact hn
theorem Given.once (h : Given k left0 l G) (hn : OneId l) : (planOf k left0 l).2.Nodup := by
  have hi := h.ids hn
  rw [h.out]
  have : ∀ G : List (Pk × List Int), (G.map fun x => x.1.id).Nodup → (∀ x ∈ G, x.2.Nodup) → (G.flatMap movesOf).Nodup := by
    intro G
    induction G with
    | nil => intro _ _; exact List.nodup_nil
    | cons x r ih =>
      intro h1 h2
      obtain ⟨a1, a2⟩ := List.nodup_cons.1 h1
      rw [List.flatMap_cons, List.nodup_append]
      refine ⟨?_, ih a2 (fun y hy => h2 y (by simp [hy])), ?_⟩
      · exact List.Pairwise.map _ (fun a b hab e => hab (by cases e; rfl)) (h2 x (by simp))
      · intro y hy z hz e
        obtain ⟨g, _, rfl⟩ := List.mem_map.1 hy
        obtain ⟨u, hu, hz⟩ := List.mem_flatMap.1 hz
        obtain ⟨g2, _, rfl⟩ := List.mem_map.1 hz
        apply a1
        have e2 := congrArg Mv.pack e
        simp only at e2
        show x.1.id ∈ _
        rw [e2]
        exact List.mem_map.2 ⟨u, hu, rfl⟩
  exact this G hi h.nodup
end
/-! ### what lacks behind it -/
theorem sum_perm {a b : List Int} (h : a.Perm b) : a.sum = b.sum := by
  induction h with
  | nil => rfl
  | cons x _ ih => simp [ih]
  | swap x y l => simp only [List.sum_cons]; omega
  | trans _ _ h1 h2 => exact h1.trans h2
/-- What a pack lacks when so many came. -/
def lackP (k : Int) (n : Nat) (p : Pk) : Int := max (k - (((hset p.hs).length : Int) + n)) 0
theorem keysOf_nodup {s : List (Int × Bool)} (h : Apart s) : (keysOf s).Nodup := (List.mergeSort_perm _ _).nodup_iff.2 h
theorem keysOf_len (s : List (Int × Bool)) : (keysOf s).length = s.length := by unfold keysOf; rw [List.length_mergeSort, List.length_map]
/-- How many holders there are behind moves. -/
theorem behind_new {m : List Mv} {p : Pk} {gs : List Int} (hg : toOf m p.id = gs) (hn : gs.Nodup) (hd : ∀ g ∈ gs, g ∉ p.hs) : (hset (keysOf (behind m false p))).length = (hset p.hs).length + gs.length := by
  rw [hset_nodup (keysOf_nodup (behind_apart _ _ _)), keysOf_len]
  unfold behind
  rw [if_neg (by simp), hg]
  exact (hput_new hn (fun g hgg => by rw [hset_mem]; exact hd g hgg)).1
theorem firstB_one {l : List Pk} (hn : OneId l) {i : Nat} {p : Pk} (hp : l[i]? = some p) : (aget (seenIds (l.take i)) p.id).isSome = false := by
  have h := firstB_seen (l.take i) p.id
  have : firstB (l.take i) p.id = true := by
    unfold firstB
    rw [List.all_eq_true]
    intro x hx
    obtain ⟨j, hj, e⟩ := List.mem_iff_getElem.1 hx
    have hj' : j < i ∧ j < l.length := by rw [List.length_take] at hj; omega
    rw [List.getElem_take] at e
    obtain ⟨hi, e2⟩ := List.getElem?_eq_some_iff.1 hp
    unfold OneId at hn
    rw [List.nodup_iff_pairwise_ne] at hn
    have := (List.pairwise_iff_getElem.1 hn) j i (by simpa using hj'.2) (by simpa using hi) hj'.1
    simp only [List.getElem_map, e, e2] at this
    simpa using this
  rw [this] at h
  cases hb : (aget (seenIds (l.take i)) p.id).isSome with
  | false => rfl
  | true => rw [hb] at h; simp at h
/-- What lacks behind the moves that Plan tells. -/
theorem lack_behind {k : Int} {left0 : List (Int × Int)} {l ord : List Pk} {G : List (Pk × List Int)} (h : Given k left0 ord G) (hp : ord.Perm l) (hn : OneId l) {ps : List Pk} (hps : ps.map says = afts (planOf k left0 ord).2 l l.length) :
    lackOf k ps = lackOf k l - ((planOf k left0 ord).2.length : Int) ∧ ((∀ x ∈ G, x.2.length = wants k x.1) → lackOf k ps = 0) := by
  have hno : OneId ord := (hp.map _).nodup_iff.2 hn
  have hi := h.ids hno
  have f1 : ∀ x ∈ G, toOf (planOf k left0 ord).2 x.1.id = x.2 := fun x hx => by
    rw [h.out]
    exact toOf_moves hi hx
  have e1 : lackOf k ps = (l.map fun p => lackP k (toOf (planOf k left0 ord).2 p.id).length p).sum := by
    have hpl : ps.length = l.length := by have := congrArg List.length hps; simpa [afts_len] using this
    unfold lackOf
    congr 1
    apply List.ext_getElem?
    intro i
    rw [List.getElem?_map, List.getElem?_map]
    by_cases hil : i < l.length
    · have hpi : l[i]? = some (l[i]'hil) := List.getElem?_eq_getElem _
      have hqi : ps[i]? = some (ps[i]'(by omega)) := List.getElem?_eq_getElem _
      have hs : says (ps[i]'(by omega)) = aft (planOf k left0 ord).2 l i := by
        have h2 : (ps.map says)[i]? = some (aft (planOf k left0 ord).2 l i) := by rw [hps, afts_get hil]
        rw [List.getElem?_map, hqi] at h2
        exact Option.some.inj h2
      have hd : l.getD i default = l[i]'hil := by rw [List.getD_eq_getElem?_getD, hpi]; rfl
      unfold says aft at hs
      rw [hd, firstB_one hn hpi] at hs
      have h3 := congrArg (fun x => x.2.2) hs
      simp only at h3
      rw [hpi, hqi]
      simp only [Option.map_some, h3]
      have hmem : l[i]'hil ∈ ord := hp.mem_iff.2 (List.getElem_mem hil)
      rw [← h.fst] at hmem
      obtain ⟨x, hx, ex⟩ := List.mem_map.1 hmem
      have ft := f1 x hx
      rw [ex] at ft
      rw [behind_new ft (h.nodup x hx) (fun g hg => by have := (h.mem x hx g hg).2; rw [ex] at this; exact this), ft]
      unfold lackP
      congr 2
    · rw [List.getElem?_eq_none (by omega), List.getElem?_eq_none (by omega)]
      rfl
  have e2 : lackOf k ps = (G.map fun x => lackP k x.2.length x.1).sum := by
    have e0 : ∀ F : Pk → Int, (ord.map F).sum = (G.map (F ∘ Prod.fst)).sum := fun F => by rw [← List.map_map, h.fst]
    rw [e1, ← sum_perm (hp.map fun p => lackP k (toOf (planOf k left0 ord).2 p.id).length p), e0]
    congr 1
    apply List.map_congr_left
    intro x hx
    simp only [Function.comp]
    rw [f1 x hx]
  have e3 : lackOf k l = (G.map fun x => max (k - ((hset x.1.hs).length : Int)) 0).sum := by
    unfold lackOf
    rw [← sum_perm (hp.map fun p => max (k - ((hset p.hs).length : Int)) 0), ← h.fst, List.map_map]
    rfl
  have e4 : ((planOf k left0 ord).2.length : Int) = (G.map fun x => (x.2.length : Int)).sum := by
    rw [h.out]
    have : ∀ G : List (Pk × List Int), ((G.flatMap movesOf).length : Int) = (G.map fun x => (x.2.length : Int)).sum := by
      intro G
      induction G with
      | nil => rfl
      | cons x r ih => rw [List.flatMap_cons, List.length_append, List.map_cons, List.sum_cons, ← ih]; simp [movesOf]
    exact this G
  have e5 : ∀ G : List (Pk × List Int), (∀ x ∈ G, x.2.length ≤ wants k x.1) → (G.map fun x => lackP k x.2.length x.1).sum = (G.map fun x => max (k - ((hset x.1.hs).length : Int)) 0).sum - (G.map fun x => (x.2.length : Int)).sum := by
    intro G
    induction G with
    | nil => intro _; rfl
    | cons x r ih =>
      intro hf
      have h1 := ih fun y hy => hf y (by simp [hy])
      have h2 := hf x (by simp)
      simp only [List.map_cons, List.sum_cons]
      rw [h1]
      unfold wants at h2
      unfold lackP
      omega
  constructor
  · rw [e2, e3, e4]
    exact e5 G h.few
  · intro hall
    rw [e2]
    have : ∀ G : List (Pk × List Int), (∀ x ∈ G, x.2.length = wants k x.1) → (G.map fun x => lackP k x.2.length x.1).sum = 0 := by
      intro G
      induction G with
      | nil => intro _; rfl
      | cons x r ih =>
        intro hf
        have h1 := ih fun y hy => hf y (by simp [hy])
        have h2 := hf x (by simp)
        simp only [List.map_cons, List.sum_cons]
        rw [h1]
        unfold wants at h2
        unfold lackP
        omega
    exact this G hall
/-- Where everybody has room for all, all is given that is wanted, as far as there are partners. -/
theorem Given.all {k : Int} {left0 : List (Int × Int)} {ord : List Pk} {G : List (Pk × List Int)} (h : Given k left0 ord G) (ha : Apart left0) (hr : ∀ w ∈ left0.map Prod.fst, totalOf ord ≤ roomOf left0 w) (hk : k ≤ left0.length) : ∀ x ∈ G, x.2.length = wants k x.1 := by
  intro x hx
  rcases h.full x hx with h1 | h1
  · exact h1
  · have hin : ∀ w ∈ left0.map Prod.fst, w ∈ (hset (x.1.hs ++ x.2)).map Prod.fst := fun w hw => by
      rw [hset_mem]
      rcases h1 w hw with h2 | h2
      · exact h2
      · have := hr w hw; omega
    have hle := nodup_le ha hin
    rw [List.length_map, List.length_map, hset_app (h.nodup x hx) (fun g hg => (h.mem x hx g hg).2)] at hle
    have := h.few x hx
    unfold wants at *
    omega
end Go.Proofs.Ytpmkgnnpngbfmaa
