/- The document's bag, walked. -/
import Derived.Test.YtoinlhjdmkeaeabBagAw
import Derived.Test.YtoinlhjdmkeaeabRow2
import Derived.Deep.AppendLies
namespace Go.Proofs.Ytoinlhjdmkeaeab
open Go.RowKit

def strOf (d : List Int) : ByteArray := ⟨(d.map fun z => UInt8.ofNat z.toNat).toArray⟩
theorem strOf_ints (l : List UInt8) : strOf (ints l) = ⟨l.toArray⟩ := by
  unfold strOf ints
  rw [List.map_map]
  congr 2
  induction l with
  | nil => rfl
  | cons b r ih => simp only [List.map_cons, ih, Function.comp_apply, Int.toNat_natCast, UInt8.ofNat_toNat]
def Msg.rcells (m : Msg) : List Value := [.int .i64 m.f, .int .i64 m.t, .string (strOf m.data), .int .i64 m.age]
theorem Msg.rlen (m : Msg) : m.rcells.length = 4 := rfl
theorem Msg.rone (m : Msg) : ∀ u ∈ m.rcells, u.oneCell' = true := by
  intro u hu
  simp only [Msg.rcells, List.mem_cons, List.not_mem_nil, or_false] at hu
  rcases hu with rfl | rfl | rfl | rfl <;> rfl
abbrev RefIs (A : Nat) (w : World) (v : Value) (ms : List Msg) : Prop := w.ownsRow A 38 4 v ms.length (ms.flatMap Msg.rcells)
theorem info_m : (Try.prog.info? 38).map (fun i => (i.zero, i.size, i.bytes)) = some (some (.agg #[.int .i64 0, .int .i64 0, .string ⟨#[]⟩, .int .i64 0]), 4, 40) := by kernel_rfl

variable {A : Nat} {w : World} {v : Value} {ms : List Msg}
abbrev RefPutPost (A : Nat) (nodes : Int) (w : World) (ms : List Msg) (f t : Int) (data : List Int) (e : Ending) (w' : World) : Prop :=
  ∃ v', e = .returned (.tuple #[v', .int .i64 (putCode nodes ms.length f t data.length)]) ∧ RefIs A w' v' (putDo nodes ms f t data) ∧ Below w.heap.size w w'
theorem strOf_size (d : List Int) : (strOf d).size = d.length := by
  show (strOf d).data.size = _
  simp [strOf]
set_option maxHeartbeats 1000000 in
theorem refput_bad (hr : RefIs A w v ms) (nodes f t a0 : Int) (data : List Int) (hbad : ¬ (there nodes f = true ∧ there nodes t = true)) :
    Calls Try.prog 10 #[.int .i64 nodes, v, .agg #[.int .i64 f, .int .i64 t, .string (strOf data), .int .i64 a0]] w (RefPutPost A nodes w ms f t data) := by
  have hc : ∀ n, putCode nodes n f t data.length = 1 := fun n => by unfold putCode; rw [if_neg hbad]
  unfold RefPutPost
  simp only [putDo, hc]
  rw [if_neg (by decide)]
  obtain ⟨va, vc, rfl⟩ := own_slice hr
  have HR := Lib.hid hr
  have hb : f < 0 ∨ (0 ≤ f ∧ nodes ≤ f) ∨ (0 ≤ f ∧ f < nodes ∧ t < 0) ∨ (0 ≤ f ∧ f < nodes ∧ 0 ≤ t ∧ nodes ≤ t) := by
    simp only [there, Bool.and_eq_true, decide_eq_true_eq] at hbad
    omega
  generalize ms.length = n at *
  generalize strOf data = s at *
  clear hr hc hbad
  rcases hb with h | ⟨h, h1⟩ | ⟨h, h1, h2⟩ | ⟨h, h1, h2, h3⟩
  · go_enter Try.func10, Try.ntmps10
    go_wp2
    go_ret2
    exact ⟨_, rfl, own_later HR.out (below_alloc (Below.refl _ _) _), below_alloc (Below.refl _ _) _⟩
  · go_enter Try.func10, Try.ntmps10
    go_wp2
    go_ret2
    exact ⟨_, rfl, own_later HR.out (below_alloc (Below.refl _ _) _), below_alloc (Below.refl _ _) _⟩
  · go_enter Try.func10, Try.ntmps10
    go_wp2
    go_ret2
    exact ⟨_, rfl, own_later HR.out (below_alloc (Below.refl _ _) _), below_alloc (Below.refl _ _) _⟩
  · go_enter Try.func10, Try.ntmps10
    go_wp2
    go_ret2
    exact ⟨_, rfl, own_later HR.out (below_alloc (Below.refl _ _) _), below_alloc (Below.refl _ _) _⟩
theorem there_iff {nodes f : Int} (h : there nodes f = true) : 0 ≤ f ∧ f < nodes := by
  simpa [there] using h
set_option maxHeartbeats 1000000 in
theorem refput_big (hr : RefIs A w v ms) (nodes f t a0 : Int) (data : List Int) (hf : there nodes f = true) (ht : there nodes t = true) (hl : 2097152 < data.length) :
    Calls Try.prog 10 #[.int .i64 nodes, v, .agg #[.int .i64 f, .int .i64 t, .string (strOf data), .int .i64 a0]] w (RefPutPost A nodes w ms f t data) := by
  have hc : ∀ n, putCode nodes n f t data.length = 13 := fun n => by unfold putCode; rw [if_pos ⟨hf, ht⟩, if_pos hl]
  unfold RefPutPost
  simp only [putDo, hc]
  rw [if_neg (by decide)]
  obtain ⟨va, vc, rfl⟩ := own_slice hr
  have HR := Lib.hid hr
  obtain ⟨f0, f1⟩ := there_iff hf
  obtain ⟨t0, t1⟩ := there_iff ht
  have hsz := strOf_size data
  have hl' : (2097152 : Int) < (data.length : Int) := by omega
  generalize ms.length = n at *
  generalize strOf data = s at *
  clear hr hc hf ht hl
  go_enter Try.func10, Try.ntmps10
  go_wp2
  go_ret2
  exact ⟨_, rfl, own_later HR.out (below_alloc (Below.refl _ _) _), below_alloc (Below.refl _ _) _⟩
set_option maxHeartbeats 1000000 in
theorem refput_many (hr : RefIs A w v ms) (nodes f t a0 : Int) (data : List Int) (hf : there nodes f = true) (ht : there nodes t = true) (hl : data.length ≤ 2097152) (hn : ms.length = 256) :
    Calls Try.prog 10 #[.int .i64 nodes, v, .agg #[.int .i64 f, .int .i64 t, .string (strOf data), .int .i64 a0]] w (RefPutPost A nodes w ms f t data) := by
  have hc : putCode nodes ms.length f t data.length = 31 := by unfold putCode; rw [if_pos ⟨hf, ht⟩, if_neg (by omega), if_pos hn]
  unfold RefPutPost
  simp only [putDo, hc]
  rw [if_neg (by decide)]
  obtain ⟨va, vc, rfl⟩ := own_slice hr
  have HR : Hid (RefIs A w (.slice va 256 vc) ms) := by rw [← hn]; exact hr
  obtain ⟨f0, f1⟩ := there_iff hf
  obtain ⟨t0, t1⟩ := there_iff ht
  have hsz := strOf_size data
  have hl' : ¬ (2097152 : Int) < (data.length : Int) := by omega
  rw [hn]
  generalize strOf data = s at *
  clear hr hc hf ht hl hn
  go_enter Try.func10, Try.ntmps10
  go_wp2
  go_ret2
  exact ⟨_, rfl, own_later HR.out (below_alloc (Below.refl _ _) _), below_alloc (Below.refl _ _) _⟩
set_option maxHeartbeats 2000000 in
set_option maxRecDepth 100000 in
theorem refput_ok (hr : RefIs A w v ms) (hA : A ≤ w.heap.size) (nodes f t a0 : Int) (data : List Int) (hf : there nodes f = true) (ht : there nodes t = true) (hl : data.length ≤ 2097152) (hn : ms.length < 256) :
    Calls Try.prog 10 #[.int .i64 nodes, v, .agg #[.int .i64 f, .int .i64 t, .string (strOf data), .int .i64 a0]] w (RefPutPost A nodes w ms f t data) := by
  have hc : putCode nodes ms.length f t data.length = 0 := by unfold putCode; rw [if_pos ⟨hf, ht⟩, if_neg (by omega), if_neg (by omega)]
  unfold RefPutPost
  simp only [putDo, hc]
  rw [if_pos trivial]
  obtain ⟨va, vc, rfl⟩ := own_slice hr
  have HR := Lib.hid hr
  obtain ⟨f0, f1⟩ := there_iff hf
  obtain ⟨t0, t1⟩ := there_iff ht
  have hsz := strOf_size data
  have hl' : ¬ (2097152 : Int) < (data.length : Int) := by omega
  have hms : ¬ (256 : Int) ≤ (ms.length : Int) := by omega
  obtain ⟨s, hs⟩ : ∃ s, s = strOf data := ⟨_, rfl⟩
  rw [← hs] at hsz ⊢
  have HS := Lib.hid hs
  obtain ⟨i0, hi, hz0, hz1, hz2⟩ := info_parts info_m
  obtain ⟨n, hnn⟩ : ∃ n, n = ms.length := ⟨_, rfl⟩
  have HN := Lib.hid hnn
  rw [← hnn] at hms hn ⊢
  have HR2 : Hid (w.ownsRow A 38 4 (.slice va n vc) n (ms.flatMap Msg.rcells)) := by rw [hnn]; exact hr
  clear hr hc hf ht hl hs hnn HR
  go_enter Try.func10, Try.ntmps10
  go_wp2_with (at_builtin; refine wpList_append_rows _ rfl _ _ 28 rfl A A 38 i0 _ 4 40 Try.underlying28 hi hz0 hz1 hz2 rfl (by decide) _ _ _ rfl (World.ownsRow_nil _ _ _ _) _ _ _ rfl (own_later HR2.out (below_alloc (Below.refl _ _) _)) ?q1 ?q2 ?q3 ?q4 ?_)
  case q1 => intro u m _ hu; exact m.rone u hu
  case q2 => unfold maxLen; omega
  case q3 => omega
  case q4 => omega
  intro v1 w1 hown hgrow hat
  have hg1 := below_none hgrow
  have hx : w1.heap[w.heap.size]? = some (.cells #[.int .i64 f, .int .i64 t, .string s, .int .i64 0] 38 (0, 0)) := heap_kept hg1 (heap_at _ _) (by simp)
  obtain ⟨⟨c0, c1, c2, c3⟩, z0, z1, z2, z3⟩ := blk4 hx
  have hat' : ∀ k, v1.ownBlock = some k → w.heap.size ≤ k := fun k hk => by
    rcases hat with h | h
    · rw [h] at hk; simp [Value.ownBlock] at hk
    · rw [h] at hk; simp at hk; omega
  obtain ⟨xa, xc, rfl⟩ := own_slice hown
  have O1 := Lib.hid hown
  have G1 := Lib.hid hg1
  have HAT := Lib.hid hat'
  have hsz1 : w.heap.size + 1 ≤ w1.heap.size := by have := hg1.size; simpa using this
  clear hown hgrow hat hg1 hx hat' z0 z1 z2 z3
  go_wp2_with (at_builtin; refine wpList_append_own _ rfl _ _ 28 rfl A 38 i0 _ 4 40 Try.underlying28 hi hz0 hz1 hz2 rfl (by decide) _ _ _ rfl (own_later O1.out (below_alloc (Below.refl _ _) _)) ⟨w1.heap.size, 0, none⟩ 1 1 [.int .i64 f, .int .i64 t, .string s, .int .i64 0] rfl ?p1 ?p2 ?p3 ?p4 ?p5 ?p6 ?_)
  case p1 => rfl
  case p2 => exact World.news_of_block (heap_at w1 _)
  case p3 => intro u hu; simp only [List.mem_cons, List.not_mem_nil, or_false] at hu; rcases hu with rfl | rfl | rfl | rfl <;> rfl
  case p4 => unfold maxLen; omega
  case p5 => omega
  case p6 => have := (below_alloc (Below.refl w1.heap.size w1) (.cells #[.int .i64 f, .int .i64 t, .string s, .int .i64 0] 38)).size; omega
  intro v2 w2 hown2 hgrow2 hnil2
  go_wp2
  go_ret2
  refine ⟨v2, rfl, ?_, ?_⟩
  · rw [HN.out, HS.out] at hown2
    show World.ownsRow w2 _ _ _ v2 (ms ++ [Msg.mk f t 0 data]).length ((ms ++ [Msg.mk f t 0 data]).flatMap Msg.rcells)
    simpa [Msg.rcells] using hown2
  · have hq1 : Below w.heap.size w w1 := (below_alloc (Below.refl _ w) _).trans (G1.out.mono (by simp))
    exact (below_alloc hq1 _).grown hgrow2 (by simp; omega) HAT.out
theorem refput_any (hr : RefIs A w v ms) (hA : A ≤ w.heap.size) (hn : ms.length ≤ 256) (nodes f t a0 : Int) (data : List Int) :
    Calls Try.prog 10 #[.int .i64 nodes, v, .agg #[.int .i64 f, .int .i64 t, .string (strOf data), .int .i64 a0]] w (RefPutPost A nodes w ms f t data) := by
  by_cases hb : there nodes f = true ∧ there nodes t = true
  · by_cases hl : 2097152 < data.length
    · exact refput_big hr nodes f t a0 data hb.1 hb.2 hl
    · by_cases h256 : ms.length = 256
      · exact refput_many hr nodes f t a0 data hb.1 hb.2 (by omega) h256
      · exact refput_ok hr hA nodes f t a0 data hb.1 hb.2 (by omega) (by omega)
  · exact refput_bad hr nodes f t a0 data hb
end Go.Proofs.Ytoinlhjdmkeaeab
