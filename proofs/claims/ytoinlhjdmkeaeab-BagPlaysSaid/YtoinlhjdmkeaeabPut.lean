/- What Put does. -/
import Derived.Test.YtoinlhjdmkeaeabBagM
import Derived.Deep.RegionLaw
import Derived.Deep.AppendLies
namespace Go.Proofs.Ytoinlhjdmkeaeab
open Go.RowKit

theorem own_grown {w w' : World} {base : Nat} {e : TypeId} {size : Nat} {v : Value} {n : Nat} {xs : List Value} (h : w.ownsRow base e size v n xs) {row : Option Nat} (hg : w.grownBy w' row)
    (hrow : ∀ k, row = some k → ∃ cs t fz, w.heap[k]? = some (.cells cs t fz) ∧ t ≠ e) : w'.ownsRow base e size v n xs :=
  own_of h fun k cur _ hc => by
    rw [hg.block k (Array.getElem?_eq_some_iff.1 hc).1 (fun e1 => ?_)]
    · exact hc
    · obtain ⟨cs, t, fz, h1, h2⟩ := hrow k e1.symm
      rw [hc] at h1; cases h1; exact h2 rfl
theorem put_end {A B : Nat} {w W wd w1 : World} {b g cap : Nat} {nodes f t : Int} {v bv : Value} {es : List Ent} {data : List Int} {o : Array Value} (hI : BagIs A B W b nodes v es) (hB : B ≤ w.heap.size) (h1 : Below w.heap.size w W) (hG : Below W.heap.size W wd) (hBV : BytesIs W.heap.size wd bv data)
    (hown : w1.ownsRow B 61 4 (.slice (some ⟨g, 0, none⟩) (es.length + 1) cap) (es.length + 1) (es.flatMap Ent.cells ++ Ent.cells ⟨f, t, 0, bv, data⟩)) (hgrow : (wd.alloc (.cells o 61)).grownBy w1 v.ownBlock) (hn : es.length ≠ 256) :
    IsBag A B (w1.setCell ⟨b, 1, none⟩ (.slice (some ⟨g, 0, none⟩) (es.length + 1) cap)) b nodes (es.map Ent.msg ++ [⟨f, t, 0, data⟩]) ∧ Keeps bagT A w (w1.setCell ⟨b, 1, none⟩ (.slice (some ⟨g, 0, none⟩) (es.length + 1) cap)) := by
  have hA := hI.hB
  have hal := below_alloc (Below.refl wd.heap.size wd) (.cells o 61)
  have hG2 : Below W.heap.size W (wd.alloc (.cells o 61)) := hG.trans (hal.mono hG.size)
  have hI2 := hI.later hG2
  have k0 : Keeps bagT A w (wd.alloc (.cells o 61)) := Keeps.of (h1.trans (hG2.mono h1.size)) (by omega)
  have hrow : ∀ k, v.ownBlock = some k → A ≤ k ∧ ∃ cs t fz, (wd.alloc (.cells o 61)).heap[k]? = some (.cells cs t fz) ∧ bagT.contains t = true := fun k hk => by
    obtain ⟨q1, cur, q2⟩ := own_row hI2.row hk
    exact ⟨by omega, cur, _, _, q2, rfl⟩
  have hsz := h1.size
  have hsz2 := hG2.size
  have k1 : Keeps bagT A w w1 := k0.row hgrow (by omega) hrow
  have hbox : w1.heap[b]? = some (.cells #[.int .i64 nodes, v] 57 (0, 0)) := by
    rw [hgrow.block b hI2.lt (fun e => ?_)]
    · exact hI2.box
    · obtain ⟨_, cur, hc⟩ := own_row hI2.row e.symm
      rw [hI2.box] at hc; cases hc
  have k2 := k1.setCell (a := ⟨b, 1, none⟩) hbox rfl hI.hb (.slice (some ⟨g, 0, none⟩) (es.length + 1) cap)
  have hrow2 : ∀ k, some b = some k → ∃ cs t fz, w1.heap[k]? = some (.cells cs t fz) ∧ t ≠ 61 := fun k hk => by cases hk; exact ⟨_, _, _, hbox, by decide⟩
  have hrow3 : ∀ k, some b = some k → ∃ cs t fz, w1.heap[k]? = some (.cells cs t fz) ∧ t ≠ 5 := fun k hk => by cases hk; exact ⟨_, _, _, hbox, by decide⟩
  have hby : ∀ bv' d', BytesIs B (wd.alloc (.cells o 61)) bv' d' → BytesIs B (w1.setCell ⟨b, 1, none⟩ (.slice (some ⟨g, 0, none⟩) (es.length + 1) cap)) bv' d' := fun bv' d' hb =>
    own_grown (own_grown hb hgrow (fun k hk => by obtain ⟨_, cur, q2⟩ := own_row hI2.row hk; exact ⟨_, _, _, q2, by decide⟩)) (grown_setCell w1 _ _) hrow3
  refine ⟨⟨_, es ++ [⟨f, t, 0, bv, data⟩], by simp, heap_setCell_same _ hbox, ?_, ?_, by have := hI.few; simp; omega, hI.hb, hI.hB⟩, k2⟩
  · have := own_grown hown (grown_setCell w1 ⟨b, 1, none⟩ (.slice (some ⟨g, 0, none⟩) (es.length + 1) cap)) hrow2
    simpa using this
  · intro e he
    rcases List.mem_append.1 he with he | he
    · exact hby _ _ (hI2.bytes e he)
    · simp only [List.mem_singleton] at he
      subst he
      exact hby _ _ (own_later (own_mono hBV (by omega)) hal)

variable {A B : Nat} {w : World} {b : Nat} {nodes : Int} {ms : List Msg} {mv : Value} {data : List Int}
abbrev PutPost (A B b : Nat) (nodes : Int) (w : World) (ms : List Msg) (f t : Int) (data : List Int) (e : Ending) (w' : World) : Prop :=
  e = .returned (.int .i64 (putCode nodes ms.length f t data.length)) ∧ IsBag A B w' b nodes (putDo nodes ms f t data) ∧ Keeps bagT A w w'
set_option maxHeartbeats 1000000 in
theorem put_1 (h : IsBag A B w b nodes ms) (hA : A ≤ w.heap.size) (hm : BytesAt w mv data) (f t : Int) (hf : there nodes f = false) :
    Calls Try.prog 9 #[.pointer (some ⟨b, 0, none⟩), .agg #[.int .i64 f, .int .i64 t, mv]] w (PutPost A B b nodes w ms f t data) := by
  unfold PutPost
  have hc : ∀ n, putCode nodes n f t data.length = 1 := fun n => by simp [putCode, hf]
  simp only [putDo, hc]
  rw [if_neg (by decide)]
  obtain ⟨v, es, hms, hI⟩ := h
  obtain ⟨va, vc, rfl, hva⟩ := hI.slice
  obtain ⟨ma, mc, rfl, hm1, hm2⟩ := id hm
  have M : Hid (BytesAt w (.slice ma data.length mc) data) := hm
  have hbox := heap_up (o := .cells #[.int .i64 f, .int .i64 t, .slice ma data.length mc] 31) hI.box
  have N0 := node_any hbox
  have I := Lib.hid hI
  obtain ⟨⟨c0, c1⟩, c2, c3⟩ := blk2 hI.box
  have hlt := hI.lt
  have HMS := Lib.hid hms
  clear hI hbox hva hm1 hm2 hm hms
  have N1 := N0 f
  rw [hf] at N1
  clear N0 hc
  go_enter Try.func9, Try.ntmps9
  go_wp2_with fail
  refine N1.mono ?_
  rintro e w1 ⟨rfl, rfl⟩
  go_wp2
  go_ret
  refine ⟨rfl, ?_, Keeps.of (below_alloc (Below.refl _ _) _) hA⟩
  exact IsBag.later ⟨_, es, HMS.out, I.out⟩ (below_alloc (Below.refl _ _) _)
set_option maxHeartbeats 1000000 in
theorem put_2 (h : IsBag A B w b nodes ms) (hA : A ≤ w.heap.size) (hm : BytesAt w mv data) (f t : Int) (hf : there nodes f = true) (ht : there nodes t = false) :
    Calls Try.prog 9 #[.pointer (some ⟨b, 0, none⟩), .agg #[.int .i64 f, .int .i64 t, mv]] w (PutPost A B b nodes w ms f t data) := by
  unfold PutPost
  have hc : ∀ n, putCode nodes n f t data.length = 1 := fun n => by simp [putCode, ht]
  simp only [putDo, hc]
  rw [if_neg (by decide)]
  obtain ⟨v, es, hms, hI⟩ := h
  obtain ⟨va, vc, rfl, hva⟩ := hI.slice
  obtain ⟨ma, mc, rfl, hm1, hm2⟩ := id hm
  have M : Hid (BytesAt w (.slice ma data.length mc) data) := hm
  have hbox := heap_up (o := .cells #[.int .i64 f, .int .i64 t, .slice ma data.length mc] 31) hI.box
  have N0 := node_any hbox
  have I := Lib.hid hI
  obtain ⟨⟨c0, c1⟩, c2, c3⟩ := blk2 hI.box
  have hlt := hI.lt
  have HMS := Lib.hid hms
  clear hI hbox hva hm1 hm2 hm hms
  have N1 := N0 f
  have N2 := N0 t
  rw [hf] at N1
  rw [ht] at N2
  clear N0 hc
  go_enter Try.func9, Try.ntmps9
  go_wp2_with fail
  refine N1.mono ?_
  rintro e w1 ⟨rfl, rfl⟩
  go_wp2_with fail
  refine N2.mono ?_
  rintro e w1 ⟨rfl, rfl⟩
  go_wp2
  go_ret
  refine ⟨rfl, ?_, Keeps.of (below_alloc (Below.refl _ _) _) hA⟩
  exact IsBag.later ⟨_, es, HMS.out, I.out⟩ (below_alloc (Below.refl _ _) _)
set_option maxHeartbeats 1000000 in
theorem put_13 (h : IsBag A B w b nodes ms) (hA : A ≤ w.heap.size) (hm : BytesAt w mv data) (f t : Int) (hf : there nodes f = true) (ht : there nodes t = true) (hl : 2097152 < data.length) :
    Calls Try.prog 9 #[.pointer (some ⟨b, 0, none⟩), .agg #[.int .i64 f, .int .i64 t, mv]] w (PutPost A B b nodes w ms f t data) := by
  unfold PutPost
  have hc : ∀ n, putCode nodes n f t data.length = 13 := fun n => by simp [putCode, hf, ht, hl]
  simp only [putDo, hc]
  rw [if_neg (by decide)]
  obtain ⟨v, es, hms, hI⟩ := h
  obtain ⟨va, vc, rfl, hva⟩ := hI.slice
  obtain ⟨ma, mc, rfl, hm1, hm2⟩ := id hm
  have M : Hid (BytesAt w (.slice ma data.length mc) data) := hm
  have hbox := heap_up (o := .cells #[.int .i64 f, .int .i64 t, .slice ma data.length mc] 31) hI.box
  have N0 := node_any hbox
  have I := Lib.hid hI
  obtain ⟨⟨c0, c1⟩, c2, c3⟩ := blk2 hI.box
  have hlt := hI.lt
  have HMS := Lib.hid hms
  clear hI hbox hva hm1 hm2 hm hms
  have N1 := N0 f
  have N2 := N0 t
  rw [hf] at N1
  rw [ht] at N2
  have hl' : (2097152 : Int) < data.length := by omega
  clear N0 hc hl
  go_enter Try.func9, Try.ntmps9
  go_wp2_with fail
  refine N1.mono ?_
  rintro e w1 ⟨rfl, rfl⟩
  go_wp2_with fail
  refine N2.mono ?_
  rintro e w1 ⟨rfl, rfl⟩
  go_wp2
  go_ret
  refine ⟨rfl, ?_, Keeps.of (below_alloc (Below.refl _ _) _) hA⟩
  exact IsBag.later ⟨_, es, HMS.out, I.out⟩ (below_alloc (Below.refl _ _) _)
set_option maxHeartbeats 1000000 in
theorem put_31 (h : IsBag A B w b nodes ms) (hA : A ≤ w.heap.size) (hm : BytesAt w mv data) (f t : Int) (hf : there nodes f = true) (ht : there nodes t = true) (hl : data.length ≤ 2097152) (hn : ms.length = 256) :
    Calls Try.prog 9 #[.pointer (some ⟨b, 0, none⟩), .agg #[.int .i64 f, .int .i64 t, mv]] w (PutPost A B b nodes w ms f t data) := by
  unfold PutPost
  have hc : putCode nodes ms.length f t data.length = 31 := by simp [putCode, hf, ht, hn]; omega
  simp only [putDo, hc]
  rw [if_neg (by decide)]
  clear hc
  obtain ⟨v, es, hms, hI⟩ := h
  obtain ⟨va, vc, rfl, hva⟩ := hI.slice
  obtain ⟨ma, mc, rfl, hm1, hm2⟩ := id hm
  have hbox := heap_up (o := .cells #[.int .i64 f, .int .i64 t, .slice ma data.length mc] 31) hI.box
  have N0 := node_any hbox
  have I := Lib.hid hI
  obtain ⟨⟨c0, c1⟩, c2, c3⟩ := blk2 hI.box
  have hlt := hI.lt
  have hlen : es.length = 256 := by rw [← hn, ← hms]; simp
  have HMS := Lib.hid hms
  rw [hlen] at c1
  clear hI hbox hva hm1 hm2 hm hms hlen hn
  have N1 := N0 f
  have N2 := N0 t
  rw [hf] at N1
  rw [ht] at N2
  have hl' : ¬ (2097152 : Int) < data.length := by omega
  clear N0 hl
  go_enter Try.func9, Try.ntmps9
  go_wp2_with fail
  refine N1.mono ?_
  rintro e w1 ⟨rfl, rfl⟩
  go_wp2_with fail
  refine N2.mono ?_
  rintro e w1 ⟨rfl, rfl⟩
  go_wp2
  go_ret
  refine ⟨rfl, ?_, Keeps.of (below_alloc (Below.refl _ _) _) hA⟩
  exact IsBag.later ⟨_, es, HMS.out, I.out⟩ (below_alloc (Below.refl _ _) _)
set_option maxHeartbeats 2000000 in
theorem put_0 (h : IsBag A B w b nodes ms) (hA : B ≤ w.heap.size) (hm : BytesAt w mv data) (f t : Int) (hf : there nodes f = true) (ht : there nodes t = true) (hl : data.length ≤ 2097152) (hn : ms.length ≠ 256) :
    Calls Try.prog 9 #[.pointer (some ⟨b, 0, none⟩), .agg #[.int .i64 f, .int .i64 t, mv]] w (PutPost A B b nodes w ms f t data) := by
  unfold PutPost
  have hc : putCode nodes ms.length f t data.length = 0 := by simp [putCode, hf, ht, hn]; omega
  simp only [putDo, hc]
  rw [if_pos trivial]
  clear hc
  obtain ⟨v, es, hms, hI⟩ := h
  obtain ⟨va, vc, rfl, hva⟩ := hI.slice
  obtain ⟨ma, mc, rfl, hm1, hm2⟩ := id hm
  have M : Hid (BytesAt w (.slice ma data.length mc) data) := hm
  have hbox := heap_up (o := .cells #[.int .i64 f, .int .i64 t, .slice ma data.length mc] 31) hI.box
  have N0 := node_any hbox
  have I := Lib.hid hI
  obtain ⟨⟨c0, c1⟩, c2, c3⟩ := blk2 hI.box
  have hlt := hI.lt
  have hlen : ms.length = es.length := by rw [← hms]; simp
  have hfew := hI.few
  have HMS := Lib.hid hms
  obtain ⟨n, hnn⟩ : ∃ n, n = es.length := ⟨_, rfl⟩
  rw [hlen, ← hnn] at hn
  rw [← hnn] at c1 hfew
  have HN := Lib.hid hnn
  rw [← hnn] at I
  clear hI hbox hva hm1 hm2 hm hms hlen hnn
  have N1 := N0 f
  have N2 := N0 t
  rw [hf] at N1
  rw [ht] at N2
  have hl' : ¬ (2097152 : Int) < data.length := by omega
  have hn' : ((n : Int) == 256) = false := by simp; omega
  have HLD := Lib.hid hl
  have hn0 := Lib.hid (show es.length ≠ 256 by rw [← HN.out]; exact hn)
  clear N0 hl hn
  go_enter Try.func9, Try.ntmps9
  go_wp2_with fail
  refine N1.mono ?_
  rintro e w1 ⟨rfl, rfl⟩
  go_wp2_with fail
  refine N2.mono ?_
  rintro e w1 ⟨rfl, rfl⟩
  clear N1 N2
  go_wp2_with fail
  obtain ⟨H, hH⟩ : ∃ H, H = w.heap.size := ⟨_, rfl⟩
  refine wp_named fun W hW => ?_
  rw [← hH]
  have x1 : W.heap[H]? = some (.cells #[.int .i64 f, .int .i64 t, .slice ma data.length mc] 31 (0, 0)) := by rw [hW, hH]; exact heap_at _ _
  have x2 : Below w.heap.size w W := by rw [hW]; exact below_alloc (Below.refl _ _) _
  have x3 : H < W.heap.size := (Array.getElem?_eq_some_iff.1 x1).1
  have x4 : b < H := by omega
  have XI : Hid (BagIs A B W b nodes (.slice va n vc) es) := I.out.later x2
  have XC := Lib.hid (copied_any (w := W.drew) f t (show BytesAt W.drew _ _ from M.out.later x2.drew) HLD.out)
  have XR : Hid (W.ownsRow B 61 4 (.slice va n vc) n (es.flatMap Ent.cells)) := by have := XI.out.row; rw [← HN.out] at this; exact this
  have xb1 : (Value.slice va n vc).ownBlock ≠ some b := fun e => by obtain ⟨_, cur, hc⟩ := own_row XI.out.row e; rw [XI.out.box] at hc; cases hc
  have xb2 : (Value.slice va n vc).ownBlock ≠ some H := fun e => by obtain ⟨_, cur, hc⟩ := own_row XI.out.row e; rw [x1] at hc; cases hc
  have x5 : b < W.heap.size := by omega
  have X1 := Lib.hid x1
  have X2 := Lib.hid x2
  have HB2 : B ≤ W.heap.size := by omega
  have HH := Lib.hid hH
  clear c0 c1 c2 c3 hlt hH hW M HLD I x2 hl' hn'
  obtain ⟨⟨c0, c1⟩, c2, c3⟩ := blk2 XI.out.box
  obtain ⟨⟨d0, d1, d2⟩, d3, d4, d5⟩ := blk3 x1
  clear x1 c0 c2
  obtain ⟨i0, hi0, hz0, hz1, hz2⟩ := info_parts info_old
  go_region_law (first | (refine step_append_lies _ (by rfl) _ _ _ (by rfl) B 61 i0 _ 4 48 Try.underlying55 hi0 hz0 hz1 hz2 rfl (by decide) (.slice va n vc) n (es.flatMap Ent.cells) (by rfl) (own_later (own_later (own_later XR.out ((Below.refl _ _).drew)) HG.out) (below_alloc (Below.refl _ _) _)) ⟨wd.heap.size, 0, none⟩ 1 1 (Ent.cells ⟨f, t, 0, bv, data⟩) (by rfl) (by rfl) (World.news_of_block (heap_alloc_new wd _)) (Ent.one (own_one HBV.out)) (by omega) (by unfold maxLen; omega) (by omega) (by simp; omega) (wd.heap.size + 1) (by simp) ?_; intro g cap w1 hown1 hgrow hat hlt; have hfz : w1.frozen? ⟨b, 1, none⟩ = false := (hgrow.frozen_far _ (by simp; omega) (Ne.symm xb1)).trans (((below_alloc (Below.refl _ _) _).frozen (p := ⟨b, 1, none⟩) (by simp; omega)).trans ((HG.out.frozen (p := ⟨b, 1, none⟩) (by simp; omega)).trans c3)); have hcz : w1.cell? ⟨b, 1, none⟩ = some (.slice va n vc) := (hgrow.cell_far _ (by simp; omega) (Ne.symm xb1)).trans (((below_alloc (Below.refl _ _) _).cell (p := ⟨b, 1, none⟩) (by simp; omega)).trans ((HG.out.cell (p := ⟨b, 1, none⟩) (by simp; omega)).trans c1))) | (go_simp; go_at_call 19; refine XC.out.mono ?_; rintro e wd ⟨bv, rfl, hbv, hg⟩; have HG := Lib.hid hg; have HBV := Lib.hid hbv; have hz : W.heap.size ≤ wd.heap.size := hg.size; have hw1 : wd.cell? ⟨b, 1, none⟩ = some (.slice va n vc) := (hg.cell (p := ⟨b, 1, none⟩) (by simp; omega)).trans c1; have hw2 : b < wd.heap.size := (by omega); have hw3 : ¬ b = wd.heap.size := (by omega); have hw4 : ¬ wd.heap.size = b := (by omega); clear hg hbv))
  all_goals
    go_wp2
    go_ret
    have q := HN.out
    subst q
    obtain ⟨r1, r2⟩ := put_end XI.out hA X2.out (show Below W.heap.size W wd from (Below.refl _ W).drew.trans HG.out) HBV.out hown1 hgrow hn0.out
    rw [← HMS.out]
    exact ⟨rfl, r1, r2⟩
theorem put_any (h : IsBag A B w b nodes ms) (hA : A ≤ w.heap.size) (hB : B ≤ w.heap.size) (hm : BytesAt w mv data) (f t : Int) :
    Calls Try.prog 9 #[.pointer (some ⟨b, 0, none⟩), .agg #[.int .i64 f, .int .i64 t, mv]] w (PutPost A B b nodes w ms f t data) := by
  by_cases hf : there nodes f = true
  · by_cases ht : there nodes t = true
    · by_cases hl : 2097152 < data.length
      · exact put_13 h hA hm f t hf ht hl
      · by_cases hn : ms.length = 256
        · exact put_31 h hA hm f t hf ht (by omega) hn
        · exact put_0 h hB hm f t hf ht (by omega) hn
    · exact put_2 h hA hm f t hf (by simpa using ht)
  · exact put_1 h hA hm f t (by simpa using hf)
theorem put_none (w : World) (m : Value) (c : Array Value) (hm : m = .agg c) : Calls Try.prog 9 #[.pointer none, m] w fun e w' => e = .returned (.int .i64 1) ∧ Below w.heap.size w w' := by
  subst hm
  go_enter Try.func9, Try.ntmps9
  go_wp2
  go_ret
  exact ⟨rfl, below_alloc (Below.refl _ _) _⟩
end Go.Proofs.Ytoinlhjdmkeaeab
