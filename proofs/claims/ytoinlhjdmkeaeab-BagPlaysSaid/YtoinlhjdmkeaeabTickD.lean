/- slices.DeleteFunc at a bag's messages, and Tick. -/
import Derived.Test.YtoinlhjdmkeaeabTickI
namespace Go.Proofs.Ytoinlhjdmkeaeab
open Go.RowKit

theorem blk4 {w : World} {b : Nat} {c0 c1 c2 c3 : Value} {t : TypeId} (h : w.heap[b]? = some (.cells #[c0, c1, c2, c3] t (0, 0))) :
    (w.cell? ⟨b, 0, none⟩ = some c0 ∧ w.cell? ⟨b, 1, none⟩ = some c1 ∧ w.cell? ⟨b, 2, none⟩ = some c2 ∧ w.cell? ⟨b, 3, none⟩ = some c3) ∧ w.frozen? ⟨b, 0, none⟩ = false ∧ w.frozen? ⟨b, 1, none⟩ = false ∧ w.frozen? ⟨b, 2, none⟩ = false ∧ w.frozen? ⟨b, 3, none⟩ = false := by
  simp [World.cell?, World.frozen?, h]
/-- A message stored over another one of the row. -/
theorem row_store {B n g cap : Nat} {w : World} {cs : List Ent} (h : w.ownsRow B 61 4 (.slice (some ⟨g, 0, none⟩) n cap) n (cs.flatMap Ent.cells)) {i : Nat} {y : Ent} (hy : cs[i]? = some y) (x : Ent) :
    ((((w.setCell ⟨g, i * 4, none⟩ (.int .i64 x.f)).setCell ⟨g, i * 4 + 1, none⟩ (.int .i64 x.t)).setCell ⟨g, i * 4 + 2, none⟩ x.bv).setCell ⟨g, i * 4 + 3, none⟩ (.int .i64 x.age)).ownsRow B 61 4 (.slice (some ⟨g, 0, none⟩) n cap) n ((cs.set i x).flatMap Ent.cells) ∧
    w.grownBy ((((w.setCell ⟨g, i * 4, none⟩ (.int .i64 x.f)).setCell ⟨g, i * 4 + 1, none⟩ (.int .i64 x.t)).setCell ⟨g, i * 4 + 2, none⟩ x.bv).setCell ⟨g, i * 4 + 3, none⟩ (.int .i64 x.age)) (some g) := by
  have hi := (List.getElem?_eq_some_iff.1 hy).1
  obtain ⟨f, t, age, bv, data⟩ := y
  obtain ⟨r0, g0⟩ := h.stored (i * 4) (.int .i64 x.f)
  rw [show i * 4 = i * 4 + 0 from rfl, flat_set Ent.cells 4 Ent.len cs i 0 (by decide) hy (.int .i64 x.f) (b := ⟨x.f, t, age, bv, data⟩) rfl] at r0
  obtain ⟨r1, g1⟩ := r0.stored (i * 4 + 1) (.int .i64 x.t)
  rw [flat_set Ent.cells 4 Ent.len _ i 1 (by decide) (a := ⟨x.f, t, age, bv, data⟩) (List.getElem?_set_self hi) (.int .i64 x.t) (b := ⟨x.f, x.t, age, bv, data⟩) rfl, List.set_set] at r1
  obtain ⟨r2, g2⟩ := r1.stored (i * 4 + 2) x.bv
  rw [flat_set Ent.cells 4 Ent.len _ i 2 (by decide) (a := ⟨x.f, x.t, age, bv, data⟩) (List.getElem?_set_self hi) x.bv (b := ⟨x.f, x.t, age, x.bv, data⟩) rfl, List.set_set] at r2
  obtain ⟨r3, g3⟩ := r2.stored (i * 4 + 3) (.int .i64 x.age)
  rw [flat_set Ent.cells 4 Ent.len _ i 3 (by decide) (a := ⟨x.f, x.t, age, x.bv, data⟩) (List.getElem?_set_self hi) (.int .i64 x.age) (b := x) rfl, List.set_set] at r3
  exact ⟨r3, grown_trans (grown_trans (grown_trans g0 g1) g2) g3⟩

set_option maxHeartbeats 4000000 in
set_option maxRecDepth 100000 in
theorem deletefunc_any {B n mb : Nat} {w : World} {v : Value} {es : List Ent} {most : Int} (hrow : w.ownsRow B 61 4 v n (es.flatMap Ent.cells)) (hone : ∀ e ∈ es, ∃ x y z, e.bv = .slice x y z) (hn : n = es.length) (hfew : n ≤ 256) (hm : w.heap[mb]? = some (.cells #[.int .i64 most] 3 (0, 0))) :
    Calls Try.prog 22 #[v, .func (.func 23) #[] #[.pointer (some ⟨mb, 0, none⟩)]] w fun e w' =>
      ∃ v', e = .returned v' ∧ w'.ownsRow B 61 4 v' (es.filter fun x => decide (x.age ≤ max most 0)).length ((es.filter fun x => decide (x.age ≤ max most 0)).flatMap Ent.cells) ∧ w.grownBy w' v.ownBlock := by
  obtain ⟨p, hp⟩ : ∃ p : Ent → Bool, p = fun x => decide (x.age ≤ max most 0) := ⟨_, rfl⟩
  rw [← hp]
  have HP := Lib.hid hp
  have hv : ∃ va vc, v = .slice va n vc := by rcases hrow.2 with ⟨rfl, h0⟩ | ⟨g, cap, cur, rfl, _⟩; exact ⟨none, 0, by rw [h0]⟩; exact ⟨_, _, rfl⟩
  obtain ⟨va, vc, rfl⟩ := hv
  have hmc := (blk1 hm).1
  have IX := index_any hrow hone hn hfew hmc
  have R := Lib.hid hrow
  have O := Lib.hid hone
  have HN := Lib.hid hn
  have HM := Lib.hid hm
  have eg : ∀ args w, (callFunc 23 args).run Try.prog w = .ok (.enter 23 args) w := fun _ _ => by kernel_rfl
  clear hrow hone hn hm hmc hp
  go_enter Try.func22, Try.ntmps22
  go_wp2_with fail
  refine IX.mono ?_
  clear IX
  rintro e w1 ⟨⟨rfl, hall⟩ | ⟨k0, x0, rfl, hx0, hold, hall⟩, hB⟩
  · have hf : es.filter p = es := by
      rw [HP.out]; exact List.filter_eq_self.2 fun a ha => decide_eq_true (hall a ha)
    have HF := Lib.hid hf
    have HB := Lib.hid hB
    clear hall hf hB
    go_wp2
    go_ret
    refine ⟨_, rfl, ?_, grown_below HB.out _⟩
    rw [HF.out, ← HN.out]
    exact own_later R.out HB.out
  · have hk0 : k0 < n := by rw [HN.out]; exact (List.getElem?_eq_some_iff.1 hx0).1
    obtain ⟨g, c, hv, hgl, _, _⟩ := row_cells (own_later R.out hB) HN.out hx0
    obtain ⟨rfl, rfl⟩ : va = some ⟨g, 0, none⟩ ∧ vc = c := by cases hv; exact ⟨rfl, rfl⟩
    clear hv
    have K0 := Lib.hid (Kept.start (p := p) hx0 (by rw [HP.out]; simpa using hold) (fun j y hj hy => by rw [HP.out]; have := hall j y hj hy; simpa using this))
    have HB := Lib.hid hB
    have hne1 : ((k0 : Int) == -1) = false := by simp
    clear hx0 hold hall hB
    go_wp2_with fail
    go_loopg [5, 6, 7] n (fun k s5 s6 _ wr => ∃ (i j : Nat) (cs : List Ent), j ≤ n ∧ n - j ≤ k ∧ s5 = .int .i64 i ∧ s6 = .int .i64 j ∧ Kept p es cs i j ∧ wr.ownsRow B 61 4 (.slice (some ⟨g, 0, none⟩) n vc) n (cs.flatMap Ent.cells) ∧ w.grownBy wr (some g) ∧ wr.heap[mb]? = some (.cells #[.int .i64 most] 3 (0, 0)))
    case atStart => exact ⟨k0, k0 + 1, es, by omega, by omega, rfl, by go_num, K0.out, own_later R.out HB.out, grown_below HB.out _, heap_kept HB.out HM.out (Array.getElem?_eq_some_iff.1 HM.out).1⟩
    case round =>
      obtain ⟨i, j, cs, hj, hk, rfl, rfl, hK, hR, hG, hMB⟩ := hrel
      have KK := Lib.hid hK
      have RR := Lib.hid hR
      have GG := Lib.hid hG
      have MM := Lib.hid hMB
      have HK := Lib.hid hk
      have hij := hK.lt
      have hcap : n ≤ vc := by rcases hR.2 with ⟨h', _⟩ | ⟨g', cap', cur, h', _, _, h1, _⟩; (· simp at h'); (· cases h'; exact h1)
      have gm : g ≠ mb := fun e => by
        obtain ⟨_, cur, hc⟩ := own_row hR (k := g) rfl
        rw [e, hMB] at hc; cases hc
      have gm' := gm
      have hcl : cs.length = n := by rw [hK.len, HN.out]
      by_cases hlt : j < n
      · obtain ⟨x, hx⟩ : ∃ x, es[j]? = some x := ⟨es[j]'(by rw [← HN.out]; exact hlt), List.getElem?_eq_getElem _⟩
        obtain ⟨y, hy⟩ : ∃ y, cs[i]? = some y := ⟨cs[i]'(by omega), List.getElem?_eq_getElem _⟩
        obtain ⟨_, _, hv, hgw, ⟨d0, d1, d2, d3⟩, hfz⟩ := row_cells hR hcl.symm (hK.at.trans hx)
        cases hv
        obtain ⟨_, _, hv, _, ⟨q0, q1, q2, q3⟩, _⟩ := row_cells hR hcl.symm hy
        cases hv
        obtain ⟨X, Y, Z, hbv⟩ := O.out x (List.mem_of_getElem? hx)
        rw [hbv] at d2
        have j0 : (0 : Int) ≤ (j : Int) := Int.natCast_nonneg _
        have j1 : (j : Int) < (n : Int) := by omega
        have i0 : (0 : Int) ≤ (i : Int) := Int.natCast_nonneg _
        have i1 : (i : Int) < (n : Int) := by omega
        have hgne : ¬ g = wr.heap.size := by omega
        have hmne : ¬ mb = wr.heap.size := by have := (Array.getElem?_eq_some_iff.1 hMB).1; omega
        have f0 := hfz (i * 4)
        have f1 := hfz (i * 4 + 1)
        have f2 := hfz (i * 4 + 2)
        have f3 := hfz (i * 4 + 3)
        have HX := Lib.hid hx
        have HY := Lib.hid hy
        have HCL := Lib.hid hcl
        clear hK hR hG hMB hk hcap hx hy hcl hfz gm
        obtain ⟨xf, xt, xa, xb, xd⟩ := x
        dsimp only at d0 d1 d2 d3 hbv
        subst hbv
        go_wp2_with fail
        have F := fn_any (blk1 (heap_up (o := .cells #[.int .i64 xf, .int .i64 xt, .slice X Y Z, .int .i64 xa] 61) MM.out)).1 xf xt xa X Y Z
        by_cases hp : max most 0 < xa
        · rw [decide_eq_true hp] at F
          refine F.mono ?_
          rintro e wd ⟨rfl, hd⟩
          have hpx : p ⟨xf, xt, xa, .slice X Y Z, xd⟩ = false := by rw [HP.out]; simpa using hp
          have D := Lib.hid ((below_alloc (Below.refl wr.heap.size wr) _).trans (hd.mono (by simp)))
          have PX := Lib.hid hpx
          clear hd F hp hpx
          go_wp2
          go_roundg (n - (j + 1))
          case measure => have := HK.out; omega
          case rel => exact ⟨i, j + 1, cs, by omega, Nat.le_refl _, rfl, by go_num, KK.out.skip HX.out PX.out, own_later RR.out D.out, grown_trans GG.out (grown_below D.out _), heap_kept D.out MM.out (Array.getElem?_eq_some_iff.1 MM.out).1⟩
        · rw [decide_eq_false hp] at F
          refine F.mono ?_
          rintro e wd ⟨rfl, hd⟩
          have hpx : p ⟨xf, xt, xa, .slice X Y Z, xd⟩ = true := by rw [HP.out]; simpa using hp
          have hD := (below_alloc (Below.refl wr.heap.size wr) _).trans (hd.mono (by simp))
          have D := Lib.hid hD
          have PX := Lib.hid hpx
          obtain ⟨⟨v0, v1, v2, v3⟩, _⟩ := blk4 (heap_kept hd (heap_at wr _) (by simp))
          have e0 := (hD.cell (p := ⟨g, i * 4, none⟩) hgw).trans q0
          have e1 := (hD.cell (p := ⟨g, i * 4 + 1, none⟩) hgw).trans q1
          have e2 := (hD.cell (p := ⟨g, i * 4 + 2, none⟩) hgw).trans q2
          have e3 := (hD.cell (p := ⟨g, i * 4 + 3, none⟩) hgw).trans q3
          have k0 := (hD.frozen (p := ⟨g, i * 4, none⟩) hgw).trans f0
          have k1 := (hD.frozen (p := ⟨g, i * 4 + 1, none⟩) hgw).trans f1
          have k2 := (hD.frozen (p := ⟨g, i * 4 + 2, none⟩) hgw).trans f2
          have k3 := (hD.frozen (p := ⟨g, i * 4 + 3, none⟩) hgw).trans f3
          clear hd F hp hpx hD q0 q1 q2 q3 f0 f1 f2 f3 d0 d1 d2 d3
          go_wp2
          obtain ⟨s1, s2⟩ := row_store (own_later RR.out D.out) HY.out ⟨xf, xt, xa, .slice X Y Z, xd⟩
          have S1 := Lib.hid s1
          have S2 := Lib.hid s2
          clear s1 s2
          go_roundg (n - (j + 1))
          case measure => have := HK.out; omega
          case rel =>
            refine ⟨i + 1, j + 1, _, by omega, Nat.le_refl _, by go_num, by go_num, KK.out.keep HX.out PX.out, S1.out, grown_trans GG.out (grown_trans (grown_below D.out _) S2.out), ?_⟩
            have hml := (Array.getElem?_eq_some_iff.1 MM.out).1
            rw [S2.out.block mb (Nat.lt_of_lt_of_le hml D.out.size) (fun e => gm' (by cases e; rfl))]
            exact heap_kept D.out MM.out hml
      · obtain rfl : j = n := by omega
        obtain ⟨W2, hclr, hW3, hW4⟩ := run_clear_row wr 55 61 _ 4 Try.underlying55 zero_old rfl (Ent.one (e := ⟨0, 0, 0, .slice none 0 0, []⟩) rfl) B g j vc _ hR i (j - i) (vc - i) (by omega) (by omega) ⟨g, i * 4, none⟩ (fun _ => rfl)
        have X3 := Lib.hid hW3
        have X4 := Lib.hid hW4
        have n1 : ¬ vc = i := by omega
        have n2 : i ≤ j := by omega
        have n3 : i ≤ vc := by omega
        have n4 : (i : Int) ≤ (j : Int) := by omega
        have n5 : (0 : Int) ≤ (i : Int) := Int.natCast_nonneg _
        have HCL := Lib.hid hcl
        have HIJ := Lib.hid hij
        clear hK hR hG hMB hk hcap hW3 hW4 gm gm' hcl hij
        go_wp2
        go_ret
        have hf : cs.take i = es.filter p := by rw [KK.out.low, List.take_of_length_le (by rw [← HN.out]; exact Nat.le_refl _)]
        have hl : (es.filter p).length = i := by rw [← hf, List.length_take, HCL.out]; have := HIJ.out; omega
        have hx := X3.out
        rw [flat_take Ent.cells 4 Ent.len, hf] at hx
        rw [hl]
        exact ⟨_, rfl, hx, grown_trans GG.out X4.out⟩
theorem tick_none (w : World) (most : Int) : Calls Try.prog 14 #[.pointer none, .int .i64 most] w fun e w' => e = .returned (.int .i64 0) ∧ Below w.heap.size w w' := by
  go_enter Try.func14, Try.ntmps14
  go_wp2
  go_ret
  exact ⟨rfl, below_alloc (Below.refl _ _) _⟩

def Ent.older (e : Ent) : Ent := ⟨e.f, e.t, e.age + 1, e.bv, e.data⟩
def Msg.older (m : Msg) : Msg := ⟨m.f, m.t, m.age + 1, m.data⟩
def tickDo (ms : List Msg) (most : Int) : List Msg := (ms.map Msg.older).filter fun m => decide (m.age ≤ max most 0)
variable {A B : Nat} {w : World} {b : Nat} {nodes : Int} {v : Value} {es : List Ent} {ms : List Msg}
theorem BagIs.older (h : BagIs A B w b nodes v es) {i : Nat} {e : Ent} (he : es[i]? = some e) {g c : Nat} (hv : v = .slice (some ⟨g, 0, none⟩) es.length c) :
    BagIs A B (w.setCell ⟨g, i * 4 + 3, none⟩ (.int .i64 (e.age + 1))) b nodes v (es.set i e.older) ∧ Keeps bagT A w (w.setCell ⟨g, i * 4 + 3, none⟩ (.int .i64 (e.age + 1))) := by
  subst hv
  obtain ⟨f, t, age, bv, data⟩ := e
  have hA := h.hB
  obtain ⟨hBg, cur, hcur⟩ := own_row h.row (k := g) rfl
  have k := (Keeps.refl bagT A w).setCell (a := ⟨g, i * 4 + 3, none⟩) hcur rfl (by show A ≤ g; omega) (.int .i64 (age + 1))
  have hgb : b ≠ g := fun e1 => by rw [← e1, h.box] at hcur; cases hcur
  refine ⟨⟨heap_setCell_ne (x := some _) _ h.box hgb, ?_, ?_, by rw [List.length_set]; exact h.few, h.hb, h.hB⟩, k⟩
  · have := (h.row.stored (i * 4 + 3) (.int .i64 (age + 1))).1
    rw [flat_set Ent.cells 4 Ent.len es i 3 (by decide) he (.int .i64 (age + 1)) (b := Ent.older ⟨f, t, age, bv, data⟩) rfl] at this
    rw [List.length_set]; exact this
  · intro x hx
    rcases List.mem_or_eq_of_mem_set hx with hx | rfl
    · exact k.own (h.bytes x hx) rfl
    · exact k.own (h.bytes ⟨f, t, age, bv, data⟩ (List.mem_of_getElem? he)) rfl
/-- The first j ones are older. -/
def olderUpto (es : List Ent) (j : Nat) : List Ent := (es.take j).map Ent.older ++ es.drop j
theorem olderUpto_len (es : List Ent) (j : Nat) (h : j ≤ es.length) : (olderUpto es j).length = es.length := by simp [olderUpto]; omega
theorem olderUpto_at (es : List Ent) (j : Nat) (h : j ≤ es.length) : (olderUpto es j)[j]? = es[j]? := by
  unfold olderUpto
  rw [List.getElem?_append_right (by simp; omega)]
  simp [Nat.min_eq_left h]
theorem olderUpto_set (es : List Ent) (j : Nat) {e : Ent} (h : es[j]? = some e) : (olderUpto es j).set j e.older = olderUpto es (j + 1) := by
  have hl := (List.getElem?_eq_some_iff.1 h).1
  unfold olderUpto
  rw [List.set_append_right _ _ (by simp; omega), List.take_add_one, h]
  have : j - ((es.take j).map Ent.older).length = 0 := by simp; omega
  rw [this, List.drop_eq_getElem_cons hl]
  simp only [List.set_cons_zero, Option.toList_some, List.map_append, List.map_cons, List.map_nil, List.append_assoc, List.singleton_append]
theorem tick_msgs (es : List Ent) (most : Int) : ((es.map Ent.older).filter fun x => decide (x.age ≤ max most 0)).map Ent.msg = tickDo (es.map Ent.msg) most := by
  unfold tickDo
  induction es with
  | nil => rfl
  | cons e r ih =>
    simp only [List.map_cons, List.filter_cons]
    have : e.msg.older.age = e.older.age := rfl
    rw [this]
    split <;> simp [ih, Ent.msg, Ent.older, Msg.older]

set_option maxHeartbeats 4000000 in
set_option maxRecDepth 100000 in
theorem tick_any (h : IsBag A B w b nodes ms) (hA : A ≤ w.heap.size) (hage : ∀ m ∈ ms, -1 ≤ m.age ∧ m.age ≤ 4611686018427387904) (most : Int) :
    Calls Try.prog 14 #[.pointer (some ⟨b, 0, none⟩), .int .i64 most] w fun e w' => e = .returned (.int .i64 ((ms.length : Int) - ((tickDo ms most).length : Int))) ∧ IsBag A B w' b nodes (tickDo ms most) ∧ Keeps bagT A w w' := by
  obtain ⟨v, es, hms, hI⟩ := h
  obtain ⟨va, vc, hv, _⟩ := hI.slice
  have hag : ∀ e ∈ es, -1 ≤ e.age ∧ e.age ≤ 4611686018427387904 := fun e he => hage e.msg (by rw [← hms]; exact List.mem_map_of_mem he)
  have hl : ms.length = es.length := by rw [← hms]; simp
  obtain ⟨n, hn⟩ : ∃ n, n = es.length := ⟨_, rfl⟩
  have HN := Lib.hid hn
  rw [← hn] at hv hl
  have hfew := hI.few
  rw [← hn] at hfew
  subst hv
  obtain ⟨⟨c0, c1⟩, c2, c3⟩ := blk2 hI.box
  have hbl := hI.lt
  have I := Lib.hid hI
  have HMS := Lib.hid hms
  have HAG := Lib.hid hag
  rw [hl]
  clear hI hms hag hage hn hl
  go_enter Try.func14, Try.ntmps14
  go_wp2_with fail
  go_loopg [6, 19] n (fun k _ s19 wr => ∃ j : Nat, j ≤ n ∧ k = n - j ∧ s19 = .int .i64 j ∧ BagIs A B wr b nodes (.slice va n vc) (olderUpto es j) ∧ Keeps bagT A w wr ∧ wr.heap[w.heap.size]? = some (.cells #[.int .i64 most] 3 (0, 0)))
  case atStart => exact ⟨0, Nat.zero_le _, rfl, rfl, by have := I.out.later (below_alloc (Below.refl w.heap.size w) (.cells #[.int .i64 most] 3)); simpa [olderUpto] using this, Keeps.of (below_alloc (Below.refl _ _) _) hA, heap_at _ _⟩
  case round =>
    obtain ⟨j, hj, hk, rfl, hI, hK, hM⟩ := hrel
    have II := Lib.hid hI
    have KK := Lib.hid hK
    have MM := Lib.hid hM
    have HK := Lib.hid hk
    obtain ⟨⟨z0, z1⟩, z2, z3⟩ := blk2 hI.box
    have hlen := olderUpto_len es j (by rw [← HN.out]; exact hj)
    rw [← HN.out] at hlen
    have hbw : b ≠ w.heap.size := by omega
    by_cases hlt : j < n
    · obtain ⟨e, he⟩ : ∃ e, es[j]? = some e := ⟨es[j]'(by rw [← HN.out]; exact hlt), List.getElem?_eq_getElem _⟩
      have hat := (olderUpto_at es j (by rw [← HN.out]; exact hj)).trans he
      obtain ⟨g, c, hv, hgb, hgl, ⟨d0, d1, d2, d3⟩, hfz⟩ := hI.cells hat
      rw [hlen] at hv
      have hg3 := hfz (j * 4 + 3)
      have gmw : g ≠ w.heap.size := fun e1 => by
        obtain ⟨_, cur, hcur⟩ := own_row hI.row (k := g) (by rw [hv]; rfl)
        rw [e1, hM] at hcur; cases hcur
      obtain ⟨q1, q2⟩ := hI.older hat (by rw [hlen]; exact hv)
      rw [olderUpto_set es j he] at q1
      obtain ⟨a0, a1⟩ := HAG.out e (List.mem_of_getElem? he)
      have j0 : (0 : Int) ≤ (j : Int) := Int.natCast_nonneg _
      have j1 : (j : Int) < (n : Int) := by omega
      have Q1 := Lib.hid q1
      have Q2 := Lib.hid q2
      rw [hv] at z1
      clear hI hK hM hk hlen hbw hat hfz q1 q2 d0 d1 d2 z0 z2 he
      obtain ⟨f, t, age, bv, data⟩ := e
      dsimp only at d3 a0 a1 Q1 Q2
      go_wp2
      go_roundg (n - (j + 1))
      case measure => rw [HK.out]; omega
      case rel => exact ⟨j + 1, by omega, rfl, by go_num, Q1.out, KK.out.trans Q2.out, heap_setCell_ne (x := some _) _ MM.out (Ne.symm gmw)⟩
    · obtain rfl : j = n := by omega
      have hup : olderUpto es j = es.map Ent.older := by unfold olderUpto; rw [HN.out, List.take_length, List.drop_length, List.append_nil]
      rw [hup] at hI hlen
      have hrow := hI.row
      rw [hlen] at hrow
      have D := deletefunc_any hrow (fun e he => by obtain ⟨x, z, q, _⟩ := (hI.bytes e he).at; exact ⟨_, _, _, q⟩) hlen.symm hfew hM
      have J := Lib.hid hI
      have hbw2 := hI.lt
      clear hI hK hM hk hup hrow
      go_wp2_with fail
      refine D.mono ?_
      rintro e w1 ⟨v', rfl, hown, hg⟩
      obtain ⟨r1, r2⟩ := J.out.turn hg hown (fun e he => J.out.bytes e (List.mem_filter.1 he).1) (Nat.le_trans (List.length_filter_le _ _) (by rw [hlen]; exact hfew))
      have hb1 : w1.heap[b]? = some (.cells #[.int .i64 nodes, .slice va j vc] 57 (0, 0)) := by
        rw [hg.block b hbw2 (fun e => by obtain ⟨_, cur, hc⟩ := own_row J.out.row e.symm; rw [J.out.box] at hc; cases hc)]; exact J.out.box
      have hsl : ∃ x z, v' = .slice x ((es.map Ent.older).filter fun x => decide (x.age ≤ max most 0)).length z := by
        rcases hown.2 with ⟨rfl, h0⟩ | ⟨_, _, _, rfl, _⟩
        · exact ⟨_, _, by rw [h0]⟩
        · exact ⟨_, _, rfl⟩
      obtain ⟨x, z, rfl⟩ := hsl
      have hmsg := tick_msgs es most
      rw [HMS.out] at hmsg
      have hml : (tickDo ms most).length = ((es.map Ent.older).filter fun x => decide (x.age ≤ max most 0)).length := by rw [← hmsg, List.length_map]
      have hle : ((es.map Ent.older).filter fun x => decide (x.age ≤ max most 0)).length ≤ 256 := Nat.le_trans (List.length_filter_le _ _) (by rw [hlen]; exact hfew)
      have R1 := Lib.hid r1
      have R2 := Lib.hid r2
      have HMG := Lib.hid hmsg
      clear D r1 r2 hown hg hmsg z0 z1 z2 z3 c0 c1 c2 c3
      generalize hLL : ((es.map Ent.older).filter fun x => decide (x.age ≤ max most 0)) = L at *
      have HML := Lib.hid hml
      clear hml
      obtain ⟨⟨c0, c1⟩, c2, c3⟩ := blk2 hb1
      clear hb1
      go_wp2
      go_ret
      rw [HML.out]
      exact ⟨rfl, ⟨_, L, HMG.out, R1.out⟩, KK.out.trans R2.out⟩
end Go.Proofs.Ytoinlhjdmkeaeab
