/- The law BagPlays: whatever is put, taken, copied, and goes, what is told, and who is there, are the document's, step by step. No conditions. -/
import Derived.Test.YtoinlhjdmkeaeabBagActs
import Derived.Test.YtoinlhjdmkeaeabBagRef3
import Derived.Deep.DeepCutAuto
import Derived.Deep.CutBlock
import Derived.Deep.RegionWith
import Derived.Deep.QuietTactic
import Derived.Outline
namespace Go.Proofs.Ytoinlhjdmkeaeab
open Go.ChangeShapes Go.WideShapes Go.ChangeAt Go.RowKit

theorem forUpto_more (ms : List Msg) (node : Int) (j k : Nat) : ∃ r, forUpto ms node (j + k) = forUpto ms node j ++ r := by
  induction k with
  | zero => exact ⟨[], by simp⟩
  | succ k ih =>
    obtain ⟨r, hr⟩ := ih
    refine ⟨r ++ (match ms[j + k]? with | some m => if m.t = node then [((j + k : Nat) : Int)] else [] | none => []), ?_⟩
    rw [← Nat.add_assoc]
    simp only [forUpto, hr, List.append_assoc]
    rfl
theorem forUpto_hit {ms : List Msg} {node : Int} {j n : Nat} {m : Msg} (hm : ms[j]? = some m) (ht : m.t = node) (hn : j < n) : (forUpto ms node n)[(forUpto ms node j).length]? = some (j : Int) ∧ forUpto ms node (j + 1) = forUpto ms node j ++ [(j : Int)] := by
  have h1 : forUpto ms node (j + 1) = forUpto ms node j ++ [(j : Int)] := by simp only [forUpto, hm, if_pos ht]
  obtain ⟨r, hr⟩ := forUpto_more ms node (j + 1) (n - (j + 1))
  rw [show j + 1 + (n - (j + 1)) = n by omega, h1] at hr
  exact ⟨by rw [hr]; simp, h1⟩
theorem forUpto_miss {ms : List Msg} {node : Int} {j : Nat} {m : Msg} (hm : ms[j]? = some m) (ht : m.t ≠ node) : forUpto ms node (j + 1) = forUpto ms node j := by
  simp only [forUpto, hm, if_neg ht, List.append_nil]

/-- What holds at the head of a round. -/
structure PlayIs (A : Nat) (w : World) (b : Nat) (nodes : Int) (j : Nat) (ms : List Msg) (v : Value) (wr : World) : Prop where
  bag : IsBag A A wr b nodes ms
  ref : RefIs A wr v ms
  below : Below w.heap.size w wr
  hA : A ≤ wr.heap.size
  ages : ∀ m ∈ ms, 0 ≤ m.age ∧ m.age ≤ (j : Int)
  datas : ∀ m ∈ ms, ∃ l : List UInt8, m.data = ints l
theorem PlayIs.later {A : Nat} {w : World} {b : Nat} {nodes : Int} {j : Nat} {ms : List Msg} {v : Value} {wr W : World} (h : PlayIs A w b nodes j ms v wr) (hb : Below wr.heap.size wr W) : PlayIs A w b nodes j ms v W :=
  ⟨h.bag.later hb, own_later h.ref hb, h.below.trans (hb.mono h.below.size), Nat.le_trans h.hA hb.size, h.ages, h.datas⟩
theorem PlayIs.step {A : Nat} {w : World} {b : Nat} {nodes : Int} {j : Nat} {ms ms' : List Msg} {v v' : Value} {W w1 w2 : World} (h : PlayIs A w b nodes j ms v W) (hwA : w.heap.size ≤ A) (h1 : IsBag A A w1 b nodes ms') (k1 : Keeps bagT A W w1) (h2 : RefIs A w2 v' ms') (b2 : Below w1.heap.size w1 w2)
    (ha : ∀ m ∈ ms', 0 ≤ m.age ∧ m.age ≤ (j : Int) + 1) (hd : ∀ m ∈ ms', ∃ l : List UInt8, m.data = ints l) : PlayIs A w b nodes (j + 1) ms' v' w2 :=
  have s1 : A ≤ w1.heap.size := Nat.le_trans h.hA k1.below.size
  ⟨h1.later b2, h2, (h.below.trans (k1.below.mono hwA)).trans (b2.mono (Nat.le_trans hwA s1)), Nat.le_trans s1 b2.size, fun m hm => by have := ha m hm; omega, hd⟩
theorem PlayIs.next {A : Nat} {w : World} {b : Nat} {nodes : Int} {j : Nat} {ms : List Msg} {v : Value} {wr : World} (h : PlayIs A w b nodes j ms v wr) : PlayIs A w b nodes (j + 1) ms v wr :=
  ⟨h.bag, h.ref, h.below, h.hA, fun m hm => by have := h.ages m hm; omega, h.datas⟩
theorem own_at {w : World} {B : Nat} {e : TypeId} {size n n' c : Nat} {a : Option Addr} {xs : List Value} (h : w.ownsRow B e size (.slice a n' c) n xs) {k : Nat} {u : Value} (hk : xs[k]? = some u) : ∃ g, a = some ⟨g, 0, none⟩ ∧ g < w.heap.size ∧ w.cell? ⟨g, k, none⟩ = some u := by
  have hkl := (List.getElem?_eq_some_iff.1 hk).1
  rcases h.2 with ⟨h1, h2⟩ | ⟨g, cap, cur, h1, hb, hg, _⟩
  · have := h.1
    rw [h2, Nat.zero_mul] at this
    omega
  · cases h1
    exact ⟨g, rfl, (Array.getElem?_eq_some_iff.1 hg).1, (h.cellAt k (by rw [← h.1]; exact hkl)).trans hk⟩
theorem ref_at {w : World} {B : Nat} {n c : Nat} {a : Option Addr} {ms : List Msg} (h : RefIs B w (.slice a n c) ms) (hn : n = ms.length) {q : Nat} {m : Msg} (hm : ms[q]? = some m) : ∃ g, a = some ⟨g, 0, none⟩ ∧ g < w.heap.size ∧ w.cell? ⟨g, q * 4, none⟩ = some (.int .i64 m.f) ∧ w.cell? ⟨g, q * 4 + 1, none⟩ = some (.int .i64 m.t) ∧ w.cell? ⟨g, q * 4 + 2, none⟩ = some (.string (strOf m.data)) ∧ w.cell? ⟨g, q * 4 + 3, none⟩ = some (.int .i64 m.age) := by
  subst hn
  have c := fun r (hr4 : r < 4) (u : Value) (hu : m.rcells[r]? = some u) => own_at h ((flat_get Msg.rcells 4 Msg.rlen ms q r hr4 hm).trans hu)
  obtain ⟨g, h1, h2, h3⟩ := c 0 (by decide) _ rfl
  obtain ⟨g1, k1, _, h4⟩ := c 1 (by decide) _ rfl
  obtain ⟨g2, k2, _, h5⟩ := c 2 (by decide) _ rfl
  obtain ⟨g3, k3, _, h6⟩ := c 3 (by decide) _ rfl
  subst h1
  cases k1; cases k2; cases k3
  exact ⟨g, rfl, h2, h3, h4, h5, h6⟩
theorem putDo_ages {nodes : Int} {ms : List Msg} {f t : Int} {data : List Int} {j : Nat} (h : ∀ m ∈ ms, 0 ≤ m.age ∧ m.age ≤ (j : Int)) : ∀ m ∈ putDo nodes ms f t data, 0 ≤ m.age ∧ m.age ≤ (j : Int) + 1 := fun m hm => by
  unfold putDo at hm
  split at hm
  · rcases List.mem_append.1 hm with hm | hm
    · have := h m hm; omega
    · simp only [List.mem_singleton] at hm; subst hm; dsimp only; omega
  · have := h m hm; omega
theorem putDo_datas {nodes : Int} {ms : List Msg} {f t : Int} {data : List Int} (h : ∀ m ∈ ms, ∃ l : List UInt8, m.data = ints l) (hd : ∃ l : List UInt8, data = ints l) : ∀ m ∈ putDo nodes ms f t data, ∃ l : List UInt8, m.data = ints l := fun m hm => by
  unfold putDo at hm
  split at hm
  · rcases List.mem_append.1 hm with hm | hm
    · exact h m hm
    · simp only [List.mem_singleton] at hm; subst hm; exact hd
  · exact h m hm
theorem tickDo_ages {ms : List Msg} {most : Int} {j : Nat} (h : ∀ m ∈ ms, 0 ≤ m.age ∧ m.age ≤ (j : Int)) : ∀ m ∈ tickDo ms most, 0 ≤ m.age ∧ m.age ≤ (j : Int) + 1 := fun m hm => by
  unfold tickDo at hm
  obtain ⟨m', hm', rfl⟩ := List.mem_map.1 (List.mem_filter.1 hm).1
  have := h m' hm'
  simp only [Msg.older]
  omega
theorem tickDo_datas {ms : List Msg} {most : Int} (h : ∀ m ∈ ms, ∃ l : List UInt8, m.data = ints l) : ∀ m ∈ tickDo ms most, ∃ l : List UInt8, m.data = ints l := fun m hm => by
  unfold tickDo at hm
  obtain ⟨m', hm', rfl⟩ := List.mem_map.1 (List.mem_filter.1 hm).1
  exact h m' hm'
theorem IsBag.few {A B : Nat} {w : World} {b : Nat} {nodes : Int} {ms : List Msg} (h : IsBag A B w b nodes ms) : ms.length ≤ 256 := by
  obtain ⟨v, es, hms, hI⟩ := h
  rw [← hms, List.length_map]
  exact hI.few

set_option maxHeartbeats 6000000 in
set_option maxRecDepth 100000 in
theorem BagPlays_walk (nodes : Int) (ad : Option Addr) (xs : List Act5) (c : Nat) (w : World) (_hn : (Lit.int .i64 nodes).wf = true) (hx : ActsAt w ad xs) (_ht : True) (hxm : xs.length ≤ maxLen) :
    Calls Try.prog 3 #[.int .i64 nodes, .slice ad xs.length c] w fun e w' => e = .returned (.bool true) ∧ Below w.heap.size w w' := by
  have hxl : xs.length ≤ maxLen := hxm
  unfold maxLen at hxl
  have HX := Lib.hid hx
  obtain ⟨n, hn⟩ : ∃ n, n = xs.length := ⟨_, rfl⟩
  have HN := Lib.hid hn
  rw [← hn] at hxl ⊢
  clear hx hn hxm
  by_cases hno : nodes < 1 ∨ 64 < nodes
  · have hno2 : nodes < 1 ∨ (¬ nodes < 1 ∧ 64 < nodes) := by omega
    rcases hno2 with h | ⟨h, h'⟩
    · go_enter Try.func3, Try.ntmps3
      go_wp2_with fail
      refine (awake_any _).mono ?_
      rintro e w1 ⟨rfl, hb⟩
      go_wp2_with fail
      refine (new_no hno _).mono ?_
      rintro e w2 ⟨rfl, rfl⟩
      go_wp2
      go_ret
      exact ⟨rfl, hb⟩
    · go_enter Try.func3, Try.ntmps3
      go_wp2_with fail
      refine (awake_any _).mono ?_
      rintro e w1 ⟨rfl, hb⟩
      go_wp2_with fail
      refine (new_no hno _).mono ?_
      rintro e w2 ⟨rfl, rfl⟩
      go_wp2
      go_ret
      exact ⟨rfl, hb⟩
  have n1 : 1 ≤ nodes := by omega
  have n2 : nodes ≤ 64 := by omega
  clear hno
  go_enter Try.func3, Try.ntmps3
  go_wp2_with fail
  refine (awake_any _).mono ?_
  rintro e w1 ⟨rfl, hb⟩
  go_wp2_with fail
  refine (new_ok n1 n2 _).mono ?_
  rintro e w2 ⟨b, rfl, h2, b2⟩
  obtain ⟨A, hA⟩ : ∃ A, A = w1.heap.size := ⟨_, rfl⟩
  rw [← hA] at h2
  have hwA : w.heap.size ≤ A := by rw [hA]; exact hb.size
  have S0 := Lib.hid (PlayIs.mk (w := w) (j := 0) (v := .slice none 0 0) h2 (World.ownsRow_nil _ _ _ _) (hb.trans (b2.mono hb.size)) (by rw [hA]; exact b2.size) (by simp) (by simp))
  clear hb h2 b2 hA
  go_wp2_with fail
  go_loopg [8, 9] 60 (fun k s8 s9 wr => ∃ (j : Nat) (ms : List Msg), j ≤ 60 ∧ k = 60 - j ∧ s9 = .int .i64 j ∧ PlayIs A w b nodes j ms s8 wr)
  case atStart => exact ⟨0, [], by omega, rfl, rfl, S0.out⟩
  case round =>
    obtain ⟨j, ms, hj, hk, rfl, hI⟩ := hrel
    obtain ⟨va, vc, rfl⟩ := own_slice hI.ref
    have HI := Lib.hid hI
    have HK := Lib.hid hk
    clear hI hk S0
    by_cases hend : j < n ∧ j < 60
    · obtain ⟨e1, e2⟩ := hend
      obtain ⟨x, hxj⟩ : ∃ x, xs[j]? = some x := ⟨xs[j]'(by rw [← HN.out]; exact e1), List.getElem?_eq_getElem _⟩
      obtain ⟨bx, ox, rfl, hx1, ⟨k0, k1, k2, k3, k4⟩, hby, hkd⟩ := HX.out.at HI.out.below hxj
      have hby0 : BytesAt w x.bv (ints x.l) := by
        obtain ⟨_, _, _, _, _, h, _⟩ := HX.out.at (Below.refl _ _) hxj
        exact h
      obtain ⟨kind, f, t, bv, l, ii⟩ := x
      dsimp only at k0 k1 k2 k3 k4 hby hby0 hkd
      obtain ⟨ba, bc, rfl, _, _⟩ := id hby
      obtain ⟨bl, hbl⟩ : ∃ bl, bl = (ints l).length := ⟨_, rfl⟩
      rw [← hbl] at k3
      rw [← hbl] at hby hby0
      have BY := Lib.hid hby
      have BY0 := Lib.hid hby0
      have HBL := Lib.hid hbl
      have j0 : (j : Int) < (n : Int) := by omega
      have j1 : (j : Int) < 60 := by omega
      have jj0 : (0 : Int) ≤ (j : Int) := by omega
      have hbx : bx < wr.heap.size := Nat.lt_of_lt_of_le hx1 HI.out.below.size
      clear hxj hby hby0 hbl
      by_cases hlong : 200 < bl
      · have hl1 : (200 : Int) < (bl : Int) := by omega
        go_wp2
        go_ret
        exact ⟨rfl, below_alloc HI.out.below _⟩
      have hl1 : ¬ (200 : Int) < (bl : Int) := by omega
      have t0 := Int.lt_tmod_of_pos kind (show (0 : Int) < 5 by decide)
      have t1 := Int.tmod_lt_of_pos kind (show (0 : Int) < 5 by decide)
      go_upto_block 2 with fail
      refine wp_named fun W hW => ?_
      generalize kind.tmod 5 = tt at *
      have wA : W.heap[wr.heap.size]? = some (.cells #[.int .i64 kind, .int .i64 f, .int .i64 t, .slice ba bl bc, .int .i64 ii] 33 (0, 0)) := by rw [hW]; exact heap_at _ _
      have wb : Below wr.heap.size wr W := by rw [hW]; exact below_alloc (Below.refl _ _) _
      have WI := Lib.hid (HI.out.later wb)
      have BYW := Lib.hid (BY.out.later wb)
      have hAA : A ≤ wr.heap.size := HI.out.hA
      have WA := Lib.hid wA
      generalize wr.heap.size = AA at *
      obtain ⟨⟨ca0, ca1, ca2, ca3, ca4⟩, cf0, cf1, cf2, cf3, cf4⟩ := blk5 wA
      clear hW wA wb k0 k1 k2 k3 k4 HI BY hbx
      go_cut [8, 11, 12] (fun s8 s11 s12 wx => ∃ (ms' : List Msg) (er : Int), s11 = .int .i64 er ∧ s12 = .int .i64 er ∧ PlayIs A w b nodes (j + 1) ms' s8 wx ∧ wx.heap[AA]? = some (.cells #[.int .i64 kind, .int .i64 f, .int .i64 t, .slice ba bl bc, .int .i64 ii] 33 (0, 0)))
      case first =>
        as_aux_lemma =>
          have five : tt = 0 ∨ tt = 1 ∨ tt = 2 ∨ tt = 3 ∨ (tt ≠ 0 ∧ tt ≠ 1 ∧ tt ≠ 2 ∧ tt ≠ 3) := by omega
          rcases five with rfl | rfl | rfl | rfl | ⟨u0, u1, u2, u3⟩
          · have P1 := Lib.hid (put_any WI.out.bag WI.out.hA WI.out.hA BYW.out f t)
            go_wp2_with fail
            refine P1.out.mono ?_
            rintro e w3 ⟨rfl, h3, kk3⟩
            have a3 := kk3.old _ _ WA.out rfl
            have A3 := Lib.hid a3
            have b3 : Below w.heap.size w w3 := WI.out.below.trans (kk3.below.mono hwA)
            have CV := str_of (BY0.out.later b3)
            have rr3 : RefIs A w3 (.slice va ms.length vc) ms := kk3.own WI.out.ref rfl
            have P2 := refput_any rr3 (Nat.le_trans WI.out.hA kk3.below.size) WI.out.bag.few nodes f t 0 (ints l)
            rw [strOf_ints] at P2
            have P2 := Lib.hid P2
            have H3 := Lib.hid h3
            have K3 := Lib.hid kk3
            clear h3 kk3 a3 b3 rr3 ca0 ca1 ca2 ca3 ca4 cf0 cf1 cf2 cf3 cf4
            obtain ⟨⟨ca0, ca1, ca2, ca3, ca4⟩, cf0, cf1, cf2, cf3, cf4⟩ := blk5 A3.out
            go_wp2_with fail
            refine P2.out.mono ?_
            rintro e w4 ⟨v4, rfl, h4, b4⟩
            have A4 := Lib.hid (heap_kept b4 A3.out (Array.getElem?_eq_some_iff.1 A3.out).1)
            have PI := Lib.hid (WI.out.step hwA H3.out K3.out h4 b4 (putDo_ages WI.out.ages) (putDo_datas WI.out.datas ⟨l, rfl⟩))
            clear h4 b4 P1 P2
            go_wp2
            go_meet
            exact ⟨_, _, rfl, rfl, PI.out, A4.out⟩
          · have P1 := Lib.hid (put_any WI.out.bag WI.out.hA WI.out.hA BYW.out f t)
            go_wp2_with fail
            refine P1.out.mono ?_
            rintro e w3 ⟨rfl, h3, kk3⟩
            have a3 := kk3.old _ _ WA.out rfl
            have A3 := Lib.hid a3
            have b3 : Below w.heap.size w w3 := WI.out.below.trans (kk3.below.mono hwA)
            have CV := str_of (BY0.out.later b3)
            have rr3 : RefIs A w3 (.slice va ms.length vc) ms := kk3.own WI.out.ref rfl
            have P2 := refput_any rr3 (Nat.le_trans WI.out.hA kk3.below.size) WI.out.bag.few nodes f t 0 (ints l)
            rw [strOf_ints] at P2
            have P2 := Lib.hid P2
            have H3 := Lib.hid h3
            have K3 := Lib.hid kk3
            clear h3 kk3 a3 b3 rr3 ca0 ca1 ca2 ca3 ca4 cf0 cf1 cf2 cf3 cf4
            obtain ⟨⟨ca0, ca1, ca2, ca3, ca4⟩, cf0, cf1, cf2, cf3, cf4⟩ := blk5 A3.out
            go_wp2_with fail
            refine P2.out.mono ?_
            rintro e w4 ⟨v4, rfl, h4, b4⟩
            have A4 := Lib.hid (heap_kept b4 A3.out (Array.getElem?_eq_some_iff.1 A3.out).1)
            have PI := Lib.hid (WI.out.step hwA H3.out K3.out h4 b4 (putDo_ages WI.out.ages) (putDo_datas WI.out.datas ⟨l, rfl⟩))
            clear h4 b4 P1 P2
            go_wp2
            go_meet
            exact ⟨_, _, rfl, rfl, PI.out, A4.out⟩
          · by_cases hr : 0 ≤ ii ∧ ii < (ms.length : Int)
            · obtain ⟨i, rfl⟩ := Int.eq_ofNat_of_zero_le hr.1
              obtain ⟨m, hm⟩ : ∃ m, ms[i]? = some m := ⟨ms[i]'(by omega), List.getElem?_eq_getElem _⟩
              have hmem := List.mem_of_getElem? hm
              obtain ⟨lm, hlm⟩ := WI.out.datas m hmem
              have T1 := take_yes WI.out.bag WI.out.hA hm
              have T2 : ∀ W', RefIs A W' (.slice va ms.length vc) ms → A ≤ W'.heap.size → _ := fun W' h1 h2 => reftake_yes (w := W') h1 h2 WI.out.bag.few hm
              obtain ⟨mf, mt, ma, md⟩ := m
              dsimp only at hlm
              subst hlm
              simp only [strOf_ints] at T2
              have T1 := Lib.hid T1
              have T2 := Lib.hid T2
              clear hr hm hmem
              go_wp2_with fail
              refine T1.out.mono ?_
              rintro e w3 ⟨bv, rfl, y3, h3, kk3⟩
              obtain ⟨za, zc, rfl⟩ := own_slice y3
              have a3 := kk3.old _ _ WA.out rfl
              have A3 := Lib.hid a3
              have R3 : Hid (RefIs A w3 (.slice va ms.length vc) ms) := kk3.own WI.out.ref rfl
              have Y3 := Lib.hid y3
              have H3 := Lib.hid h3
              have K3 := Lib.hid kk3
              have s3 : A ≤ w3.heap.size := Nat.le_trans WI.out.hA kk3.below.size
              have lt3 : AA < w3.heap.size := (Array.getElem?_eq_some_iff.1 a3).1
              clear y3 h3 kk3 a3 ca0 ca1 ca2 ca3 ca4 cf0 cf1 cf2 cf3 cf4
              obtain ⟨⟨ca0, ca1, ca2, ca3, ca4⟩, cf0, cf1, cf2, cf3, cf4⟩ := blk5 A3.out
              go_wp2_with fail
              refine (T2.out _ (own_later R3.out (below_alloc (Below.refl _ _) _)) (by simp; omega)).mono ?_
              rintro e w4 ⟨v4, rfl, h4, b4⟩
              have b4' : Below w3.heap.size w3 w4 := (below_alloc (Below.refl _ _) _).trans (b4.mono (by simp))
              have x4 : w4.heap[w3.heap.size]? = some (.cells #[.int .i64 mf, .int .i64 mt, .slice za lm.length zc] 31 (0, 0)) := heap_kept b4 (heap_at _ _) (by simp)
              have CV := str_of (BytesIs.at (own_later Y3.out (b4'.trans ((below_alloc (Below.refl w4.heap.size w4) (.cells #[.int .i64 mf, .int .i64 mt, .string ⟨lm.toArray⟩, .int .i64 ma] 38)).mono b4'.size))))
              rw [show (ints lm).length = lm.length by simp] at CV
              have A4 := Lib.hid (heap_kept b4' A3.out lt3)
              have lt4 : w3.heap.size < w4.heap.size := (Array.getElem?_eq_some_iff.1 x4).1
              have PI := Lib.hid (WI.out.step hwA H3.out K3.out h4 b4' (fun m hm => by have := WI.out.ages m (List.mem_of_mem_eraseIdx hm); omega) (fun m hm => WI.out.datas m (List.mem_of_mem_eraseIdx hm)))
              obtain ⟨⟨x0, x1, x2⟩, x3, x4', x5⟩ := blk3 x4
              clear h4 b4 b4' x4 T1 T2 ca0 ca1 ca2 ca3 ca4 cf0 cf1 cf2 cf3 cf4
              go_wp2
              go_meet
              exact ⟨_, _, rfl, rfl, PI.out.later (below_alloc (Below.refl _ _) _), heap_up A4.out⟩
            · have hr' : ii < 0 ∨ (ms.length : Int) ≤ ii := by omega
              have T1 := Lib.hid (take_no WI.out.bag hr')
              have T2 : ∀ W', RefIs A W' (.slice va ms.length vc) ms → _ := fun W' h1 => reftake_no (w := W') h1 hr'
              have T2 := Lib.hid T2
              have CN := fun w => str_of (w := w) (v := .slice none 0 0) (l := []) ⟨none, 0, rfl, by simp, by simp⟩
              clear hr hr'
              go_wp2_with fail
              refine T1.out.mono ?_
              rintro e w3 ⟨rfl, b3⟩
              have A3 := Lib.hid (heap_kept b3 WA.out (Array.getElem?_eq_some_iff.1 WA.out).1)
              have W3 := Lib.hid (WI.out.later b3)
              have lt3 : AA < w3.heap.size := (Array.getElem?_eq_some_iff.1 A3.out).1
              clear b3 ca0 ca1 ca2 ca3 ca4 cf0 cf1 cf2 cf3 cf4
              obtain ⟨⟨ca0, ca1, ca2, ca3, ca4⟩, cf0, cf1, cf2, cf3, cf4⟩ := blk5 A3.out
              go_wp2_with fail
              refine (T2.out _ (own_later W3.out.ref (below_alloc (Below.refl _ _) _))).mono ?_
              rintro e w4 ⟨rfl, b4⟩
              have b4' : Below w3.heap.size w3 w4 := (below_alloc (Below.refl _ _) _).trans (b4.mono (by simp))
              have x4 : w4.heap[w3.heap.size]? = some (.cells #[.int .i64 0, .int .i64 0, .slice none 0 0] 31 (0, 0)) := heap_kept b4 (heap_at _ _) (by simp)
              have A4 := Lib.hid (heap_kept b4' A3.out lt3)
              have lt4 : w3.heap.size < w4.heap.size := (Array.getElem?_eq_some_iff.1 x4).1
              have PI := Lib.hid (W3.out.later b4').next
              obtain ⟨⟨x0, x1, x2⟩, x3, x4', x5⟩ := blk3 x4
              clear b4 b4' x4 T1 T2 ca0 ca1 ca2 ca3 ca4 cf0 cf1 cf2 cf3 cf4
              go_wp2
              go_meet
              exact ⟨_, _, rfl, rfl, PI.out.later (below_alloc (Below.refl _ _) _), heap_up A4.out⟩
          · by_cases hr : 0 ≤ ii ∧ ii < (ms.length : Int)
            · obtain ⟨i, rfl⟩ := Int.eq_ofNat_of_zero_le hr.1
              obtain ⟨m, hm⟩ : ∃ m, ms[i]? = some m := ⟨ms[i]'(by omega), List.getElem?_eq_getElem _⟩
              have hmem := List.mem_of_getElem? hm
              have hd := WI.out.datas m hmem
              have T1 := copy_yes WI.out.bag WI.out.hA WI.out.hA hm
              obtain ⟨L, hL⟩ : ∃ L, L = ms.length := ⟨_, rfl⟩
              have HL := Lib.hid hL
              have W0 : PlayIs A w b nodes j ms (.slice va L vc) W := by rw [HL.out]; exact WI.out
              have T2 : ∀ W', RefIs A W' (.slice va L vc) ms → A ≤ W'.heap.size → _ := fun W' h1 h2 => refput_any (w := W') h1 h2 WI.out.bag.few nodes m.f m.t m.age m.data
              have hat := ref_at W0.ref HL.out hm
              obtain ⟨g, rfl, hg, _⟩ := hat
              have hl0 : (i : Int) < (L : Int) := by rw [HL.out]; exact hr.2
              have hl1 : (0 : Int) ≤ (i : Int) := hr.1
              have MM := Lib.hid hm
              have HD := Lib.hid hd
              obtain ⟨mf, mt, ma, md⟩ := m
              dsimp only at T1 T2
              have T1 := Lib.hid T1
              have T2 := Lib.hid T2
              have W0 := Lib.hid W0
              rw [← HL.out]
              clear hr hm hmem hd hL WI
              go_wp2_with fail
              refine T1.out.mono ?_
              rintro e w3 ⟨rfl, h3, kk3⟩
              have a3 := kk3.old _ _ WA.out rfl
              have A3 := Lib.hid a3
              have R3 : Hid (RefIs A w3 (.slice (some ⟨g, 0, none⟩) L vc) ms) := kk3.own W0.out.ref rfl
              obtain ⟨g', hgg, _, r0, r1, r2, r3⟩ := ref_at R3.out HL.out MM.out
              obtain rfl : g = g' := by simpa using hgg
              dsimp only at r0 r1 r2 r3
              have H3 := Lib.hid h3
              have K3 := Lib.hid kk3
              have s3 : A ≤ w3.heap.size := Nat.le_trans W0.out.hA kk3.below.size
              clear h3 kk3 a3 hgg ca0 ca1 ca2 ca3 ca4 cf0 cf1 cf2 cf3 cf4
              obtain ⟨⟨ca0, ca1, ca2, ca3, ca4⟩, cf0, cf1, cf2, cf3, cf4⟩ := blk5 A3.out
              go_wp2_with fail
              refine (T2.out _ R3.out s3).mono ?_
              rintro e w4 ⟨v4, rfl, h4, b4⟩
              have A4 := Lib.hid (heap_kept b4 A3.out (Array.getElem?_eq_some_iff.1 A3.out).1)
              have PI := Lib.hid (W0.out.step hwA H3.out K3.out h4 b4 (putDo_ages W0.out.ages) (putDo_datas W0.out.datas HD.out))
              clear h4 b4 T1 T2
              go_wp2
              go_meet
              exact ⟨_, _, rfl, rfl, PI.out, A4.out⟩
            · have hr' : ii < 0 ∨ (ms.length : Int) ≤ ii := by omega
              have T1 := Lib.hid (copy_no WI.out.bag hr')
              have two : ii < 0 ∨ (0 ≤ ii ∧ ¬ ii < (ms.length : Int)) := by omega
              clear hr hr'
              rcases two with h | ⟨h, h'⟩
              · go_wp2_with fail
                refine T1.out.mono ?_
                rintro e w3 ⟨rfl, rfl⟩
                go_wp2
                go_meet
                exact ⟨_, _, rfl, rfl, WI.out.next, WA.out⟩
              · go_wp2_with fail
                refine T1.out.mono ?_
                rintro e w3 ⟨rfl, rfl⟩
                go_wp2
                go_meet
                exact ⟨_, _, rfl, rfl, WI.out.next, WA.out⟩
          · have z0 : (tt == 0) = false := by simpa using u0
            have z1 : (tt == 1) = false := by simpa using u1
            have z2 : (tt == 2) = false := by simpa using u2
            have z3 : (tt == 3) = false := by simpa using u3
            have T1 := Lib.hid (tick_any WI.out.bag WI.out.hA (fun m hm => by have := WI.out.ages m hm; omega) ii)
            have T2 : ∀ W', RefIs A W' (.slice va ms.length vc) ms → _ := fun W' h1 => reftick_any (w := W') h1 WI.out.bag.few (fun m hm => by have := WI.out.ages m hm; omega) ii
            have T2 := Lib.hid T2
            clear u0 u1 u2 u3
            go_wp2_with fail
            refine T1.out.mono ?_
            rintro e w3 ⟨rfl, h3, kk3⟩
            have a3 := kk3.old _ _ WA.out rfl
            have A3 := Lib.hid a3
            have R3 : Hid (RefIs A w3 (.slice va ms.length vc) ms) := kk3.own WI.out.ref rfl
            have H3 := Lib.hid h3
            have K3 := Lib.hid kk3
            have s3 : A ≤ w3.heap.size := Nat.le_trans WI.out.hA kk3.below.size
            clear h3 kk3 a3 ca0 ca1 ca2 ca3 ca4 cf0 cf1 cf2 cf3 cf4
            obtain ⟨⟨ca0, ca1, ca2, ca3, ca4⟩, cf0, cf1, cf2, cf3, cf4⟩ := blk5 A3.out
            generalize hdif : (ms.length : Int) - ((tickDo ms ii).length : Int) = dif at *
            have HDF := Lib.hid hdif
            clear hdif
            go_wp2_with fail
            refine (T2.out _ R3.out).mono ?_
            rintro e w4 ⟨v4, rfl, h4, b4⟩
            have A4 := Lib.hid (heap_kept b4 A3.out (Array.getElem?_eq_some_iff.1 A3.out).1)
            have PI := Lib.hid (WI.out.step hwA H3.out K3.out (own_mono h4 s3) b4 (tickDo_ages WI.out.ages) (tickDo_datas WI.out.datas))
            clear h4 b4 T1 T2
            go_wp2
            go_meet
            exact ⟨_, _, rfl, rfl, PI.out, A4.out⟩
      case rest =>
        as_aux_lemma =>
          obtain ⟨ms', er, rfl, rfl, hPI, hA2⟩ := hcut
          obtain ⟨xa, xc, rfl⟩ := own_slice hPI.ref
          obtain ⟨L, hL⟩ : ∃ L, L = ms'.length := ⟨_, rfl⟩
          have HL := Lib.hid hL
          have PI : Hid (PlayIs A w b nodes (j + 1) ms' (.slice xa L xc) wc) := by rw [HL.out]; exact Lib.hid hPI
          have LN := PI.out.bag.len
          have FR := for_any PI.out.bag t
          rw [← hL] at LN FR ⊢
          have FR := Lib.hid FR
          have hfew : L ≤ 256 := by rw [hL]; exact PI.out.bag.few
          have A2 := Lib.hid hA2
          obtain ⟨⟨ca0, ca1, ca2, ca3, ca4⟩, cf0, cf1, cf2, cf3, cf4⟩ := blk5 hA2
          clear hL hPI hA2 WI WA BYW t0 t1
          go_wp2_with fail
          refine LN.mono ?_
          rintro e w4 ⟨rfl, rfl⟩
          clear LN
          go_wp2_with fail
          refine FR.out.mono ?_
          rintro e w5 ⟨v5, rfl, y5, b5⟩
          obtain ⟨xb, xd, rfl⟩ := own_slice y5
          have P5 := Lib.hid (PI.out.later b5)
          have A5 := heap_kept b5 A2.out (Array.getElem?_eq_some_iff.1 A2.out).1
          have B5 := Lib.hid b5
          have Y5 := Lib.hid y5
          clear y5 b5 ca0 ca1 ca2 ca3 ca4 cf0 cf1 cf2 cf3 cf4 FR
          obtain ⟨⟨ca0, ca1, ca2, ca3, ca4⟩, cf0, cf1, cf2, cf3, cf4⟩ := blk5 A5
          obtain ⟨LL, hLL⟩ : ∃ LL, LL = (forUpto ms' t L).length := ⟨_, rfl⟩
          have HLL := Lib.hid hLL
          have hLLm : LL ≤ L := by rw [hLL]; exact forUpto_len ms' t L
          rw [← hLL] at Y5 ⊢
          clear hLL A5
          go_wp2_with fail
          go_loopg [22, 23] L (fun k s22 s23 wr => ∃ (q d : Nat), q ≤ L ∧ k = L - q ∧ s23 = .int .i64 q ∧ s22 = .int .i64 (forUpto ms' t q).length ∧ wr = w5.drewN d)
          case atStart => exact ⟨0, 0, Nat.zero_le _, rfl, rfl, rfl, rfl⟩
          case round =>
            obtain ⟨q, d, hq, hk2, rfl, rfl, rfl⟩ := hrel
            have HK2 := Lib.hid hk2
            have hf1 := forUpto_len ms' t q
            obtain ⟨F, hF⟩ : ∃ F, F = (forUpto ms' t q).length := ⟨_, rfl⟩
            rw [← hF] at hf1 ⊢
            have HF := Lib.hid hF
            clear hk2 hF
            by_cases hql : q < L
            · obtain ⟨m, hm⟩ : ∃ m, ms'[q]? = some m := ⟨ms'[q]'(by rw [← HL.out]; exact hql), List.getElem?_eq_getElem _⟩
              obtain ⟨g, rfl, hg, _, r1, _, _⟩ := ref_at P5.out.ref HL.out hm
              have q0 : (0 : Int) ≤ (q : Int) := by omega
              have q1 : (q : Int) < (L : Int) := by omega
              by_cases hmt : m.t = t
              · obtain ⟨hit1, hit2⟩ := forUpto_hit hm hmt hql
                rw [← HF.out] at hit1
                have hFl : F < LL := by rw [HLL.out]; exact (List.getElem?_eq_some_iff.1 hit1).1
                obtain ⟨g5, rfl, hg5, r5⟩ := own_at Y5.out (u := .int .i64 (q : Int)) (k := F) (by rw [List.getElem?_map, hit1]; rfl)
                have f0 : (0 : Int) ≤ (F : Int) := by omega
                have f1 : (F : Int) < (LL : Int) := by omega
                rw [hmt] at r1
                have HIT := Lib.hid hit2
                clear hit1 hit2 hm hmt
                go_wp2_with fail
                go_quiet (fail)
                go_wp2
                go_roundg (L - (q + 1))
                case measure => rw [HK2.out]; omega
                case rel => exact ⟨q + 1, _, by omega, rfl, by go_num, by rw [HIT.out, List.length_append, ← HF.out]; go_num, rfl⟩
              · have MS := Lib.hid (forUpto_miss hm hmt)
                have e1 : (m.t == t) = false := by simpa using hmt
                have e2 : (m.t != t) = true := by simpa using hmt
                clear hm hmt
                go_wp2_with fail
                go_quiet (fail)
                go_wp2
                go_roundg (L - (q + 1))
                case measure => rw [HK2.out]; omega
                case rel => exact ⟨q + 1, _, by omega, rfl, by go_num, by rw [MS.out, ← HF.out], rfl⟩
            · obtain rfl : q = L := by omega
              have hFF : F = LL := by rw [HF.out, HLL.out]
              subst hFF
              clear hq hql
              go_wp2
              go_roundg (60 - (j + 1))
              case measure => rw [HK.out]; omega
              case rel => exact ⟨j + 1, ms', by omega, rfl, by go_num, P5.out.later (below_drewN (Below.refl _ _) _)⟩
    · have hout : ¬ (j < n ∧ j < 60) := hend
      have two : n ≤ j ∨ (j < n ∧ j = 60) := by omega
      clear hend hout
      rcases two with h | ⟨h, h'⟩
      · have h1 : ¬ (j : Int) < (n : Int) := by omega
        go_wp2
        go_ret
        exact ⟨rfl, HI.out.below⟩
      · subst h'
        have h1 : (60 : Int) < (n : Int) := by omega
        go_wp2
        go_ret
        exact ⟨rfl, HI.out.below⟩
set_option maxRecDepth 100000 in
theorem BagPlays_lifted (os : Os) (started : os.Started) (H : Type) (enc : TypeId × Value → H) :
    ReturnsInHanded {} Try.checked os 3 .any (Rows.bagPlaysSpec.pre6 enc Try.prog Try.f3 Rows.bagPlaysRow.domain false) (Rows.bagPlaysSpec.post enc Try.prog Try.f3 false true false false) := by
  refine returnsInHanded_of_change (C := Try.checked) own started (by kernel_rfl) Try.func3
    (ChangeSpec.witness6 (enc := enc) (C := Try.checked) false ⟨#[], #[.int .i64 0, .slice none 0 0], []⟩ 8 (by kernel_rfl) (by kernel_rfl) (by kernel_rfl) (by kernel_rfl)) ?_
  intro W base args ds gs before hval0 hW hcnd _
  have hval : ∀ (j : Nat) t v, Try.f3.params[j]? = some t → args[j]? = some v → Value.okWide Try.prog W .any base t v := hval0
  have hW' := hW
  obtain ⟨p, q, hA0, hV, rfl, hfz, hnd⟩ := hW
  have hA : DataW.TrodAll enc Try.prog W 0 (fun _ => true) true Try.f3.params.toList args.toList ds p := hA0
  rw [Try.params3] at hA hval
  obtain ⟨v0, vs0, d0, ds0, p0, q0, hargs, rfl, rfl, h0, r0⟩ := trodAll_cons hA
  obtain ⟨v1, vs1, d1, ds1, p1, q1, rfl, rfl, rfl, h1, r1⟩ := trodAll_cons r0
  obtain ⟨rfl, rfl, rfl⟩ := trodAll_nil r1
  obtain rfl : args = #[v0, v1] := by cases args; simp_all
  obtain ⟨a0, rfl, rfl, rfl, w0⟩ := open_int Try.underlying3 (hval 0 3 v0 rfl rfl) h0
  obtain ⟨a1, z1, c1, rfl, x1, y1, l1⟩ := acts_of (hval 1 22 v1 rfl rfl) h1
  refine (BagPlays_walk a0 a1 z1 c1 W w0 x1 y1 l1).mono fun e W' ⟨he, hb⟩ => ?_
  subst he
  exact ⟨_, rfl, law_post laidOut (by kernel_rfl) rfl rfl Try.underlying4 rfl hW' hb⟩
theorem BagPlays_holds : Rows.BagPlaysSaid :=
  OpenClaim.holds_of_wide 3 Try.f3 rfl rfl rfl rfl rfl rfl rfl ⟨rfl, rfl, rfl, rfl, rfl⟩ rfl rfl rfl rfl rfl (by kernel_rfl) Try.func3 (by kernel_rfl)
    (of_decide_eq_true (by kernel_rfl)) (by unfold Func.isWrapper; rw [if_neg (by decide +kernel)]; exact ⟨rfl, rfl⟩)
    (fun os started H enc _ => BagPlays_lifted os started H enc)
end Go.Proofs.Ytoinlhjdmkeaeab
