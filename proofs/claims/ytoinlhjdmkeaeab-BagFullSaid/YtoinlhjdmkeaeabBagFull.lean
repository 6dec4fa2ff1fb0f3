/- The law BagFull: there are never more than may be; what is put stays as it was. -/
import Derived.Test.YtoinlhjdmkeaeabBagAw
namespace Go.Proofs.Ytoinlhjdmkeaeab
open Go.ChangeShapes Go.WideShapes Go.ChangeAt Go.RowKit

theorem new_ok2 {nodes : Int} (h0 : 1 ≤ nodes) (h1 : nodes ≤ 64) (w : World) :
    Calls Try.prog 8 #[.int .i64 nodes] w fun e w' => ∃ b, e = .returned (.tuple #[.pointer (some ⟨b, 0, none⟩), .int .i64 0]) ∧ (∀ B, w.heap.size ≤ B → IsBag w.heap.size B w' b nodes []) ∧ Below w.heap.size w w' := by
  go_enter Try.func8, Try.ntmps8
  go_wp2
  go_ret2
  refine ⟨_, rfl, fun B hB => ⟨.slice none 0 0, [], rfl, ⟨heap_at _ _, World.ownsRow_nil _ _ _ _, by simp, by simp, Nat.le_refl _, hB⟩⟩, below_alloc (Below.refl _ _) _⟩
theorem u8s {zs : List Int} (h : ∀ n ∈ zs, (Lit.int .u8 n).wf = true) : ∃ l : List UInt8, zs = ints l := by
  refine ⟨zs.map fun z => UInt8.ofNat z.toNat, ?_⟩
  unfold ints
  rw [List.map_map]
  induction zs with
  | nil => rfl
  | cons z r ih =>
    rw [List.map_cons, ← ih (fun n hn => h n (List.mem_cons_of_mem _ hn))]
    have hz : 0 ≤ z ∧ z ≤ 255 := by simpa [Lit.wf, IntKind.min, IntKind.max, IntKind.signed, IntKind.bits] using h z (by simp)
    congr 1
    simp only [Function.comp_apply, UInt8.toNat_ofNat']
    omega
def fullMsgs (l : List UInt8) : Nat → List Msg
  | 0 => []
  | j + 1 => fullMsgs l j ++ [⟨((j % 3 : Nat) : Int), 1, 0, ints l⟩]
theorem full_len (l : List UInt8) : ∀ j, (fullMsgs l j).length = j
  | 0 => rfl
  | j + 1 => by simp [fullMsgs, full_len l j]
theorem full_at (l : List UInt8) {i : Nat} : ∀ {j : Nat}, i < j → (fullMsgs l j)[i]? = some ⟨((i % 3 : Nat) : Int), 1, 0, ints l⟩
  | 0, h => absurd h (Nat.not_lt_zero _)
  | j + 1, h => by
    simp only [fullMsgs]
    by_cases e : i < j
    · rw [List.getElem?_append_left (by rw [full_len]; exact e)]; exact full_at l e
    · obtain rfl : i = j := by omega
      rw [List.getElem?_append_right (by rw [full_len]; exact Nat.le_refl _), full_len, Nat.sub_self]; rfl
theorem IsBag.low {A B : Nat} {w : World} {b : Nat} {nodes : Int} {ms : List Msg} (h : IsBag A B w b nodes ms) {a : Addr} (ha : a.block < B) (hb : b ≠ a.block) (u : Value) : IsBag A B (w.setCell a u) b nodes ms := by
  obtain ⟨v, es, hms, hI⟩ := h
  exact ⟨v, es, hms, heap_setCell_ne (x := some _) _ hI.box hb, own_low hI.row ha u, fun e he => own_low (hI.bytes e he) ha u, hI.few, hI.hb, hI.hB⟩
theorem put_full {A B : Nat} {w : World} {b : Nat} {nodes : Int} {ms : List Msg} {mv : Value} {data : List Int} (h : IsBag A B w b nodes ms) (hA : A ≤ w.heap.size) (hB : B ≤ w.heap.size) (hm : BytesAt w mv data) {f t : Int} (f0 : 0 ≤ f) (f1 : f < nodes) (t0 : 0 ≤ t) (t1 : t < nodes) (hl : data.length ≤ 2097152) (hn : ms.length = 256) :
    Calls Try.prog 9 #[.pointer (some ⟨b, 0, none⟩), .agg #[.int .i64 f, .int .i64 t, mv]] w fun e w' => e = .returned (.int .i64 31) ∧ IsBag A B w' b nodes ms ∧ Keeps bagT A w w' := by
  have P := put_any h hA hB hm f t
  have hc : putCode nodes ms.length f t data.length = 31 := by
    have h1 : there nodes f = true := by simp [there, f0, f1]
    have h2 : there nodes t = true := by simp [there, t0, t1]
    unfold putCode
    rw [if_pos ⟨h1, h2⟩, if_neg (by omega), if_pos hn]
  unfold PutPost putDo at P
  rw [hc, if_neg (by decide)] at P
  exact P

theorem bytes_of_row {w : World} {H : Nat} {C : Array Value} {fr : Nat × Nat} {l : List UInt8} (h : w.heap[H]? = some (.cells C 5 fr)) (hC : ∀ (j : Nat) (y : Int), (ints l)[j]? = some y → C[j]? = some (.int .u8 y)) (cap : Nat) : BytesAt w (.slice (some ⟨H, 0, none⟩) l.length cap) (ints l) :=
  ⟨_, cap, by simp, by simp, fun j y hj => ⟨H, 0, rfl, by rw [Nat.zero_add]; simp [World.cell?, h, hC j y hj]⟩⟩
theorem bytesRow_at (l : List UInt8) (cap : Nat) (j : Nat) (y : Int) (h : (ints l)[j]? = some y) : (bytesRow ⟨l.toArray⟩ cap)[j]? = some (.int .u8 y) := by
  unfold ints at h
  rw [List.getElem?_map] at h
  obtain ⟨b, hb, rfl⟩ := Option.map_eq_some_iff.1 h
  have hl := (List.getElem?_eq_some_iff.1 hb).1
  unfold bytesRow
  rw [Array.getElem?_append_left (by simpa using hl)]
  simp [hb]
theorem row_unfrozen {w : World} {H : Nat} {C : Array Value} {t : TypeId} (h : w.heap[H]? = some (.cells C t (C.size, C.size + 1))) {j : Nat} (hj : j < C.size) : w.frozen? ⟨H, j, none⟩ = false := by
  simp [World.frozen?, h]
  omega

set_option maxHeartbeats 4000000 in
set_option maxRecDepth 100000 in
theorem BagFull_walk (u : Int) (ad : Option Addr) (zs : List Int) (c : Nat) (x : Int) (w : World) (hu : (Lit.int .u16 u).wf = true) (hx : IntsAt w .u8 ad zs) (hw : ∀ n ∈ zs, (Lit.int .u8 n).wf = true) (hl : zs.length ≤ maxLen) (_hxx : (Lit.int .u8 x).wf = true) :
    Calls Try.prog 4 #[.int .u16 u, .slice ad zs.length c, .int .u8 x] w fun e w' => e = .returned (.bool true) ∧ Below w.heap.size w w' := by
  have hl' : zs.length ≤ maxLen := hl
  unfold maxLen at hl'
  have hu0 : 0 ≤ u ∧ u ≤ 65535 := by simpa [Lit.wf, IntKind.min, IntKind.max, IntKind.signed, IntKind.bits] using hu
  obtain ⟨T, hT, hT4⟩ : ∃ T : Nat, u.tmod 400 = (T : Int) ∧ T < 400 := ⟨(u.tmod 400).toNat, by rw [Int.tmod_eq_emod_of_nonneg hu0.1]; omega, by rw [Int.tmod_eq_emod_of_nonneg hu0.1]; omega⟩
  obtain ⟨l, hzl⟩ := u8s hw
  subst hzl
  have X := Lib.hid hx
  obtain ⟨n, hn⟩ : ∃ n, n = (ints l).length := ⟨_, rfl⟩
  have HN := Lib.hid hn
  rw [← hn] at hl' ⊢
  clear hx hw hl hn hu hu0
  by_cases h0 : n = 0
  · subst h0
    go_enter Try.func4, Try.ntmps4
    go_wp2_with fail
    refine (awake_any _).mono ?_
    rintro e w1 ⟨rfl, b1⟩
    go_wp2
    go_ret
    exact ⟨rfl, b1⟩
  by_cases hbig : 50 < n
  · have hbz : (50 : Int) < (n : Int) := by omega
    have hne : ((n : Int) == 0) = false := by simp; omega
    go_enter Try.func4, Try.ntmps4
    go_wp2_with fail
    refine (awake_any _).mono ?_
    rintro e w1 ⟨rfl, b1⟩
    go_wp2
    go_ret
    exact ⟨rfl, b1⟩
  have hbz : ¬ (50 : Int) < (n : Int) := by omega
  have hne : ((n : Int) == 0) = false := by simp; omega
  go_enter Try.func4, Try.ntmps4
  go_wp2_with fail
  refine (awake_any _).mono ?_
  rintro e w1 ⟨rfl, b1⟩
  go_wp2_with fail
  refine (new_ok2 (by decide) (by decide) _).mono ?_
  rintro e w2 ⟨b, rfl, h2, b2⟩
  obtain ⟨A, hA⟩ : ∃ A, A = w1.heap.size := ⟨_, rfl⟩
  rw [← hA] at h2
  have hwA : w.heap.size ≤ A := by rw [hA]; exact b1.size
  have hB : Below w.heap.size w w2 := b1.trans (b2.mono b1.size)
  have hAs : A ≤ w2.heap.size := by rw [hA]; exact b2.size
  have CV : (convert 29 9 (.slice ad n c)).run Try.prog w2 = .ok (.string ⟨l.toArray⟩) w2 := by
    rw [HN.out]
    refine str_of ⟨ad, c, rfl, fun y hy => ?_, fun j y hj => ?_⟩
    · obtain ⟨bx, ox, h1, _⟩ := X.out 0 (by rw [← HN.out]; omega)
      rw [hy] at h1; cases h1; rfl
    · obtain ⟨bx, ox, h1, _, h3⟩ := X.out.at hB (List.getElem?_eq_some_iff.1 hj).1
      refine ⟨bx, ox, h1, h3.trans ?_⟩
      rw [List.getD_eq_getElem?_getD, hj]; rfl
  have BV := run_bytes_of_string (P := Try.prog) w2 9 29 5 ⟨l.toArray⟩ Try.underlying9 Try.underlying29 Try.underlying5
  have H2 := Lib.hid h2
  have HB := Lib.hid hB
  clear b1 b2 hA h2 hB
  go_wp2_with fail
  clear CV BV
  have hln : l.length = n := by rw [HN.out]; simp
  obtain ⟨cap, hcap⟩ : ∃ cap, cap = grownCap w2 l.length 0 5 := ⟨_, rfl⟩
  rw [← hcap]
  have hCat := bytesRow_at l cap
  have hCsz : 0 < (bytesRow ⟨l.toArray⟩ cap).size := by
    unfold bytesRow
    simp
    omega
  generalize hCC : bytesRow ⟨l.toArray⟩ cap = C at *
  obtain ⟨H, hH⟩ : ∃ H, H = w2.heap.size := ⟨_, rfl⟩
  rw [← hH]
  refine wp_named fun W0 hW0 => ?_
  have o0 : W0.heap[H]? = some (.cells C 5 (C.size, C.size + 1)) := by rw [hW0, hH]; exact heap_at w2 _
  have bb0 : Below w2.heap.size w2 W0 := by rw [hW0]; exact (below_alloc (Below.refl _ _) _).drew
  have hI0 : IsBag A (H + 1) W0 b 3 (fullMsgs l 0) := (H2.out (H + 1) (by omega)).later bb0
  have hB0 : Below w.heap.size w W0 := HB.out.trans (bb0.mono HB.out.size)
  have hs0 : H + 1 ≤ W0.heap.size := by have := (Array.getElem?_eq_some_iff.1 o0).1; omega
  have hAH : A ≤ H := by omega
  have O0 := Lib.hid o0
  have I0 := Lib.hid hI0
  have B0 := Lib.hid hB0
  have CA := Lib.hid hCat
  clear hW0 o0 bb0 hI0 hB0 hCat hCC H2 HB hH hAs hcap
  rw [hln]
  go_loopg [12, 13] T (fun k s12 _ wr => ∃ (j m : Nat), j ≤ T ∧ k = T - j ∧ s12 = .int .i64 j ∧ m = min j 256 ∧ IsBag A (H + 1) wr b 3 (fullMsgs l m) ∧ Below w.heap.size w wr ∧ H + 1 ≤ wr.heap.size ∧ wr.heap[H]? = some (.cells C 5 (C.size, C.size + 1)))
  case atStart => exact ⟨0, 0, Nat.zero_le _, rfl, rfl, rfl, I0.out, B0.out, hs0, O0.out⟩
  case round =>
    obtain ⟨j, m, hj, hk, rfl, hm, hI, hb, hs, ho⟩ := hrel
    have HK := Lib.hid hk
    have BB := Lib.hid hb
    have OO := Lib.hid ho
    by_cases hlt : j < T
    · have j1 : (j : Int) < (T : Int) := by omega
      have hby := bytes_of_row ho CA.out cap
      rw [hln] at hby
      obtain ⟨r, hr⟩ : ∃ r, r = j % 3 := ⟨_, rfl⟩
      have hr3 : r < 3 := by omega
      have hrem : (j : Int).tmod 3 = (r : Int) := by rw [hr]; rfl
      by_cases h256 : j < 256
      · have j2 : (j : Int) < 256 := by omega
        obtain rfl : m = j := by omega
        have P := put_ok hI (by omega) hs hby (f := (r : Int)) (t := 1) (by omega) (by omega) (by decide) (by decide) (by simp; omega) (by rw [full_len]; exact h256)
        rw [show fullMsgs l m ++ [⟨(r : Int), 1, 0, ints l⟩] = fullMsgs l (m + 1) by rw [hr]; rfl] at P
        clear hI hb hk ho hby hr hm
        go_wp2_with fail
        refine P.mono ?_
        rintro e w3 ⟨rfl, h3, k3⟩
        have o3 := k3.old _ _ OO.out rfl
        have H3 := Lib.hid h3
        have K3 := Lib.hid k3
        have O3 := Lib.hid o3
        clear h3 k3 o3 P
        go_wp2
        go_roundg (T - (m + 1))
        case measure => rw [HK.out]; omega
        case rel => exact ⟨m + 1, m + 1, by omega, rfl, by go_num, by omega, H3.out, BB.out.trans (K3.out.below.mono hwA), Nat.le_trans hs K3.out.below.size, O3.out⟩
      · have j2 : ¬ (j : Int) < 256 := by omega
        obtain rfl : m = 256 := by omega
        have P := put_full hI (by omega) hs hby (f := (r : Int)) (t := 1) (by omega) (by omega) (by decide) (by decide) (by simp; omega) (full_len l 256)
        clear hI hb hk ho hby hr hm
        go_wp2_with fail
        refine P.mono ?_
        rintro e w3 ⟨rfl, h3, k3⟩
        have o3 := k3.old _ _ OO.out rfl
        have H3 := Lib.hid h3
        have K3 := Lib.hid k3
        have O3 := Lib.hid o3
        clear h3 k3 o3 P
        go_wp2
        go_roundg (T - (j + 1))
        case measure => rw [HK.out]; omega
        case rel => exact ⟨j + 1, 256, by omega, rfl, by go_num, by omega, H3.out, BB.out.trans (K3.out.below.mono hwA), Nat.le_trans hs K3.out.below.size, O3.out⟩
    · obtain rfl : j = T := by omega
      have I := Lib.hid hI
      have d0 : wr.cell? ⟨H, 0, none⟩ = some C[0] := by simp [World.cell?, ho, hCsz]
      have d1 := row_unfrozen ho hCsz
      obtain ⟨y0, hy0⟩ : ∃ y, C[0] = .int .u8 y := by
        obtain ⟨y, hy⟩ : ∃ y, (ints l)[0]? = some y := ⟨(ints l)[0]'(by rw [← HN.out]; omega), List.getElem?_eq_getElem _⟩
        have := CA.out 0 y hy
        rw [Array.getElem?_eq_getElem hCsz] at this
        exact ⟨y, Option.some.inj this⟩
      rw [hy0] at d0
      have hbH : b ≠ H := fun e => by
        obtain ⟨v, es, _, hq⟩ := hI
        rw [← e, hq.box] at ho; cases ho
      have hHl : H < wr.heap.size := by omega
      have k0 : (0 : Int) < (n : Int) := by omega
      have MM := Lib.hid hm
      clear hI hb hk ho hm
      go_wp2_with fail
      have hbw : Below w.heap.size w (wr.setCell ⟨H, 0, none⟩ (.int .u8 (bits .xor .u8 y0 x))) := BB.out.setCell (by show w.heap.size ≤ H; omega) _
      have IW := Lib.hid (I.out.low (a := ⟨H, 0, none⟩) (by show H < H + 1; omega) hbH (.int .u8 (bits .xor .u8 y0 x)))
      have BW := Lib.hid hbw
      have sw : A ≤ (wr.setCell ⟨H, 0, none⟩ (.int .u8 (bits .xor .u8 y0 x))).heap.size := by simp; omega
      clear hbw d0 d1 hy0 BB OO I O0 I0 B0
      generalize wr.setCell ⟨H, 0, none⟩ (.int .u8 (bits .xor .u8 y0 x)) = W2 at *
      go_loopg [14, 15, 16] m (fun k s14 _ _ wr => ∃ q : Nat, q ≤ m ∧ k = m - q ∧ s14 = .int .i64 q ∧ IsBag A (H + 1) wr b 3 ((fullMsgs l m).drop q) ∧ Below w.heap.size w wr ∧ A ≤ wr.heap.size)
      case atStart => exact ⟨0, Nat.zero_le _, rfl, rfl, IW.out, BW.out, sw⟩
      case round =>
        obtain ⟨q, hq, hk, rfl, hI, hb, hAr⟩ := hrel
        have HQ := Lib.hid hk
        have BR := Lib.hid hb
        by_cases hqm : q < m
        · have q1 : (q : Int) < (j : Int) := by have := MM.out; omega
          have q2 : (q : Int) < 256 := by have := MM.out; omega
          obtain ⟨r, hr⟩ : ∃ r, r = q % 3 := ⟨_, rfl⟩
          have hrem : (q : Int).tmod 3 = (r : Int) := by rw [hr]; rfl
          have hat : ((fullMsgs l m).drop q)[0]? = some ⟨(r : Int), 1, 0, ints l⟩ := by rw [List.getElem?_drop, Nat.add_zero, hr]; exact full_at l hqm
          have TK := take_yes hI hAr hat
          clear hI hb hk hat hr
          go_wp2_with fail
          refine TK.mono ?_
          rintro e w4 ⟨bv, rfl, y4, h4, k4⟩
          obtain ⟨xa, xc, rfl⟩ := own_slice y4
          have hl2 : (ints l).length = n := HN.out.symm
          have C4 := str_of (BytesIs.at (own_later y4 (below_alloc (Below.refl w4.heap.size w4) (.cells #[.int .i64 r, .int .i64 1, .slice xa (ints l).length xc] 31))))
          rw [hl2] at C4 ⊢
          rw [List.eraseIdx_zero, List.tail_drop] at h4
          have H4 := Lib.hid h4
          have K4 := Lib.hid k4
          clear TK y4 h4 k4
          go_wp2
          go_roundg (m - (q + 1))
          case measure => rw [HQ.out]; omega
          case rel => exact ⟨q + 1, by omega, rfl, by go_num, H4.out.later (below_alloc (Below.refl _ _) _), below_alloc (BR.out.trans (K4.out.below.mono hwA)) _, by have := K4.out.below.size; simp; omega⟩
        · obtain rfl : q = m := by omega
          have II := Lib.hid hI
          clear hI hb hk
          have two : q = j ∨ (q = 256 ∧ q < j) := by have := MM.out; omega
          rcases two with hqj | ⟨hq2, hqj⟩
          · have hlq : ¬ (q : Int) < (j : Int) := by omega
            clear hqj
            go_wp2_with fail
            refine (take_none _ 0).mono ?_
            rintro e w4 ⟨rfl, g4⟩
            go_wp2_with fail
            have LN := (II.out.later (below_alloc g4 (.cells #[.int .i64 0, .int .i64 0, .slice none 0 0] 31))).len
            rw [List.length_drop, full_len, Nat.sub_self] at LN
            refine LN.mono ?_
            rintro e w5 ⟨rfl, rfl⟩
            have b5 := BR.out.trans ((below_alloc g4 (.cells #[.int .i64 0, .int .i64 0, .slice none 0 0] 31)).mono BR.out.size)
            have B5 := Lib.hid b5
            clear LN g4 b5
            go_wp2_with fail
            refine (put_none _ _ _ rfl).mono ?_
            rintro e w6 ⟨rfl, g6⟩
            have b6 := B5.out.trans (g6.mono B5.out.size)
            have B6 := Lib.hid b6
            clear g6 b6
            go_wp2_with fail
            refine (copy_none _ _).mono ?_
            rintro e w7 ⟨rfl, rfl⟩
            go_wp2_with fail
            refine (len_none _).mono ?_
            rintro e w8 ⟨rfl, rfl⟩
            go_wp2_with fail
            refine (tick_none _ _).mono ?_
            rintro e w9 ⟨rfl, g9⟩
            have b9 := B6.out.trans (g9.mono B6.out.size)
            have B9 := Lib.hid b9
            clear g9 b9
            go_wp2_with fail
            refine (for_none _ _).mono ?_
            rintro e w10 ⟨rfl, rfl⟩
            go_wp2
            go_ret
            exact ⟨rfl, B9.out⟩
          · have hlq : (q : Int) < (j : Int) := by omega
            have hl2 : ¬ (q : Int) < 256 := by omega
            clear hqj hq2
            go_wp2_with fail
            refine (take_none _ 0).mono ?_
            rintro e w4 ⟨rfl, g4⟩
            go_wp2_with fail
            have LN := (II.out.later (below_alloc g4 (.cells #[.int .i64 0, .int .i64 0, .slice none 0 0] 31))).len
            rw [List.length_drop, full_len, Nat.sub_self] at LN
            refine LN.mono ?_
            rintro e w5 ⟨rfl, rfl⟩
            have b5 := BR.out.trans ((below_alloc g4 (.cells #[.int .i64 0, .int .i64 0, .slice none 0 0] 31)).mono BR.out.size)
            have B5 := Lib.hid b5
            clear LN g4 b5
            go_wp2_with fail
            refine (put_none _ _ _ rfl).mono ?_
            rintro e w6 ⟨rfl, g6⟩
            have b6 := B5.out.trans (g6.mono B5.out.size)
            have B6 := Lib.hid b6
            clear g6 b6
            go_wp2_with fail
            refine (copy_none _ _).mono ?_
            rintro e w7 ⟨rfl, rfl⟩
            go_wp2_with fail
            refine (len_none _).mono ?_
            rintro e w8 ⟨rfl, rfl⟩
            go_wp2_with fail
            refine (tick_none _ _).mono ?_
            rintro e w9 ⟨rfl, g9⟩
            have b9 := B6.out.trans (g9.mono B6.out.size)
            have B9 := Lib.hid b9
            clear g9 b9
            go_wp2_with fail
            refine (for_none _ _).mono ?_
            rintro e w10 ⟨rfl, rfl⟩
            go_wp2
            go_ret
            exact ⟨rfl, B9.out⟩

set_option maxRecDepth 100000 in
theorem BagFull_lifted (os : Os) (started : os.Started) (H : Type) (enc : TypeId × Value → H) :
    ReturnsInHanded {} Try.checked os 4 .any (Rows.bagFullSpec.pre6 enc Try.prog Try.f4 Rows.bagFullRow.domain false) (Rows.bagFullSpec.post enc Try.prog Try.f4 false true false false) := by
  refine returnsInHanded_of_change (C := Try.checked) own started (by kernel_rfl) Try.func4
    (ChangeSpec.witness6 (enc := enc) (C := Try.checked) false ⟨#[], #[.int .u16 0, .slice none 0 0, .int .u8 0], []⟩ 8 (by kernel_rfl) (by kernel_rfl) (by kernel_rfl) (by kernel_rfl)) ?_
  intro W base args ds gs before hval0 hW hcnd _
  have hval : ∀ (j : Nat) t v, Try.f4.params[j]? = some t → args[j]? = some v → Value.okWide Try.prog W .any base t v := hval0
  have hW' := hW
  obtain ⟨p, q, hA0, hV, rfl, hfz, hnd⟩ := hW
  have hA : DataW.TrodAll enc Try.prog W 0 (fun _ => true) true Try.f4.params.toList args.toList ds p := hA0
  rw [Try.params4] at hA hval
  obtain ⟨v0, vs0, d0, ds0, p0, q0, hargs, rfl, rfl, h0, r0⟩ := trodAll_cons hA
  obtain ⟨v1, vs1, d1, ds1, p1, q1, rfl, rfl, rfl, h1, r1⟩ := trodAll_cons r0
  obtain ⟨v2, vs2, d2, ds2, p2, q2, rfl, rfl, rfl, h2, r2⟩ := trodAll_cons r1
  obtain ⟨rfl, rfl, rfl⟩ := trodAll_nil r2
  obtain rfl : args = #[v0, v1, v2] := by cases args; simp_all
  obtain ⟨a0, rfl, rfl, rfl, w0⟩ := open_int Try.underlying51 (hval 0 51 v0 rfl rfl) h0
  obtain ⟨a1, z1, c1, rfl, x1, y1, l1⟩ := ints_of Try.underlying29 Try.underlying5 (by kernel_rfl) (hval 1 29 v1 rfl rfl) h1
  obtain ⟨a2, rfl, rfl, rfl, w2⟩ := open_int Try.underlying5 (hval 2 5 v2 rfl rfl) h2
  refine (BagFull_walk a0 a1 z1 c1 a2 W w0 x1 y1 l1 w2).mono fun e W' ⟨he, hb⟩ => ?_
  subst he
  exact ⟨_, rfl, law_post laidOut (by kernel_rfl) rfl rfl Try.underlying4 rfl hW' hb⟩
theorem BagFull_holds : Rows.BagFullSaid :=
  OpenClaim.holds_of_wide 4 Try.f4 rfl rfl rfl rfl rfl rfl rfl ⟨rfl, rfl, rfl, rfl, rfl⟩ rfl rfl rfl rfl rfl (by kernel_rfl) Try.func4 (by kernel_rfl)
    (of_decide_eq_true (by kernel_rfl)) (by unfold Func.isWrapper; rw [if_neg (by decide +kernel)]; exact ⟨rfl, rfl⟩)
    (fun os started H enc _ => BagFull_lifted os started H enc)
end Go.Proofs.Ytoinlhjdmkeaeab
