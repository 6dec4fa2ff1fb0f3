/- How partners are compared, and in which order Rank tells them. -/
import Derived.Test.YtbbamnglnnanpaaScOut
import Derived.Lib.Small
import Derived.Test.YtbbamnglnnanpaaIter
import Derived.Test.YtbbamnglnnanpaaSortF
namespace Go.Proofs.Ytbbamnglnnanpaa
open Go.RowKit Go.Sort Go.Shelf Go.Lib

set_option maxHeartbeats 1000000 in
theorem or_two {a b : Int} {g c : Nat} {w : World} (h0 : w.cell? ⟨g, 0, none⟩ = some (.int .i64 a)) (h1 : w.cell? ⟨g, 1, none⟩ = some (.int .i64 b)) :
    Calls Try.prog 30 #[.slice (some ⟨g, 0, none⟩) 2 c] w fun e w' => e = .returned (.int .i64 (if a = 0 then b else a)) ∧ w' = w := by
  by_cases ha : a = 0
  · subst ha
    rw [if_pos rfl]
    by_cases hb : b = 0
    · subst hb
      go_enter Try.func30, Try.ntmps30
      go_wp2_with fail
      go_loopg [8, 5] 3 (fun k s8 _ wr => ∃ j : Nat, j ≤ 2 ∧ k = 3 - j ∧ s8 = .int .i64 j ∧ wr = w)
      case atStart => exact ⟨0, by omega, rfl, rfl, rfl⟩
      case round =>
        obtain ⟨j, hj, hk, rfl, rfl⟩ := hrel
        have HK := Lib.hid hk
        have three : j = 0 ∨ j = 1 ∨ j = 2 := by omega
        clear hk
        rcases three with rfl | rfl | rfl
        · go_wp2
          go_roundg 2
          case measure => rw [HK.out]; omega
          case rel => exact ⟨1, by omega, rfl, by go_num, rfl⟩
        · go_wp2
          go_roundg 1
          case measure => rw [HK.out]; omega
          case rel => exact ⟨2, by omega, rfl, by go_num, rfl⟩
        · go_wp2
          go_ret
          exact ⟨rfl, rfl⟩
    · have hb1 : (b == 0) = false := by simpa using hb
      clear hb
      go_enter Try.func30, Try.ntmps30
      go_wp2_with fail
      go_loopg [8, 5] 3 (fun k s8 _ wr => ∃ j : Nat, j ≤ 1 ∧ k = 3 - j ∧ s8 = .int .i64 j ∧ wr = w)
      case atStart => exact ⟨0, by omega, rfl, rfl, rfl⟩
      case round =>
        obtain ⟨j, hj, hk, rfl, rfl⟩ := hrel
        have HK := Lib.hid hk
        have two : j = 0 ∨ j = 1 := by omega
        clear hk
        rcases two with rfl | rfl
        · go_wp2
          go_roundg 2
          case measure => rw [HK.out]; omega
          case rel => exact ⟨1, by omega, rfl, by go_num, rfl⟩
        · go_wp2
          go_ret
          exact ⟨rfl, rfl⟩
  · have ha1 : (a == 0) = false := by simpa using ha
    rw [if_neg ha]
    clear ha
    go_enter Try.func30, Try.ntmps30
    go_wp2_with fail
    go_loopg [8, 5] 3 (fun k s8 _ wr => k = 3 ∧ s8 = .int .i64 (0 : Nat) ∧ wr = w)
    case atStart => exact ⟨rfl, rfl, rfl⟩
    case round =>
      obtain ⟨hk, rfl, rfl⟩ := hrel
      clear hk
      go_wp2
      go_ret
      exact ⟨rfl, rfl⟩
theorem alloc_grow (w : World) (o : Obj) : (w.alloc o).drew = Sort.grow (w.drewN 1) #[o] := by
  unfold Sort.grow
  rw [Array.append_singleton]
  rfl
/-- How two partners are compared. -/
def rankCf (f : Int → Int) (x y : Int) : Int := if Lib.compareInt (f y) (f x) = 0 then Lib.compareInt x y else Lib.compareInt (f y) (f x)
/-- A book, or none, and the points that it tells. -/
def Tells (w : World) (p : Option Addr) (f : Int → Int) : Prop := (p = none ∧ f = fun _ => 0) ∨ ∃ b m l, p = some ⟨b, 0, none⟩ ∧ IsBook w b m l ∧ f = pts l
theorem Tells.below {w w' : World} {p : Option Addr} {f : Int → Int} (h : Tells w p f) (hb : Below w.heap.size w w') : Tells w' p f := by
  rcases h with h | ⟨b, m, l, h1, h2, h3⟩
  · exact .inl h
  · exact .inr ⟨b, m, l, h1, h2.below hb, h3⟩
theorem Tells.grown {w w' : World} {p : Option Addr} {f : Int → Int} (h : Tells w p f) {g : Nat} {cur : Array Value} {fz : Nat × Nat} (hg : w.heap[g]? = some (.cells cur 3 fz)) (hb : w.grownBy w' (some g)) : Tells w' p f := by
  rcases h with h | ⟨b, m, l, h1, h2, h3⟩
  · exact .inl h
  · refine .inr ⟨b, m, l, h1, ⟨(hb.block b h2.ltb (fun e => ?_)).trans h2.box, h2.map.of_block (hb.block m h2.map.lt (fun e => ?_)), h2.few⟩, h3⟩
    · cases e; have := h2.box; rw [hg] at this; cases this
    · cases e
      obtain ⟨es, clk, h4, _⟩ := h2.map
      rw [hg] at h4; cases h4
theorem Tells.points {w : World} {p : Option Addr} {f : Int → Int} (h : Tells w p f) {who : Int} (hw : (Lit.int .i64 who).wf = true) :
    Calls Try.prog 12 #[.pointer p, .int .i64 who] w fun e w' => e = .returned (.int .i64 (f who)) ∧ w' = w := by
  rcases h with ⟨rfl, rfl⟩ | ⟨b, m, l, rfl, h2, rfl⟩
  · exact points_none w _
  · exact points_any h2 hw
structure RankIn (w : World) (bx : Nat) (p : Option Addr) (f : Int → Int) : Prop where
  box : w.heap[bx]? = some (.cells #[.pointer p] 24 (0, 0))
  book : Tells w p f
set_option maxHeartbeats 2000000 in
theorem rank_cmp {w : World} {bx : Nat} {bp : Option Addr} {f : Int → Int} (h : RankIn w bx bp f) {x y : Int} (hx : (Lit.int .i64 x).wf = true) (hy : (Lit.int .i64 y).wf = true) :
    Calls Try.prog 29 #[.int .i64 x, .int .i64 y, .pointer (some ⟨bx, 0, none⟩)] w fun e w' => e = .returned (.int .i64 (rankCf f x y)) ∧ ∃ q os', w' = Sort.grow (w.drewN q) os' := by
  obtain ⟨e0, e1⟩ := blk1 h.box
  have px := (h.book.below (below_drew (Below.refl _ _))).points hx
  have py := (h.book.below (below_drew (Below.refl _ _))).points hy
  unfold rankCf
  generalize f x = p at *
  generalize f y = q at *
  have C1 := fun w => Try.cmp_Compare_int q p w
  have C2 := fun w => Try.cmp_Compare_int x y w
  generalize Lib.compareInt q p = r1 at *
  generalize Lib.compareInt x y = r2 at *
  have PX := Lib.hid px
  have PY := Lib.hid py
  have D1 := Lib.hid C1
  have D2 := Lib.hid C2
  have hlt : bx < w.heap.size := (Array.getElem?_eq_some_iff.1 h.box).1
  have OC := Lib.hid (or_two (a := r1) (b := r2) (g := w.heap.size) (c := 2) (w := (w.alloc (.cells #[.int .i64 r1, .int .i64 r2] 3)).drew) (blk2 (heap_at w _)).1.1 (blk2 (heap_at w _)).1.2)
  clear h hx hy px py C1 C2
  go_enter Try.func29, Try.ntmps29
  go_wp2_with fail
  go_region_law (first | (go_simp; go_at_call_of 12 (Value.int .i64 y); refine PY.out.mono ?_; rintro e w3 ⟨rfl, rfl⟩) | (go_simp; go_at_call_of 12 (Value.int .i64 x); refine PX.out.mono ?_; rintro e w3 ⟨rfl, rfl⟩) | (go_simp; go_at_call_of 31 (Value.int .i64 q); refine (D1.out _).mono ?_; rintro e w3 ⟨rfl, rfl⟩) | (go_simp; go_at_call_of 31 (Value.int .i64 x); refine (D2.out _).mono ?_; rintro e w3 ⟨rfl, rfl⟩) | (go_simp; go_at_call 30; refine OC.out.mono ?_; rintro e w3 ⟨rfl, rfl⟩))
  all_goals go_wp2
  all_goals
    go_ret
    exact ⟨rfl, 1, _, alloc_grow _ _⟩

theorem lt_rank (f : Int → Int) (x y : Int) : ltOf (rankCf f) x y = decide (f y < f x ∨ (f y = f x ∧ x < y)) := by
  unfold ltOf rankCf Lib.compareInt
  by_cases h1 : f y < f x
  · simp [h1]
  · by_cases h2 : f y > f x
    · have h3 : ¬ f y = f x := by omega
      simp [h1, h2, h3]
    · have h3 : f y = f x := by omega
      by_cases h4 : x < y
      · simp [h3, h4]
      · by_cases h5 : x > y <;> simp [h3, h4, h5]
abbrev I64 := { x : Int // (Lit.int .i64 x).wf = true }
instance : Inhabited I64 := ⟨⟨0, by decide⟩⟩
def enc64 (x : I64) : Value := .int .i64 x.1
def cf64 (f : Int → Int) (x y : I64) : Int := rankCf f x.1 y.1
theorem lt64 (f : Int → Int) (x y : I64) : ltOf (cf64 f) x y = decide (f y.1 < f x.1 ∨ (f y.1 = f x.1 ∧ x.1 < y.1)) := lt_rank f x.1 y.1
theorem swo64 (f : Int → Int) : SWO (ltOf (cf64 f)) where
  irrefl x := by rw [lt64]; simp
  trans x y z h1 h2 := by rw [lt64] at *; simp at *; omega
  ntrans x y z h1 h2 := by rw [lt64] at *; simp at *; omega
theorem tot64 (f : Int → Int) (x y : I64) (h1 : ltOf (cf64 f) x y = false) (h2 : ltOf (cf64 f) y x = false) : x = y := by
  rw [lt64] at h1 h2
  apply Subtype.ext
  simp at h1 h2
  omega
/-- The order in which Rank tells them. -/
def rankOf (f : Int → Int) (zs : List Int) : List Int := zs.mergeSort fun x y => !(ltOf (rankCf f) y x)
theorem rank_map (f : Int → Int) (zs : List I64) : (zs.mergeSort fun x y => !(ltOf (cf64 f) y x)).map enc64 = (rankOf f (zs.map Subtype.val)).map (Value.int .i64) := by
  unfold rankOf
  rw [← List.map_mergeSort (r := fun x y => !(ltOf (cf64 f) y x)) (fun a _ b _ => rfl), List.map_map]
  rfl
theorem RankIn.sorted {w : World} {bx : Nat} {p : Option Addr} {f : Int → Int} (h : RankIn w bx p f) {blk : Nat} {cur : Array Value} {fz : Nat × Nat} (hg : w.heap[blk]? = some (.cells cur 3 fz)) (m : Nat) (os : Array Obj) (dk : Array I64) : RankIn (sortWorld enc64 w blk 0 m dk os) bx p f := by
  have hb : w.grownBy (sortWorld enc64 w blk 0 m dk os) (some blk) := grownBy_sortedE enc64 dk
  exact ⟨(hb.block bx (Array.getElem?_eq_some_iff.1 h.box).1 (fun e => by cases e; have := h.box; rw [hg] at this; cases this)).trans h.box, h.book.grown hg hb⟩
set_option maxHeartbeats 1000000 in
theorem sorted_any {W : World} {bx Bs : Nat} {p : Option Addr} {f : Int → Int} {sv : Value} {zs : List Int} (ys : List I64) (hys : ys.map Subtype.val = zs) (hR : RankIn W bx p f) (hl : zs.length ≤ 1000000)
    (hBs : Bs < W.heap.size) (hc : W.cell? ⟨Bs, 0, none⟩ = some sv) (hI : IntsIn W.heap.size W sv zs) :
    Calls Try.prog 27 #[.func (.func 37) #[] #[.pointer (some ⟨Bs, 0, none⟩)], .func (.func 29) #[] #[.pointer (some ⟨bx, 0, none⟩)]] W fun e w' => ∃ v', e = .returned v' ∧ IntsIs W.heap.size w' v' (rankOf f zs) ∧ Below W.heap.size W w' := by
  have CO := Lib.hid (collect_any Bs sv zs (by omega) W hBs hc hI)
  have HR := Lib.hid hR
  have HY := Lib.hid hys
  clear hR hc hI hys
  go_enter Try.func27, Try.ntmps27
  go_wp2_with fail
  refine CO.out.mono ?_
  rintro e w1 ⟨v1, rfl, h1, b1⟩
  have hyl : ys.length = zs.length := by rw [← HY.out]; simp
  have h1' : w1.ownsRow W.heap.size 3 1 v1 ys.length (ys.map enc64) := by
    rw [hyl]
    have : ys.map enc64 = zs.map (Value.int .i64) := by rw [← HY.out, List.map_map]; rfl
    rw [this]; exact h1
  have R1 : RankIn w1 bx p f := ⟨(b1.block bx (Array.getElem?_eq_some_iff.1 HR.out.box).1).trans HR.out.box, HR.out.book.below b1⟩
  have SF := sortfunc_any enc64 (fun _ => rfl) (cf64 f) (swo64 f) (tot64 f) 29 #[.pointer (some ⟨bx, 0, none⟩)] (enters_of Try.func29 (by kernel_rfl) rfl)
    (fun blk hb m os dk _ x y => by
      obtain ⟨_, cur, hg⟩ := own_row h1 hb
      exact rank_cmp (R1.sorted hg m os dk) x.2 y.2) h1' (by omega)
  rw [rank_map, HY.out, hyl] at SF
  have SF := Lib.hid SF
  have B1 := Lib.hid b1
  have O1 := Lib.hid h1
  clear h1 b1 h1' R1 hyl
  go_wp2_with fail
  refine SF.out.mono ?_
  rintro e w2 ⟨rfl, h2, g2⟩
  have H2 := Lib.hid h2
  have B2 := Lib.hid (B1.out.grown g2 B1.out.size (fun k hk => (own_row O1.out hk).1))
  clear h2 g2
  go_wp2
  go_ret
  refine ⟨_, rfl, ?_, B2.out⟩
  show World.ownsRow _ _ _ _ _ (rankOf f zs).length _
  unfold rankOf
  rw [List.length_mergeSort]
  exact H2.out
set_option maxHeartbeats 1000000 in
theorem rank_any {w : World} {p : Option Addr} {f : Int → Int} (h : Tells w p f) {sv : Value} {zs : List Int} (hI : IntsIn w.heap.size w sv zs) (hwf : ∀ x ∈ zs, (Lit.int .i64 x).wf = true) (hl : zs.length ≤ 1000000) :
    Calls Try.prog 20 #[.pointer p, sv] w fun e w' => ∃ v', e = .returned v' ∧ IntsIs w.heap.size w' v' (rankOf f zs) ∧ Below w.heap.size w w' := by
  obtain ⟨sa, sc, rfl⟩ := hI.slice
  obtain ⟨ys, hys⟩ : ∃ ys : List I64, ys.map Subtype.val = zs := ⟨zs.attach.map fun x => ⟨x.1, hwf x.1 x.2⟩, by simp [List.map_map, Function.comp_def]⟩
  have hyl : ys.length = zs.length := by rw [← hys]; simp
  obtain ⟨n, hn⟩ : ∃ n, n = zs.length := ⟨_, rfl⟩
  have b1 : Below w.heap.size w (w.alloc (.cells #[.pointer p] 24)) := below_alloc (Below.refl _ _) _
  have b2 : Below w.heap.size w ((w.alloc (.cells #[.pointer p] 24)).alloc (.cells #[.slice sa zs.length sc] 27)) := below_alloc b1 _
  have hx : ((w.alloc (.cells #[.pointer p] 24)).alloc (.cells #[.slice sa zs.length sc] 27)).cell? ⟨w.heap.size + 1, 0, none⟩ = some (.slice sa zs.length sc) := by
    have h0 := (blk1 (heap_at (w.alloc (.cells #[.pointer p] 24)) (.cells #[.slice sa zs.length sc] 27))).1
    rwa [World.size_alloc] at h0
  have R1 : RankIn ((w.alloc (.cells #[.pointer p] 24)).alloc (.cells #[.slice sa zs.length sc] 27)) w.heap.size p f := ⟨heap_up (heap_at _ _), h.below b2⟩
  have SO := sorted_any ys hys R1 hl (Bs := w.heap.size + 1) (by simp) hx (by
    rcases hI.below b2 with hh | ⟨b', off, cap, e, hb, hc⟩
    · exact .inl hh
    · exact .inr ⟨b', off, cap, e, by simp; omega, hc⟩)
  have V := fun w => values_any sa n sc w
  have HN := Lib.hid hn
  have HSO := Lib.hid SO
  have HV := Lib.hid V
  rw [← hn] at HSO hl ⊢
  have B2 := Lib.hid b2
  clear hI h hx R1 SO hys hyl hn b1 b2 V
  go_enter Try.func20, Try.ntmps20
  go_wp2_with fail
  refine (HV.out _).mono ?_
  rintro e w1 ⟨rfl, rfl⟩
  go_wp2_with fail
  refine HSO.out.mono ?_
  rintro e w2 ⟨v2, rfl, h2, c2⟩
  have H2 := Lib.hid h2
  have C2 := Lib.hid c2
  clear h2 c2
  go_wp2
  go_ret
  exact ⟨v2, rfl, own_mono H2.out (by simp; omega), B2.out.trans (by rw [← HN.out]; exact C2.out.mono (by simp; omega))⟩
end Go.Proofs.Ytbbamnglnnanpaa
