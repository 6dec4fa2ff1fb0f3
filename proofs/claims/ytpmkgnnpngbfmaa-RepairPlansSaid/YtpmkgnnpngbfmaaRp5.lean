/- What Plan's function values answer. -/
import Derived.Test.YtpmkgnnpngbfmaaRp4
import Derived.Test.YtpmkgnnpngbfmaaIntDel
import Derived.Lib.Small
namespace Go.Proofs.Ytpmkgnnpngbfmaa
open Go.RowKit Go.Sort Go.Shelf Go.Lib

set_option maxHeartbeats 1000000 in
theorem or_two {a b : Int} {g c : Nat} {w : World} (h0 : w.cell? ⟨g, 0, none⟩ = some (.int .i64 a)) (h1 : w.cell? ⟨g, 1, none⟩ = some (.int .i64 b)) :
    Calls Try.prog 28 #[.slice (some ⟨g, 0, none⟩) 2 c] w fun e w' => e = .returned (.int .i64 (if a = 0 then b else a)) ∧ w' = w := by
  by_cases ha : a = 0
  · subst ha
    rw [if_pos rfl]
    by_cases hb : b = 0
    · subst hb
      go_enter Try.func28, Try.ntmps28
      go_wp2_with fail
      go_loopg [8, 5] 3 (fun k s8 _ wr => ∃ j : Nat, j ≤ 2 ∧ k = 3 - j ∧ s8 = .int .i64 j ∧ wr = w)
      case atStart => exact ⟨0, by omega, rfl, rfl, rfl⟩
      case round =>
        obtain ⟨j, hj, hk, rfl, rfl⟩ := hrel
        have HK := Lib.hid hk
        have three : j = 0 ∨ j = 1 ∨ j = 2 := by omega
        clear hk
        rcases three with rfl | rfl | rfl
        · go_wp2
          go_roundg 2
          case measure => rw [HK.out]; omega
          case rel => exact ⟨1, by omega, rfl, by go_num, rfl⟩
        · go_wp2
          go_roundg 1
          case measure => rw [HK.out]; omega
          case rel => exact ⟨2, by omega, rfl, by go_num, rfl⟩
        · go_wp2
          go_ret
          exact ⟨rfl, rfl⟩
    · have hb1 : (b == 0) = false := by simpa using hb
      clear hb
      go_enter Try.func28, Try.ntmps28
      go_wp2_with fail
      go_loopg [8, 5] 3 (fun k s8 _ wr => ∃ j : Nat, j ≤ 1 ∧ k = 3 - j ∧ s8 = .int .i64 j ∧ wr = w)
      case atStart => exact ⟨0, by omega, rfl, rfl, rfl⟩
      case round =>
        obtain ⟨j, hj, hk, rfl, rfl⟩ := hrel
        have HK := Lib.hid hk
        have two : j = 0 ∨ j = 1 := by omega
        clear hk
        rcases two with rfl | rfl
        · go_wp2
          go_roundg 2
          case measure => rw [HK.out]; omega
          case rel => exact ⟨1, by omega, rfl, by go_num, rfl⟩
        · go_wp2
          go_ret
          exact ⟨rfl, rfl⟩
  · have ha1 : (a == 0) = false := by simpa using ha
    rw [if_neg ha]
    clear ha
    go_enter Try.func28, Try.ntmps28
    go_wp2_with fail
    go_loopg [8, 5] 3 (fun k s8 _ wr => k = 3 ∧ s8 = .int .i64 (0 : Nat) ∧ wr = w)
    case atStart => exact ⟨rfl, rfl, rfl⟩
    case round =>
      obtain ⟨hk, rfl, rfl⟩ := hrel
      clear hk
      go_wp2
      go_ret
      exact ⟨rfl, rfl⟩
theorem alloc_grow (w : World) (o : Obj) : (w.alloc o).drew = Sort.grow (w.drewN 1) #[o] := by
  unfold Sort.grow
  rw [Array.append_singleton]
  rfl
theorem alloc_grow0 (w : World) (o : Obj) : w.alloc o = Sort.grow (w.drewN 0) #[o] := by
  unfold Sort.grow
  rw [Array.append_singleton]
  rfl
/-- How two partners are compared. -/
def rankCf (f : Int → Int) (x y : Int) : Int := if Lib.compareInt (f y) (f x) = 0 then Lib.compareInt x y else Lib.compareInt (f y) (f x)
theorem lt_rank (f : Int → Int) (x y : Int) : ltOf (rankCf f) x y = decide (f y < f x ∨ (f y = f x ∧ x < y)) := by
  unfold ltOf rankCf Lib.compareInt
  by_cases h1 : f y < f x
  · simp [h1]
  · by_cases h2 : f y > f x
    · have h3 : ¬ f y = f x := by omega
      simp [h1, h2, h3]
    · have h3 : f y = f x := by omega
      by_cases h4 : x < y
      · simp [h3, h4]
      · by_cases h5 : x > y <;> simp [h3, h4, h5]
abbrev I64 := { x : Int // (Lit.int .i64 x).wf = true }
instance : Inhabited I64 := ⟨⟨0, by decide⟩⟩
def enc64 (x : I64) : Value := .int .i64 x.1
def cf64 (f : Int → Int) (x y : I64) : Int := rankCf f x.1 y.1
theorem lt64 (f : Int → Int) (x y : I64) : ltOf (cf64 f) x y = decide (f y.1 < f x.1 ∨ (f y.1 = f x.1 ∧ x.1 < y.1)) := lt_rank f x.1 y.1
theorem swo64 (f : Int → Int) : SWO (ltOf (cf64 f)) where
  irrefl x := by rw [lt64]; simp
  trans x y z h1 h2 := by rw [lt64] at *; simp at *; omega
  ntrans x y z h1 h2 := by rw [lt64] at *; simp at *; omega
theorem tot64 (f : Int → Int) (x y : I64) (h1 : ltOf (cf64 f) x y = false) (h2 : ltOf (cf64 f) y x = false) : x = y := by
  rw [lt64] at h1 h2
  apply Subtype.ext
  simp at h1 h2
  omega

theorem nan_u64 (x : Int) (w : World) : Calls Try.prog 39 #[.int .u64 x] w fun e w' => e = .returned (.bool false) ∧ w' = w := by
  have h : (x == x) = true := by simp
  go_enter Try.func39, Try.ntmps39
  go_wp2
  go_ret
  exact ⟨rfl, rfl⟩
theorem compare_u64 (x y : Int) (w : World) : Calls Try.prog 29 #[.int .u64 x, .int .u64 y] w fun e w' => e = .returned (.int .i64 (Lib.compareInt x y)) ∧ w' = w := by
  unfold Lib.compareInt
  have NX := nan_u64 x w
  have NY := nan_u64 y w
  by_cases h1 : x < y
  · rw [if_pos h1]
    go_enter Try.func29, Try.ntmps29
    go_wp2_with fail
    refine NX.mono ?_
    rintro e w' ⟨rfl, rfl⟩
    go_wp2_with fail
    refine NY.mono ?_
    rintro e w' ⟨rfl, rfl⟩
    go_wp2
    go_ret
    exact ⟨rfl, rfl⟩
  · rw [if_neg h1]
    by_cases h2 : x > y
    · rw [if_pos h2]
      go_enter Try.func29, Try.ntmps29
      go_wp2_with fail
      refine NX.mono ?_
      rintro e w' ⟨rfl, rfl⟩
      go_wp2_with fail
      refine NY.mono ?_
      rintro e w' ⟨rfl, rfl⟩
      go_wp2
      go_ret
      exact ⟨rfl, rfl⟩
    · rw [if_neg h2]
      go_enter Try.func29, Try.ntmps29
      go_wp2_with fail
      refine NX.mono ?_
      rintro e w' ⟨rfl, rfl⟩
      go_wp2_with fail
      refine NY.mono ?_
      rintro e w' ⟨rfl, rfl⟩
      go_wp2
      go_ret
      exact ⟨rfl, rfl⟩

/-- What partners have room for. -/
abbrev LeftIs (w : World) (b : Nat) (l : List (Int × Int)) : Prop := MapIs Try.prog 3 ikey (Value.int .u64) w b l
def roomOf (l : List (Int × Int)) (who : Int) : Int := (aget l who).getD 0
theorem look_left {w : World} {b : Nat} {l : List (Int × Int)} (h : LeftIs w b l) {x : Int} (hx : (Lit.int .i64 x).wf = true) :
    (Instr.lookup 60 (.map (some b)) (.int .i64 x) false).run Try.prog w = .ok (.int .u64 (roomOf l x)) w := by
  unfold roomOf
  cases hg : aget l x with
  | none => exact h.look_none keyed_int ikey_inj Try.underlying60 (z := .int .u64 0) (by kernel_rfl) false (ikey_ok hx) hg
  | some v => exact h.look_some keyed_int ikey_inj Try.underlying60 false (ikey_ok hx) hg
theorem look_set {w : World} {b : Nat} {m : List (Int × Bool)} {hs : List Int} (h : SetIs w b (hput m hs)) (hm : ∀ x, aget m x = none ∨ aget m x = some true) {x : Int} (hx : (Lit.int .i64 x).wf = true) :
    (Instr.lookup 65 (.map (some b)) (.int .i64 x) false).run Try.prog w = .ok (.bool (aget (hput m hs) x).isSome) w := by
  cases hg : aget (hput m hs) x with
  | none => exact h.look_none keyed_int ikey_inj Try.underlying65 (z := .bool false) (by kernel_rfl) false (ikey_ok hx) hg
  | some v =>
    have hv : v = true := by
      rw [hput_get] at hg
      split at hg
      · exact (Option.some.inj hg).symm
      · rcases hm x with e | e <;> rw [e] at hg
        · cases hg
        · exact (Option.some.inj hg).symm
    subst hv
    exact h.look_some keyed_int ikey_inj Try.underlying65 false (ikey_ok hx) hg
/-- Whether a partner may not be taken: it is a holder, or it has too little room. -/
def nofit (has : List (Int × Bool)) (left : List (Int × Int)) (size : Int) (who : Int) : Bool := (aget has who).isSome || decide (roomOf left who < size)
theorem fit_any {w : World} {Bh Bl T Hb L : Nat} {hs : List Int} {left : List (Int × Int)} {p : Pk} (h1 : w.heap[Bh]? = some (.cells #[.map (some Hb)] 65 (0, 0))) (h2 : w.heap[Bl]? = some (.cells #[.map (some L)] 60 (0, 0)))
    (h3 : w.heap[T]? = some (.cells (pcells p).toArray 46 (0, 0))) (hS : SetIs w Hb (hset hs)) (hL : LeftIs w L left) {who : Int} (hw : (Lit.int .i64 who).wf = true) :
    Calls Try.prog 25 #[.int .i64 who, .pointer (some ⟨Bh, 0, none⟩), .pointer (some ⟨Bl, 0, none⟩), .pointer (some ⟨T, 0, none⟩)] w fun e w' => e = .returned (.bool (nofit (hset hs) left p.size who)) ∧ w' = w := by
  obtain ⟨a1, a2⟩ := blk1 h1
  obtain ⟨b1, b2⟩ := blk1 h2
  have c1 := (pk_part h3).1
  have l1 := look_set hS (fun x => .inl rfl) hw
  have l2 := look_left hL hw
  unfold nofit
  generalize (aget (hput [] hs) who).isSome = has at *
  generalize roomOf left who = r at *
  generalize p.size = s at *
  clear hS hL h1 h2 h3 a2 b2
  cases has
  · by_cases hr : r < s
    · go_enter Try.func25, Try.ntmps25
      go_wp2
      go_ret
      exact ⟨by simp [hr], rfl⟩
    · go_enter Try.func25, Try.ntmps25
      go_wp2
      go_ret
      exact ⟨by simp [hr], rfl⟩
  · go_enter Try.func25, Try.ntmps25
    go_wp2
    go_ret
    exact ⟨by simp, rfl⟩
set_option maxRecDepth 100000 in
set_option maxHeartbeats 2000000 in
theorem best_cmp {w : World} {Bl L : Nat} {left : List (Int × Int)} (h2 : w.heap[Bl]? = some (.cells #[.map (some L)] 60 (0, 0))) (hL : LeftIs w L left) {x y : Int} (hx : (Lit.int .i64 x).wf = true) (hy : (Lit.int .i64 y).wf = true) :
    Calls Try.prog 27 #[.int .i64 x, .int .i64 y, .pointer (some ⟨Bl, 0, none⟩)] w fun e w' => e = .returned (.int .i64 (rankCf (roomOf left) x y)) ∧ ∃ q os', w' = Sort.grow (w.drewN q) os' := by
  obtain ⟨e0, e1⟩ := blk1 h2
  have l1 := look_left hL hx
  have l2 := look_left hL hy
  unfold rankCf
  generalize roomOf left x = p at *
  generalize roomOf left y = q at *
  have C1 := compare_u64 q p w
  have C2 := Try.cmp_Compare_int x y w
  generalize Lib.compareInt q p = r1 at *
  generalize Lib.compareInt x y = r2 at *
  have D1 := Lib.hid C1
  have D2 := Lib.hid C2
  have oc := or_two (a := r1) (b := r2) (g := w.heap.size) (c := 2) (w := w.alloc (.cells #[.int .i64 r1, .int .i64 r2] 3)) (blk2 (heap_at w _)).1.1 (blk2 (heap_at w _)).1.2
  generalize (if r1 = 0 then r2 else r1) = r3 at oc ⊢
  have OC := Lib.hid oc
  clear oc
  clear hL h2 hx hy C1 C2 e1
  go_enter Try.func27, Try.ntmps27
  go_wp2_with fail
  refine D1.out.mono ?_
  rintro e w3 ⟨rfl, rfl⟩
  go_wp2_with fail
  refine D2.out.mono ?_
  rintro e w3 ⟨rfl, rfl⟩
  go_wp2_with fail
  refine OC.out.mono ?_
  rintro e w3 ⟨rfl, rfl⟩
  go_wp2
  go_ret
  exact ⟨rfl, 0, _, alloc_grow0 _ _⟩

/-! ### slices.MinFunc -/
/-- The one that is to be taken among some: it has the most room, and of equals the least number. -/
def IsBest (f : Int → Int) (zs : List Int) (who : Int) : Prop := who ∈ zs ∧ ∀ y ∈ zs, y = who ∨ f y < f who ∨ (f y = f who ∧ who < y)
theorem IsBest.eq {f : Int → Int} {zs : List Int} {a b : Int} (ha : IsBest f zs a) (hb : IsBest f zs b) : a = b := by
  rcases hb.2 a ha.1 with e | e | e
  · exact e
  · rcases ha.2 b hb.1 with e' | e' | e'
    · exact e'.symm
    · omega
    · omega
  · rcases ha.2 b hb.1 with e' | e' | e'
    · exact e'.symm
    · omega
    · omega
theorem IsBest.perm {f : Int → Int} {zs ys : List Int} {a : Int} (h : IsBest f zs a) (hp : zs.Perm ys) : IsBest f ys a := ⟨hp.mem_iff.1 h.1, fun y hy => h.2 y (hp.mem_iff.2 hy)⟩
theorem pick_best (f : Int → Int) (d : Array I64) : ∀ i, i < d.size → (∃ k, k ≤ i ∧ pickBy (fun x m => decide (cf64 f x m < 0)) d i = d[k]!) ∧ ∀ k, k ≤ i → (d[k]!).1 = (pickBy (fun x m => decide (cf64 f x m < 0)) d i).1 ∨ f (d[k]!).1 < f (pickBy (fun x m => decide (cf64 f x m < 0)) d i).1 ∨ (f (d[k]!).1 = f (pickBy (fun x m => decide (cf64 f x m < 0)) d i).1 ∧ (pickBy (fun x m => decide (cf64 f x m < 0)) d i).1 < (d[k]!).1)
  | 0, _ => ⟨⟨0, Nat.le_refl _, rfl⟩, fun k hk => by
      have : k = 0 := by omega
      subst this
      exact .inl rfl⟩
  | i + 1, hi => by
    obtain ⟨⟨k0, hk0, e0⟩, hall⟩ := pick_best f d i (by omega)
    have hlt := lt64 f (d[i + 1]!) (pickBy (fun x m => decide (cf64 f x m < 0)) d i)
    unfold ltOf at hlt
    unfold pickBy
    generalize pickBy (fun x m => decide (cf64 f x m < 0)) d i = m at *
    by_cases hb : cf64 f (d[i + 1]!) m < 0
    · rw [if_pos (by simpa using hb)]
      rw [decide_eq_true hb] at hlt
      have hlt' := of_decide_eq_true hlt.symm
      refine ⟨⟨i + 1, Nat.le_refl _, rfl⟩, fun k hk => ?_⟩
      by_cases hki : k = i + 1
      · subst hki; exact .inl rfl
      · rcases hall k (by omega) with e | e | e
        · rw [e]; omega
        · omega
        · omega
    · rw [if_neg (by simpa using hb)]
      rw [decide_eq_false hb] at hlt
      have hlt' := of_decide_eq_false hlt.symm
      refine ⟨⟨k0, by omega, e0⟩, fun k hk => ?_⟩
      by_cases hki : k = i + 1
      · subst hki; omega
      · exact hall k (by omega)
end Go.Proofs.Ytpmkgnnpngbfmaa
