/- The bag's example runs as told. -/
import Derived.Test.YtoinlhjdmkeaeabFor
import Derived.Test.YtoinlhjdmkeaeabTickD
import Derived.Laws.IdiomStrings
import Derived.Lib.SlBytesConst
namespace Go.Proofs.Ytoinlhjdmkeaeab
open Go.RowKit

abbrev ints (l : List UInt8) : List Int := l.map fun b => (b.toNat : Int)
theorem str_of {w : World} {v : Value} {l : List UInt8} (h : BytesAt w v (ints l)) : (convert 29 9 v).run Try.prog w = .ok (.string ⟨l.toArray⟩) w := by
  obtain ⟨ad, c, rfl, hsp, hc⟩ := h
  cases ad with
  | none =>
    have : l = [] := by
      cases l with
      | nil => rfl
      | cons x r => obtain ⟨b, off, h1, _⟩ := hc 0 _ rfl; cases h1
    subst this
    rw [run_convert_bytes_string w _ _ 5 none _ c Try.underlying29 Try.underlying5 Try.underlying9]
    rfl
  | some a =>
    have := run_convert_bytes_back w 29 9 5 a c l Try.underlying29 Try.underlying5 Try.underlying9 (fun j hj => by
      obtain ⟨b, off, h1, h2⟩ := hc j (l[j].toNat : Int) (by simp [List.getElem?_eq_getElem hj])
      cases h1
      rw [Addr.add_lit]; exact h2)
    simpa using this
variable {A B : Nat} {w : World} {b : Nat} {nodes : Int} {v : Value} {es : List Ent} {ms : List Msg} {mv : Value} {data : List Int}
theorem put_ok (h : IsBag A B w b nodes ms) (hA : A ≤ w.heap.size) (hB : B ≤ w.heap.size) (hm : BytesAt w mv data) {f t : Int} (f0 : 0 ≤ f) (f1 : f < nodes) (t0 : 0 ≤ t) (t1 : t < nodes) (hl : data.length ≤ 2097152) (hn : ms.length < 256) :
    Calls Try.prog 9 #[.pointer (some ⟨b, 0, none⟩), .agg #[.int .i64 f, .int .i64 t, mv]] w fun e w' => e = .returned (.int .i64 0) ∧ IsBag A B w' b nodes (ms ++ [⟨f, t, 0, data⟩]) ∧ Keeps bagT A w w' := by
  have P := put_any h hA hB hm f t
  have hc : putCode nodes ms.length f t data.length = 0 := by
    have h1 : there nodes f = true := by simp [there, f0, f1]
    have h2 : there nodes t = true := by simp [there, t0, t1]
    unfold putCode
    rw [if_pos ⟨h1, h2⟩, if_neg (by omega), if_neg (by omega)]
  unfold PutPost putDo at P
  rw [hc, if_pos rfl] at P
  exact P
theorem copy_ok (h : IsBag A B w b nodes ms) (hA : A ≤ w.heap.size) (hB : B ≤ w.heap.size) {i : Nat} {m : Msg} (hi : ms[i]? = some m) (f0 : 0 ≤ m.f) (f1 : m.f < nodes) (t0 : 0 ≤ m.t) (t1 : m.t < nodes) (hl : m.data.length ≤ 2097152) (hn : ms.length < 256) :
    Calls Try.prog 13 #[.pointer (some ⟨b, 0, none⟩), .int .i64 i] w fun e w' => e = .returned (.int .i64 0) ∧ IsBag A B w' b nodes (ms ++ [⟨m.f, m.t, 0, m.data⟩]) ∧ Keeps bagT A w w' := by
  have P := copy_yes h hA hB hi
  have hc : putCode nodes ms.length m.f m.t m.data.length = 0 := by
    have h1 : there nodes m.f = true := by simp [there, f0, f1]
    have h2 : there nodes m.t = true := by simp [there, t0, t1]
    unfold putCode
    rw [if_pos ⟨h1, h2⟩, if_neg (by omega), if_neg (by omega)]
  unfold PutPost putDo at P
  rw [hc, if_pos rfl] at P
  exact P
theorem IsBag.len (h : IsBag A B w b nodes ms) : Calls Try.prog 16 #[.pointer (some ⟨b, 0, none⟩)] w fun e w' => e = .returned (.int .i64 ms.length) ∧ w' = w := by
  obtain ⟨v, es, hms, hI⟩ := h
  obtain ⟨va, vc, rfl, _⟩ := hI.slice
  have hl : ms.length = es.length := by rw [← hms]; simp
  rw [hl]
  exact len_any hI.box
theorem IsBag.keeps {T : List TypeId} {A' : Nat} {w' : World} (h : IsBag A B w b nodes ms) (hk : Keeps T A' w w') (h1 : T.contains 57 = false) (h2 : T.contains 61 = false) (h3 : T.contains 5 = false) : IsBag A B w' b nodes ms := by
  obtain ⟨v, es, hms, hI⟩ := h
  exact ⟨v, es, hms, hI.keeps hk h1 h2 h3⟩
theorem own_slice {w : World} {base : Nat} {e : TypeId} {size : Nat} {v : Value} {n : Nat} {xs : List Value} (h : w.ownsRow base e size v n xs) : ∃ x c, v = .slice x n c := by
  rcases h.2 with ⟨rfl, h0⟩ | ⟨_, _, _, rfl, _⟩
  · exact ⟨_, _, by rw [h0]⟩
  · exact ⟨_, _, rfl⟩

set_option maxHeartbeats 4000000 in
set_option maxRecDepth 100000 in
theorem awake_any (w : World) : Calls Try.prog 7 #[] w fun e w' => e = .returned (.bool true) ∧ Below w.heap.size w w' := by
  have cv := fun (w : World) (C : Array Value) (n c : Nat) => Lib.run_convert_bytes_const (P := Try.prog) w 29 5 C n c Try.underlying29 Try.underlying5
  go_enter Try.func7, Try.ntmps7
  go_wp2_with fail
  refine (new_ok (by decide) (by decide) _).mono ?_
  rintro e w1 ⟨b, rfl, h1, hb⟩
  go_wp2_with fail
  have hby : BytesAt (w1.alloc (.cells #[.int .u8 120] 5 (1, 2))) (.slice (some ⟨w1.heap.size, 0, none⟩) 1 1) (ints [120]) := ⟨_, 1, rfl, by simp, fun j x hx => ⟨_, 0, rfl, by
    cases j with
    | zero => simp at hx; subst hx; exact World.cell?_alloc_mark w1 _ _ _ _
    | succ j => simp at hx⟩⟩
  have hs1 := hb.size
  refine (put_ok (h1.later (below_alloc (Below.refl _ _) _)) (by simp; omega) (by simp; omega) hby (f := 0) (t := 1) (by decide) (by decide) (by decide) (by decide) (by decide) (by decide)).mono ?_
  rintro e w2 ⟨rfl, h2, k2⟩
  have K2 : Keeps bagT w.heap.size w w2 := (Keeps.of (below_alloc hb _) (Nat.le_refl _)).trans k2
  have s2 := K2.below.size
  clear h1 hby k2
  go_wp2_with fail
  refine (copy_ok (i := 0) (m := ⟨0, 1, 0, ints [120]⟩) h2 s2 s2 rfl (by decide) (by decide) (by decide) (by decide) (by decide) (by decide)).mono ?_
  rintro e w3 ⟨rfl, h3, k3⟩
  have K3 := K2.trans k3
  have s3 := K3.below.size
  clear h2 k3 K2
  go_wp2_with fail
  refine (take_yes (i := 0) (m := ⟨0, 1, 0, ints [120]⟩) h3 s3 rfl).mono ?_
  rintro e w4 ⟨bv, rfl, y4, h4, k4⟩
  have K4 := K3.trans k4
  have s4 := K4.below.size
  obtain ⟨x, c, rfl⟩ := own_slice y4
  clear h3 k4 K3
  go_wp2_with fail
  have a4 := below_alloc (Below.refl w4.heap.size w4) (.cells #[.int .i64 0, .int .i64 1, .slice x (ints [120]).length c] 31)
  refine (for_any (h4.later a4) 1).mono ?_
  rintro e w5 ⟨v5, rfl, y5, k5⟩
  have a5 := a4.trans (k5.mono (by simp))
  have h5 : IsBag w.heap.size w.heap.size w5 b 2 [⟨0, 1, 0, [120]⟩] := h4.later a5
  have m5 := heap_kept k5 (heap_at w4 (.cells #[.int .i64 0, .int .i64 1, .slice x (ints [120]).length c] 31)) (by simp)
  have z5 := own_later y4 a5
  have K5 := K4.trans (Keeps.of a5 s4)
  have s5 := K5.below.size
  replace y5 : IntsIs _ w5 v5 (forUpto [⟨0, 1, 0, [120]⟩] 1 1) := y5
  rw [show forUpto [⟨0, 1, 0, [120]⟩] 1 1 = [0] from rfl] at y5
  obtain ⟨x5, c5, rfl⟩ := own_slice y5
  clear y4 h4 K4 a4 k5 y5
  go_wp2_with fail
  have T := tick_any h5 s5 (by intro m hm; simp at hm; subst hm; decide) 0
  rw [show tickDo [⟨0, 1, 0, [120]⟩] 0 = [] by rfl] at T
  refine T.mono ?_
  clear T
  rintro e w6 ⟨rfl, h6, k6⟩
  have m6 := k6.old _ _ m5 rfl
  have z6 := k6.own z5 rfl
  have K6 := K5.trans k6
  have C : (convert 29 9 (.slice x 1 c)).run Try.prog w6 = .ok (.string ⟨#[120]⟩) w6 := str_of (l := [120]) (BytesIs.at z6)
  have L := h6.len
  obtain ⟨⟨d0, d1, d2⟩, d3, d4, d5⟩ := blk3 m6
  have K := Lib.hid K6
  clear h5 k6 K5 z5 m5 m6 z6 K6 a5
  go_wp2_with fail
  refine L.mono ?_
  rintro e w7 ⟨rfl, rfl⟩
  go_wp2
  go_ret
  exact ⟨rfl, K.out.below⟩
end Go.Proofs.Ytoinlhjdmkeaeab
