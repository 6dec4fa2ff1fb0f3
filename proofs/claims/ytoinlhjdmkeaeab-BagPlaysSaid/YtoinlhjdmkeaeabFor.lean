/- What For does. -/
import Derived.Test.YtoinlhjdmkeaeabTake
import Derived.Deep.LoopGhost
import Derived.Deep.AppendLies
namespace Go.Proofs.Ytoinlhjdmkeaeab
open Go.RowKit

theorem info_int : (Try.prog.info? 3).map (fun i => (i.zero, i.size, i.bytes)) = some (some (.int .i64 0), 1, 8) := by kernel_rfl
/-- The places of those for a node, among the first j ones. -/
def forUpto (ms : List Msg) (node : Int) : Nat → List Int
  | 0 => []
  | j + 1 => forUpto ms node j ++ (match ms[j]? with | some m => if m.t = node then [(j : Int)] else [] | none => [])
theorem forUpto_len (ms : List Msg) (node : Int) : ∀ j, (forUpto ms node j).length ≤ j
  | 0 => by simp [forUpto]
  | j + 1 => by
    have := forUpto_len ms node j
    simp only [forUpto, List.length_append]
    cases ms[j]? with
    | none => simp; omega
    | some m => dsimp only; split <;> simp <;> omega
abbrev IntsIs (B : Nat) (w : World) (v : Value) (xs : List Int) : Prop := w.ownsRow B 3 1 v xs.length (xs.map (Value.int .i64))

theorem for_none (w : World) (node : Int) : Calls Try.prog 17 #[.pointer none, .int .i64 node] w fun e w' => e = .returned (.slice none 0 0) ∧ w' = w := by
  have L := len_none
  go_enter Try.func17, Try.ntmps17
  go_wp2_with fail
  refine (L _).mono ?_
  rintro e w1 ⟨rfl, rfl⟩
  go_wp2_with fail
  go_loopg [5, 9] 0 (fun _ s5 s9 wr => s5 = .slice none 0 0 ∧ s9 = .int .i64 0 ∧ wr = w1)
  case atStart => exact ⟨rfl, rfl, rfl⟩
  case round =>
    obtain ⟨rfl, rfl, rfl⟩ := hrel
    go_wp2
    go_ret
    exact ⟨rfl, rfl⟩
variable {A B : Nat} {w : World} {b : Nat} {nodes : Int} {v : Value} {es : List Ent} {ms : List Msg}

set_option maxHeartbeats 2000000 in
theorem for_any (h : IsBag A B w b nodes ms) (node : Int) :
    Calls Try.prog 17 #[.pointer (some ⟨b, 0, none⟩), .int .i64 node] w fun e w' => ∃ v', e = .returned v' ∧ IntsIs w.heap.size w' v' (forUpto ms node ms.length) ∧ Below w.heap.size w w' := by
  obtain ⟨v, es, hms, hI⟩ := h
  obtain ⟨va, vc, rfl, hva⟩ := hI.slice
  have hl : ms.length = es.length := by rw [← hms]; simp
  have L := len_any hI.box
  have hfew := hI.few
  have I := Lib.hid hI
  have HMS := Lib.hid hms
  rw [hl]
  obtain ⟨n, hn⟩ : ∃ n, n = es.length := ⟨_, rfl⟩
  have HN := Lib.hid hn
  rw [← hn] at L hfew ⊢
  clear hI hms hl hn hva
  obtain ⟨i0, hi, hz0, hz1, hz2⟩ := info_parts info_int
  go_enter Try.func17, Try.ntmps17
  go_wp2_with fail
  refine L.mono ?_
  rintro e w1 ⟨rfl, rfl⟩
  go_wp2_with fail
  go_loopg [5, 9] n (fun k s5 s9 wr => ∃ j : Nat, j ≤ n ∧ k = n - j ∧ s9 = .int .i64 j ∧ IntsIs w1.heap.size wr s5 (forUpto ms node j) ∧ Below w1.heap.size w1 wr)
  case atStart => exact ⟨0, Nat.zero_le _, rfl, rfl, World.ownsRow_nil _ _ _ _, Below.refl _ _⟩
  case round =>
    obtain ⟨j, hj, hk, rfl, hrow, hB⟩ := hrel
    have hI := I.out.later hB
    have HROW := Lib.hid hrow
    have HB := Lib.hid hB
    have HK := Lib.hid hk
    by_cases hlt : j < n
    · obtain ⟨e, he⟩ : ∃ e, es[j]? = some e := ⟨es[j]'(by rw [← HN.out]; exact hlt), List.getElem?_eq_getElem _⟩
      obtain ⟨⟨c0, c1⟩, c2, c3⟩ := blk2 hI.box
      obtain ⟨g, c, hv, hgb, hgl, ⟨d0, d1, d2, d3⟩, _⟩ := hI.cells he
      rw [hv, ← HN.out] at c1
      have j0 : (0 : Int) ≤ (j : Int) := Int.natCast_nonneg _
      have j1 : (j : Int) < (n : Int) := by omega
      clear hI hrow hB hk hv d0 d2 d3 c0 c2 c3
      have hm : ms[j]? = some e.msg := by rw [← HMS.out, List.getElem?_map, he]; rfl
      by_cases ht : e.t = node
      · have hup : forUpto ms node (j + 1) = forUpto ms node j ++ [(j : Int)] := by simp only [forUpto, hm, Ent.msg, if_pos ht]
        have HU := Lib.hid hup
        have hlen := forUpto_len ms node j
        clear hup hm he
        rw [ht] at d1
        go_wp2_with (at_builtin; refine wpList_append_own _ rfl _ _ 48 rfl w1.heap.size 3 i0 _ 1 8 Try.underlying48 hi hz0 hz1 hz2 rfl (by decide) _ _ _ rfl (own_later HROW.out (below_alloc (Below.refl _ _) _)) ⟨wr.heap.size, 0, none⟩ 1 1 [.int .i64 j] rfl rfl ?qc2 ?qc3 ?qc4 ?qc5 ?qc6 ?_)
        case qc2 => exact World.news_of_block (cs := #[.int .i64 j]) (heap_at wr _)
        case qc3 => intro u hu; simp only [List.mem_singleton] at hu; subst hu; rfl
        case qc4 => unfold maxLen; omega
        case qc5 => omega
        case qc6 => have := HB.out.size; simp; omega
        intro v' w2 hown hgrow hnil
        have hr : IntsIs w1.heap.size w2 v' (forUpto ms node (j + 1)) := by rw [HU.out]; unfold IntsIs; simpa using hown
        have hb2 : Below w1.heap.size w1 w2 := (below_alloc HB.out _).grown hgrow (by have := HB.out.size; simp; omega) (fun k hk => (own_row HROW.out hk).1)
        have HR := Lib.hid hr
        have HB2 := Lib.hid hb2
        clear hown hgrow hnil hr hb2
        go_wp2
        go_roundg (n - (j + 1))
        case measure => rw [HK.out]; omega
        case rel => exact ⟨j + 1, by omega, rfl, by go_num, HR.out, HB2.out⟩
      · have hup : forUpto ms node (j + 1) = forUpto ms node j := by simp only [forUpto, hm, Ent.msg, if_neg ht, List.append_nil]
        have HU := Lib.hid hup
        have ht' : (e.t == node) = false := by simpa using ht
        clear hup hm he ht
        go_wp2
        go_roundg (n - (j + 1))
        case measure => rw [HK.out]; omega
        case rel => exact ⟨j + 1, by omega, rfl, by go_num, by rw [HU.out]; exact HROW.out, HB.out⟩
    · obtain rfl : j = n := by omega
      clear hI hrow hB hk
      go_wp2
      go_ret
      exact ⟨_, rfl, HROW.out, HB.out⟩
end Go.Proofs.Ytoinlhjdmkeaeab
