/- slices.Delete at a bag's messages. -/
import Derived.Test.YtoinlhjdmkeaeabBagM
import Derived.Deep.RegionLaw
namespace Go.Proofs.Ytoinlhjdmkeaeab
open Go.RowKit

theorem step_append_fits {P : Program} {w : World} {ops : Array Oper} {o : Oper} {a : Act} {K : Act → World → Prop} {Q : Exit → Act → World → Prop} {E : Prop} (hgd : o.guard = none) (s x : Operand) (t : TypeId)
    (ho : o.op = .call { callee := .builtin .append, args := #[s, x], argTypes := #[t, t] })
    (base : Nat) (e : TypeId) (i : TypeInfo) (size : Nat) (ht : P.underlying t = some (.slice e)) (hi : P.info? e = some i) (hsize : i.size = size)
    (g n cap : Nat) (xs : List Value) (hs : a.eval s = .slice (some ⟨g, 0, none⟩) n cap) (hown : w.ownsRow base e size (.slice (some ⟨g, 0, none⟩) n cap) n xs)
    (ad : Addr) (m c : Nat) (news : List Value) (hx : a.eval x = .slice (some ad) m c) (hl : news.length = m * size) (hnews : ∀ j u, news[j]? = some u → w.cell? (ad.add j) = some u) (h1 : ∀ u ∈ news, u.oneCell' = true)
    (hroom : n + m ≤ cap)
    (h : ∀ w', w'.ownsRow base e size (.slice (some ⟨g, 0, none⟩) (n + m) cap) (n + m) (xs ++ news) → w.grownBy w' (some g) → K (a.put o.dst (.slice (some ⟨g, 0, none⟩) (n + m) cap)) w') :
    if Region.wanted o (yielded ops a.tmps) = true then Oper.wp P o a w K Q else E := by
  have hw : Region.wanted o (yielded ops a.tmps) = true := by simp [Region.wanted, hgd]
  rw [if_pos hw]
  obtain ⟨w', hr, h2, h3⟩ := run_append_fits (P := P) w base t o.type e i size ht hi hsize g n cap xs hown ad m c news hl hnews h1 hroom
  unfold Oper.wp execOp
  simp only [ho, resolve, invoke, builtin, Sem.run_bind, Sem.run_pure, Result.andThen_ok, List.map_toArray, List.map_cons, List.map_nil, hs, hx, hr]
  exact h w' h2 h3
theorem zero_old (w : World) : (zeroValue 61).run Try.prog w = .ok (.agg #[.int .i64 0, .int .i64 0, .slice none 0 0, .int .i64 0]) w := by kernel_rfl

theorem erase_flat (es : List Ent) (i : Nat) (_hi : i < es.length) : (es.take i).flatMap Ent.cells ++ (es.drop (i + 1)).flatMap Ent.cells = (es.eraseIdx i).flatMap Ent.cells := by
  rw [← List.flatMap_append, List.eraseIdx_eq_take_drop_succ]

set_option maxHeartbeats 2000000 in
set_option maxRecDepth 100000 in
theorem delete_any {B g cap n : Nat} {w : World} {es : List Ent} (h : w.ownsRow B 61 4 (.slice (some ⟨g, 0, none⟩) n cap) n (es.flatMap Ent.cells)) (hone : ∀ e ∈ es, e.bv.oneCell' = true) (hn : n = es.length) {i : Nat} (hi : i < n) (hfew : n ≤ 256) :
    Calls Try.prog 21 #[.slice (some ⟨g, 0, none⟩) n cap, .int .i64 i, .int .i64 (i + 1)] w fun e w' =>
      e = .returned (.slice (some ⟨g, 0, none⟩) (n - 1) cap) ∧ w'.ownsRow B 61 4 (.slice (some ⟨g, 0, none⟩) (n - 1) cap) (n - 1) ((es.eraseIdx i).flatMap Ent.cells) ∧ w.grownBy w' (some g) := by
  obtain ⟨k, hk⟩ : ∃ k, n = i + 1 + k := ⟨n - (i + 1), by omega⟩
  obtain ⟨hc1, hc2⟩ : n ≤ cap ∧ cap ≤ maxLen := by
    rcases h.2 with ⟨h', _⟩ | ⟨g', cap', cur, h', _, _, h1, h2, _⟩
    · simp at h'
    · cases h'; exact ⟨h1, h2⟩
  unfold maxLen at hc2
  have H := Lib.hid h
  have HN := Lib.hid hn
  have HO := Lib.hid hone
  subst hk
  have hc3 : (((i + 1 + k : Nat)) : Int) ≤ (cap : Int) := by omega
  have hic : i ≤ cap := by omega
  have hjc : i + 1 ≤ cap := by omega
  have hne : ¬ cap = i + k := by omega
  have hp1 : (0 : Int) ≤ (i : Int) + 1 := by omega
  have hp2 : (i : Int) + 1 ≤ (i : Int) + 1 + (k : Int) := by omega
  obtain ⟨A, hA, hsrc⟩ : ∃ A : Addr, (if cap = i + 1 then some (⟨g, 0, none⟩ : Addr) else some ⟨g, (i + 1) * 4, none⟩) = some A ∧ Hid (∀ t u, ((es.drop (i + 1)).flatMap Ent.cells)[t]? = some u → w.drew.cell? (A.add t) = some u) := by
    have hdl : ((es.drop (i + 1)).flatMap Ent.cells).length = k * 4 := by rw [flat_len Ent.cells 4 Ent.len, List.length_drop]; omega
    by_cases hc : cap = i + 1
    · refine ⟨⟨g, 0, none⟩, by simp [hc], fun t u hu => ?_⟩
      have := (List.getElem?_eq_some_iff.1 hu).1
      rw [hdl] at this; omega
    · refine ⟨⟨g, (i + 1) * 4, none⟩, by simp [hc], fun t u hu => ?_⟩
      have ht := (List.getElem?_eq_some_iff.1 hu).1
      rw [hdl] at ht
      rw [← flat_drop Ent.cells 4 Ent.len, List.getElem?_drop] at hu
      rw [Addr.add_lit]
      exact (H.out.cellAt ((i + 1) * 4 + t) (by omega)).trans hu
  clear h hn hone
  obtain ⟨i0, hi0, hz0, hz1, hz2⟩ := info_parts info_old
  go_enter Try.func21, Try.ntmps21
  go_wp2_with fail
  go_region_law ((refine step_append_fits rfl (.tmp 22) (.tmp 25) 55 rfl B 61 i0 4 Try.underlying55 hi0 hz1 g i cap ((es.take i).flatMap Ent.cells) (by simp [Act.eval, Act.put]) (by rw [← flat_take Ent.cells 4 Ent.len]; exact own_later (own_cut H.out (by omega)) (Below.refl _ _).drew) A k (cap - (i + 1)) ((es.drop (i + 1)).flatMap Ent.cells) (by simp [Act.eval, Act.put]) (by rw [flat_len Ent.cells 4 Ent.len, List.length_drop]; have := HN.out; omega) hsrc.out (by intro u hu; obtain ⟨e, he, hu⟩ := List.mem_flatMap.1 hu; exact Ent.one (HO.out e (List.mem_of_mem_drop he)) u hu) (by omega) ?_; intro W1 hW1 hW2))
  rw [erase_flat es i (by have := HN.out; omega)] at hW1
  obtain ⟨W2, hcl, hW3, hW4⟩ := run_clear_row W1 55 61 _ 4 Try.underlying55 zero_old rfl (Ent.one (e := ⟨0, 0, 0, .slice none 0 0, []⟩) rfl) B g (i + k) cap _ hW1 (i + k) (i + 1 + k - (i + k)) (cap - (i + k)) (Nat.le_refl _) (by omega) ⟨g, (i + k) * 4, none⟩ (fun _ => rfl)
  have X1 := Lib.hid hW1
  have X2 := Lib.hid hW2
  have X3 := Lib.hid hW3
  have X4 := Lib.hid hW4
  clear hW1 hW2 hW3 hW4
  go_wp2
  go_ret
  have e1 : i + 1 + k - 1 = i + k := by omega
  rw [e1]
  have hx := X3.out
  rw [List.take_of_length_le (by rw [X1.out.1]; exact Nat.le_refl _)] at hx
  exact ⟨rfl, hx, grown_trans ⟨X2.out.os, X2.out.tape, X2.out.output, X2.out.size, X2.out.block⟩ X4.out⟩
end Go.Proofs.Ytoinlhjdmkeaeab
