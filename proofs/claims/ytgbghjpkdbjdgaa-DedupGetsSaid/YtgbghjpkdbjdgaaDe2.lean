/- The reference: Drop. -/
import Derived.Test.YtgbghjpkdbjdgaaDe1
import Derived.Great.BuildSlice
namespace Go.Proofs.Ytgbghjpkdbjdgaa
open Go.RowKit
open Extern.Stop (cell)

theorem wpList_row_one {P : Program} {w : World} {ops : Array Oper} {rest : List Oper} {o : Oper} {a : Act} {Q : Exit → Act → World → Prop} (hg : o.guard = none) (t e : TypeId) (x : Operand) (ho : o.op = .buildSlice t 1 #[(0, x)]) (C : Array Value) (hx : a.eval x = .agg C) (S : Nat) (ie : TypeInfo) (z : Value) (hu : P.underlying t = some (.slice e)) (hie : P.info? e = some ie) (hz : ie.zero = some z) (hS : ie.size = S) (h0 : 0 < S) (hC : C.size = S) (hsm : S ≤ 16777216)
    (h : wpList P ops Q rest (a.put o.dst (.slice (some ⟨w.heap.size, 0, none⟩) 1 1)) (w.alloc (.cells C e))) : wpList P ops Q (o :: rest) a w := by
  refine wpList_plain hg fun K hK => ?_
  refine wp_buildSlice t e 1 #[(0, x)] ho C ie z hu hie hz (by rw [hS]; omega) (by rw [hS]; omega) ?_ (hK _ _ h)
  have h1 := Great.fill_whole h0 [Value.agg C] ((Array.range (1 * S)).map (z.cells[· % z.cells.size]!)) (fun v hv => by rw [List.mem_singleton.1 hv]; exact hC) (by simp)
  have e1 : (([Value.agg C] : List Value).flatMap fun v => v.cells.toList).toArray = C := by simp [Value.cells]
  rw [e1] at h1
  rw [hS]
  simpa [hx] using h1
theorem wpList_append_nil {P : Program} {w : World} {ops : Array Oper} {rest : List Oper} {o : Oper} {a : Act} {Q : Exit → Act → World → Prop} (hgd : o.guard = none) (s x : Operand) (t : TypeId)
    (ho : o.op = .call { callee := .builtin .append, args := #[s, x], argTypes := #[t, t] })
    (base : Nat) (e : TypeId) (i : TypeInfo) (size : Nat) (ht : P.underlying t = some (.slice e)) (hi : P.info? e = some i)
    (v : Value) (n : Nat) (xs : List Value) (hs : a.eval s = v) (hown : w.ownsRow base e size v n xs) (hx : a.eval x = .slice none 0 0)
    (h : wpList P ops Q rest (a.put o.dst v) w) : wpList P ops Q (o :: rest) a w := by
  refine wpList_plain hgd fun K hK => ?_
  unfold Oper.wp execOp
  simp only [ho, resolve, invoke, builtin, Sem.run_bind, Sem.run_pure, Result.andThen_ok, List.map_toArray, List.map_cons, List.map_nil, hs, hx, run_append_owned_none w base t o.type e i size ht hi v n xs hown]
  exact hK _ _ h
/-- append of whatever can be read, nil or not. -/
theorem wpList_append_opt {P : Program} {w : World} {ops : Array Oper} {rest : List Oper} {o : Oper} {a : Act} {Q : Exit → Act → World → Prop} (hgd : o.guard = none) (s x : Operand) (t : TypeId)
    (ho : o.op = .call { callee := .builtin .append, args := #[s, x], argTypes := #[t, t] })
    (base : Nat) (e : TypeId) (i : TypeInfo) (z : Value) (size bytes : Nat) (ht : P.underlying t = some (.slice e)) (hi : P.info? e = some i) (hz : i.zero = some z)
    (hsize : i.size = size) (hby : i.bytes = bytes) (hzs : z.cells.size = size) (hsz : 0 < size)
    (v : Value) (n : Nat) (xs : List Value) (hs : a.eval s = v) (hown : w.ownsRow base e size v n xs)
    (xa : Option Addr) (m c : Nat) (news : List Value) (hx : a.eval x = .slice xa m c) (hnone : xa = none → m = 0 ∧ c = 0) (hl : news.length = m * size) (hnews : ∀ ad, xa = some ad → ∀ j u, news[j]? = some u → w.cell? (ad.add j) = some u) (h1 : ∀ u ∈ news, u.oneCell' = true)
    (h63 : n + m ≤ maxLen) (hbytes : (n + m) * bytes ≤ 140737488355328) (hbase : base ≤ w.heap.size)
    (h : ∀ v' w', w'.ownsRow base e size v' (n + m) (xs ++ news) → w.grownBy w' v.ownBlock → (v'.ownBlock = v.ownBlock ∨ v'.ownBlock = some w.heap.size) → wpList P ops Q rest (a.put o.dst v') w') : wpList P ops Q (o :: rest) a w := by
  cases xa with
  | none =>
    obtain ⟨rfl, rfl⟩ := hnone rfl
    have hn : news = [] := List.eq_nil_of_length_eq_zero (by simpa using hl)
    subst hn
    refine wpList_append_nil hgd s x t ho base e i size ht hi v n xs hs hown hx (h v w ?_ (grown_refl _ _) (.inl rfl))
    simpa using hown
  | some ad => exact wpList_append_news hgd s x t ho base e i z size bytes ht hi hz hsize hby hzs hsz v n xs hs hown ad m c news hx hl (hnews ad rfl) h1 h63 hbytes hbase h
/-- A slice of objects. -/
def EV (w : World) (v : Value) (es : List Ent) : Prop := ∃ ad c, v = .slice ad es.length c ∧ ERow w ad es ∧ es.length ≤ c ∧ (ad = none → c = 0)
theorem EV.later {w w' : World} {v : Value} {es : List Ent} (h : EV w v es) (hb : Below w.heap.size w w') : EV w' v es := by
  obtain ⟨ad, c, h1, h2, h3, h4⟩ := h
  exact ⟨ad, c, h1, h2.later hb, h3, h4⟩
theorem EV.nil (w : World) : EV w (.slice none 0 0) [] := ⟨none, 0, rfl, fun j u hj => by simp at hj, Nat.le_refl _, fun _ => rfl⟩
theorem EV.own {w : World} {B : Nat} {v : Value} {es : List Ent} (h : w.ownsRow B 41 65 v es.length (es.flatMap ecells)) : EV w v es := by
  rcases h.2 with ⟨rfl, h0⟩ | ⟨g, cap, cur, rfl, _, _, hnc, _⟩
  · have : es = [] := List.eq_nil_of_length_eq_zero h0
    subst this
    exact EV.nil w
  · exact ⟨_, cap, rfl, rowAt_own h, hnc, fun e => by cases e⟩
theorem info_e : (Try.prog.info? 41).map (fun i => (i.zero, i.size, i.bytes)) = some (some (.agg (ecells (zid, zpl)).toArray), 65, 72) := by kernel_rfl
theorem e_news (w : World) (e : Ent) (t : TypeId) : ∀ (j : Nat) (u : Value), (ecells e)[j]? = some u → (w.alloc (.cells (ecells e).toArray t)).cell? ((⟨w.heap.size, 0, none⟩ : Addr).add j) = some u := World.news_of_block (heap_at w _)
set_option linter.unusedSimpArgs false in
set_option maxRecDepth 100000 in
set_option maxHeartbeats 4000000 in
theorem rdrop_any {w : World} {v : Value} {es : List Ent} (hv : EV w v es) (hl : es.length ≤ 10000) (p : Id32) :
    Calls Try.prog 12 #[v, keyI p] w fun e w' => ∃ v', e = .returned (.tuple #[v', .int .i64 (cntOf p es)]) ∧ EV w' v' (es.filter fun e => !decide (e.2.pack = p)) ∧ Below w.heap.size w w' := by
  obtain ⟨ad, c, rfl, hrow, hc, hn0⟩ := hv
  have ROW := Lib.hid hrow
  obtain ⟨n, hn⟩ : ∃ n, n = es.length := ⟨_, rfl⟩
  have NN := Lib.hid hn
  rw [← hn] at hl ⊢
  have n1 : (n : Int) ≤ 10000 := by omega
  obtain ⟨I, hI⟩ : ∃ I, I = w.heap.size := ⟨_, rfl⟩
  have II := Lib.hid hI
  obtain ⟨g0, hi, hz0, hz1, hz2⟩ := info_parts info_e
  clear hrow hn hI hc hn0
  go_enter Try.func12, Try.ntmps12
  go_upto_region 1 with fail
  rw [← II.out]
  refine wp_named fun W hW => ?_
  have e1 : W.heap[I]? = some (.cells (encId p).toArray 31 (0, 0)) := by rw [hW, II.out]; exact heap_at _ _
  have b0 : Below w.heap.size w W := by rw [hW]; exact below_alloc (Below.refl _ _) _
  have E1 := Lib.hid e1
  have B0 := Lib.hid b0
  clear hW e1 b0
  go_wp2_with fail
  go_loopg [6, 7] n (fun k s6 s7 wr => ∃ j : Nat, j ≤ n ∧ k = n - j ∧ s7 = .int .i64 j ∧ wr.ownsRow W.heap.size 41 65 s6 ((es.take j).filter fun e => !decide (e.2.pack = p)).length (((es.take j).filter fun e => !decide (e.2.pack = p)).flatMap ecells) ∧ Below W.heap.size W wr)
  case atStart => exact ⟨0, Nat.zero_le _, rfl, rfl, World.ownsRow_nil _ _ _ _, Below.refl _ _⟩
  case round =>
    obtain ⟨j, hj, hk, rfl, ho, hb⟩ := hrel
    have HK := Lib.hid hk
    have HB := Lib.hid hb
    have j0 : (0 : Int) ≤ (j : Int) := Int.natCast_nonneg _
    obtain ⟨out, hout⟩ : ∃ out, out = (es.take j).filter fun e => !decide (e.2.pack = p) := ⟨_, rfl⟩
    rw [← hout] at ho
    have ol : out.length ≤ 10000 := by
      rw [hout]
      have h1 := List.length_filter_le (fun e : Ent => !decide (e.2.pack = p)) (es.take j)
      rw [List.length_take] at h1
      omega
    have OUT := Lib.hid hout
    obtain ⟨oa, oc, rfl⟩ := own_slice ho
    have OO := Lib.hid ho
    obtain ⟨q, hq⟩ : ∃ q, q = out.length := ⟨_, rfl⟩
    have QQ := Lib.hid hq
    rw [← hq] at ol OO ⊢
    have q0 : (0 : Int) ≤ (q : Int) := Int.natCast_nonneg _
    clear hk hb hout ho hq
    by_cases hlt : j < n
    · have hlt' : (j : Int) < (n : Int) := by omega
      obtain ⟨e, he⟩ : ∃ e, es[j]? = some e := ⟨es[j]'(by rw [← NN.out]; exact hlt), List.getElem?_eq_getElem _⟩
      obtain ⟨b, off, rfl, hb2, hL⟩ := erow_elem (ROW.out.later (B0.out.trans (HB.out.mono B0.out.size))) he
      have LP := Lib.hid (e_lies hL).2.1
      have LE := Lib.hid hL
      have LI := Lib.hid (lies_block (aRegionKept E1.out HB.out))
      have HE := Lib.hid he
      have hq := eqi32 e.2.pack p
      clear hL he
      go_upto_region 5 with fail
      by_cases heq : e.2.pack = p
      · have hd : decide (e.2.pack = p) = true := decide_eq_true heq
        have EQ := Lib.hid heq
        clear heq
        refine wp_region_quiet_lit (by kernel_rfl) (by kernel_rfl) ?_
        iterate 4 go_big_quiet_step (fail)
        refine wpQuiet_load (by kernel_rfl) 31 (.tmp 17) rfl b (off + j * 65 + 32) rfl (encId e.2.pack).toArray _ (lies_drewN (LP.out)) Try.underlying31 rfl (sizei e.2.pack.1) ?_
        try simp only [Act.put, List.setIfInBounds_toArray, List.set_cons_zero, List.set_cons_succ]
        refine wpQuiet_load (by kernel_rfl) 31 (.tmp 3) rfl I (0) rfl (encId p).toArray _ (lies_drewN (LI.out)) Try.underlying31 rfl (sizei p.1) ?_
        try simp only [Act.put, List.setIfInBounds_toArray, List.set_cons_zero, List.set_cons_succ]
        repeat go_big_quiet_step (fail)
        refine wpQuiet_nil ?_
        intro _ hw9
        obtain ⟨nq, hw9⟩ := hw9
        subst hw9
        go_wp2
        go_roundg (n - (j + 1))
        case measure => rw [HK.out]; omega
        case rel =>
          refine ⟨j + 1, by omega, rfl, by go_num, ?_, below_drewN HB.out _⟩
          rw [List.take_add_one, HE.out, List.filter_append, ← OUT.out]
          have : (Option.toList (some e)).filter (fun e => !decide (e.2.pack = p)) = [] := by simp [EQ.out]
          rw [this, List.append_nil, ← QQ.out]
          exact own_later OO.out (below_drewN (Below.refl _ _) _)
      · have hd : decide (e.2.pack = p) = false := decide_eq_false heq
        have NE := Lib.hid heq
        clear heq
        refine wp_region_quiet_lit (by kernel_rfl) (by kernel_rfl) ?_
        iterate 4 go_big_quiet_step (fail)
        refine wpQuiet_load (by kernel_rfl) 31 (.tmp 17) rfl b (off + j * 65 + 32) rfl (encId e.2.pack).toArray _ (lies_drewN (LP.out)) Try.underlying31 rfl (sizei e.2.pack.1) ?_
        try simp only [Act.put, List.setIfInBounds_toArray, List.set_cons_zero, List.set_cons_succ]
        refine wpQuiet_load (by kernel_rfl) 31 (.tmp 3) rfl I (0) rfl (encId p).toArray _ (lies_drewN (LI.out)) Try.underlying31 rfl (sizei p.1) ?_
        try simp only [Act.put, List.setIfInBounds_toArray, List.set_cons_zero, List.set_cons_succ]
        repeat go_big_quiet_step (fail)
        refine wpQuiet_nil ?_
        intro _ hw9
        obtain ⟨nq, hw9⟩ := hw9
        subst hw9
        go_upto_region 6 with fail
        refine wp_named fun w5 hw5 => ?_
        have b5 : Below wr.heap.size wr w5 := by rw [hw5]; exact below_drewN (Below.refl _ _) _
        have LE5 := Lib.hid (LE.out.below b5 hb2)
        have O5 := Lib.hid (own_later OO.out b5)
        have B5 := Lib.hid (HB.out.trans (b5.mono HB.out.size))
        clear hw5 b5 LE OO HB LP LI hd hq
        go_wp2_with (first | (refine wpList_load_agg rfl 41 (.tmp 24) rfl b (off + j * 65) rfl (ecells e).toArray _ LE5.out Try.underlying41 rfl (sizee e) ?_) | (refine wpList_row_one rfl 26 41 (.tmp 25) rfl (ecells e).toArray rfl 65 g0 _ Try.underlying26 hi hz0 hz1 (by decide) (by simp [ecells_len]) (by decide) ?_) | (at_builtin; refine wpList_append_own _ rfl (.tmp 21) (.tmp 26) 26 rfl W.heap.size 41 g0 _ 65 72 Try.underlying26 hi hz0 hz1 hz2 (by simp [Value.cells, ecells_len]) (by decide) (.slice oa q oc) q (out.flatMap ecells) rfl (own_later O5.out (below_alloc (Below.refl _ _) _)) ⟨w5.heap.size, 0, none⟩ 1 1 (ecells e) rfl (by rw [ecells_len]) (e_news w5 e _) (ecells_one e) (by unfold maxLen; omega) (by omega) (by have := B5.out.size; simp; omega) ?_))
        intro v6 w6 hown6 hg6 hat6
        have B6 := Lib.hid ((B5.out.alloc B5.out.size (.cells (ecells e).toArray 41)).grown hg6 (by have := B5.out.size; simp; omega) (fun k hk => (own_row O5.out hk).1))
        have O6 := Lib.hid hown6
        clear hown6 hg6 hat6
        go_wp2
        go_roundg (n - (j + 1))
        case measure => rw [HK.out]; omega
        case rel =>
          refine ⟨j + 1, by omega, rfl, by go_num, ?_, B6.out⟩
          rw [List.take_add_one, HE.out, List.filter_append, ← OUT.out]
          have : (Option.toList (some e)).filter (fun e => !decide (e.2.pack = p)) = [e] := by simp [NE.out]
          rw [this, List.length_append, List.flatMap_append, ← QQ.out]
          simpa using O6.out
    · obtain rfl : j = n := by omega
      have hlt' : ¬ (j : Int) < (j : Int) := by omega
      have FIN : Hid (out = es.filter fun e => !decide (e.2.pack = p)) := Lib.hid (by rw [OUT.out, List.take_of_length_le (by rw [← NN.out]; exact Nat.le_refl _)])
      have CN : Hid ((j : Int) - (q : Int) = (cntOf p es : Int)) := Lib.hid (by
        have h := filter_split (fun e : Ent => decide (e.2.pack = p)) es
        have h2 : cntOf p es = (es.filter fun e => decide (e.2.pack = p)).length := rfl
        rw [QQ.out, FIN.out, NN.out, h2]
        omega)
      go_wp2
      go_ret2
      rw [CN.out]
      exact ⟨_, rfl, by rw [← FIN.out]; exact EV.own (by rw [← QQ.out]; exact OO.out), B0.out.trans (HB.out.mono B0.out.size)⟩
end Go.Proofs.Ytgbghjpkdbjdgaa
