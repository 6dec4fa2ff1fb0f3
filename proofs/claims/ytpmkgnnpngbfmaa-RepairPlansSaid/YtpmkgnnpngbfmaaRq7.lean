/- The reference's After, walked. -/
import Derived.Test.YtpmkgnnpngbfmaaRq6
namespace Go.Proofs.Ytpmkgnnpngbfmaa
open Go.RowKit
open Extern.Stop (cell)

theorem lies_dr {w : World} {b i : Nat} {cs : Array Value} (h : Lies w b i cs) (q : Nat) : Lies (w.drewN q) b i cs := lies_drewN h _ ⟨q, rfl⟩
/-- Holders behind the moves: as the reference reckons them. -/
def hsOf (ms : List Mv) (first : Bool) (p : Pk) : List Int := p.hs ++ (if first then toOf ms p.id else [])
theorem hsOf_false (ms : List Mv) (p : Pk) : hsOf ms false p = p.hs := by simp [hsOf]
theorem hsOf_len (ms : List Mv) (f : Bool) (p : Pk) : (hsOf ms f p).length ≤ p.hs.length + ms.length := by
  unfold hsOf
  rw [List.length_append]
  split
  · unfold toOf
    rw [List.length_map]
    have := List.length_filter_le (fun x : Mv => x.pack == p.id) ms
    omega
  · simp
theorem aft_ref {m : List Mv} {l : List Pk} {i : Nat} {p : Pk} (hp : l[i]? = some p) : aft m l i = (p.id, p.size, setOf (hsOf m (firstB (l.take i) p.id) p)) := by
  have e : l.getD i default = p := by rw [List.getD_eq_getElem?_getD, hp]; rfl
  unfold aft
  rw [e, firstB_seen]
  unfold setOf hsOf behind
  cases (aget (seenIds (l.take i)) p.id).isSome
  · simp [hset_two]
  · simp
theorem hsOf_same {ms : List Mv} {x : Mv} {p : Pk} (h : (x.pack == p.id) = false) (f : Bool) : hsOf (ms ++ [x]) f p = hsOf ms f p := by
  unfold hsOf
  have e : toOf (ms ++ [x]) p.id = toOf ms p.id := by
    rw [toOf_snoc, if_neg (fun e => by rw [e] at h; simp at h)]
  rw [e]
theorem hsOf_more {ms : List Mv} {x : Mv} {p : Pk} (h : (x.pack == p.id) = true) : hsOf (ms ++ [x]) true p = hsOf ms true p ++ [x.to] := by
  unfold hsOf
  have e : x.pack = p.id := by simpa using h
  have e2 : toOf (ms ++ [x]) p.id = toOf ms p.id ++ [x.to] := by rw [toOf_snoc, if_pos e]
  rw [e2]
  simp
theorem nil_len {w : World} {pa : Option Addr} {hs : List Int} {np : Nat} (h1 : IntsRd w pa hs) (hn : np = hs.length) (h : pa = none) : np = 0 := by
  rw [hn]
  cases hs with
  | nil => rfl
  | cons z r =>
    obtain ⟨_, _, e, _⟩ := h1 0 z rfl
    rw [h] at e
    cases e
theorem ints_news {w : World} {ad : Addr} {l : List Int} (h : IntsRd w (some ad) l) : ∀ (j : Nat) (u : Value), (l.map (Value.int .i64))[j]? = some u → w.cell? (ad.add j) = some u := fun j u hj => by
  rw [List.getElem?_map] at hj
  obtain ⟨z, hz, rfl⟩ := Option.map_eq_some_iff.1 hj
  obtain ⟨b, off, e, _, hc⟩ := h j z hz
  cases e
  unfold Addr.add
  split
  · rename_i h0
    rw [h0, Nat.add_zero] at hc
    exact hc
  · exact hc
/-- append of whatever can be read, nil or not. -/
theorem wpList_append_opt {P : Program} {w : World} {ops : Array Oper} {rest : List Oper} {o : Oper} {a : Act} {Q : Exit → Act → World → Prop} (hgd : o.guard = none) (s x : Operand) (t : TypeId)
    (ho : o.op = .call { callee := .builtin .append, args := #[s, x], argTypes := #[t, t] })
    (base : Nat) (e : TypeId) (i : TypeInfo) (z : Value) (size bytes : Nat) (ht : P.underlying t = some (.slice e)) (hi : P.info? e = some i) (hz : i.zero = some z)
    (hsize : i.size = size) (hby : i.bytes = bytes) (hzs : z.cells.size = size) (hsz : 0 < size)
    (v : Value) (n : Nat) (xs : List Value) (hs : a.eval s = v) (hown : w.ownsRow base e size v n xs)
    (xa : Option Addr) (m c : Nat) (news : List Value) (hx : a.eval x = .slice xa m c) (hnone : xa = none → m = 0 ∧ c = 0) (hl : news.length = m * size) (hnews : ∀ ad, xa = some ad → ∀ j u, news[j]? = some u → w.cell? (ad.add j) = some u) (h1 : ∀ u ∈ news, u.oneCell' = true)
    (h63 : n + m ≤ maxLen) (hbytes : (n + m) * bytes ≤ 140737488355328) (hbase : base ≤ w.heap.size)
    (h : ∀ v' w', w'.ownsRow base e size v' (n + m) (xs ++ news) → w.grownBy w' v.ownBlock → (v'.ownBlock = v.ownBlock ∨ v'.ownBlock = some w.heap.size) → wpList P ops Q rest (a.put o.dst v') w') : wpList P ops Q (o :: rest) a w := by
  cases xa with
  | none =>
    obtain ⟨rfl, rfl⟩ := hnone rfl
    have hn : news = [] := List.eq_nil_of_length_eq_zero (by simpa using hl)
    subst hn
    refine wpList_append_nil hgd s x t ho base e i size ht hi v n xs hs hown hx (h v w ?_ (grown_refl _ _) (.inl rfl))
    simpa using hown
  | some ad => exact wpList_append_news hgd s x t ho base e i z size bytes ht hi hz hsize hby hzs hsz v n xs hs hown ad m c news hx hl (hnews ad rfl) h1 h63 hbytes hbase h
set_option linter.unusedSimpArgs false in
set_option maxRecDepth 1000000 in
set_option maxHeartbeats 8000000 in
theorem rafter_any {w : World} {ad adm : Option Addr} {c cm : Nat} {l : List Pk} {ms : List Mv} (hrow : RowAt w ad (l.flatMap pcells)) (hfew : l.length ≤ 100) (hok : ∀ p ∈ l, PkOk w p) (hnl : ∀ p ∈ l, p.ad = none → p.cap = 0)
    (hrm : RowAt w adm (ms.flatMap mcells)) (hmf : ms.length ≤ 10000) (hmo : ∀ x ∈ ms, MvOk x) :
    Calls Try.prog 15 #[.slice ad l.length c, .slice adm ms.length cm] w fun e w' => ∃ v ps, e = .returned v ∧ ps.map says = afts ms l l.length ∧ RpRow w.heap.size w' v ps ∧ (∀ p ∈ ps, HsOwn w.heap.size w' p) ∧ Below w.heap.size w w' := by
  have R := Lib.hid hrow
  have OK := Lib.hid hok
  have NL := Lib.hid hnl
  have RM := Lib.hid hrm
  have MO := Lib.hid hmo
  obtain ⟨n, hn⟩ : ∃ n, n = l.length := ⟨_, rfl⟩
  obtain ⟨m, hm⟩ : ∃ m, m = ms.length := ⟨_, rfl⟩
  have HN := Lib.hid hn
  have HM := Lib.hid hm
  rw [← hn] at hfew ⊢
  rw [← hm] at hmf ⊢
  clear hrow hok hnl hn hrm hmo hm
  go_enter Try.func15, Try.ntmps15
  go_wp2_with fail
  go_loopg [5, 6, 7, 8, 9, 10] n (fun k s5 s6 _ _ _ _ wr => ∃ (i : Nat) (ps : List Pk), i ≤ n ∧ k = n - i ∧ s6 = .int .i64 i ∧ ps.map says = afts ms l i ∧ RpRow w.heap.size wr s5 ps ∧ (∀ p ∈ ps, HsOwn w.heap.size wr p) ∧ Below w.heap.size w wr)
  case atStart => exact ⟨0, [], Nat.zero_le _, rfl, rfl, rfl, ⟨rfl, .inl ⟨rfl, rfl⟩⟩, by simp, Below.refl _ _⟩
  case round =>
    obtain ⟨i, ps, hi, hk, rfl, hps, hP, hH, hB⟩ := hrel
    obtain ⟨w3, rfl⟩ : ∃ w3 : World, w3 = wr := ⟨_, rfl⟩
    have HK := Lib.hid hk
    have PS := Lib.hid hps
    have PP := Lib.hid hP
    have HH := Lib.hid hH
    have BB := Lib.hid hB
    clear hk hps hP hH hB
    by_cases hlt : i < n
    · obtain ⟨p, hp⟩ : ∃ p, l[i]? = some p := ⟨l[i]'(by rw [← HN.out]; exact hlt), List.getElem?_eq_getElem _⟩
      obtain ⟨b, off, rfl, hbW, hl0⟩ := rowAt_elem pcells_len (by decide) R.out hp
      have LW := Lib.hid hl0
      have R3 := Lib.hid (R.out.later BB.out)
      obtain ⟨_, _, e9, hbl, hlp⟩ := rowAt_elem pcells_len (by decide) R3.out hp
      cases e9
      obtain ⟨lp, sp, cp⟩ := pk_lies hlp
      have LP := Lib.hid lp
      have PO := Lib.hid ((OK.out p (List.mem_of_getElem? hp)))
      have PN := Lib.hid (NL.out p (List.mem_of_getElem? hp))
      have HP := Lib.hid hp
      obtain ⟨pa, hpa⟩ : ∃ pa, pa = p.ad := ⟨_, rfl⟩
      obtain ⟨np, hnp⟩ : ∃ np, np = p.hs.length := ⟨_, rfl⟩
      obtain ⟨pc, hpc⟩ : ∃ pc, pc = p.cap := ⟨_, rfl⟩
      rw [← hpa, ← hnp, ← hpc] at cp
      have hpn : pa = none → pc = 0 := by rw [hpa, hpc]; exact PN.out
      have np1 : np ≤ 1000 := by rw [hnp]; exact PO.out.few
      have RP : Hid (IntsRd w3 pa p.hs) := Lib.hid (by rw [hpa]; exact PO.out.rd.later BB.out)
      have HNP := Lib.hid hnp
      have HPN := Lib.hid hpn
      have i0 : (0 : Int) ≤ (i : Int) := Int.natCast_nonneg _
      have i1 : (i : Int) < (n : Int) := by omega
      have PID := Lib.hid PO.out.id
      clear hp hl0 hlp lp hpa hnp hpc hpn PN
      go_wp2_with fail
      go_loopg [7, 8] i (fun k s7 s8 wr => ∃ (j q : Nat), j ≤ i ∧ k = i - j ∧ s8 = .int .i64 j ∧ s7 = .bool (firstB (l.take j) p.id) ∧ wr = w3.drewN q)
      case atStart => exact ⟨0, 0, Nat.zero_le _, rfl, rfl, rfl, rfl⟩
      case round =>
        obtain ⟨j, q, hj, hkj, rfl, rfl, rfl⟩ := hrel
        have HKJ := Lib.hid hkj
        clear hkj
        by_cases hlj : j < i
        · as_aux_lemma =>
          obtain ⟨x, hx⟩ : ∃ x, l[j]? = some x := ⟨l[j]'(by rw [← HN.out]; omega), List.getElem?_eq_getElem _⟩
          obtain ⟨b2, off2, e2, _, hlx⟩ := rowAt_elem pcells_len (by decide) R3.out hx
          cases e2
          have LX := Lib.hid (pk_lies hlx).1
          have hq := eqi_ids (OK.out x (List.mem_of_getElem? hx)).id PID.out
          generalize hbq : (x.id == p.id) = bq at hq
          obtain ⟨fb, hfb⟩ : ∃ fb, fb = firstB (l.take j) p.id := ⟨_, rfl⟩
          rw [← hfb]
          have SN : Hid (firstB (l.take (j + 1)) p.id = (fb && !bq)) := Lib.hid (by
            rw [List.take_add_one, hx]
            show firstB (l.take j ++ [x]) p.id = _
            rw [firstB_snoc, hbq, hfb])
          have j0 : (0 : Int) ≤ (j : Int) := Int.natCast_nonneg _
          have j1 : (j : Int) < (i : Int) := by omega
          have j2 : (j : Int) < (n : Int) := by omega
          clear hx hlx hbq hfb
          cases fb
          · go_wp2_with fail
            refine wp_region_quiet_lit (by kernel_rfl) (by kernel_rfl) ?_
            repeat go_big_quiet_step (fail)
            refine wpQuiet_nil ?_
            intro _ hw9
            obtain ⟨nq, hw9⟩ := hw9
            subst hw9
            go_wp2
            go_roundg (i - (j + 1))
            case measure => rw [HKJ.out]; omega
            case rel => exact ⟨j + 1, q + nq, by omega, rfl, by go_num, by rw [SN.out]; rfl, rfl⟩
          · cases bq
            · go_wp2_with fail
              refine wp_region_quiet_lit (by kernel_rfl) (by kernel_rfl) ?_
              iterate 6 go_big_quiet_step (fail)
              refine wpQuiet_load (by kernel_rfl) 37 (.tmp 27) rfl b (off + j * 34) rfl (idCells x.id).toArray _ (lies_drewN (lies_dr LX.out q)) Try.underlying37 rfl (sizei x.id) ?_
              try simp only [Act.put, List.setIfInBounds_toArray, List.set_cons_zero, List.set_cons_succ]
              iterate 4 go_big_quiet_step (fail)
              refine wpQuiet_load (by kernel_rfl) 37 (.tmp 32) rfl b (off + i * 34) rfl (idCells p.id).toArray _ (lies_drewN (lies_dr LP.out q)) Try.underlying37 rfl (sizei p.id) ?_
              try simp only [Act.put, List.setIfInBounds_toArray, List.set_cons_zero, List.set_cons_succ]
              repeat go_big_quiet_step (fail)
              refine wpQuiet_nil ?_
              intro _ hw9
              obtain ⟨nq, hw9⟩ := hw9
              subst hw9
              go_wp2
              go_roundg (i - (j + 1))
              case measure => rw [HKJ.out]; omega
              case rel => exact ⟨j + 1, q + nq, by omega, rfl, by go_num, by rw [SN.out]; rfl, rfl⟩
            · go_wp2_with fail
              refine wp_region_quiet_lit (by kernel_rfl) (by kernel_rfl) ?_
              iterate 6 go_big_quiet_step (fail)
              refine wpQuiet_load (by kernel_rfl) 37 (.tmp 27) rfl b (off + j * 34) rfl (idCells x.id).toArray _ (lies_drewN (lies_dr LX.out q)) Try.underlying37 rfl (sizei x.id) ?_
              try simp only [Act.put, List.setIfInBounds_toArray, List.set_cons_zero, List.set_cons_succ]
              iterate 4 go_big_quiet_step (fail)
              refine wpQuiet_load (by kernel_rfl) 37 (.tmp 32) rfl b (off + i * 34) rfl (idCells p.id).toArray _ (lies_drewN (lies_dr LP.out q)) Try.underlying37 rfl (sizei p.id) ?_
              try simp only [Act.put, List.setIfInBounds_toArray, List.set_cons_zero, List.set_cons_succ]
              repeat go_big_quiet_step (fail)
              refine wpQuiet_nil ?_
              intro _ hw9
              obtain ⟨nq, hw9⟩ := hw9
              subst hw9
              go_wp2
              go_roundg (i - (j + 1))
              case measure => rw [HKJ.out]; omega
              case rel => exact ⟨j + 1, q + nq, by omega, rfl, by go_num, by rw [SN.out]; rfl, rfl⟩
        · obtain rfl : i = j := by omega
          obtain ⟨fb, hfb⟩ : ∃ fb, fb = firstB (l.take i) p.id := ⟨_, rfl⟩
          have HFB := Lib.hid hfb
          rw [← hfb]
          clear hlj hfb
          have bq := below_drewN (Below.refl w3.heap.size w3) q
          have P4 := Lib.hid (own_later PP.out bq)
          have H4 := Lib.hid (fun y hy => (own_later (HH.out y hy) bq : HsOwn w.heap.size _ y))
          have B4 := Lib.hid (BB.out.trans (bq.mono BB.out.size))
          have RP4 := Lib.hid (RP.out.later bq)
          have cp4 := cell_below cp bq
          clear bq
          generalize w3.drewN q = w4 at P4 H4 B4 RP4 cp4 ⊢
          have BS4 := Lib.hid B4.out.size
          obtain ⟨g0, hg0, hg1, hg2, hg3⟩ := info_parts info_int
          have IF := Lib.hid (⟨hg0, hg1, hg2, hg3⟩ : Try.prog.info? 3 = some g0 ∧ g0.zero = some (.int .i64 0) ∧ g0.size = 1 ∧ g0.bytes = 8)
          clear hg0 hg1 hg2 hg3 sp cp LP
          have LEN : Hid ((p.hs.map (Value.int .i64)).length = np * 1) := Lib.hid (by rw [List.length_map, ← HNP.out, Nat.mul_one])
          have NEWS : Hid (∀ ad, pa = some ad → ∀ (j : Nat) (u : Value), (p.hs.map (Value.int .i64))[j]? = some u → w4.cell? (ad.add j) = some u) := Lib.hid (fun ad h => ints_news (by have := RP4.out; rw [h] at this; exact this))
          have NONE : Hid (pa = none → np = 0 ∧ pc = 0) := Lib.hid (fun h => ⟨nil_len RP4.out HNP.out h, HPN.out h⟩)
          go_upto_region 12 with (at_builtin; refine wpList_append_opt rfl (.tmp 36) (.tmp 41) 44 rfl w4.heap.size 3 g0 _ 1 8 Try.underlying44 IF.out.1 IF.out.2.1 IF.out.2.2.1 IF.out.2.2.2 rfl (by decide) (.slice none 0 0) 0 [] rfl ⟨rfl, .inl ⟨rfl, rfl⟩⟩ pa np pc (p.hs.map (Value.int .i64)) rfl NONE.out LEN.out NEWS.out (int_ones _) (by unfold maxLen; omega) (by omega) (Nat.le_refl _) ?_; intro v5 w5 hown5 hg5 hat5)
          clear hat5
          have B45 := below_none hg5
          have I5 : Hid (IntsIs w4.heap.size w5 v5 (hsOf ms fb p) ∨ True) := Lib.hid (.inr trivial)
          rw [Nat.zero_add, List.nil_append] at hown5
          have H5 : Hid (IntsIs w4.heap.size w5 v5 p.hs) := Lib.hid (by unfold IntsIs; rw [← HNP.out]; exact hown5)
          have BB45 := Lib.hid B45
          clear I5 hown5 hg5 B45 cp4 LEN NEWS NONE
          go_wp2_with fail
          go_loopg [9, 10] m (fun k s9 s10 wr => ∃ j : Nat, j ≤ m ∧ k = m - j ∧ s10 = .int .i64 j ∧ (fb = false → j = 0) ∧ IntsIs w4.heap.size wr s9 (hsOf (ms.take j) fb p) ∧ Below w4.heap.size w4 wr)
          case atStart => exact ⟨0, Nat.zero_le _, rfl, rfl, fun _ => rfl, by rw [List.take_zero]; unfold hsOf toOf; cases fb <;> simpa using H5.out, BB45.out⟩
          case round =>
            obtain ⟨j, hj, hkj, rfl, hfj, hI, hB⟩ := hrel
            obtain ⟨w6, rfl⟩ : ∃ w6 : World, w6 = wr := ⟨_, rfl⟩
            have HKJ := Lib.hid hkj
            have HFJ := Lib.hid hfj
            have II := Lib.hid hI
            have B6 := Lib.hid hB
            have j0 : (0 : Int) ≤ (j : Int) := Int.natCast_nonneg _
            clear hkj hfj hI hB H5 BB45
            by_cases hgo : j < m ∧ fb = true
            · obtain ⟨hlj, rfl⟩ := hgo
              as_aux_lemma =>
              obtain ⟨x, hx⟩ : ∃ x, ms[j]? = some x := ⟨ms[j]'(by rw [← HM.out]; exact hlj), List.getElem?_eq_getElem _⟩
              have BW6 := Lib.hid (B4.out.trans (B6.out.mono BS4.out))
              obtain ⟨b2, off2, rfl, _, hl2⟩ := rowAt_elem mcells_len (by decide) (RM.out.later BW6.out) hx
              obtain ⟨lx, cx⟩ := mv_lies hl2
              obtain ⟨_, _, e9, _, hl9⟩ := rowAt_elem pcells_len (by decide) (R.out.later BW6.out) HP.out
              cases e9
              have LX := Lib.hid lx
              have LP := Lib.hid (pk_lies hl9).1
              have hq := eqi_ids (MO.out x (List.mem_of_getElem? hx)).id PID.out
              generalize hbq : (x.pack == p.id) = bq at hq
              have BQ := Lib.hid hbq
              have TX : Hid (ms.take (j + 1) = ms.take j ++ [x]) := Lib.hid (by rw [List.take_add_one, hx]; rfl)
              have j1 : (j : Int) < (m : Int) := by omega
              clear hx hl2 lx hl9 hbq
              cases bq
              · go_wp2_with fail
                refine wp_region_quiet_lit (by kernel_rfl) (by kernel_rfl) ?_
                iterate 4 go_big_quiet_step (fail)
                refine wpQuiet_load (by kernel_rfl) 37 (.tmp 55) rfl b2 (off2 + j * 33) rfl (idCells x.pack).toArray _ (lies_drewN (lies_dr LX.out 0)) Try.underlying37 rfl (sizei x.pack) ?_
                try simp only [Act.put, List.setIfInBounds_toArray, List.set_cons_zero, List.set_cons_succ]
                iterate 4 go_big_quiet_step (fail)
                refine wpQuiet_load (by kernel_rfl) 37 (.tmp 60) rfl b (off + i * 34) rfl (idCells p.id).toArray _ (lies_drewN (lies_dr LP.out 0)) Try.underlying37 rfl (sizei p.id) ?_
                try simp only [Act.put, List.setIfInBounds_toArray, List.set_cons_zero, List.set_cons_succ]
                repeat go_big_quiet_step (fail)
                refine wpQuiet_nil ?_
                intro _ hw9
                obtain ⟨nq, hw9⟩ := hw9
                subst hw9
                go_wp2
                go_roundg (m - (j + 1))
                case measure => rw [HKJ.out]; omega
                case rel => exact ⟨j + 1, by omega, rfl, by go_num, fun h => by (cases h), by rw [TX.out, hsOf_same BQ.out]; exact own_later II.out (below_drewN (Below.refl _ _) _), B6.out.trans (below_drewN (Below.refl _ _) _)⟩
              · go_wp2_with fail
                refine wp_region_quiet_lit (by kernel_rfl) (by kernel_rfl) ?_
                iterate 4 go_big_quiet_step (fail)
                refine wpQuiet_load (by kernel_rfl) 37 (.tmp 55) rfl b2 (off2 + j * 33) rfl (idCells x.pack).toArray _ (lies_drewN (lies_dr LX.out 0)) Try.underlying37 rfl (sizei x.pack) ?_
                try simp only [Act.put, List.setIfInBounds_toArray, List.set_cons_zero, List.set_cons_succ]
                iterate 4 go_big_quiet_step (fail)
                refine wpQuiet_load (by kernel_rfl) 37 (.tmp 60) rfl b (off + i * 34) rfl (idCells p.id).toArray _ (lies_drewN (lies_dr LP.out 0)) Try.underlying37 rfl (sizei p.id) ?_
                try simp only [Act.put, List.setIfInBounds_toArray, List.set_cons_zero, List.set_cons_succ]
                repeat go_big_quiet_step (fail)
                refine wpQuiet_nil ?_
                intro _ hw9
                obtain ⟨nq, hw9⟩ := hw9
                subst hw9
                have bq := below_drewN (Below.refl w6.heap.size w6) nq
                obtain ⟨hn9, hhn⟩ : ∃ hn9, hn9 = (hsOf (ms.take j) true p).length := ⟨_, rfl⟩
                have hnl9 : hn9 ≤ 20000 := by
                  have h1 := hsOf_len (ms.take j) true p
                  rw [List.length_take, ← hhn, ← HNP.out] at h1
                  omega
                have HHN := Lib.hid hhn
                have cxw := cell_below cx bq
                have BW := Lib.hid (B6.out.trans (bq.mono B6.out.size))
                have IW := own_later II.out bq
                generalize w6.drewN nq = W at BW cxw IW ⊢
                have ba := below_alloc (Below.refl W.heap.size W) (.cells #[.int .i64 x.to] 3)
                have O7 : Hid ((W.alloc (.cells #[.int .i64 x.to] 3)).ownsRow w4.heap.size 3 1 u9 hn9 ((hsOf (ms.take j) true p).map (Value.int .i64))) := Lib.hid (by have := own_later IW ba; rw [HHN.out]; exact this)
                have B7 := Lib.hid (BW.out.trans (ba.mono BW.out.size))
                have BS7 := Lib.hid B7.out.size
                have NEWS7 : Hid (∀ (q : Nat) (u : Value), ([.int .i64 x.to] : List Value)[q]? = some u → (W.alloc (.cells #[.int .i64 x.to] 3)).cell? ((⟨W.heap.size, 0, none⟩ : Addr).add q) = some u) := Lib.hid (news_made W [.int .i64 x.to] 3)
                clear bq hhn IW ba cx
                go_wp2_with (at_builtin; refine wpList_append_news rfl (.tmp 63) (.tmp 69) 44 rfl w4.heap.size 3 g0 _ 1 8 Try.underlying44 IF.out.1 IF.out.2.1 IF.out.2.2.1 IF.out.2.2.2 rfl (by decide) u9 hn9 ((hsOf (ms.take j) true p).map (Value.int .i64)) rfl O7.out ⟨W.heap.size, 0, none⟩ 1 1 [.int .i64 x.to] rfl rfl NEWS7.out (fun u hu => by simp at hu; subst hu; rfl) (by unfold maxLen; omega) (by omega) BS7.out ?_; intro v8 w8 hown8 hg8 hat8)
                clear hat8
                have B8 := Lib.hid (B7.out.grown hg8 BS7.out (fun k hk => (own_row O7.out hk).1))
                have I8 : Hid (IntsIs w4.heap.size w8 v8 (hsOf (ms.take (j + 1)) true p)) := Lib.hid (by
                  rw [TX.out, hsOf_more BQ.out]
                  unfold IntsIs
                  rw [List.length_append, ← HHN.out, List.map_append]
                  exact hown8)
                clear hown8 hg8
                go_roundg (m - (j + 1))
                case measure => rw [HKJ.out]; omega
                case rel => exact ⟨j + 1, by omega, rfl, by go_num, fun h => by (cases h), I8.out, B8.out⟩
            · have HX : Hid (hsOf (ms.take j) fb p = hsOf ms fb p) := Lib.hid (by
                cases fb
                · rw [hsOf_false, hsOf_false]
                · have : j = m := by
                    by_cases h : j < m
                    · exact absurd ⟨h, rfl⟩ hgo
                    · omega
                  rw [this, HM.out, List.take_length])
              have IE : Hid (IntsIs w4.heap.size w6 u9 (hsOf ms fb p)) := Lib.hid (by rw [← HX.out]; exact II.out)
              have HGO := Lib.hid hgo
              clear II HX hgo
              by_cases hlj : j < m
              · have hfb : fb = false := by
                  cases fb
                  · rfl
                  · exact absurd ⟨hlj, rfl⟩ HGO.out
                have j1 : (j : Int) < (m : Int) := by omega
                subst hfb
                clear IF
                have hh1 := hsOf_len ms false p
                rw [← HNP.out, ← HM.out] at hh1
                have SZ6 : Hid (setOf (hsOf ms false p) = setOf (hsOf ms (firstB (l.take i) p.id) p)) := Lib.hid (by rw [HFB.out])
                obtain ⟨hf, hhf⟩ : ∃ hf, hf = hsOf ms false p := ⟨_, rfl⟩
                rw [← hhf] at hh1
                have SZ7 : Hid (setOf hf = setOf (hsOf ms (firstB (l.take i) p.id) p)) := Lib.hid (by rw [hhf, SZ6.out])
                have I6 : Hid (IntsIs w4.heap.size w6 u9 hf) := Lib.hid (by rw [hhf]; exact IE.out)
                clear IE SZ6 hhf
                obtain ⟨xh, ch, rfl⟩ := own_slice I6.out
                obtain ⟨hl9, hhl⟩ : ∃ hl9, hl9 = hf.length := ⟨_, rfl⟩
                rw [← hhl] at hh1 ⊢
                have HHL := Lib.hid hhl
                clear hhl
                have P6 := Lib.hid (own_later P4.out B6.out)
                have H6 := Lib.hid (fun y hy => (own_later (H4.out y hy) B6.out : HsOwn w.heap.size w6 y))
                have BW6 := Lib.hid (B4.out.trans (B6.out.mono BS4.out))
                have c32 := (pk_lies LW.out).2.1
                have C32 := Lib.hid c32
                have LIDW := Lib.hid (show w.rangeAt b (off + i * 34) (idCells p.id) from (pk_lies LW.out).1)
                have pl : ps.length = i := by have := congrArg List.length PS.out; simpa [afts_len] using this
                obtain ⟨j0', hj0, hj1, hj2, hj3⟩ := info_parts info_rp
                have PW := Lib.hid (⟨hj0, hj1, hj2, hj3⟩ : Try.prog.info? 47 = some j0' ∧ j0'.zero = some (.agg (pcells ⟨[], 0, [], none, 0⟩).toArray) ∧ j0'.size = 34 ∧ j0'.bytes = 64)
                have PL := Lib.hid pl
                clear c32 pl hj0 hj1 hj2 hj3 P4 H4 B6
                go_wp2_with fail
                refine wp_region_held_drew (S := fun w' => Below w.heap.size w w') (by kernel_rfl) (BW6.out.trans (below_drew (Below.refl _ _))) (fun hHeld => ?_)
                refine wpAnyH_take (i := 0) (v := ?_) rfl (by kernel_rfl) (by kernel_rfl) (by kernel_rfl) (fun _ _ _ h => h) (Or.inl ⟨by kernel_rfl, ?_⟩) (by assumption) ?_
                rotate_left
                · (intro w hSw; (go_simp; try with_reducible rfl))
                try simp only [Act.put, List.getElem_toArray, List.getElem_cons_succ, List.getElem_cons_zero, List.setIfInBounds_toArray, List.set_cons_zero, List.set_cons_succ]
                refine wpAnyH_take (i := 1) (v := ?_) rfl (by kernel_rfl) (by kernel_rfl) (by kernel_rfl) (fun _ _ _ h => h) (Or.inl ⟨by kernel_rfl, ?_⟩) (by assumption) ?_
                rotate_left
                · (intro w hSw; (go_simp; try with_reducible rfl))
                try simp only [Act.put, List.getElem_toArray, List.getElem_cons_succ, List.getElem_cons_zero, List.setIfInBounds_toArray, List.set_cons_zero, List.set_cons_succ]
                refine wpAnyH_take (i := 2) (v := ?_) rfl (by kernel_rfl) (by kernel_rfl) (by kernel_rfl) (fun _ _ _ h => h) (Or.inl ⟨by kernel_rfl, ?_⟩) (by assumption) ?_
                rotate_left
                · (intro w hSw; (go_simp; try with_reducible rfl))
                try simp only [Act.put, List.getElem_toArray, List.getElem_cons_succ, List.getElem_cons_zero, List.setIfInBounds_toArray, List.set_cons_zero, List.set_cons_succ]
                refine wpAnyH_take (i := 3) (v := ?_) rfl (by kernel_rfl) (by kernel_rfl) (by kernel_rfl) (fun _ _ _ h => h) (Or.inl ⟨by kernel_rfl, ?_⟩) (by assumption) ?_
                rotate_left
                · (intro w hSw; (go_simp; try with_reducible rfl))
                try simp only [Act.put, List.getElem_toArray, List.getElem_cons_succ, List.getElem_cons_zero, List.setIfInBounds_toArray, List.set_cons_zero, List.set_cons_succ]
                refine wpAnyH_take (i := 4) (v := ?_) rfl (by kernel_rfl) (by kernel_rfl) (by kernel_rfl) (fun _ _ _ h => h) (Or.inl ⟨by kernel_rfl, ?_⟩) (by assumption) ?_
                rotate_left
                · (intro w hSw; (go_simp; try with_reducible rfl))
                try simp only [Act.put, List.getElem_toArray, List.getElem_cons_succ, List.getElem_cons_zero, List.setIfInBounds_toArray, List.set_cons_zero, List.set_cons_succ]
                refine' wpAnyH_take (i := 5) (v := _) rfl (by kernel_rfl) (by kernel_rfl) (by kernel_rfl) (fun _ _ _ h => h) (yieldsIf_load_mid (by kernel_rfl) _ _ rfl _ _ rfl (idCells p.id) _ ?hS5 Try.underlying37 rfl (by rw [size_id, idCells_len])) (by assumption) ?rest5
                case hS5 => exact fun w' hw => rangeAt_below LIDW.out hw
                case rest5 =>
                try simp only [Act.put, List.getElem_toArray, List.getElem_cons_succ, List.getElem_cons_zero, List.setIfInBounds_toArray, List.set_cons_zero, List.set_cons_succ]
                refine wpAnyH_take (i := 6) (v := ?_) rfl (by kernel_rfl) (by kernel_rfl) (by kernel_rfl) (fun _ _ _ h => h) (Or.inl ⟨by kernel_rfl, ?_⟩) (by assumption) ?_
                rotate_left
                · (intro w hSw; (have q9 := cell_below C32.out hSw; go_simp; try with_reducible rfl))
                try simp only [Act.put, List.getElem_toArray, List.getElem_cons_succ, List.getElem_cons_zero, List.setIfInBounds_toArray, List.set_cons_zero, List.set_cons_succ]
                refine wpAnyH_take (i := 7) (v := ?_) rfl (by kernel_rfl) (by kernel_rfl) (by kernel_rfl) (fun _ _ _ h => h) (Or.inl ⟨by kernel_rfl, ?_⟩) (by assumption) ?_
                rotate_left
                · (intro w hSw; (have q9 := cell_below C32.out hSw; go_simp; try with_reducible rfl))
                try simp only [Act.put, List.getElem_toArray, List.getElem_cons_succ, List.getElem_cons_zero, List.setIfInBounds_toArray, List.set_cons_zero, List.set_cons_succ]
                refine wpAnyH_take (i := 8) (v := ?_) rfl (by kernel_rfl) (by kernel_rfl) (by kernel_rfl) (fun _ _ _ h => h) (Or.inl ⟨by kernel_rfl, ?_⟩) (by assumption) ?_
                rotate_left
                · (intro w hSw; (have q9 := cell_below C32.out hSw; go_simp; try with_reducible rfl))
                try simp only [Act.put, List.getElem_toArray, List.getElem_cons_succ, List.getElem_cons_zero, List.setIfInBounds_toArray, List.set_cons_zero, List.set_cons_succ]
                refine wpAnyH_take (i := 9) (v := ?_) rfl (by kernel_rfl) (by kernel_rfl) (by kernel_rfl) (fun _ _ _ h => h) (Or.inl ⟨by kernel_rfl, ?_⟩) (by assumption) ?_
                rotate_left
                · (intro w hSw; (have q9 := cell_below C32.out hSw; go_simp; try with_reducible rfl))
                try simp only [Act.put, List.getElem_toArray, List.getElem_cons_succ, List.getElem_cons_zero, List.setIfInBounds_toArray, List.set_cons_zero, List.set_cons_succ]
                refine wpAnyH_take (i := 10) (v := ?_) rfl (by kernel_rfl) (by kernel_rfl) (by kernel_rfl) (fun _ _ _ h => h) (Or.inl ⟨by kernel_rfl, ?_⟩) (by assumption) ?_
                rotate_left
                · (intro w hSw; (have q9 := cell_below C32.out hSw; go_simp; try with_reducible rfl))
                try simp only [Act.put, List.getElem_toArray, List.getElem_cons_succ, List.getElem_cons_zero, List.setIfInBounds_toArray, List.set_cons_zero, List.set_cons_succ]
                refine wpAnyH_take (i := 11) (v := ?_) rfl (by kernel_rfl) (by kernel_rfl) (by kernel_rfl) (fun _ _ _ h => h) (Or.inl ⟨by kernel_rfl, ?_⟩) (by assumption) ?_
                rotate_left
                · (intro w hSw; (have q9 := cell_below C32.out hSw; go_simp; try with_reducible rfl))
                try simp only [Act.put, List.getElem_toArray, List.getElem_cons_succ, List.getElem_cons_zero, List.setIfInBounds_toArray, List.set_cons_zero, List.set_cons_succ]
                refine wpAnyH_ready (rs := [12]) (by kernel_rfl) (by simp) (AllReadyH.cons rfl (fun K hK => ?_) AllReadyH.nil)
                have SA := set_any (w := w6.drew) (c := ch) (IntsIs.rd (B := w4.heap.size) (n := hl9) (by rw [HHL.out]; exact own_later I6.out (below_drew (Below.refl _ _)))) (by rw [← HHL.out]; omega)
                rw [← HHL.out] at SA
                go_simp
                refine SA.mono ?_
                rintro e w7 ⟨v7, rfl, h7, b7⟩
                obtain ⟨ks, hks⟩ : ∃ ks, ks = setOf hf := ⟨_, rfl⟩
                rw [← hks] at h7
                obtain ⟨x7, c7, rfl⟩ := own_slice h7
                obtain ⟨q, hq⟩ : ∃ q : Pk, q = ⟨p.id, p.size, ks, x7, c7⟩ := ⟨_, rfl⟩
                have b67 : Below w6.heap.size w6 w7 := (below_drew (Below.refl w6.heap.size w6)).trans b7
                have q7 : HsOwn w.heap.size w7 q := by
                  rw [hq]
                  exact own_mono h7 (by have := BW6.out.size; exact this)
                have QSAYS : Hid (says q = aft ms l i) := Lib.hid (by rw [aft_ref HP.out, ← SZ7.out, ← hks, hq]; rfl)
                have BQ : Hid (Try.prog.built 47 [(0, .agg (idCells p.id).toArray), (1, .int .u64 p.size), (2, .slice x7 ks.length c7)] = some (pcells q).toArray) := Lib.hid (by rw [hq]; exact built_rp p.id p.size x7 ks.length c7 ks rfl)
                have P7 := Lib.hid (own_later P6.out b67)
                have H7 := Lib.hid (fun y hy => (own_later (H6.out y hy) b67 : HsOwn w.heap.size w7 y))
                have Q7 := Lib.hid q7
                have B7 := Lib.hid (BW6.out.trans (b67.mono BW6.out.size))
                clear h7 b7 hks hq b67 q7 SA P6 H6
                refine hK.out _ _ B7.out (fun hH => ?_)
                clear hHeld hK
                try simp only [Act.put, List.getElem_toArray, List.getElem_cons_succ, List.getElem_cons_zero, List.setIfInBounds_toArray, List.set_cons_zero, List.set_cons_succ]
                refine' wpAnyH_take (i := 13) (v := _) rfl (by kernel_rfl) (by kernel_rfl) (by kernel_rfl) (fun _ _ _ h => h) (yieldsIf_build (by kernel_rfl) 47 _ rfl [(0, .agg (idCells p.id).toArray), (1, .int .u64 p.size), (2, .slice x7 ks.length c7)] (by kernel_rfl) (pcells q).toArray BQ.out) (by assumption) ?_
                try simp only [Act.put, List.getElem_toArray, List.getElem_cons_succ, List.getElem_cons_zero, List.setIfInBounds_toArray, List.set_cons_zero, List.set_cons_succ]
                have ba := below_alloc (Below.refl w7.heap.size w7) (.cells (pcells q).toArray 47)
                have P8 : Hid ((w7.alloc (.cells (pcells q).toArray 47)).ownsRow w.heap.size 47 34 u5 i (ps.flatMap pcells)) := Lib.hid (by have := own_later P7.out ba; rw [PL.out] at this; exact this)
                have H8 := Lib.hid (fun y hy => (own_later (H7.out y hy) ba : HsOwn w.heap.size _ y))
                have Q8 := Lib.hid (own_later Q7.out ba)
                have B8 := Lib.hid (B7.out.trans (ba.mono B7.out.size))
                have BS8 := Lib.hid B8.out.size
                have NEWS8 := Lib.hid (news_made w7 (pcells q) 47)
                clear ba
                refine wpAnyH_ready (rs := [14]) (by kernel_rfl) (by simp) (AllReadyH.cons rfl (fun K hK => ?_) AllReadyH.nil)
                refine step_row_one rfl 26 47 (.tmp 84) rfl (pcells q).toArray rfl 34 j0' _ Try.underlying26 PW.out.1 PW.out.2.1 PW.out.2.2.1 (by decide) (by simp [pcells_len]) (by decide) ?_
                refine hK.out _ _ B8.out (fun hHeld => ?_)
                clear hH hK
                try simp only [Act.put, List.getElem_toArray, List.getElem_cons_succ, List.getElem_cons_zero, List.setIfInBounds_toArray, List.set_cons_zero, List.set_cons_succ]
                refine wpAnyH_ready (rs := [15]) (by kernel_rfl) (by simp) (AllReadyH.cons rfl (fun K hK => ?_) AllReadyH.nil)
                refine step_append_any rfl (.tmp 71) (.tmp 85) 26 rfl w.heap.size 47 j0' _ 34 64 Try.underlying26 PW.out.1 PW.out.2.1 PW.out.2.2.1 PW.out.2.2.2 (by simp [Value.cells, pcells_len]) (by decide) u5 i (ps.flatMap pcells) rfl P8.out ⟨w7.heap.size, 0, none⟩ 1 1 (pcells q) rfl (by rw [pcells_len]) NEWS8.out (pcells_one _) (by unfold maxLen; omega) (by omega) BS8.out ?_
                intro v9 w9 hown hg hat
                clear hat
                have B9 := Lib.hid (B8.out.grown hg BS8.out (fun k hk => (own_row P8.out hk).1))
                have P9 : Hid (RpRow w.heap.size w9 v9 (ps ++ [q])) := Lib.hid (row_snoc PL.out.symm hown)
                have H9 : Hid (∀ y ∈ ps ++ [q], HsOwn w.heap.size w9 y) := Lib.hid (fun y hy => by
                  rcases List.mem_append.1 hy with hy | hy
                  · exact own_other (H8.out y hy) hg (fun _ hk => (own_row P8.out hk).2) (by decide)
                  · rw [List.mem_singleton.1 hy]
                    exact own_other Q8.out hg (fun _ hk => (own_row P8.out hk).2) (by decide))
                clear hown hg
                refine hK.out _ _ B9.out (fun hH => ?_)
                clear hHeld hK
                try simp only [Act.put, List.getElem_toArray, List.getElem_cons_succ, List.getElem_cons_zero, List.setIfInBounds_toArray, List.set_cons_zero, List.set_cons_succ]
                refine wpAnyH_ready (rs := [16]) (by kernel_rfl) (by simp) (AllReadyH.cons rfl (fun K hK => ?_) AllReadyH.nil)
                go_simp
                refine hK.out _ _ B9.out (fun hHeld => ?_)
                clear hH hK hHeld
                try simp only [Act.put, List.getElem_toArray, List.getElem_cons_succ, List.getElem_cons_zero, List.setIfInBounds_toArray, List.set_cons_zero, List.set_cons_succ]
                refine wpAnyH_done (by kernel_rfl) ?_ _
                have S9 : Hid ((ps ++ [q]).map says = afts ms l (i + 1)) := Lib.hid (by rw [List.map_append, PS.out, afts_succ, List.map_singleton, QSAYS.out])
                go_wp2
                go_roundg (n - (i + 1))
                case measure => rw [HK.out]; omega
                case rel => exact ⟨i + 1, ps ++ [q], by omega, rfl, by go_num, S9.out, P9.out, H9.out, B9.out⟩
              · have j1 : ¬ (j : Int) < (m : Int) := by omega
                have j2 : m ≤ j := by omega
                clear IF
                have hh1 := hsOf_len ms fb p
                rw [← HNP.out, ← HM.out] at hh1
                have SZ6 : Hid (setOf (hsOf ms fb p) = setOf (hsOf ms (firstB (l.take i) p.id) p)) := Lib.hid (by rw [HFB.out])
                obtain ⟨hf, hhf⟩ : ∃ hf, hf = hsOf ms fb p := ⟨_, rfl⟩
                rw [← hhf] at hh1
                have SZ7 : Hid (setOf hf = setOf (hsOf ms (firstB (l.take i) p.id) p)) := Lib.hid (by rw [hhf, SZ6.out])
                have I6 : Hid (IntsIs w4.heap.size w6 u9 hf) := Lib.hid (by rw [hhf]; exact IE.out)
                clear IE SZ6 hhf
                obtain ⟨xh, ch, rfl⟩ := own_slice I6.out
                obtain ⟨hl9, hhl⟩ : ∃ hl9, hl9 = hf.length := ⟨_, rfl⟩
                rw [← hhl] at hh1 ⊢
                have HHL := Lib.hid hhl
                clear hhl
                have P6 := Lib.hid (own_later P4.out B6.out)
                have H6 := Lib.hid (fun y hy => (own_later (H4.out y hy) B6.out : HsOwn w.heap.size w6 y))
                have BW6 := Lib.hid (B4.out.trans (B6.out.mono BS4.out))
                have c32 := (pk_lies LW.out).2.1
                have C32 := Lib.hid c32
                have LIDW := Lib.hid (show w.rangeAt b (off + i * 34) (idCells p.id) from (pk_lies LW.out).1)
                have pl : ps.length = i := by have := congrArg List.length PS.out; simpa [afts_len] using this
                obtain ⟨j0', hj0, hj1, hj2, hj3⟩ := info_parts info_rp
                have PW := Lib.hid (⟨hj0, hj1, hj2, hj3⟩ : Try.prog.info? 47 = some j0' ∧ j0'.zero = some (.agg (pcells ⟨[], 0, [], none, 0⟩).toArray) ∧ j0'.size = 34 ∧ j0'.bytes = 64)
                have PL := Lib.hid pl
                clear c32 pl hj0 hj1 hj2 hj3 P4 H4 B6
                go_wp2_with fail
                refine wp_region_held_drew (S := fun w' => Below w.heap.size w w') (by kernel_rfl) (BW6.out.trans (below_drew (Below.refl _ _))) (fun hHeld => ?_)
                refine wpAnyH_take (i := 0) (v := ?_) rfl (by kernel_rfl) (by kernel_rfl) (by kernel_rfl) (fun _ _ _ h => h) (Or.inl ⟨by kernel_rfl, ?_⟩) (by assumption) ?_
                rotate_left
                · (intro w hSw; (go_simp; try with_reducible rfl))
                try simp only [Act.put, List.getElem_toArray, List.getElem_cons_succ, List.getElem_cons_zero, List.setIfInBounds_toArray, List.set_cons_zero, List.set_cons_succ]
                refine wpAnyH_take (i := 1) (v := ?_) rfl (by kernel_rfl) (by kernel_rfl) (by kernel_rfl) (fun _ _ _ h => h) (Or.inl ⟨by kernel_rfl, ?_⟩) (by assumption) ?_
                rotate_left
                · (intro w hSw; (go_simp; try with_reducible rfl))
                try simp only [Act.put, List.getElem_toArray, List.getElem_cons_succ, List.getElem_cons_zero, List.setIfInBounds_toArray, List.set_cons_zero, List.set_cons_succ]
                refine wpAnyH_take (i := 2) (v := ?_) rfl (by kernel_rfl) (by kernel_rfl) (by kernel_rfl) (fun _ _ _ h => h) (Or.inl ⟨by kernel_rfl, ?_⟩) (by assumption) ?_
                rotate_left
                · (intro w hSw; (go_simp; try with_reducible rfl))
                try simp only [Act.put, List.getElem_toArray, List.getElem_cons_succ, List.getElem_cons_zero, List.setIfInBounds_toArray, List.set_cons_zero, List.set_cons_succ]
                refine wpAnyH_take (i := 3) (v := ?_) rfl (by kernel_rfl) (by kernel_rfl) (by kernel_rfl) (fun _ _ _ h => h) (Or.inl ⟨by kernel_rfl, ?_⟩) (by assumption) ?_
                rotate_left
                · (intro w hSw; (go_simp; try with_reducible rfl))
                try simp only [Act.put, List.getElem_toArray, List.getElem_cons_succ, List.getElem_cons_zero, List.setIfInBounds_toArray, List.set_cons_zero, List.set_cons_succ]
                refine wpAnyH_take (i := 4) (v := ?_) rfl (by kernel_rfl) (by kernel_rfl) (by kernel_rfl) (fun _ _ _ h => h) (Or.inl ⟨by kernel_rfl, ?_⟩) (by assumption) ?_
                rotate_left
                · (intro w hSw; (go_simp; try with_reducible rfl))
                try simp only [Act.put, List.getElem_toArray, List.getElem_cons_succ, List.getElem_cons_zero, List.setIfInBounds_toArray, List.set_cons_zero, List.set_cons_succ]
                refine' wpAnyH_take (i := 5) (v := _) rfl (by kernel_rfl) (by kernel_rfl) (by kernel_rfl) (fun _ _ _ h => h) (yieldsIf_load_mid (by kernel_rfl) _ _ rfl _ _ rfl (idCells p.id) _ ?hS5 Try.underlying37 rfl (by rw [size_id, idCells_len])) (by assumption) ?rest5
                case hS5 => exact fun w' hw => rangeAt_below LIDW.out hw
                case rest5 =>
                try simp only [Act.put, List.getElem_toArray, List.getElem_cons_succ, List.getElem_cons_zero, List.setIfInBounds_toArray, List.set_cons_zero, List.set_cons_succ]
                refine wpAnyH_take (i := 6) (v := ?_) rfl (by kernel_rfl) (by kernel_rfl) (by kernel_rfl) (fun _ _ _ h => h) (Or.inl ⟨by kernel_rfl, ?_⟩) (by assumption) ?_
                rotate_left
                · (intro w hSw; (have q9 := cell_below C32.out hSw; go_simp; try with_reducible rfl))
                try simp only [Act.put, List.getElem_toArray, List.getElem_cons_succ, List.getElem_cons_zero, List.setIfInBounds_toArray, List.set_cons_zero, List.set_cons_succ]
                refine wpAnyH_take (i := 7) (v := ?_) rfl (by kernel_rfl) (by kernel_rfl) (by kernel_rfl) (fun _ _ _ h => h) (Or.inl ⟨by kernel_rfl, ?_⟩) (by assumption) ?_
                rotate_left
                · (intro w hSw; (have q9 := cell_below C32.out hSw; go_simp; try with_reducible rfl))
                try simp only [Act.put, List.getElem_toArray, List.getElem_cons_succ, List.getElem_cons_zero, List.setIfInBounds_toArray, List.set_cons_zero, List.set_cons_succ]
                refine wpAnyH_take (i := 8) (v := ?_) rfl (by kernel_rfl) (by kernel_rfl) (by kernel_rfl) (fun _ _ _ h => h) (Or.inl ⟨by kernel_rfl, ?_⟩) (by assumption) ?_
                rotate_left
                · (intro w hSw; (have q9 := cell_below C32.out hSw; go_simp; try with_reducible rfl))
                try simp only [Act.put, List.getElem_toArray, List.getElem_cons_succ, List.getElem_cons_zero, List.setIfInBounds_toArray, List.set_cons_zero, List.set_cons_succ]
                refine wpAnyH_take (i := 9) (v := ?_) rfl (by kernel_rfl) (by kernel_rfl) (by kernel_rfl) (fun _ _ _ h => h) (Or.inl ⟨by kernel_rfl, ?_⟩) (by assumption) ?_
                rotate_left
                · (intro w hSw; (have q9 := cell_below C32.out hSw; go_simp; try with_reducible rfl))
                try simp only [Act.put, List.getElem_toArray, List.getElem_cons_succ, List.getElem_cons_zero, List.setIfInBounds_toArray, List.set_cons_zero, List.set_cons_succ]
                refine wpAnyH_take (i := 10) (v := ?_) rfl (by kernel_rfl) (by kernel_rfl) (by kernel_rfl) (fun _ _ _ h => h) (Or.inl ⟨by kernel_rfl, ?_⟩) (by assumption) ?_
                rotate_left
                · (intro w hSw; (have q9 := cell_below C32.out hSw; go_simp; try with_reducible rfl))
                try simp only [Act.put, List.getElem_toArray, List.getElem_cons_succ, List.getElem_cons_zero, List.setIfInBounds_toArray, List.set_cons_zero, List.set_cons_succ]
                refine wpAnyH_take (i := 11) (v := ?_) rfl (by kernel_rfl) (by kernel_rfl) (by kernel_rfl) (fun _ _ _ h => h) (Or.inl ⟨by kernel_rfl, ?_⟩) (by assumption) ?_
                rotate_left
                · (intro w hSw; (have q9 := cell_below C32.out hSw; go_simp; try with_reducible rfl))
                try simp only [Act.put, List.getElem_toArray, List.getElem_cons_succ, List.getElem_cons_zero, List.setIfInBounds_toArray, List.set_cons_zero, List.set_cons_succ]
                refine wpAnyH_ready (rs := [12]) (by kernel_rfl) (by simp) (AllReadyH.cons rfl (fun K hK => ?_) AllReadyH.nil)
                have SA := set_any (w := w6.drew) (c := ch) (IntsIs.rd (B := w4.heap.size) (n := hl9) (by rw [HHL.out]; exact own_later I6.out (below_drew (Below.refl _ _)))) (by rw [← HHL.out]; omega)
                rw [← HHL.out] at SA
                go_simp
                refine SA.mono ?_
                rintro e w7 ⟨v7, rfl, h7, b7⟩
                obtain ⟨ks, hks⟩ : ∃ ks, ks = setOf hf := ⟨_, rfl⟩
                rw [← hks] at h7
                obtain ⟨x7, c7, rfl⟩ := own_slice h7
                obtain ⟨q, hq⟩ : ∃ q : Pk, q = ⟨p.id, p.size, ks, x7, c7⟩ := ⟨_, rfl⟩
                have b67 : Below w6.heap.size w6 w7 := (below_drew (Below.refl w6.heap.size w6)).trans b7
                have q7 : HsOwn w.heap.size w7 q := by
                  rw [hq]
                  exact own_mono h7 (by have := BW6.out.size; exact this)
                have QSAYS : Hid (says q = aft ms l i) := Lib.hid (by rw [aft_ref HP.out, ← SZ7.out, ← hks, hq]; rfl)
                have BQ : Hid (Try.prog.built 47 [(0, .agg (idCells p.id).toArray), (1, .int .u64 p.size), (2, .slice x7 ks.length c7)] = some (pcells q).toArray) := Lib.hid (by rw [hq]; exact built_rp p.id p.size x7 ks.length c7 ks rfl)
                have P7 := Lib.hid (own_later P6.out b67)
                have H7 := Lib.hid (fun y hy => (own_later (H6.out y hy) b67 : HsOwn w.heap.size w7 y))
                have Q7 := Lib.hid q7
                have B7 := Lib.hid (BW6.out.trans (b67.mono BW6.out.size))
                clear h7 b7 hks hq b67 q7 SA P6 H6
                refine hK.out _ _ B7.out (fun hH => ?_)
                clear hHeld hK
                try simp only [Act.put, List.getElem_toArray, List.getElem_cons_succ, List.getElem_cons_zero, List.setIfInBounds_toArray, List.set_cons_zero, List.set_cons_succ]
                refine' wpAnyH_take (i := 13) (v := _) rfl (by kernel_rfl) (by kernel_rfl) (by kernel_rfl) (fun _ _ _ h => h) (yieldsIf_build (by kernel_rfl) 47 _ rfl [(0, .agg (idCells p.id).toArray), (1, .int .u64 p.size), (2, .slice x7 ks.length c7)] (by kernel_rfl) (pcells q).toArray BQ.out) (by assumption) ?_
                try simp only [Act.put, List.getElem_toArray, List.getElem_cons_succ, List.getElem_cons_zero, List.setIfInBounds_toArray, List.set_cons_zero, List.set_cons_succ]
                have ba := below_alloc (Below.refl w7.heap.size w7) (.cells (pcells q).toArray 47)
                have P8 : Hid ((w7.alloc (.cells (pcells q).toArray 47)).ownsRow w.heap.size 47 34 u5 i (ps.flatMap pcells)) := Lib.hid (by have := own_later P7.out ba; rw [PL.out] at this; exact this)
                have H8 := Lib.hid (fun y hy => (own_later (H7.out y hy) ba : HsOwn w.heap.size _ y))
                have Q8 := Lib.hid (own_later Q7.out ba)
                have B8 := Lib.hid (B7.out.trans (ba.mono B7.out.size))
                have BS8 := Lib.hid B8.out.size
                have NEWS8 := Lib.hid (news_made w7 (pcells q) 47)
                clear ba
                refine wpAnyH_ready (rs := [14]) (by kernel_rfl) (by simp) (AllReadyH.cons rfl (fun K hK => ?_) AllReadyH.nil)
                refine step_row_one rfl 26 47 (.tmp 84) rfl (pcells q).toArray rfl 34 j0' _ Try.underlying26 PW.out.1 PW.out.2.1 PW.out.2.2.1 (by decide) (by simp [pcells_len]) (by decide) ?_
                refine hK.out _ _ B8.out (fun hHeld => ?_)
                clear hH hK
                try simp only [Act.put, List.getElem_toArray, List.getElem_cons_succ, List.getElem_cons_zero, List.setIfInBounds_toArray, List.set_cons_zero, List.set_cons_succ]
                refine wpAnyH_ready (rs := [15]) (by kernel_rfl) (by simp) (AllReadyH.cons rfl (fun K hK => ?_) AllReadyH.nil)
                refine step_append_any rfl (.tmp 71) (.tmp 85) 26 rfl w.heap.size 47 j0' _ 34 64 Try.underlying26 PW.out.1 PW.out.2.1 PW.out.2.2.1 PW.out.2.2.2 (by simp [Value.cells, pcells_len]) (by decide) u5 i (ps.flatMap pcells) rfl P8.out ⟨w7.heap.size, 0, none⟩ 1 1 (pcells q) rfl (by rw [pcells_len]) NEWS8.out (pcells_one _) (by unfold maxLen; omega) (by omega) BS8.out ?_
                intro v9 w9 hown hg hat
                clear hat
                have B9 := Lib.hid (B8.out.grown hg BS8.out (fun k hk => (own_row P8.out hk).1))
                have P9 : Hid (RpRow w.heap.size w9 v9 (ps ++ [q])) := Lib.hid (row_snoc PL.out.symm hown)
                have H9 : Hid (∀ y ∈ ps ++ [q], HsOwn w.heap.size w9 y) := Lib.hid (fun y hy => by
                  rcases List.mem_append.1 hy with hy | hy
                  · exact own_other (H8.out y hy) hg (fun _ hk => (own_row P8.out hk).2) (by decide)
                  · rw [List.mem_singleton.1 hy]
                    exact own_other Q8.out hg (fun _ hk => (own_row P8.out hk).2) (by decide))
                clear hown hg
                refine hK.out _ _ B9.out (fun hH => ?_)
                clear hHeld hK
                try simp only [Act.put, List.getElem_toArray, List.getElem_cons_succ, List.getElem_cons_zero, List.setIfInBounds_toArray, List.set_cons_zero, List.set_cons_succ]
                refine wpAnyH_ready (rs := [16]) (by kernel_rfl) (by simp) (AllReadyH.cons rfl (fun K hK => ?_) AllReadyH.nil)
                go_simp
                refine hK.out _ _ B9.out (fun hHeld => ?_)
                clear hH hK hHeld
                try simp only [Act.put, List.getElem_toArray, List.getElem_cons_succ, List.getElem_cons_zero, List.setIfInBounds_toArray, List.set_cons_zero, List.set_cons_succ]
                refine wpAnyH_done (by kernel_rfl) ?_ _
                have S9 : Hid ((ps ++ [q]).map says = afts ms l (i + 1)) := Lib.hid (by rw [List.map_append, PS.out, afts_succ, List.map_singleton, QSAYS.out])
                go_wp2
                go_roundg (n - (i + 1))
                case measure => rw [HK.out]; omega
                case rel => exact ⟨i + 1, ps ++ [q], by omega, rfl, by go_num, S9.out, P9.out, H9.out, B9.out⟩
    · obtain rfl : i = n := by omega
      go_wp2
      go_ret
      exact ⟨_, ps, rfl, PS.out, PP.out, HH.out, BB.out⟩
end Go.Proofs.Ytpmkgnnpngbfmaa
