/- The codec: the writer. -/
import Derived.Test.YtgbghjpkdbjdgaaDd11
import Derived.Laws.BitsAllLaws
namespace Go.Proofs.Ytgbghjpkdbjdgaa
open Go.RowKit
open Extern.Stop (cell)

theorem wpList_append_news {P : Program} {w : World} {ops : Array Oper} {rest : List Oper} {o : Oper} {a : Act} {Q : Exit → Act → World → Prop} (hgd : o.guard = none) (s x : Operand) (t : TypeId)
    (ho : o.op = .call { callee := .builtin .append, args := #[s, x], argTypes := #[t, t] })
    (base : Nat) (e : TypeId) (i : TypeInfo) (z : Value) (size bytes : Nat) (ht : P.underlying t = some (.slice e)) (hi : P.info? e = some i) (hz : i.zero = some z)
    (hsize : i.size = size) (hby : i.bytes = bytes) (hzs : z.cells.size = size) (hsz : 0 < size)
    (v : Value) (n : Nat) (xs : List Value) (hs : a.eval s = v) (hown : w.ownsRow base e size v n xs)
    (ad : Addr) (m c : Nat) (news : List Value) (hx : a.eval x = .slice (some ad) m c) (hl : news.length = m * size) (hnews : ∀ j u, news[j]? = some u → w.cell? (ad.add j) = some u) (h1 : ∀ u ∈ news, u.oneCell' = true)
    (h63 : n + m ≤ maxLen) (hbytes : (n + m) * bytes ≤ 140737488355328) (hbase : base ≤ w.heap.size)
    (h : ∀ v' w', w'.ownsRow base e size v' (n + m) (xs ++ news) → w.grownBy w' v.ownBlock → (v'.ownBlock = v.ownBlock ∨ v'.ownBlock = some w.heap.size) → wpList P ops Q rest (a.put o.dst v') w') : wpList P ops Q (o :: rest) a w := by
  refine wpList_plain hgd fun K hK => ?_
  obtain ⟨v', w', hr, h2, h3, h4⟩ := run_append_own_opt (P := P) w base t o.type e i z size bytes ht hi hz hsize hby hzs hsz v n xs hown ad m c news hl hnews h1 h63 hbytes hbase
  unfold Oper.wp execOp
  simp only [ho, resolve, invoke, builtin, Sem.run_bind, Sem.run_pure, Result.andThen_ok, List.map_toArray, List.map_cons, List.map_nil, hs, hx, hr]
  exact hK _ _ (h v' w' h2 h3 h4)
theorem info_byte : (Try.prog.info? 5).map (fun i => (i.zero, i.size, i.bytes)) = some (some (.int .u8 0), 1, 1) := by kernel_rfl
theorem bytes_news {w : World} {ad : Addr} {zs : List UInt8} (h : BytesRd w (some ad) zs) : ∀ (j : Nat) (u : Value), (zs.map cell)[j]? = some u → w.cell? (ad.add j) = some u := fun j u hj => by
  rw [List.getElem?_map] at hj
  obtain ⟨z, hz, rfl⟩ := Option.map_eq_some_iff.1 hj
  obtain ⟨b, off, e, _, hc⟩ := h j z hz
  cases e
  unfold Addr.add
  split
  · rename_i h0
    rw [h0, Nat.add_zero] at hc
    exact hc
  · exact hc
theorem cells_one (zs : List UInt8) : ∀ u ∈ zs.map cell, u.oneCell' = true := by
  intro u hu
  obtain ⟨z, _, rfl⟩ := List.mem_map.1 hu
  rfl
/-- A writer at x that has written so far. -/
def WrIs (w : World) (x : Nat) (bs : List UInt8) : Prop := ∃ v, w.heap[x]? = some (.cells #[v] 102 (0, 0)) ∧ w.ownsRow x 5 1 v bs.length (bs.map cell)
abbrev wT : List TypeId := [102, 5]
theorem WrIs.lt {w : World} {x : Nat} {bs : List UInt8} (h : WrIs w x bs) : x < w.heap.size := by
  obtain ⟨v, h1, _⟩ := h
  exact (Array.getElem?_eq_some_iff.1 h1).1
theorem WrIs.later {w w' : World} {x : Nat} {bs : List UInt8} (h : WrIs w x bs) (hb : Below w.heap.size w w') : WrIs w' x bs := by
  obtain ⟨v, h1, h2⟩ := h
  exact ⟨v, aRegionKept h1 hb, own_later h2 hb⟩
set_option maxHeartbeats 1000000 in
theorem newwriter_any (w : World) : Calls Try.prog 31 #[] w fun e w' => ∃ x, e = .returned (.pointer (some ⟨x, 0, none⟩)) ∧ WrIs w' x [] ∧ w.heap.size ≤ x ∧ Below w.heap.size w w' := by
  go_enter Try.func31, Try.ntmps31
  go_wp2
  go_ret
  exact ⟨w.heap.size, rfl, ⟨.slice none 0 0, heap_at _ _, World.ownsRow_nil _ _ _ _⟩, Nat.le_refl _, below_alloc (Below.refl _ _) _⟩
set_option maxRecDepth 100000 in
set_option maxHeartbeats 2000000 in
theorem fixed_any {w : World} {x c : Nat} {ad : Addr} {bs zs : List UInt8} (h : WrIs w x bs) (hr : BytesRd w (some ad) zs) (hs : bs.length + zs.length ≤ 1000000000) :
    Calls Try.prog 33 #[.pointer (some ⟨x, 0, none⟩), .slice (some ad) zs.length c] w fun e w' => e = .returned (.tuple #[]) ∧ WrIs w' x (bs ++ zs) ∧ Keeps wT x w w' := by
  have hlt := h.lt
  obtain ⟨v, h1, h2⟩ := h
  obtain ⟨y0, y1⟩ := blk1 h1
  obtain ⟨xa, xc, rfl⟩ := own_slice h2
  have H1 := Lib.hid h1
  have H2 := Lib.hid h2
  have NW := Lib.hid (bytes_news hr)
  obtain ⟨i0, hi, hz0, hz1, hz2⟩ := info_parts info_byte
  have vb : (Value.slice xa bs.length xc).ownBlock ≠ some x := fun e => by
    obtain ⟨_, cur, hc⟩ := own_row h2 e
    rw [h1] at hc
    exact absurd (Obj.cells.inj (Option.some.inj hc)).2.1 (by decide)
  have VB := Lib.hid vb
  obtain ⟨n, hn⟩ : ∃ n, n = zs.length := ⟨_, rfl⟩
  have HN := Lib.hid hn
  have LZ : Hid ((zs.map cell).length = n * 1) := Lib.hid (by rw [hn]; simp)
  obtain ⟨m, hm⟩ : ∃ m, m = bs.length := ⟨_, rfl⟩
  have HM := Lib.hid hm
  rw [← hn]
  rw [← hn, ← hm] at hs
  rw [← hm] at H2 y0 H1 VB
  clear h1 h2 hr hn hm vb
  go_enter Try.func33, Try.ntmps33
  go_wp2_with (at_builtin; refine wpList_append_news rfl (.tmp 10) (.tmp 11) 49 rfl x 5 i0 _ 1 1 Try.underlying49 hi hz0 hz1 hz2 rfl (by decide) (.slice xa m xc) m (bs.map cell) rfl H2.out ad n c (zs.map cell) rfl LZ.out NW.out (cells_one zs) (by unfold maxLen; omega) (by omega) (Nat.le_of_lt hlt) ?_)
  intro v1 w1 hown1 hg1 hat1
  have x1 : w1.heap[x]? = some (.cells #[.slice xa m xc] 102 (0, 0)) := (hg1.block x hlt (fun e => VB.out e.symm)).trans H1.out
  have vb1 : v1.ownBlock ≠ some x := at_ne hat1 VB.out hlt
  have K1 : Keeps wT x w w1 := (Keeps.refl wT x w).row hg1 (Nat.le_of_lt hlt) (fun k hk => by
    obtain ⟨q1, cur, q2⟩ := own_row H2.out hk
    exact ⟨q1, cur, _, _, q2, by decide⟩)
  obtain ⟨z0, z1⟩ := blk1 x1
  obtain ⟨va, vc, rfl⟩ := own_slice hown1
  have X1 := Lib.hid x1
  have O1 := Lib.hid hown1
  have KK := Lib.hid K1
  have VB1 := Lib.hid vb1
  clear hown1 hg1 hat1 x1 K1 vb1 y0 y1
  go_wp2
  go_end0
  refine ⟨rfl, ⟨.slice va (m + n) vc, ?_, ?_⟩, KK.out.setCell (a := ⟨x, 0, none⟩) X1.out (by decide) (Nat.le_refl _) _⟩
  · exact heap_setCell_same (.slice va (m + n) vc) X1.out
  · have := own_far O1.out (a := ⟨x, 0, none⟩) VB1.out (.slice va (m + n) vc)
    rw [List.length_append, List.map_append, ← HM.out, ← HN.out]
    exact this
theorem cell_ofNat {n : Nat} (h : n < 256) : cell (UInt8.ofNat n) = .int .u8 (n : Int) := by
  show Value.int .u8 ((UInt8.ofNat n).toNat : Int) = _
  rw [UInt8.toNat_ofNat', Nat.mod_eq_of_lt (by simpa using h)]
/-- An own row of bytes can be read. -/
theorem own_rd {w : World} {B : Nat} {v : Value} {zs : List UInt8} (h : w.ownsRow B 5 1 v zs.length (zs.map cell)) (hz : zs ≠ []) : ∃ ad c, v = .slice (some ad) zs.length c ∧ BytesRd w (some ad) zs := by
  obtain ⟨xa, xc, rfl⟩ := own_slice h
  have hc : ∀ (j : Nat) (z : UInt8), zs[j]? = some z → (zs.map cell)[j]? = some (cell z) := fun j z hj => by rw [List.getElem?_map, hj]; rfl
  obtain ⟨z0, hz0⟩ : ∃ z0, zs[0]? = some z0 := by
    cases zs with
    | nil => exact absurd rfl hz
    | cons z r => exact ⟨z, rfl⟩
  obtain ⟨g, rfl, hg, _⟩ := own_at h (hc 0 z0 hz0)
  refine ⟨⟨g, 0, none⟩, xc, rfl, fun j z hj => ⟨g, 0, rfl, hg, ?_⟩⟩
  obtain ⟨g2, e, _, h2⟩ := own_at h (hc j z hj)
  cases e
  rw [Nat.zero_add]
  exact h2
/-- A number's bytes. -/
def putU (n : Nat) : List UInt8 := if n < 128 then [UInt8.ofNat n] else UInt8.ofNat (n % 128 + 128) :: putU (n / 128)
termination_by n
theorem putU_small {n : Nat} (h : n < 128) : putU n = [UInt8.ofNat n] := by rw [putU, if_pos h]
theorem putU_big {n : Nat} (h : ¬ n < 128) : putU n = UInt8.ofNat (n % 128 + 128) :: putU (n / 128) := by rw [putU, if_neg h]
theorem putU_len : ∀ (k n : Nat), n < 128 ^ (k + 1) → (putU n).length ≤ k + 1 := by
  intro k
  induction k with
  | zero => intro n h; rw [putU_small (by simpa using h)]; simp
  | succ k ih =>
    intro n h
    by_cases hn : n < 128
    · rw [putU_small hn]; simp
    · rw [putU_big hn, List.length_cons]
      have := ih (n / 128) (by rw [Nat.pow_succ] at h; omega)
      omega
set_option maxRecDepth 100000 in
set_option maxHeartbeats 2000000 in
theorem wuint_any {w : World} {x n : Nat} {bs : List UInt8} (h : WrIs w x bs) (hn : n < 18446744073709551616) (hs : bs.length ≤ 1000000) :
    Calls Try.prog 32 #[.pointer (some ⟨x, 0, none⟩), .int .u64 n] w fun e w' => e = .returned (.tuple #[]) ∧ WrIs w' x (bs ++ putU n) ∧ Keeps wT x w w' := by
  have HW := Lib.hid h
  have hlt := h.lt
  obtain ⟨i0, hi, hz0, hz1, hz2⟩ := info_parts info_byte
  clear h
  go_enter Try.func32, Try.ntmps32
  go_wp2_with fail
  go_loopg [1, 4] n (fun k s1 s4 wr => ∃ (m : Nat) (pre : List UInt8), k = m ∧ m ≤ n ∧ s1 = .int .u64 m ∧ pre ++ putU m = putU n ∧ wr.ownsRow w.heap.size 5 1 s4 pre.length (pre.map cell) ∧ Below w.heap.size w wr)
  case atStart => exact ⟨n, [], rfl, Nat.le_refl _, rfl, rfl, World.ownsRow_nil _ _ _ _, Below.refl _ _⟩
  case round =>
    obtain ⟨m, pre, hk, hm, rfl, hp, ho, hb⟩ := hrel
    have HK := Lib.hid hk
    have HP := Lib.hid hp
    have HO := Lib.hid ho
    have HB := Lib.hid hb
    obtain ⟨sa, sc, rfl⟩ := own_slice ho
    have m0 : (0 : Int) ≤ (m : Int) := Int.natCast_nonneg _
    have m1 : (m : Int) < 18446744073709551616 := by omega
    have PL : pre.length ≤ 10 := by
      have h1 := putU_len 9 n (by omega)
      rw [← hp, List.length_append] at h1
      omega
    obtain ⟨q, hq⟩ : ∃ q, q = pre.length := ⟨_, rfl⟩
    have HQ := Lib.hid hq
    rw [← hq] at PL
    rw [← hq] at HO
    rw [← hq]
    clear hk hp ho hb hq
    by_cases hb : m < 128
    · have hb1 : decide ((128 : Int) ≤ (m : Int)) = false := decide_eq_false (by omega)
      have W8 : Hid ((m : Int) % 256 = (m : Int)) := Lib.hid (by omega)
      replace hb := Lib.hid hb
      clear m0 m1
      have SZ := Lib.hid (show w.heap.size ≤ wr.heap.size from HB.out.size)
      go_wp2_with (at_builtin; refine wpList_append_news rfl (.tmp 16) (.tmp 19) 49 rfl w.heap.size 5 i0 _ 1 1 Try.underlying49 hi hz0 hz1 hz2 rfl (by decide) (.slice sa q sc) q (pre.map cell) rfl (own_later HO.out (below_alloc (Below.refl _ _) _)) ⟨wr.heap.size, 0, none⟩ 1 1 [.int .u8 ((m : Int) % 256)] rfl rfl (World.news_of_block (heap_at wr _)) (by intro u hu; simp at hu; subst hu; rfl) (by unfold maxLen; omega) (by omega) (by simp; have := SZ.out; omega) ?_)
      intro v5 w5 hown5 hg5 hat5
      have B5 := Lib.hid ((HB.out.alloc SZ.out _).grown hg5 (by simp; have := SZ.out; omega) (fun k hk => (own_row HO.out hk).1))
      have o5 := hown5
      rw [W8.out, ← cell_ofNat (by have := hb.out; omega)] at o5
      obtain ⟨zs, hzs⟩ : ∃ zs, zs = pre ++ [UInt8.ofNat m] := ⟨_, rfl⟩
      have O5 : Hid (w5.ownsRow w.heap.size 5 1 v5 zs.length (zs.map cell)) := Lib.hid (by
        rw [hzs, List.length_append, List.map_append, ← HQ.out]
        exact o5)
      obtain ⟨ad, c5, rfl, hrd⟩ := own_rd O5.out (by rw [hzs]; simp)
      have PU : Hid (zs = putU n) := Lib.hid (by rw [hzs, ← HP.out, putU_small hb.out])
      have ZL : zs.length ≤ 11 := by rw [hzs, List.length_append, ← HQ.out]; simp; omega
      have FX := Lib.hid (fixed_any (c := c5) (HW.out.later B5.out) (zs := zs) hrd (by omega))
      clear hzs ZL
      clear hown5 hg5 hat5 o5 hrd
      go_wp2_with fail
      refine FX.out.mono ?_
      rintro e w6 ⟨rfl, h6, k6⟩
      rw [PU.out] at h6
      have H6 := Lib.hid h6
      have K6 := Lib.hid ((Keeps.of B5.out (Nat.le_of_lt hlt)).trans k6)
      clear h6 k6 FX
      go_wp2
      go_end0
      exact ⟨rfl, H6.out, K6.out⟩
    · have hb1 : (128 : Int) ≤ (m : Int) := by omega
      go_upto_region 2 with fail
      obtain ⟨c8, hc8⟩ : ∃ c8 : Nat, c8 = m % 128 + 128 := ⟨_, rfl⟩
      have or8 : bits .or .u8 ((m : Int) % 256) 128 = (c8 : Int) := by
        have h1 := u8_or_nat (m % 256) 128 (Nat.mod_lt _ (by decide)) (by decide)
        have h2 : m % 256 ||| 128 = m % 128 + 128 := by
          have h3 : ∀ k : Fin 256, k.val ||| 128 = k.val % 128 + 128 := by decide
          have h4 := h3 ⟨m % 256, Nat.mod_lt _ (by decide)⟩
          simp only at h4
          omega
        rw [h2, ← hc8] at h1
        exact h1
      have C8 := Lib.hid hc8
      clear hc8
      have SZ := Lib.hid (show w.heap.size ≤ wr.heap.size from HB.out.size)
      go_wp2_with (at_builtin; refine wpList_append_news rfl (.tmp 7) (.tmp 11) 49 rfl w.heap.size 5 i0 _ 1 1 Try.underlying49 hi hz0 hz1 hz2 rfl (by decide) (.slice sa q sc) q (pre.map cell) rfl (own_later HO.out (below_alloc (Below.refl _ _) _)) ⟨wr.heap.size, 0, none⟩ 1 1 [.int .u8 (c8 : Int)] rfl rfl (World.news_of_block (heap_at wr _)) (by intro u hu; simp at hu; subst hu; rfl) (by unfold maxLen; omega) (by omega) (by simp; have := SZ.out; omega) ?_)
      intro v5 w5 hown5 hg5 hat5
      have B5 := Lib.hid ((HB.out.alloc SZ.out _).grown hg5 (by simp; have := SZ.out; omega) (fun k hk => (own_row HO.out hk).1))
      have O5 := Lib.hid hown5
      clear hown5 hg5 hat5
      go_wp2
      go_roundg (m / 128)
      case measure => rw [HK.out]; omega
      case rel =>
        refine ⟨m / 128, pre ++ [UInt8.ofNat c8], rfl, by omega, by go_num, ?_, ?_, B5.out⟩
        · rw [← HP.out, putU_big hb, List.append_assoc, C8.out]
          rfl
        · have o5 := O5.out
          rw [List.length_append, List.map_append, ← HQ.out]
          rw [← cell_ofNat (by have := C8.out; omega)] at o5
          exact o5
end Go.Proofs.Ytgbghjpkdbjdgaa
