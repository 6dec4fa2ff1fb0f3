/- (Pack).holders; Lack. -/
import Derived.Test.YtpmkgnnpngbfmaaRp1
namespace Go.Proofs.Ytpmkgnnpngbfmaa
open Go.RowKit
open Extern.Stop (cell)

theorem pk_part {w : World} {b : Nat} {p : Pk} {t : TypeId} {fz : Nat × Nat} (h : w.heap[b]? = some (.cells (pcells p).toArray t fz)) :
    w.cell? ⟨b, 32, none⟩ = some (.int .u64 p.size) ∧ w.cell? ⟨b, 33, none⟩ = some (.slice p.ad p.hs.length p.cap) := by
  constructor
  · rw [cell_of_row w b 32 _ t fz h]
    simp [pcells, idCells_len]
  · rw [cell_of_row w b 33 _ t fz h]
    simp [pcells, idCells_len]
set_option maxHeartbeats 2000000 in
theorem holders_any {w : World} {p : Pk} (h : PkOk w p) :
    Calls Try.prog 21 #[.agg (pcells p).toArray] w fun e w' => ∃ b, e = .returned (.map (some b)) ∧ w.heap.size ≤ b ∧ SetIs w' b (hset p.hs) ∧ Below w.heap.size w w' := by
  have H := Lib.hid h
  obtain ⟨n, hn⟩ : ∃ n, n = p.hs.length := ⟨_, rfl⟩
  have HN := Lib.hid hn
  have hc := (pk_part (heap_up (heap_at w (.cells (pcells p).toArray 46)) (o := .map #[] 0))).2
  obtain ⟨pa, hpa⟩ : ∃ pa, pa = p.ad := ⟨_, rfl⟩
  rw [← hn, ← hpa] at hc
  have PA := Lib.hid hpa
  clear hpa
  have hfew := h.few
  rw [← hn] at hfew
  have hmm := @run_makeMap Try.prog
  have n0 : (0 : Int) ≤ (n : Int) := Int.natCast_nonneg _
  have n1 : (n : Int) ≤ 1000 := by omega
  clear h hn
  go_enter Try.func21, Try.ntmps21
  go_wp2_with fail
  clear hc hmm
  obtain ⟨N, hN⟩ : ∃ N, N = w.heap.size + 1 := ⟨_, rfl⟩
  have s0 : SetIs ((w.alloc (.cells (pcells p).toArray 46)).alloc (.map #[] 0)) N (hset (p.hs.take 0)) := by
    have := MapIs.made (w.alloc (.cells (pcells p).toArray 46)) Try.prog 3 ikey Value.bool
    rw [hN]
    show SetIs _ _ []
    simpa using this
  have b0 : Below w.heap.size w ((w.alloc (.cells (pcells p).toArray 46)).alloc (.map #[] 0)) := below_alloc (below_alloc (Below.refl _ _) _) _
  simp only [← hN]
  refine wp_named fun W hW => ?_
  rw [← hW] at s0 b0
  have S0 := Lib.hid s0
  have B0 := Lib.hid b0
  have NN := Lib.hid hN
  clear hW s0 b0 hN
  go_loopg [5, 10] n (fun k _ s10 wr => ∃ j : Nat, j ≤ n ∧ k = n - j ∧ s10 = .int .i64 j ∧ SetIs wr N (hset (p.hs.take j)) ∧ Below w.heap.size w wr)
  case atStart => exact ⟨0, Nat.zero_le _, rfl, rfl, S0.out, B0.out⟩
  case round =>
    obtain ⟨j, hj, hk, rfl, hS, hB⟩ := hrel
    have HK := Lib.hid hk
    have SS := Lib.hid hS
    have BB := Lib.hid hB
    clear hk hS hB S0 B0
    by_cases hlt : j < n
    · obtain ⟨x, hx⟩ : ∃ x, p.hs[j]? = some x := ⟨p.hs[j]'(by rw [← HN.out]; exact hlt), List.getElem?_eq_getElem _⟩
      obtain ⟨ab, off, hab, hbl, hcell⟩ := (H.out.rd.later BB.out) j x hx
      have hwf := Lib.hid (H.out.wf x (List.mem_of_getElem? hx))
      have HX := Lib.hid hx
      obtain rfl : pa = some ⟨ab, off, none⟩ := PA.out.trans hab
      clear hx hab
      have j0 : (0 : Int) ≤ (j : Int) := Int.natCast_nonneg _
      have j1 : (j : Int) < (n : Int) := by omega
      go_wp2_with (at_mapUpdate; refine wpList_mapput _ rfl _ _ _ 65 rfl 3 4 keyed_int Try.underlying65 ikey Value.bool ikey_inj N (hset (p.hs.take j)) SS.out rfl x true _ rfl rfl (ikey_ok hwf.out) ?_; intro w2 hm2 hg2 hs2)
      have M2 := Lib.hid hm2
      have G2 := Lib.hid hg2
      clear hm2 hg2 hs2 hcell
      go_roundg (n - (j + 1))
      case measure => rw [HK.out]; omega
      case rel =>
        refine ⟨j + 1, by omega, rfl, by go_num, ?_, BB.out.trans (below_grown G2.out BB.out.size (by rw [NN.out]; omega))⟩
        rw [List.take_add_one, HX.out]
        show SetIs _ _ (hput [] (p.hs.take j ++ [x]))
        rw [hput_snoc]
        exact M2.out
    · obtain rfl : j = n := by omega
      go_wp2
      go_ret
      refine ⟨N, rfl, by rw [NN.out]; omega, ?_, BB.out⟩
      have := SS.out
      rw [HN.out, List.take_length] at this
      exact this

/-- How many holders packs lack. -/
def lackOf (k : Int) (l : List Pk) : Int := (l.map fun p => max (k - ((hset p.hs).length : Int)) 0).sum
theorem lack_snoc (k : Int) (l : List Pk) (p : Pk) : lackOf k (l ++ [p]) = lackOf k l + max (k - ((hset p.hs).length : Int)) 0 := by simp [lackOf]
theorem lack_in {k : Int} (hk : k ≤ 1000) : ∀ l : List Pk, 0 ≤ lackOf k l ∧ lackOf k l ≤ 1000 * l.length
  | [] => by simp [lackOf]
  | p :: l => by
    have := lack_in hk l
    have e : lackOf k (p :: l) = max (k - ((hset p.hs).length : Int)) 0 + lackOf k l := by simp [lackOf]
    rw [e, List.length_cons]
    have : (0 : Int) ≤ ((hset p.hs).length : Int) := Int.natCast_nonneg _
    omega
theorem sizep (p : Pk) : (Try.prog.info? 46).map (·.size) = some (pcells p).toArray.size := by rw [size_pk]; simp [pcells_len]
theorem wp_named_upon {α : Type} {w : World} {F : World → α → Prop} {x : α} (h : ∀ W, W = w → F W x) : F w x := h w rfl
set_option maxRecDepth 100000 in
set_option maxHeartbeats 2000000 in
theorem lack_any {w : World} {ad : Option Addr} {c : Nat} {l : List Pk} (hrow : RowAt w ad (l.flatMap pcells)) (hfew : l.length ≤ 100) (hok : ∀ p ∈ l, PkOk w p) {k : Int} (k0 : -1000 ≤ k) (k1 : k ≤ 1000) :
    Calls Try.prog 12 #[.slice ad l.length c, .int .i64 k] w fun e w' => e = .returned (.int .i64 (lackOf k l)) ∧ Below w.heap.size w w' := by
  have R := Lib.hid hrow
  have OK := Lib.hid hok
  obtain ⟨n, hn⟩ : ∃ n, n = l.length := ⟨_, rfl⟩
  have HN := Lib.hid hn
  rw [← hn] at hfew ⊢
  clear hrow hok hn
  go_enter Try.func12, Try.ntmps12
  go_wp2_with fail
  go_loopg [5, 7, 10] n (fun kk s5 _ s10 wr => ∃ j : Nat, j ≤ n ∧ kk = n - j ∧ s10 = .int .i64 j ∧ s5 = .int .i64 (lackOf k (l.take j)) ∧ Below w.heap.size w wr)
  case atStart => exact ⟨0, Nat.zero_le _, rfl, rfl, rfl, Below.refl _ _⟩
  case round =>
    obtain ⟨j, hj, hk, rfl, rfl, hB⟩ := hrel
    have HB := Lib.hid hB
    have HK := Lib.hid hk
    by_cases hlt : j < n
    · obtain ⟨p, hp⟩ : ∃ p, l[j]? = some p := ⟨l[j]'(by rw [← HN.out]; exact hlt), List.getElem?_eq_getElem _⟩
      obtain ⟨b, off, rfl, hbl, hl⟩ := rowAt_elem pcells_len (by decide) (R.out.later hB) hp
      have LL := Lib.hid hl
      have HP := Lib.hid hp
      have j0 : (0 : Int) ≤ (j : Int) := Int.natCast_nonneg _
      have j1 : (j : Int) < (n : Int) := by omega
      have L0 := (lack_in k1 (l.take j)).1
      have L1 := (lack_in k1 (l.take j)).2
      rw [List.length_take] at L1
      obtain ⟨s, hs⟩ : ∃ s, s = lackOf k (l.take j) := ⟨_, rfl⟩
      have s0 : 0 ≤ s := by rw [hs]; exact L0
      have s1 : s ≤ 1000000 := by omega
      rw [← hs]
      have SS := Lib.hid hs
      have PO := Lib.hid ((OK.out p (List.mem_of_getElem? hp)).later hB)
      clear hB hk hl hp L0 L1 hs
      go_upto_region 5 with (first | (refine wpList_load_agg rfl 46 (.tmp 12) rfl b (off + j * 34) rfl (pcells p).toArray _ LL.out Try.underlying46 rfl (sizep p) ?_) | (refine wpList_store_new rfl 46 (.tmp 7) (.tmp 13) rfl _ (pcells p).toArray rfl rfl (sizep p) (by simp [pcells_len]) (all_oneCell_toArray (pcells_one p)) ?_))
      refine wp_named fun W hW => ?_
      have e0 : W.heap[wr.heap.size]? = some (.cells (pcells p).toArray 46 (0, 0)) := by rw [hW]; exact heap_at _ _
      have b0 : Below wr.heap.size wr W := by rw [hW]; exact below_alloc (Below.refl _ _) _
      have E0 := Lib.hid (lies_block e0)
      have B0 := Lib.hid b0
      clear hW e0 b0
      obtain ⟨q, hq⟩ : ∃ q, q = (hset p.hs).length := ⟨_, rfl⟩
      have q1 : q ≤ 1000 := by rw [hq]; have h1 : (hset p.hs).length ≤ 0 + p.hs.length := hput_len [] p.hs; have := PO.out.few; omega
      have QQ := Lib.hid hq
      clear hq
      go_wp2_with (refine wpList_load_agg rfl 46 (.tmp 7) rfl wr.heap.size 0 rfl (pcells p).toArray _ E0.out Try.underlying46 rfl (sizep p) ?_)
      refine (holders_any (PO.out.later B0.out)).mono ?_
      rintro e w2 ⟨mb, rfl, hmb, hS, hB2⟩
      have hlen := MapIs.len hS Try.underlying65 3
      rw [← QQ.out] at hlen
      have B2 := Lib.hid hB2
      clear hmb hS hB2
      have q0 : (0 : Int) ≤ (q : Int) := Int.natCast_nonneg _
      have q2 : (q : Int) ≤ 1000 := by omega
      obtain ⟨mx, hmx⟩ : ∃ mx : Int, mx = max (k - (q : Int)) 0 := ⟨_, rfl⟩
      have m0 : 0 ≤ mx := by omega
      have m1 : mx ≤ 1000 := by omega
      go_wp2
      go_roundg (n - (j + 1))
      case measure => rw [HK.out]; omega
      case rel =>
        refine ⟨j + 1, by omega, rfl, by go_num, ?_, ?_⟩
        · rw [List.take_add_one, HP.out]
          show _ = Value.int .i64 (lackOf k (l.take j ++ [p]))
          rw [lack_snoc, ← SS.out, ← QQ.out]
        · exact HB.out.trans ((B0.out.trans (B2.out.mono B0.out.size)).mono HB.out.size)
    · obtain rfl : j = n := by omega
      clear hB hk
      go_wp2
      go_ret
      refine ⟨?_, HB.out⟩
      rw [HN.out, List.take_length]
      rfl
end Go.Proofs.Ytpmkgnnpngbfmaa
