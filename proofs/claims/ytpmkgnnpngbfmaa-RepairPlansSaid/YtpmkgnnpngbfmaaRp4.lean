/- After: what it reckons. -/
import Derived.Test.YtpmkgnnpngbfmaaRp3
import Derived.Test.YtpmkgnnpngbfmaaKeys
import Derived.Test.YtpmkgnnpngbfmaaHeld
namespace Go.Proofs.Ytpmkgnnpngbfmaa
open Go.RowKit
open Extern.Stop (cell)

instance : Inhabited Pk := ⟨⟨[], 0, [], none, 0⟩⟩
theorem info_pk : (Try.prog.info? 46).map (fun i => (i.zero, i.size, i.bytes)) = some (some (.agg (pcells ⟨[], 0, [], none, 0⟩).toArray), 34, 64) := by kernel_rfl
theorem keys_wf {s : List (Int × Bool)} (h : ∀ x ∈ s, (Lit.int .i64 x.1).wf = true) : ∀ x ∈ (s.map Prod.fst).mergeSort leI, (Lit.int .i64 x).wf = true := fun x hx => by
  obtain ⟨y, hy, rfl⟩ := List.mem_map.1 ((List.mergeSort_perm _ _).mem_iff.1 hx)
  exact h y hy
/-- To whom moves give a pack. -/
def toOf (m : List Mv) (id : List UInt8) : List Int := (m.filter fun x => x.pack == id).map (·.to)
theorem toOf_snoc (m : List Mv) (x : Mv) (id : List UInt8) : toOf (m ++ [x]) id = if x.pack = id then toOf m id ++ [x.to] else toOf m id := by
  unfold toOf
  by_cases h : x.pack = id <;> simp [h]
/-- A pack's holders behind moves. -/
def behind (m : List Mv) (seen : Bool) (p : Pk) : List (Int × Bool) := if seen then hset p.hs else hput (hset p.hs) (toOf m p.id)
theorem behind_nil (s : Bool) (p : Pk) : behind [] s p = hset p.hs := by cases s <;> rfl
theorem behind_same {m : List Mv} {x : Mv} {p : Pk} (h : (x.pack == p.id) = false) (s : Bool) : behind (m ++ [x]) s p = behind m s p := by
  cases s
  · show hput _ _ = hput _ _
    rw [toOf_snoc, if_neg (by simpa using h)]
  · rfl
theorem behind_more {m : List Mv} {x : Mv} {p : Pk} (h : (x.pack == p.id) = true) : behind (m ++ [x]) false p = aput (behind m false p) x.to true := by
  show hput _ _ = aput (hput _ _) _ _
  rw [toOf_snoc, if_pos (by simpa using h), hput_snoc]
theorem behind_len (m : List Mv) (s : Bool) (p : Pk) : (behind m s p).length ≤ p.hs.length + m.length := by
  have h0 : (hset p.hs).length ≤ 0 + p.hs.length := hput_len [] p.hs
  have h1 := hput_len (hset p.hs) (toOf m p.id)
  have h2 : (toOf m p.id).length ≤ m.length := by
    unfold toOf
    rw [List.length_map]
    exact List.length_filter_le _ _
  unfold behind
  split <;> omega
def seenIds (l : List Pk) : List (List UInt8 × Bool) := l.foldl (fun s p => aput s p.id true) []
theorem seenIds_snoc (l : List Pk) (p : Pk) : seenIds (l ++ [p]) = aput (seenIds l) p.id true := by simp [seenIds]
theorem seenIds_get (l : List Pk) (id : List UInt8) : aget (seenIds l) id = if id ∈ l.map (·.id) then some true else none := by
  have : ∀ (l : List Pk) (s : List (List UInt8 × Bool)), aget (l.foldl (fun s p => aput s p.id true) s) id = if id ∈ l.map (·.id) then some true else aget s id := by
    intro l
    induction l with
    | nil => intro s; simp
    | cons p r ih =>
      intro s
      show aget (r.foldl _ (aput s p.id true)) id = _
      rw [ih, aget_aput]
      by_cases h : id ∈ r.map (·.id)
      · simp [h]
      · by_cases e : p.id = id
        · subst e; simp
        · have : ¬ id = p.id := fun e' => e e'.symm
          simp only [h, e, this, List.map_cons, List.mem_cons, or_self, if_false]
  exact this l []
def keysOf (s : List (Int × Bool)) : List Int := (s.map Prod.fst).mergeSort leI
/-- What is told of the i-th pack. -/
def aft (m : List Mv) (l : List Pk) (i : Nat) : List UInt8 × Int × List Int :=
  ((l.getD i default).id, (l.getD i default).size, keysOf (behind m (aget (seenIds (l.take i)) (l.getD i default).id).isSome (l.getD i default)))
def afts (m : List Mv) (l : List Pk) (n : Nat) : List (List UInt8 × Int × List Int) := (List.range n).map (aft m l)
theorem afts_succ (m : List Mv) (l : List Pk) (n : Nat) : afts m l (n + 1) = afts m l n ++ [aft m l n] := by simp [afts, List.range_succ]
theorem afts_len (m : List Mv) (l : List Pk) (n : Nat) : (afts m l n).length = n := by simp [afts]
/-- What a pack in memory says. -/
def says (p : Pk) : List UInt8 × Int × List Int := (p.id, p.size, p.hs)
/-- A move that may be. -/
structure MvOk (x : Mv) : Prop where
  id : x.pack.length = 32
  wf : (Lit.int .i64 x.to).wf = true
theorem sizem (x : Mv) : (Try.prog.info? 39).map (·.size) = some (mcells x).toArray.size := by rw [size_mv]; simp [mcells_len]
theorem sizei (x : List UInt8) : (Try.prog.info? 37).map (·.size) = some (idCells x).toArray.size := by rw [size_id]; simp [idCells_len]
theorem lies_id {w : World} {b : Nat} {p : Pk} {t : TypeId} {fz : Nat × Nat} (h : w.heap[b]? = some (.cells (pcells p).toArray t fz)) : Lies w b 0 (idCells p.id).toArray :=
  lies_part h fun j v hj => by
    have hlt : j < (idCells p.id).length := by simpa using (Array.getElem?_eq_some_iff.1 hj).1
    rw [Nat.zero_add]
    simp only [pcells, List.getElem?_toArray] at hj ⊢
    rw [List.getElem?_append_left hlt]
    exact hj
theorem lies_mid {w : World} {b : Nat} {x : Mv} {t : TypeId} {fz : Nat × Nat} (h : w.heap[b]? = some (.cells (mcells x).toArray t fz)) : Lies w b 0 (idCells x.pack).toArray ∧ w.cell? ⟨b, 32, none⟩ = some (.int .i64 x.to) := by
  constructor
  · exact lies_part h fun j v hj => by
      have hlt : j < (idCells x.pack).length := by simpa using (Array.getElem?_eq_some_iff.1 hj).1
      rw [Nat.zero_add]
      simp only [mcells, List.getElem?_toArray] at hj ⊢
      rw [List.getElem?_append_left hlt]
      exact hj
  · rw [cell_of_row w b 32 _ t fz h]
    simp [mcells, idCells_len]
abbrev SeenIs (w : World) (b : Nat) (l : List (List UInt8 × Bool)) : Prop := MapIs Try.prog 37 idv Value.bool w b l
abbrev PacksIs (B : Nat) (w : World) (v : Value) (ps : List Pk) : Prop := w.ownsRow B 46 34 v ps.length (ps.flatMap pcells)
/-- Of the call's own: what a result's holders lie in. -/
def HsOwn (B : Nat) (w : World) (p : Pk) : Prop := IntsIs B w (.slice p.ad p.hs.length p.cap) p.hs
/-- Rows of ints stay. -/
def IntsStay (w w' : World) : Prop := ∀ (k : Nat) (cur : Array Value), w.heap[k]? = some (.cells cur 3 (0, 0)) → w'.heap[k]? = some (.cells cur 3 (0, 0))
theorem IntsStay.trans {a b c : World} (h : IntsStay a b) (k : IntsStay b c) : IntsStay a c := fun i cur hi => k i cur (h i cur hi)
theorem IntsStay.of {a b : World} (h : Below a.heap.size a b) : IntsStay a b := fun i _ hi => (h.block i (Array.getElem?_eq_some_iff.1 hi).1).trans hi
theorem IntsStay.row {a b : World} {k : Nat} (h : a.grownBy b (some k)) (hk : ∀ (cur : Array Value), a.heap[k]? ≠ some (.cells cur 3 (0, 0))) : IntsStay a b := fun i cur hi => by
  rw [h.block i (Array.getElem?_eq_some_iff.1 hi).1 (fun e => by cases e; exact hk cur hi)]
  exact hi
theorem IntsStay.own {a b : World} (h : IntsStay a b) {B : Nat} {v : Value} {xs : List Int} (hv : IntsIs B a v xs) : IntsIs B b v xs := own_of hv fun k cur _ hk => h k cur hk
theorem map_no_ints {α β : Type} {P : Program} {k : TypeId} {eK : α → Value} {eV : β → Value} {w : World} {b : Nat} {l : List (α × β)} (h : MapIs P k eK eV w b l) : ∀ (cur : Array Value), w.heap[b]? ≠ some (.cells cur 3 (0, 0)) := by
  obtain ⟨es, clk, h1, _⟩ := h
  intro cur e
  rw [h1] at e
  cases e
set_option linter.unusedSimpArgs false in
set_option maxRecDepth 100000 in
set_option maxHeartbeats 4000000 in
theorem after_any {w : World} {ad adm : Option Addr} {c cm : Nat} {l : List Pk} {ms : List Mv} (hrow : RowAt w ad (l.flatMap pcells)) (hfew : l.length ≤ 100) (hok : ∀ p ∈ l, PkOk w p)
    (hrm : RowAt w adm (ms.flatMap mcells)) (hmf : ms.length ≤ 10000) (hmo : ∀ x ∈ ms, MvOk x) :
    Calls Try.prog 14 #[.slice ad l.length c, .slice adm ms.length cm] w fun e w' => ∃ v ps, e = .returned v ∧ ps.map says = afts ms l l.length ∧ PacksIs w.heap.size w' v ps ∧ (∀ p ∈ ps, HsOwn w.heap.size w' p) ∧ Below w.heap.size w w' := by
  have R := Lib.hid hrow
  have OK := Lib.hid hok
  have RM := Lib.hid hrm
  have MO := Lib.hid hmo
  obtain ⟨n, hn⟩ : ∃ n, n = l.length := ⟨_, rfl⟩
  obtain ⟨m, hm⟩ : ∃ m, m = ms.length := ⟨_, rfl⟩
  have HN := Lib.hid hn
  have HM := Lib.hid hm
  rw [← hn] at hfew ⊢
  rw [← hm] at hmf ⊢
  have hmm := @run_makeMap Try.prog
  clear hrow hok hn hrm hmo hm
  go_enter Try.func14, Try.ntmps14
  go_wp2_with fail
  clear hmm
  obtain ⟨N, hN⟩ : ∃ N, N = w.heap.size := ⟨_, rfl⟩
  rw [← hN]
  refine wp_named fun W hW => ?_
  have s0 : SeenIs W N (seenIds (l.take 0)) := by rw [hW, hN]; exact MapIs.made w Try.prog 37 idv Value.bool
  have b0 : Below w.heap.size w W := by rw [hW]; exact below_alloc (Below.refl _ _) _
  have p0 : PacksIs w.heap.size W (.slice none 0 0) [] := ⟨rfl, .inl ⟨rfl, rfl⟩⟩
  have S0 := Lib.hid s0
  have B0 := Lib.hid b0
  have P0 := Lib.hid p0
  have HNN := Lib.hid hN
  clear hW s0 b0 p0 hN
  go_loopg [5, 8, 9, 11, 15] n (fun k s5 _ _ _ s15 wr => ∃ (j : Nat) (ps : List Pk), j ≤ n ∧ k = n - j ∧ s15 = .int .i64 j ∧ ps.map says = afts ms l j ∧ PacksIs w.heap.size wr s5 ps ∧ (∀ p ∈ ps, HsOwn w.heap.size wr p) ∧ SeenIs wr N (seenIds (l.take j)) ∧ Below w.heap.size w wr)
  case atStart => exact ⟨0, [], Nat.zero_le _, rfl, rfl, rfl, P0.out, by simp, S0.out, B0.out⟩
  case round =>
    obtain ⟨j, ps, hj, hk, rfl, hps, hP, hH, hS, hB⟩ := hrel
    have HK := Lib.hid hk
    have PS := Lib.hid hps
    have PP := Lib.hid hP
    have HH := Lib.hid hH
    have SS := Lib.hid hS
    have BB := Lib.hid hB
    clear hk hps hP hH hS hB S0 B0 P0
    by_cases hlt : j < n
    · obtain ⟨wo, rfl⟩ : ∃ wo : World, wo = wr := ⟨_, rfl⟩
      obtain ⟨p, hp⟩ : ∃ p, l[j]? = some p := ⟨l[j]'(by rw [← HN.out]; exact hlt), List.getElem?_eq_getElem _⟩
      obtain ⟨b, off, rfl, hbl, hl⟩ := rowAt_elem pcells_len (by decide) (R.out.later BB.out) hp
      have LL := Lib.hid hl
      have HP := Lib.hid hp
      have PO := Lib.hid ((OK.out p (List.mem_of_getElem? hp)).later BB.out)
      have j0 : (0 : Int) ≤ (j : Int) := Int.natCast_nonneg _
      have j1 : (j : Int) < (n : Int) := by omega
      clear hl hp
      go_upto_region 6 with (first | (refine wpList_load_agg rfl 46 (.tmp 17) rfl b (off + j * 34) rfl (pcells p).toArray _ LL.out Try.underlying46 rfl (sizep p) ?_) | (refine wpList_store_new rfl 46 (.tmp 8) (.tmp 18) rfl _ (pcells p).toArray rfl rfl (sizep p) (by simp [pcells_len]) (all_oneCell_toArray (pcells_one p)) ?_))
      obtain ⟨T, hT⟩ : ∃ T, T = wo.heap.size := ⟨_, rfl⟩
      rw [← hT]
      refine wp_named fun W hW => ?_
      have e0 : W.heap[T]? = some (.cells (pcells p).toArray 46 (0, 0)) := by rw [hW, hT]; exact heap_at _ _
      have b0 : Below wo.heap.size wo W := by rw [hW]; exact below_alloc (Below.refl _ _) _
      have E0 := Lib.hid e0
      have B0 := Lib.hid b0
      have HT := Lib.hid hT
      clear hW e0 b0 hT
      go_wp2_with (refine wpList_load_agg rfl 46 (.tmp 8) rfl T 0 rfl (pcells p).toArray _ (lies_block E0.out) Try.underlying46 rfl (sizep p) ?_)
      refine (holders_any (PO.out.later B0.out)).mono ?_
      rintro e wh ⟨Hb, rfl, hHb, hHS, hB2⟩
      have E1 := Lib.hid (heap_kept hB2 E0.out (Array.getElem?_eq_some_iff.1 E0.out).1)
      have B1 := Lib.hid (B0.out.trans (hB2.mono B0.out.size))
      have hHT : T < Hb := Nat.lt_of_lt_of_le (Array.getElem?_eq_some_iff.1 E0.out).1 hHb
      have HS := Lib.hid hHS
      clear hHb hHS hB2 E0 B0
      go_wp2_with fail
      obtain ⟨sn, hsn⟩ : ∃ sn, sn = (aget (seenIds (l.take j)) p.id).isSome := ⟨_, rfl⟩
      have SN := Lib.hid hsn
      clear hsn
      go_loopg [11, 23] m (fun kk _ s23 wi => ∃ i : Nat, i ≤ m ∧ kk = m - i ∧ s23 = .int .i64 i ∧ SetIs wi Hb (behind (ms.take i) sn p) ∧ wh.grownBy wi (some Hb))
      case atStart => exact ⟨0, Nat.zero_le _, rfl, rfl, by rw [List.take_zero, behind_nil]; exact HS.out, grown_refl _ _⟩
      case round =>
        obtain ⟨i, hi, hki, rfl, hSi, hGi⟩ := hrel
        obtain ⟨wi, rfl⟩ : ∃ wi : World, wi = wr := ⟨_, rfl⟩
        have HKI := Lib.hid hki
        have SI := Lib.hid hSi
        have GI := Lib.hid hGi
        have bw : Below w.heap.size w wi := (BB.out.trans (B1.out.mono BB.out.size)).trans (below_grown hGi (Nat.le_trans BB.out.size B1.out.size) (by have := BB.out.size; have := HT.out; omega))
        have BW := Lib.hid bw
        clear hki hSi hGi bw HS
        by_cases hli : i < m
        · obtain ⟨x, hx⟩ : ∃ x, ms[i]? = some x := ⟨ms[i]'(by rw [← HM.out]; exact hli), List.getElem?_eq_getElem _⟩
          obtain ⟨b2, off2, rfl, hbl2, hl2⟩ := rowAt_elem mcells_len (by decide) (RM.out.later BW.out) hx
          have L2 := Lib.hid hl2
          have HX := Lib.hid hx
          have MX := Lib.hid (MO.out x (List.mem_of_getElem? hx))
          have i0 : (0 : Int) ≤ (i : Int) := Int.natCast_nonneg _
          have i1 : (i : Int) < (m : Int) := by omega
          clear hl2 hx
          go_upto_region 10 with (first | (refine wpList_load_agg rfl 39 (.tmp 25) rfl b2 (off2 + i * 33) rfl (mcells x).toArray _ L2.out Try.underlying39 rfl (sizem x) ?_) | (refine wpList_store_new rfl 39 (.tmp 11) (.tmp 26) rfl _ (mcells x).toArray rfl rfl (sizem x) (by simp [mcells_len]) (all_oneCell_toArray (mcells_one x)) ?_))
          obtain ⟨M, hM⟩ : ∃ M, M = wi.heap.size := ⟨_, rfl⟩
          rw [← hM]
          refine wp_named fun W2 hW2 => ?_
          have e2 : W2.heap[M]? = some (.cells (mcells x).toArray 39 (0, 0)) := by rw [hW2, hM]; exact heap_at _ _
          have g2 : wh.grownBy W2 (some Hb) := by rw [hW2]; exact grown_trans GI.out (World.grownBy_alloc _ _ _)
          have s2 : SetIs W2 Hb (behind (ms.take i) sn p) := by rw [hW2]; exact SI.out.alloc _
          have hTw : T < wh.heap.size := (Array.getElem?_eq_some_iff.1 E1.out).1
          have e1 : W2.heap[T]? = some (.cells (pcells p).toArray 46 (0, 0)) := (g2.block T hTw (by simp; omega)).trans E1.out
          have hNo : N < wo.heap.size := SS.out.lt
          have hlk : (Instr.lookup 79 (.map (some N)) (.agg (idCells p.id).toArray) false).run Try.prog W2 = .ok (.bool sn) W2 := by
            have hsi : SeenIs W2 N (seenIds (l.take j)) := SS.out.of_block ((g2.block N (Nat.lt_of_lt_of_le hNo B1.out.size) (by simp; have := HT.out; omega)).trans (B1.out.block N hNo))
            obtain ⟨kl, hkl⟩ := idv_key PO.out.id
            rw [show Value.agg (idCells p.id).toArray = idv p.id from idk_idv PO.out.id, SN.out]
            cases hg : aget (seenIds (l.take j)) p.id with
            | none => exact hsi.look_none keyed_id idv_inj Try.underlying79 (z := .bool false) (by kernel_rfl) false hkl hg
            | some v =>
              have hv : v = true := by
                rw [seenIds_get] at hg
                split at hg
                · exact (Option.some.inj hg).symm
                · cases hg
              subst hv
              exact hsi.look_some keyed_id idv_inj Try.underlying79 false hkl hg
          have hq := eqi_ids MX.out.id PO.out.id
          obtain ⟨l1, l2⟩ := lies_mid e2
          have LX := Lib.hid l1
          have LP := Lib.hid (lies_id e1)
          have E2 := Lib.hid e2
          have HMM := Lib.hid hM
          have G2 := Lib.hid g2
          have S2 := Lib.hid s2
          clear hW2 e2 g2 s2 e1 l1 SI GI hM
          generalize hbq : (x.pack == p.id) = bq at hq
          have BQ := Lib.hid hbq
          clear hbq
          have TX : Hid (ms.take (i + 1) = ms.take i ++ [x]) := Lib.hid (by rw [List.take_add_one, HX.out]; rfl)
          cases bq
          · go_wp2_with (first | (refine wpList_load_agg rfl 37 (.tmp 27) rfl M 0 rfl (idCells x.pack).toArray _ LX.out Try.underlying37 rfl (sizei x.pack) ?_) | (refine wpList_load_agg rfl 37 (.tmp 29) rfl T 0 rfl (idCells p.id).toArray _ LP.out Try.underlying37 rfl (sizei p.id) ?_))
            go_roundg (m - (i + 1))
            case measure => rw [HKI.out]; omega
            case rel => exact ⟨i + 1, by omega, rfl, by go_num, by rw [TX.out, behind_same BQ.out]; exact S2.out, G2.out⟩
          · cases sn
            · go_wp2_with (first | (refine wpList_load_agg rfl 37 (.tmp 27) rfl M 0 rfl (idCells x.pack).toArray _ LX.out Try.underlying37 rfl (sizei x.pack) ?_) | (refine wpList_load_agg rfl 37 (.tmp 29) rfl T 0 rfl (idCells p.id).toArray _ LP.out Try.underlying37 rfl (sizei p.id) ?_) | (refine wpList_load_if (by rfl) 37 (.tmp 34) rfl T 0 rfl (idCells p.id).toArray _ LP.out Try.underlying37 rfl (sizei p.id) ?_) | (at_mapUpdate; refine wpList_mapput _ rfl _ _ _ 65 rfl 3 4 keyed_int Try.underlying65 ikey Value.bool ikey_inj Hb (behind (ms.take i) false p) S2.out rfl x.to true _ rfl rfl (ikey_ok MX.out.wf) ?_; intro w3 hm3 hg3 hs3))
              have M3 := Lib.hid hm3
              have G3 := Lib.hid hg3
              clear hm3 hg3 hs3
              go_roundg (m - (i + 1))
              case measure => rw [HKI.out]; omega
              case rel => exact ⟨i + 1, by omega, rfl, by go_num, by rw [TX.out, behind_more BQ.out]; exact M3.out, grown_trans G2.out G3.out⟩
            · go_wp2_with (first | (refine wpList_load_agg rfl 37 (.tmp 27) rfl M 0 rfl (idCells x.pack).toArray _ LX.out Try.underlying37 rfl (sizei x.pack) ?_) | (refine wpList_load_agg rfl 37 (.tmp 29) rfl T 0 rfl (idCells p.id).toArray _ LP.out Try.underlying37 rfl (sizei p.id) ?_) | (refine wpList_load_if (by rfl) 37 (.tmp 34) rfl T 0 rfl (idCells p.id).toArray _ LP.out Try.underlying37 rfl (sizei p.id) ?_))
              go_roundg (m - (i + 1))
              case measure => rw [HKI.out]; omega
              case rel => exact ⟨i + 1, by omega, rfl, by go_num, S2.out, G2.out⟩
        · obtain rfl : i = m := by omega
          clear hlt
          have G2 := Lib.hid GI.out
          have SF := Lib.hid (show SetIs wi Hb (behind ms sn p) by have := SI.out; rw [HM.out, List.take_length] at this; exact this)
          have hTw : T < wh.heap.size := (Array.getElem?_eq_some_iff.1 E1.out).1
          have hNo : N < wo.heap.size := SS.out.lt
          have e1 : wi.heap[T]? = some (.cells (pcells p).toArray 46 (0, 0)) := (G2.out.block T hTw (by simp; omega)).trans E1.out
          have si : SeenIs wi N (seenIds (l.take j)) := SS.out.of_block ((G2.out.block N (Nat.lt_of_lt_of_le hNo B1.out.size) (by simp; have := HT.out; omega)).trans (B1.out.block N hNo))
          have E2 := Lib.hid e1
          have S2 := Lib.hid si
          have LP := Lib.hid (lies_id e1)
          have uN : ∀ (base : Nat) (e : TypeId) (size : Nat) (v : Value) (q : Nat) (xs : List Value), wi.ownsRow base e size v q xs → v.ownBlock ≠ some N := fun _ _ _ _ _ _ h => own_not_map S2.out h
          have mv : ∀ {base : Nat} {e : TypeId} {size : Nat} {v : Value} {q : Nat} {xs : List Value}, wo.ownsRow base e size v q xs → wi.ownsRow base e size v q xs := fun h => own_grown (own_later h B1.out) G2.out (fun hb => by
            obtain ⟨_, cur, hc⟩ := own_row h hb
            have := (Array.getElem?_eq_some_iff.1 hc).1
            have := HT.out
            omega)
          have PI := Lib.hid (mv PP.out)
          have HI := Lib.hid (fun q hq => (mv (HH.out q hq) : HsOwn w.heap.size wi q))
          have UN := Lib.hid uN
          clear e1 si SI GI uN mv
          obtain ⟨kl, hkl⟩ := idv_key PO.out.id
          have KL := Lib.hid hkl
          clear hkl
          go_wp2_with (first | (refine wpList_load_agg rfl 37 (.tmp 44) rfl T 0 rfl (idCells p.id).toArray _ LP.out Try.underlying37 rfl (sizei p.id) ?_) | (at_mapUpdate; refine wpList_mapput _ rfl _ _ _ 79 rfl 37 4 keyed_id Try.underlying79 idv Value.bool idv_inj N (seenIds (l.take j)) S2.out rfl p.id true _ (idk_idv PO.out.id) rfl KL.out ?_; intro w3 hm3 hg3 hs3))
          have NH : N ≠ Hb := by have := HT.out; omega
          have hTN : T ≠ N := by have := HT.out; omega
          have s3 : SeenIs w3 N (seenIds (l.take (j + 1))) := by
            rw [List.take_add_one, HP.out]
            show MapIs _ _ _ _ _ _ (seenIds (l.take j ++ [p]))
            rw [seenIds_snoc]
            exact hm3
          have f3 : SetIs w3 Hb (behind ms sn p) := SF.out.of_block (hg3.block Hb SF.out.lt (by simp; omega))
          have e3 : w3.heap[T]? = some (.cells (pcells p).toArray 46 (0, 0)) := (hg3.block T (Array.getElem?_eq_some_iff.1 E2.out).1 (by simp; exact hTN)).trans E2.out
          have p3 : PacksIs w.heap.size w3 u5 ps := own_grown PI.out hg3 (UN.out _ _ _ _ _ _ PI.out)
          have h3 : ∀ q ∈ ps, HsOwn w.heap.size w3 q := fun q hq => own_grown (HI.out q hq) hg3 (UN.out _ _ _ _ _ _ (HI.out q hq))
          have b3 : Below w.heap.size w w3 := BW.out.trans (below_grown hg3 BW.out.size (by rw [HNN.out]; exact Nat.le_refl _))
          have S3 := Lib.hid s3
          have F3 := Lib.hid f3
          have E3 := Lib.hid e3
          have P3 := Lib.hid p3
          have H3 := Lib.hid h3
          have B3 := Lib.hid b3
          clear hm3 hg3 hs3 s3 f3 e3 p3 h3 b3 NH hTN E2 S2 LP PI HI UN SF G2 hTw hNo hHT BW
          obtain ⟨c0, c1, c2, c3, c4, c5, c6, c7, c8, c9, c10, c11, c12, c13, c14, c15, c16, c17, c18, c19, c20, c21, c22, c23, c24, c25, c26, c27, c28, c29, c30, c31, hcs⟩ := list32 (idCells_len p.id)
          have r32 := (pk_part E3.out).1
          have r0 : w3.rangeAt T 0 [c0, c1, c2, c3, c4, c5, c6, c7, c8, c9, c10, c11, c12, c13, c14, c15, c16, c17, c18, c19, c20, c21, c22, c23, c24, c25, c26, c27, c28, c29, c30, c31] := by
            have := lies_id E3.out
            rw [hcs] at this
            exact this
          have hu := Try.underlying37
          have hi28 : (Try.prog.info? 37).map (·.size) = some [c0, c1, c2, c3, c4, c5, c6, c7, c8, c9, c10, c11, c12, c13, c14, c15, c16, c17, c18, c19, c20, c21, c22, c23, c24, c25, c26, c27, c28, c29, c30, c31].length := size_id
          obtain ⟨i0, hi, hz0, hz1, hz2⟩ := info_parts info_pk
          have HCS := Lib.hid hcs
          clear hcs
          refine wp_region_held_drew (S := (fun w' => w'.rangeAt T 0 [c0, c1, c2, c3, c4, c5, c6, c7, c8, c9, c10, c11, c12, c13, c14, c15, c16, c17, c18, c19, c20, c21, c22, c23, c24, c25, c26, c27, c28, c29, c30, c31] ∧ w'.cell? ⟨T, 32, none⟩ = some (.int .u64 p.size))) (by kernel_rfl) ⟨r0, r32⟩ (fun hHeld => ?_)
          refine wpAnyH_take (i := 0) (v := ?_) rfl (by kernel_rfl) (by kernel_rfl) (by kernel_rfl) (fun _ _ _ h => h) (Or.inl ⟨by rfl, ?_⟩) (by assumption) ?_
          rotate_left
          · (intro w hSw; (obtain ⟨_, _⟩ := hSw; go_simp; try with_reducible rfl))
          try simp only [Act.put, List.setIfInBounds_toArray, List.set_cons_zero, List.set_cons_succ]
          refine wpAnyH_take (i := 1) (v := ?_) rfl (by kernel_rfl) (by kernel_rfl) (by kernel_rfl) (fun _ _ _ h => h) (Or.inl ⟨by rfl, ?_⟩) (by assumption) ?_
          rotate_left
          · (intro w hSw; (obtain ⟨_, _⟩ := hSw; go_simp; try with_reducible rfl))
          try simp only [Act.put, List.setIfInBounds_toArray, List.set_cons_zero, List.set_cons_succ]
          refine' wpAnyH_take (i := 2) (v := _) rfl (by kernel_rfl) (by kernel_rfl) (by kernel_rfl) (fun _ _ _ h => h) (yieldsIf_load_mid (by rfl) _ _ rfl _ _ rfl _ _ ?hS hu rfl hi28) (by assumption) ?rest
          case hS => exact fun w hw => hw.1
          case rest =>
          try simp only [Act.put, List.setIfInBounds_toArray, List.set_cons_zero, List.set_cons_succ]
          refine wpAnyH_take (i := 3) (v := ?_) rfl (by kernel_rfl) (by kernel_rfl) (by kernel_rfl) (fun _ _ _ h => h) (Or.inl ⟨by rfl, ?_⟩) (by assumption) ?_
          rotate_left
          · (intro w hSw; (obtain ⟨_, _⟩ := hSw; go_simp; try with_reducible rfl))
          try simp only [Act.put, List.setIfInBounds_toArray, List.set_cons_zero, List.set_cons_succ]
          refine wpAnyH_take (i := 4) (v := ?_) rfl (by kernel_rfl) (by kernel_rfl) (by kernel_rfl) (fun _ _ _ h => h) (Or.inl ⟨by rfl, ?_⟩) (by assumption) ?_
          rotate_left
          · (intro w hSw; (obtain ⟨_, _⟩ := hSw; go_simp; try with_reducible rfl))
          try simp only [Act.put, List.setIfInBounds_toArray, List.set_cons_zero, List.set_cons_succ]
          refine wpAnyH_take (i := 5) (v := ?_) rfl (by kernel_rfl) (by kernel_rfl) (by kernel_rfl) (fun _ _ _ h => h) (Or.inl ⟨by rfl, ?_⟩) (by assumption) ?_
          rotate_left
          · (intro w hSw; (obtain ⟨_, _⟩ := hSw; go_simp; try with_reducible rfl))
          try simp only [Act.put, List.setIfInBounds_toArray, List.set_cons_zero, List.set_cons_succ]
          refine wpAnyH_ready (rs := [6]) (by kernel_rfl) (by simp) (AllReadyH.cons rfl (fun K hK => ?_) AllReadyH.nil)
          go_simp
          refine (keys_bool (some Hb) _).mono ?_
          rintro e w4 ⟨rfl, rfl⟩
          have b4 : Below w3.heap.size w3 (w3.drew.alloc (.cells #[.map (some Hb)] 65)) := below_alloc (below_drew (Below.refl _ _)) _
          have t4 : (w3.drew.alloc (.cells #[.map (some Hb)] 65)).cell? ⟨w3.heap.size, 0, none⟩ = some (.map (some Hb)) := (blk1 (heap_at w3.drew (.cells #[.map (some Hb)] 65))).1
          have z4 : (w3.drew.alloc (.cells #[.map (some Hb)] 65)).heap.size = w3.heap.size + 1 := by simp
          have f4 := F3.out.drew.alloc (.cells #[.map (some Hb)] 65)
          generalize hw4 : w3.drew.alloc (.cells #[.map (some Hb)] 65) = w4 at b4 t4 z4 f4 ⊢
          clear hw4
          have B4 := Lib.hid b4
          refine hK.out _ _ ⟨rangeAt_below r0 b4, cell_below r32 b4⟩ (fun hH => ?_)
          clear hHeld hK b4
          try simp only [Act.put, List.setIfInBounds_toArray, List.set_cons_zero, List.set_cons_succ]
          have SK := sorted_bool (w := w4) (by rw [z4]; omega) t4 f4 (by have := behind_len ms sn p; have := PO.out.few; rw [← HM.out] at *; omega)
          refine wpAnyH_ready (rs := [7]) (by kernel_rfl) (by simp) (AllReadyH.cons rfl (fun K hK => ?_) AllReadyH.nil)
          go_simp
          refine SK.mono ?_
          rintro e w5 ⟨v7, rfl, h7, b7⟩
          obtain ⟨x7, cc, rfl⟩ := own_slice h7
          obtain ⟨ks, hks⟩ : ∃ ks, ks = keysOf (behind ms sn p) := ⟨_, rfl⟩
          change w5.ownsRow w4.heap.size 3 1 (.slice x7 (keysOf (behind ms sn p)).length cc) (keysOf (behind ms sn p)).length ((keysOf (behind ms sn p)).map (Value.int .i64)) at h7
          change K _ w5
          rw [show ((List.map Prod.fst (behind ms sn p)).mergeSort leI).length = ks.length by rw [hks]; rfl]
          rw [← hks] at h7
          have KS := Lib.hid hks
          obtain ⟨q, hq⟩ : ∃ q : Pk, q = ⟨p.id, p.size, ks, x7, cc⟩ := ⟨_, rfl⟩
          have b35 : Below w3.heap.size w3 w5 := B4.out.trans (b7.mono B4.out.size)
          have o5 := own_later P3.out b35
          have g5 : ∀ y ∈ ps, HsOwn w.heap.size w5 y := fun y hy => own_later (H3.out y hy) b35
          have q5 : HsOwn w.heap.size w5 q := by
            rw [hq]
            exact own_mono h7 (by have := B4.out.size; have := B3.out.size; omega)
          have QQ := Lib.hid hq
          have pl : ps.length = j := by have := congrArg List.length PS.out; simpa [afts_len] using this
          have QL : Hid (pcells q = [c0, c1, c2, c3, c4, c5, c6, c7, c8, c9, c10, c11, c12, c13, c14, c15, c16, c17, c18, c19, c20, c21, c22, c23, c24, c25, c26, c27, c28, c29, c30, c31, .int .u64 p.size, .slice x7 ks.length cc]) := Lib.hid (by rw [hq]; simp [pcells, HCS.out])
          have s5 : w5.rangeAt T 0 [c0, c1, c2, c3, c4, c5, c6, c7, c8, c9, c10, c11, c12, c13, c14, c15, c16, c17, c18, c19, c20, c21, c22, c23, c24, c25, c26, c27, c28, c29, c30, c31] := rangeAt_below r0 b35
          have t5 : w5.cell? ⟨T, 32, none⟩ = some (.int .u64 p.size) := cell_below r32 b35
          have B5 := Lib.hid (B3.out.trans (b35.mono B3.out.size))
          have S5 := Lib.hid (S3.out.of_block (b35.block N S3.out.lt))
          have O5 := Lib.hid o5
          have G5 := Lib.hid g5
          have Q5 := Lib.hid q5
          clear h7 b7 hks hq b35 o5 g5 q5 SK t4 z4 f4 B4 S3 P3 H3 B3 F3 E3 r0 r32
          refine hK.out _ _ ⟨s5, t5⟩ (fun hHeld => ?_)
          clear hH hK
          try simp only [Act.put, List.setIfInBounds_toArray, List.set_cons_zero, List.set_cons_succ]
          refine wpAnyH_take (i := 8) (v := ?_) rfl (by kernel_rfl) (by kernel_rfl) (by kernel_rfl) (fun _ _ _ h => h) (Or.inl ⟨by rfl, ?_⟩) (by assumption) ?_
          rotate_left
          · (intro w hSw; (obtain ⟨_, _⟩ := hSw; go_simp; try with_reducible rfl))
          try simp only [Act.put, List.setIfInBounds_toArray, List.set_cons_zero, List.set_cons_succ]
          refine wpAnyH_ready (rs := [9]) (by kernel_rfl) (by simp) (AllReadyH.cons rfl (fun K hK => ?_) AllReadyH.nil)
          go_simp
          refine hK.out _ _ ⟨World.rangeAt_alloc s5 _, cell_up t5 _⟩ (fun hH => ?_)
          clear hHeld hK
          try simp only [Act.put, List.setIfInBounds_toArray, List.set_cons_zero, List.set_cons_succ]
          refine wpAnyH_ready (rs := [10]) (by kernel_rfl) (by simp) (AllReadyH.cons rfl (fun K hK => ?_) AllReadyH.nil)
          refine step_append_any rfl (.tmp 46) (.tmp 55) 22 rfl w.heap.size 46 i0 _ 34 64 Try.underlying22 hi hz0 hz1 hz2 (by simp [Value.cells, pcells_len]) (by decide) u5 ps.length (ps.flatMap pcells) rfl (own_later O5.out (below_alloc (Below.refl _ _) _)) ⟨w5.heap.size, 0, none⟩ 1 1 (pcells q) rfl (by rw [pcells_len]) (by rw [QL.out]; exact World.news_of_block (w := w5.alloc _) (heap_at w5 _)) (pcells_one _) (by unfold maxLen; omega) (by omega) (by have := B5.out.size; simp; omega) ?_
          intro v6 w6 hown hg hat
          change (w5.alloc _).grownBy w6 u5.ownBlock at hg
          clear hat
          have ba := below_alloc (Below.refl w5.heap.size w5) (.cells #[c0, c1, c2, c3, c4, c5, c6, c7, c8, c9, c10, c11, c12, c13, c14, c15, c16, c17, c18, c19, c20, c21, c22, c23, c24, c25, c26, c27, c28, c29, c30, c31, .int .u64 p.size, .slice x7 ks.length cc] 46)
          have oa := own_later O5.out ba
          have ur : ∀ k, u5.ownBlock = some k → ∃ cur, (w5.alloc (.cells #[c0, c1, c2, c3, c4, c5, c6, c7, c8, c9, c10, c11, c12, c13, c14, c15, c16, c17, c18, c19, c20, c21, c22, c23, c24, c25, c26, c27, c28, c29, c30, c31, .int .u64 p.size, .slice x7 ks.length cc] 46)).heap[k]? = some (.cells cur 46 (0, 0)) := fun k hk => (own_row oa hk).2
          have uT : u5.ownBlock ≠ some T := fun hb => by
            obtain ⟨_, cur, hc⟩ := own_row PP.out hb
            have := (Array.getElem?_eq_some_iff.1 hc).1
            have := HT.out
            omega
          have s6 := rangeAt_grown (World.rangeAt_alloc s5 _) hg uT
          have t6 := cell_grown (cell_up t5 _) hg uT
          have S6 := Lib.hid ((S5.out.alloc _).grown hg (fun e => own_not_map S5.out O5.out e.symm))
          have G6 := Lib.hid (fun y (hy : y ∈ ps) => (own_other (own_later (G5.out y hy) ba) hg ur (by decide) : HsOwn w.heap.size w6 y))
          have Q6 := Lib.hid (own_other (own_later Q5.out ba) hg ur (by decide) : HsOwn w.heap.size w6 q)
          have B6 := Lib.hid ((B5.out.trans (ba.mono B5.out.size)).grown hg (by have := B5.out.size; simp; omega) (fun k hk => (own_row oa hk).1))
          have P6 : Hid (PacksIs w.heap.size w6 v6 (ps ++ [q])) := Lib.hid (by
            show w6.ownsRow _ _ _ _ (ps ++ [q]).length ((ps ++ [q]).flatMap pcells)
            rw [List.length_append, List.flatMap_append]
            simpa using hown)
          clear hown hg ba oa ur uT s5 t5 S5 G5 Q5 O5 B5
          refine hK.out _ _ ⟨s6, t6⟩ (fun hHeld => ?_)
          clear hH hK
          try simp only [Act.put, List.setIfInBounds_toArray, List.set_cons_zero, List.set_cons_succ]
          refine wpAnyH_ready (rs := [11]) (by kernel_rfl) (by simp) (AllReadyH.cons rfl (fun K hK => ?_) AllReadyH.nil)
          go_simp
          refine hK.out _ _ ⟨s6, t6⟩ (fun hH => ?_)
          clear hHeld hK
          try simp only [Act.put, List.setIfInBounds_toArray, List.set_cons_zero, List.set_cons_succ]
          refine wpAnyH_done (by kernel_rfl) ?_ _
          clear hH s6 t6 hu hi28 hi hz0 hz1 hz2
          go_wp2
          go_roundg (n - (j + 1))
          case measure => rw [HK.out]; omega
          case rel =>
            refine ⟨j + 1, ps ++ [q], by omega, rfl, by go_num, ?_, P6.out, fun y hy => ?_, S6.out, B6.out⟩
            · rw [List.map_append, PS.out, afts_succ]
              congr 1
              show [says q] = [aft ms l j]
              unfold says aft
              rw [List.getD_eq_getElem?_getD, HP.out, QQ.out, KS.out, SN.out]
              rfl
            · rcases List.mem_append.1 hy with hy | hy
              · exact G6.out y hy
              · rw [List.mem_singleton.1 hy]; exact Q6.out
    · obtain rfl : j = n := by omega
      go_wp2
      go_ret
      exact ⟨_, ps, rfl, PS.out, PP.out, HH.out, BB.out⟩
end Go.Proofs.Ytpmkgnnpngbfmaa
