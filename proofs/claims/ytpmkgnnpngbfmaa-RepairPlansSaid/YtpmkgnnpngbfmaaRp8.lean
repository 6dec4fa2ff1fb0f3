/- Plan, walked, over a contract of the stable sort. -/
import Derived.Test.YtpmkgnnpngbfmaaRp7
namespace Go.Proofs.Ytpmkgnnpngbfmaa
open Go.RowKit Go.Sort Go.Shelf Go.Lib
open Extern.Stop (cell)

set_option linter.unusedSimpArgs false in
set_option maxRecDepth 100000 in
set_option maxHeartbeats 8000000 in
theorem plan_over {w : World} {ad adf : Option Addr} {c cf : Nat} {l ord : List Pk} {f : List (Int × Int)} {k : Int} (hrow : RowAt w ad (l.flatMap pcells)) (hfew : l.length ≤ 100) (hnil : ad = none → c = 0) (hok : ∀ p ∈ l, PkOk w p) (hsz : ∀ p ∈ l, 0 ≤ p.size ∧ p.size ≤ 18446744073709551615)
    (hrf : RowAt w adf (f.flatMap fcells)) (hff : f.length ≤ 1000) (hfo : LeftOk f) (k0 : -1000 ≤ k) (k1 : k ≤ 1000) (hord : ord.Perm l)
    (hsort : ∀ (W : World) (v : Value) (B : Nat), Below w.heap.size w W → w.heap.size ≤ B → W.ownsRow B 46 34 v l.length (l.flatMap pcells) →
      Calls Try.prog 18 #[v, .func (.func 19) #[] #[]] W fun e W' => e = .returned (.tuple #[]) ∧ W'.ownsRow B 46 34 v ord.length (ord.flatMap pcells) ∧ W.grownBy W' v.ownBlock) :
    Calls Try.prog 10 #[.slice ad l.length c, .int .i64 k, .slice adf f.length cf] w fun e w' => ∃ v, e = .returned v ∧ w'.ownsRow w.heap.size 39 33 v (planOf k (frees f) ord).2.length ((planOf k (frees f) ord).2.flatMap mcells) ∧ Below w.heap.size w w' := by
  have R := Lib.hid hrow
  have OK := Lib.hid hok
  have SZ := Lib.hid hsz
  have RF := Lib.hid hrf
  have FO := Lib.hid hfo
  have SO := Lib.hid hsort
  have OP := Lib.hid hord
  have NIL := Lib.hid hnil
  obtain ⟨n, hn⟩ : ∃ n, n = l.length := ⟨_, rfl⟩
  obtain ⟨m, hm⟩ : ∃ m, m = f.length := ⟨_, rfl⟩
  have HN := Lib.hid hn
  have HM := Lib.hid hm
  rw [← hn] at hfew ⊢
  rw [← hm] at hff ⊢
  have hmm := @run_makeMap Try.prog
  clear hrow hok hsz hn hrf hfo hsort hord hnil hm
  go_enter Try.func10, Try.ntmps10
  go_wp2_with fail
  clear hmm
  obtain ⟨L, hL⟩ : ∃ L, L = w.heap.size := ⟨_, rfl⟩
  obtain ⟨Bl, hBl⟩ : ∃ Bl, Bl = w.heap.size + 1 := ⟨_, rfl⟩
  rw [← hBl, ← hL]
  refine wp_named fun W hW => ?_
  have x0 : W.heap[Bl]? = some (.cells #[.map (some L)] 60 (0, 0)) := by
    rw [hW, hBl]
    have := heap_at (w.alloc (.map #[] 0)) (.cells #[.map (some L)] 60)
    simpa using this
  have l0 : LeftIs W L (frees (f.take 0)) := by
    rw [hW, hL]
    exact (MapIs.made w Try.prog 3 ikey (Value.int .u64)).alloc _
  have b0 : Below w.heap.size w W := by rw [hW]; exact below_alloc (below_alloc (Below.refl _ _) _) _
  have X0 := Lib.hid x0
  have L0 := Lib.hid l0
  have B0 := Lib.hid b0
  have HL := Lib.hid hL
  have HBl := Lib.hid hBl
  have hLB : L < Bl := by omega
  clear hW x0 l0 b0 hL hBl
  go_loopg [9, 10, 11, 23] m (fun kk _ _ _ s23 wr => ∃ j : Nat, j ≤ m ∧ kk = m - j ∧ s23 = .int .i64 j ∧ wr.heap[Bl]? = some (.cells #[.map (some L)] 60 (0, 0)) ∧ LeftIs wr L (frees (f.take j)) ∧ LeftOk (frees (f.take j)) ∧ Below w.heap.size w wr)
  case atStart => exact ⟨0, Nat.zero_le _, rfl, rfl, X0.out, L0.out, (fun x hx => by simp [frees] at hx), B0.out⟩
  case round =>
    obtain ⟨j, hj, hk, rfl, hX, hLL, hLO, hB⟩ := hrel
    have HK := Lib.hid hk
    have XX := Lib.hid hX
    have LL := Lib.hid hLL
    have LO := Lib.hid hLO
    have BB := Lib.hid hB
    clear hk hX hLL hLO hB X0 L0 B0
    by_cases hlt : j < m
    · obtain ⟨x, hx⟩ : ∃ x, f[j]? = some x := ⟨f[j]'(by rw [← HM.out]; exact hlt), List.getElem?_eq_getElem _⟩
      obtain ⟨b, off, rfl, hbl, hl⟩ := rowAt_elem fcells_len (by decide) (RF.out.later BB.out) hx
      have LX := Lib.hid hl
      have HX := Lib.hid hx
      have FX := Lib.hid (FO.out x (List.mem_of_getElem? hx))
      have j0 : (0 : Int) ≤ (j : Int) := Int.natCast_nonneg _
      have j1 : (j : Int) < (m : Int) := by omega
      clear hl hx
      go_upto_region 5 with (first | (refine wpList_load_agg rfl 51 (.tmp 25) rfl b (off + j * 2) rfl (fcells x).toArray _ LX.out Try.underlying51 rfl (sizef x) ?_) | (refine wpList_store_new rfl 51 (.tmp 9) (.tmp 26) rfl _ (fcells x).toArray rfl rfl (sizef x) (by simp [fcells_len]) (all_oneCell_toArray (fcells_one x)) ?_))
      obtain ⟨F, hF⟩ : ∃ F, F = wr.heap.size := ⟨_, rfl⟩
      rw [← hF]
      refine wp_named fun W2 hW2 => ?_
      have e2 : W2.heap[F]? = some (.cells #[.int .i64 x.1, .int .u64 x.2] 51 (0, 0)) := by rw [hW2, hF]; exact heap_at _ _
      have x2 : W2.heap[Bl]? = some (.cells #[.map (some L)] 60 (0, 0)) := by rw [hW2]; exact heap_up XX.out
      have l2 : LeftIs W2 L (frees (f.take j)) := by rw [hW2]; exact LL.out.alloc _
      have b2 : Below w.heap.size w W2 := by rw [hW2]; exact BB.out.alloc BB.out.size _
      have L2 := Lib.hid l2
      have B2 := Lib.hid b2
      have X2 := Lib.hid x2
      have HF := Lib.hid hF
      obtain ⟨⟨e0, e1⟩, _, _⟩ := blk2 e2
      obtain ⟨y0, y1⟩ := blk1 x2
      have TX : Hid (f.take (j + 1) = f.take j ++ [x]) := Lib.hid (by rw [List.take_add_one, HX.out]; rfl)
      have hgn : Hid (frees (f.take (j + 1)) = freeStep (frees (f.take j)) x) := Lib.hid (by rw [TX.out, frees_snoc])
      clear hW2 e2 x2 b2 hF
      cases hg : aget (frees (f.take j)) x.1 with
      | none =>
        have hlk := l2.look_none keyed_int ikey_inj Try.underlying60 (z := .int .u64 0) (by kernel_rfl) true (ikey_ok FX.out.1) hg
        have GG := Lib.hid hg
        clear l2 hg
        go_wp2_with (at_mapUpdate; refine wpList_mapput _ rfl _ _ _ 60 rfl 3 43 keyed_int Try.underlying60 ikey (Value.int .u64) ikey_inj L (frees (f.take j)) L2.out rfl x.1 x.2 _ rfl rfl (ikey_ok FX.out.1) ?_; intro w3 hm3 hg3 hs3)
        have M3 := Lib.hid hm3
        have G3 := Lib.hid hg3
        have fs : freeStep (frees (f.take j)) x = aput (frees (f.take j)) x.1 x.2 := by unfold freeStep; rw [GG.out]; rfl
        have FS := Lib.hid fs
        clear hm3 hg3 hs3 hlk fs
        go_roundg (m - (j + 1))
        case measure => rw [HK.out]; omega
        case rel => exact ⟨j + 1, by omega, rfl, by go_num, (G3.out.block Bl (Array.getElem?_eq_some_iff.1 X2.out).1 (by simp; omega)).trans X2.out, by rw [hgn.out, FS.out]; exact M3.out, by rw [hgn.out, FS.out]; exact LO.out.put FX.out.1 FX.out.2.1 FX.out.2.2, B2.out.trans (below_grown G3.out B2.out.size (by rw [HL.out]; exact Nat.le_refl _))⟩
      | some v =>
        have hlk := l2.look_some keyed_int ikey_inj Try.underlying60 true (ikey_ok FX.out.1) hg
        have GG := Lib.hid hg
        have fs : freeStep (frees (f.take j)) x = frees (f.take j) := by unfold freeStep; rw [hg]; rfl
        have FS := Lib.hid fs
        clear l2 hg fs
        go_wp2
        go_roundg (m - (j + 1))
        case measure => rw [HK.out]; omega
        case rel => exact ⟨j + 1, by omega, rfl, by go_num, X2.out, by rw [hgn.out, FS.out]; exact L2.out, by rw [hgn.out, FS.out]; exact LO.out, B2.out⟩
    · obtain rfl : j = m := by omega
      have LF : Hid (LeftIs wr L (frees f)) := Lib.hid (by have := LL.out; rw [HM.out, List.take_length] at this; exact this)
      have LG : Hid (LeftOk (frees f)) := Lib.hid (by have := LO.out; rw [HM.out, List.take_length] at this; exact this)
      have CL := clone_pk (R.out.later BB.out) (by rw [← HN.out]; omega) NIL.out
      rw [← HN.out] at CL
      replace CL := Lib.hid CL
      clear LL LO
      go_wp2_with fail
      refine CL.out.mono ?_
      rintro e w1 ⟨vo, rfl, h1, c1⟩
      have h1' : w1.ownsRow wr.heap.size 46 34 vo l.length (l.flatMap pcells) := by rw [← HN.out]; exact h1
      have b1 := BB.out.trans (c1.mono BB.out.size)
      have SC := Lib.hid (SO.out w1 vo wr.heap.size b1 BB.out.size h1')
      have R1 := Lib.hid h1'
      have B1 := Lib.hid b1
      have C1 := Lib.hid c1
      clear h1 c1 h1' b1 CL
      go_wp2_with fail
      refine SC.out.mono ?_
      rintro e w2 ⟨rfl, h2, g2⟩
      have ON : Hid (ord.length = n) := Lib.hid (by rw [OP.out.length_eq, HN.out])
      have bb : Below wr.heap.size wr w2 := C1.out.grown g2 C1.out.size (fun k hk => (own_row R1.out hk).1)
      have p2 : PlanIs w2 w.heap.size Bl L (planOf k (frees f) (ord.take 0)).1 vo ord (.slice none 0 0) (planOf k (frees f) (ord.take 0)).2 :=
        ⟨(bb.block Bl (Array.getElem?_eq_some_iff.1 XX.out).1).trans XX.out, LF.out.of_block (bb.block L LF.out.lt), own_mono h2 BB.out.size, rfl, .inl ⟨rfl, rfl⟩⟩
      have b2 : Below w.heap.size w w2 := BB.out.trans (bb.mono BB.out.size)
      obtain ⟨vx, vc, rfl⟩ := own_slice h2
      rw [ON.out] at p2
      rw [show ord.length = n from ON.out]
      have P2 := Lib.hid p2
      have B2 := Lib.hid b2
      clear h2 g2 bb p2 b2 SC R1 B1 C1 XX BB LF
      go_wp2_with fail
      go_loopg [13, 15, 16, 17, 18, 19, 48] n (fun kk s13 _ _ _ _ _ s48 wr => ∃ j : Nat, j ≤ n ∧ kk = n - j ∧ s48 = .int .i64 j ∧ PlanIs wr w.heap.size Bl L (planOf k (frees f) (ord.take j)).1 (.slice vx n vc) ord s13 (planOf k (frees f) (ord.take j)).2 ∧ LeftOk (planOf k (frees f) (ord.take j)).1 ∧ (planOf k (frees f) (ord.take j)).2.length ≤ 1000 * j ∧ (planOf k (frees f) (ord.take j)).1.length ≤ 1000 + 1000 * j ∧ Below w.heap.size w wr)
      case atStart => exact ⟨0, Nat.zero_le _, rfl, rfl, P2.out, LG.out, Nat.zero_le _, by have := frees_len f; have := HM.out; show (frees f).length ≤ _; omega, B2.out⟩
      case round =>
        obtain ⟨j, hj, hk, rfl, hP, hLO, hO1, hL1, hB⟩ := hrel
        obtain ⟨wo, rfl⟩ : ∃ wo : World, wo = wr := ⟨_, rfl⟩
        have HK := Lib.hid hk
        have PP := Lib.hid hP
        have LO := Lib.hid hLO
        have BB := Lib.hid hB
        clear hk hP hLO hB P2 B2
        by_cases hlt : j < n
        · obtain ⟨p, hp⟩ : ∃ p, ord[j]? = some p := ⟨ord[j]'(by rw [ON.out]; exact hlt), List.getElem?_eq_getElem _⟩
          obtain ⟨b, rfl, hbl, hl, _⟩ := own_elem pcells_len (by decide) (by have := PP.out.row; rw [ON.out] at this; exact this) hp
          have LL := Lib.hid hl
          have HP := Lib.hid hp
          have hpl : p ∈ l := OP.out.mem_iff.1 (List.mem_of_getElem? hp)
          have PO := Lib.hid ((OK.out p hpl).later BB.out)
          have PZ := Lib.hid (SZ.out p hpl)
          have j0 : (0 : Int) ≤ (j : Int) := Int.natCast_nonneg _
          have j1 : (j : Int) < (n : Int) := by omega
          clear hl hp hpl
          go_upto_region 15 with (first | (refine wpList_load_agg rfl 46 (.tmp 50) rfl b (j * 34) rfl (pcells p).toArray _ LL.out Try.underlying46 rfl (sizep p) ?_) | (refine wpList_store_new rfl 46 (.tmp 15) (.tmp 51) rfl _ (pcells p).toArray rfl rfl (sizep p) (by simp [pcells_len]) (all_oneCell_toArray (pcells_one p)) ?_))
          obtain ⟨T, hT⟩ : ∃ T, T = wo.heap.size := ⟨_, rfl⟩
          rw [← hT]
          refine wp_named fun W hW => ?_
          have e0 : W.heap[T]? = some (.cells (pcells p).toArray 46 (0, 0)) := by rw [hW, hT]; exact heap_at _ _
          have b0 : Below wo.heap.size wo W := by rw [hW]; exact below_alloc (Below.refl _ _) _
          have E0 := Lib.hid e0
          have B0 := Lib.hid b0
          have HT := Lib.hid hT
          clear hW e0 b0 hT
          go_wp2_with (refine wpList_load_agg rfl 46 (.tmp 15) rfl T 0 rfl (pcells p).toArray _ (lies_block E0.out) Try.underlying46 rfl (sizep p) ?_)
          refine (holders_any (PO.out.later B0.out)).mono ?_
          rintro e wh ⟨Hb, rfl, hHb, hHS, hB2⟩
          have E1 := Lib.hid (heap_kept hB2 E0.out (Array.getElem?_eq_some_iff.1 E0.out).1)
          have B1 := Lib.hid (B0.out.trans (hB2.mono B0.out.size))
          have hLw : L < wo.heap.size := PP.out.left.lt
          have hwH : w.heap.size ≤ Hb := by have := B0.out.size; have := BB.out.size; omega
          have hLH : L ≠ Hb := by have := B0.out.size; omega
          have HS := Lib.hid hHS
          clear hHb hHS hB2 E0 B0
          go_upto_region 16 with fail
          obtain ⟨Bh, hBh⟩ : ∃ Bh, Bh = wh.heap.size := ⟨_, rfl⟩
          rw [← hBh]
          refine wp_named fun W3 hW3 => ?_
          have has3 : HasIs W3 T p Bh Hb (p.hs ++ []) := by
            rw [List.append_nil, hW3, hBh]
            exact ⟨heap_up E1.out, heap_at _ _, HS.out.alloc _⟩
          have b3 : Below wo.heap.size wo W3 := by rw [hW3]; exact B1.out.alloc B1.out.size _
          have p3 := PP.out.later b3
          have hlen := MapIs.len has3.set Try.underlying65 3
          obtain ⟨hn0, hhn0⟩ : ∃ hn0, hn0 = (hset p.hs).length := ⟨_, rfl⟩
          rw [List.append_nil, ← hhn0] at hlen
          obtain ⟨y0, y1⟩ := blk1 has3.box
          have H3 := Lib.hid has3
          have P3 := Lib.hid p3
          have B3 := Lib.hid b3
          have HBh := Lib.hid hBh
          have HH0 := Lib.hid hhn0
          have q1 : hn0 ≤ 1000 := by rw [hhn0]; have h1 : (hset p.hs).length ≤ 0 + p.hs.length := hput_len [] p.hs; have := PO.out.few; omega
          have q0 : (0 : Int) ≤ (hn0 : Int) := Int.natCast_nonneg _
          have q2 : (hn0 : Int) ≤ 1000 := by omega
          obtain ⟨q, hq⟩ : ∃ q : Int, q = k - (hn0 : Int) := ⟨_, rfl⟩
          clear hW3 has3 b3 p3 hBh hhn0 E1 B1 HS
          go_wp2_with fail
          rw [← hq]
          have q3 : q ≤ 1000 := by omega
          have q4 : -2000 ≤ q := by omega
          have HQ := Lib.hid hq
          clear hq hlen y0 y1 q1 q0 q2
          obtain ⟨lo, hlo⟩ : ∃ lo, lo = (planOf k (frees f) (ord.take j)).1 := ⟨_, rfl⟩
          obtain ⟨mo, hmo⟩ : ∃ mo, mo = (planOf k (frees f) (ord.take j)).2 := ⟨_, rfl⟩
          rw [← hlo] at hL1
          rw [← hmo] at hO1
          have P3' : Hid (PlanIs W3 w.heap.size Bl L lo (.slice (some ⟨b, 0, none⟩) n vc) ord u13 mo) := Lib.hid (by rw [hlo, hmo]; exact P3.out)
          have LO' : Hid (LeftOk lo) := Lib.hid (by rw [hlo]; exact LO.out)
          have HLo := Lib.hid hlo
          have HMo := Lib.hid hmo
          have FIN : Hid (∀ s' : Pl, give p q.toNat ⟨lo, [], mo⟩ = s' → planOf k (frees f) (ord.take (j + 1)) = (s'.left, s'.out)) := Lib.hid (fun s' hs' => by
            rw [List.take_add_one, HP.out]
            show planOf _ _ (ord.take j ++ [p]) = _
            rw [planOf_snoc]
            unfold planOne
            rw [← HLo.out, ← HMo.out, ← HH0.out, ← HQ.out, hs'])
          clear hlo hmo P3 LO PP
          go_loopg [13, 17, 18, 19] q.toNat (fun kk s13 s17 _ _ wi => ∃ (s : Pl) (i : Nat), i ≤ q.toNat ∧ kk = q.toNat - i ∧ s17 = .int .i64 (q - i) ∧ give p q.toNat ⟨lo, [], mo⟩ = give p (q.toNat - i) s ∧ PlanIs wi w.heap.size Bl L s.left (.slice (some ⟨b, 0, none⟩) n vc) ord s13 s.out ∧ HasIs wi T p Bh Hb (p.hs ++ s.gs) ∧ LeftOk s.left ∧ s.out.length ≤ 1000 * j + i ∧ s.left.length ≤ 1000 + 1000 * j + i ∧ Below w.heap.size w wi)
          case atStart => exact ⟨⟨lo, [], mo⟩, 0, Nat.zero_le _, rfl, by simp, rfl, P3'.out, H3.out, LO'.out, hO1, hL1, BB.out.trans (B3.out.mono BB.out.size)⟩
          case round =>
            obtain ⟨s, i, hi, hki, rfl, hgv, hPi, hHi, hLi, ho1, hl1, hBi⟩ := hrel
            obtain ⟨wi, rfl⟩ : ∃ wi : World, wi = wr := ⟨_, rfl⟩
            have HKI := Lib.hid hki
            have GV := Lib.hid hgv
            have PI := Lib.hid hPi
            have HI := Lib.hid hHi
            have LI := Lib.hid hLi
            have BI := Lib.hid hBi
            obtain ⟨z, hz⟩ : ∃ z : Int, z = q - (i : Int) := ⟨_, rfl⟩
            rw [← hz]
            have z1 : z ≤ 1000 := by omega
            have z2 : -2000 ≤ z := by omega
            clear hki hgv hPi hHi hLi hBi P3' H3 LO'
            by_cases hzp : 0 < z
            · have hqi : i < q.toNat := by omega
              have HZ := Lib.hid hz
              have HQI := Lib.hid hqi
              have sl : s.left.length ≤ 200000 := by omega
              have so : s.out.length ≤ 200000 := by omega
              have IQ := Lib.hid (show i ≤ 1000 by omega)
              clear hz hi hqi q3 q4
              obtain ⟨y0, y1⟩ := blk1 PI.out.box
              go_wp2_with fail
              refine (keys_u64 (some L) _).mono ?_
              rintro e w1 ⟨rfl, rfl⟩
              have b4 : Below wi.heap.size wi (wi.alloc (.cells #[.map (some L)] 60)) := below_alloc (Below.refl _ _) _
              have t4 : (wi.alloc (.cells #[.map (some L)] 60)).cell? ⟨wi.heap.size, 0, none⟩ = some (.map (some L)) := (blk1 (heap_at wi _)).1
              have z4 : (wi.alloc (.cells #[.map (some L)] 60)).heap.size = wi.heap.size + 1 := by simp
              have l4 := PI.out.left.alloc (.cells #[.map (some L)] 60)
              generalize hw4 : wi.alloc (.cells #[.map (some L)] 60) = w4 at b4 t4 z4 l4 ⊢
              clear hw4 y0 y1
              have CO := Lib.hid (collect_u64 (w := w4) (by rw [z4]; omega) t4 l4 (by omega))
              have B4 := Lib.hid b4
              have Z4 := Lib.hid z4
              clear b4 t4 z4 l4
              go_wp2_with fail
              refine CO.out.mono ?_
              rintro e w5 ⟨v5, ss, rfl, hss, h5, b5⟩
              have b45 : Below wi.heap.size wi w5 := B4.out.trans (b5.mono B4.out.size)
              have sswf : ∀ x ∈ ss, (Lit.int .i64 x).wf = true := fun x hx => by
                obtain ⟨y, hy, rfl⟩ := List.mem_map.1 (hss.mem_iff.1 hx)
                exact (LI.out y hy).1
              have ssl : ss.length ≤ 1000000 := by rw [hss.length_eq, List.length_map]; omega
              have DF := Lib.hid (delfunc_fit (cap0 := .pointer (some ⟨Bh, 0, none⟩)) (cap1 := .pointer (some ⟨Bl, 0, none⟩)) (cap2 := .pointer (some ⟨T, 0, none⟩)) h5 ssl (nofit (hset (p.hs ++ s.gs)) s.left p.size) (fun W hW x hx => by
                have bW : Below wi.heap.size wi W := b45.grown hW b45.size (fun k hk => by have := (own_row h5 hk).1; have := B4.out.size; omega)
                have h := HI.out.later bW
                have q := PI.out.later bW
                exact (fit_any h.box q.box h.pk h.set q.left (sswf x hx)).mono fun _ _ ⟨e1, e2⟩ => ⟨e1, e2 ▸ Below.refl _ _⟩))
              have SSP := Lib.hid hss
              have SSW := Lib.hid sswf
              have SSL := Lib.hid ssl
              have O5 := Lib.hid h5
              have B5 := Lib.hid b45
              clear hss h5 b5 b45 sswf ssl CO
              go_wp2_with fail
              refine DF.out.mono ?_
              rintro e w6 ⟨v6, rfl, h6, g6⟩
              have b6 : Below wi.heap.size wi w6 := B5.out.grown g6 B5.out.size (fun k hk => by have := (own_row O5.out hk).1; have := B4.out.size; omega)
              obtain ⟨fs, hfs⟩ : ∃ fs, fs = ss.filter (fun x => !nofit (hset (p.hs ++ s.gs)) s.left p.size x) := ⟨_, rfl⟩
              rw [← hfs] at h6
              have FP : Hid (fs.Perm (fitsOf s.left (hset (p.hs ++ s.gs)) p.size)) := Lib.hid (by rw [hfs]; exact SSP.out.filter _)
              have FW : Hid (∀ x ∈ fs, (Lit.int .i64 x).wf = true) := Lib.hid (fun x hx => by rw [hfs] at hx; exact SSW.out x (List.mem_filter.1 hx).1)
              have FL : Hid (fs.length ≤ 1000000) := Lib.hid (by rw [hfs]; exact Nat.le_trans (List.length_filter_le _ _) SSL.out)
              have FN : Hid (∀ x ∈ fs, nofit (hset (p.hs ++ s.gs)) s.left p.size x = false) := Lib.hid (fun x hx => by rw [hfs] at hx; simpa using (List.mem_filter.1 hx).2)
              obtain ⟨x6, c6, rfl⟩ := own_slice h6
              obtain ⟨fl, hfl⟩ : ∃ fl, fl = fs.length := ⟨_, rfl⟩
              rw [← hfl]
              have H6 := Lib.hid h6
              have B6 := Lib.hid b6
              have HFL := Lib.hid hfl
              clear hfs h6 g6 b6 hfl DF SSP SSW SSL O5 B5
              by_cases hf0 : fl = 0
              · subst hf0
                have hnone : fs = [] := List.eq_nil_of_length_eq_zero HFL.out.symm
                have hstop : fitsOf s.left (hset (p.hs ++ s.gs)) p.size = [] := by
                  have := FP.out
                  rw [hnone] at this
                  exact this.symm.eq_nil
                have GS := Lib.hid (give_stop hstop (q.toNat - i))
                clear hnone hstop
                have PF := Lib.hid (PI.out.later B6.out)
                have BF := Lib.hid (BI.out.trans (B6.out.mono BI.out.size))
                have FE := Lib.hid (FIN.out s (GV.out.trans GS.out))
                have e1 := IQ.out
                go_wp2
                go_roundg (n - (j + 1))
                case measure => rw [HK.out]; omega
                case rel => exact ⟨j + 1, by omega, rfl, by go_num, by rw [FE.out]; exact PF.out, by rw [FE.out]; exact LI.out, by rw [FE.out]; show s.out.length ≤ _; omega, by rw [FE.out]; show s.left.length ≤ _; omega, BF.out⟩
              · have hfl1 : (0 : Int) < (fl : Int) := by omega
                have hfne : fs ≠ [] := by rintro rfl; exact hf0 HFL.out
                have P6 := PI.out.later B6.out
                have h6' := H6.out
                rw [← HFL.out] at h6'
                have MN := Lib.hid (min_any H6.out hfne FL.out FW.out P6.box P6.left)
                rw [← HFL.out] at MN
                have H6' := Lib.hid h6'
                clear hfne P6 h6'
                go_wp2_with fail
                refine MN.out.mono ?_
                rintro e w7 ⟨who, rfl, hbest, g7⟩
                have b7 : Below wi.heap.size wi w7 := B6.out.grown g7 B6.out.size (fun k hk => by have := (own_row H6'.out hk).1; have := B4.out.size; omega)
                have GB := Lib.hid (bestOf_eq FP.out hbest)
                have WW := Lib.hid (FW.out who hbest.1)
                have nf := FN.out who hbest.1
                unfold nofit at nf
                simp only [Bool.or_eq_false_iff, decide_eq_false_iff_not] at nf
                have r2 := (LI.out.room who).2
                obtain ⟨r, hr⟩ : ∃ r, r = roomOf s.left who := ⟨_, rfl⟩
                obtain ⟨sz, hsz⟩ : ∃ sz, sz = p.size := ⟨_, rfl⟩
                have r0 := PZ.out.1
                have r1 := nf.2
                rw [← hr] at r1 r2
                rw [← hsz] at r0 r1
                have P7 := PI.out.later b7
                have H7 := HI.out.later b7
                have l7 := look_left P7.left WW.out
                have c7 := (pk_part H7.pk).1
                obtain ⟨y7, y8⟩ := blk1 P7.box
                rw [← hr] at l7
                rw [← hsz] at c7
                have HR := Lib.hid hr
                have HSZ := Lib.hid hsz
                have PL7 := Lib.hid P7
                have HL7 := Lib.hid H7
                have B7 := Lib.hid (BI.out.trans (b7.mono BI.out.size))
                have r3 : sz ≤ r := by omega
                have r4 : 0 ≤ r - sz := by omega
                have r5 : r - sz ≤ 18446744073709551615 := by omega
                clear hbest g7 b7 nf hr hsz P7 H7 MN FN FW FL FP H6 H6' B6 r1
                go_upto_region 23 with (at_mapUpdate; refine wpList_mapput _ rfl _ _ _ 60 rfl 3 43 keyed_int Try.underlying60 ikey (Value.int .u64) ikey_inj L s.left PL7.out.left rfl who (r - sz) _ rfl rfl (ikey_ok WW.out) ?_; intro w8 hm8 hg8 hs8)
                have P8 := Lib.hid (PL7.out.turn PL7.out.left hg8 hm8)
                have H8 := Lib.hid (HL7.out.turn PL7.out.left hg8 (HL7.out.set.of_block (hg8.block Hb HL7.out.set.lt (fun e => hLH (Option.some.inj e).symm))))
                have B8 := Lib.hid (B7.out.trans (below_grown hg8 B7.out.size (by rw [HL.out]; exact Nat.le_refl _)))
                clear hm8 hg8 hs8 l7 c7 y7 y8 PL7 HL7 B7
                obtain ⟨y7, y8⟩ := blk1 H8.out.box
                go_upto_region 24 with (at_mapUpdate; refine wpList_mapput _ rfl _ _ _ 65 rfl 3 4 keyed_int Try.underlying65 ikey Value.bool ikey_inj Hb (hset (p.hs ++ s.gs)) H8.out.set rfl who true _ rfl rfl (ikey_ok WW.out) ?_; intro w9 hm9 hg9 hs9)
                have P9 := Lib.hid (P8.out.turn H8.out.set hg9 (P8.out.left.of_block (hg9.block L P8.out.left.lt (fun e => hLH (Option.some.inj e)))))
                have H9 := Lib.hid (H8.out.turn (hs' := p.hs ++ (s.gs ++ [who])) H8.out.set hg9 (by
                  rw [← List.append_assoc]
                  show SetIs w9 Hb (hput [] ((p.hs ++ s.gs) ++ [who]))
                  rw [hput_snoc]
                  exact hm9))
                have B9 := Lib.hid (B8.out.trans (below_grown hg9 B8.out.size hwH))
                have LP := Lib.hid (lies_id H9.out.pk)
                clear hm9 hg9 hs9 y7 y8 P8 H8 B8
                obtain ⟨i0, hi, hz0, hz1, hz2⟩ := info_parts info_mv
                have ba := below_alloc (Below.refl w9.heap.size w9) (.cells (mcells ⟨p.id, who⟩).toArray 39)
                have OWN := Lib.hid (own_later P9.out.out ba)
                have NEWS : Hid (∀ (j : Nat) (u : Value), (mcells ⟨p.id, who⟩)[j]? = some u → (w9.alloc (.cells (mcells ⟨p.id, who⟩).toArray 39)).cell? ((⟨w9.heap.size, 0, none⟩ : Addr).add j) = some u) := Lib.hid (news_made w9 (mcells ⟨p.id, who⟩) 39)
                have BND : Hid ((s.out.length + 1 ≤ maxLen ∧ (s.out.length + 1) * 40 ≤ 140737488355328) ∧ w.heap.size ≤ (w9.alloc (.cells (mcells ⟨p.id, who⟩).toArray 39)).heap.size) := Lib.hid ⟨⟨by unfold maxLen; omega, by omega⟩, by have := B9.out.size; simp; omega⟩
                have BA := Lib.hid ba
                clear ba
                have PW := Lib.hid (⟨hi, hz0, hz1, hz2⟩ : Try.prog.info? 39 = some i0 ∧ i0.zero = some (.agg (mcells ⟨[], 0⟩).toArray) ∧ i0.size = 33 ∧ i0.bytes = 40)
                have FILL : Hid (Instr.fill (fun i => some (i * i0.size, i0.size)) ((Array.range (1 * i0.size)).map ((Value.agg (mcells ⟨[], 0⟩).toArray).cells[· % (Value.agg (mcells ⟨[], 0⟩).toArray).cells.size]!)) [(0, .agg (mcells ⟨p.id, who⟩).toArray)] = some (mcells ⟨p.id, who⟩).toArray) := Lib.hid (by rw [hz1]; exact fill_mv p.id who)
                clear hi hz0 hz1 hz2
                go_wp2_with (first | (refine wpList_load_agg rfl 37 (.tmp 82) rfl T 0 rfl (idCells p.id).toArray _ LP.out Try.underlying37 rfl (sizei p.id) ?_) | (refine wpList_build_eq rfl 39 _ rfl (mcells ⟨p.id, who⟩).toArray (by simpa [Act.eval] using built_mv p.id who) ?_) | (refine wpList_buildSlice rfl 30 39 1 #[(0, .tmp 85)] rfl (mcells ⟨p.id, who⟩).toArray i0 _ Try.underlying30 PW.out.1 PW.out.2.1 ?s1 ?s2 ?s3 ?_) | (at_builtin; refine wpList_append_news rfl (.tmp 81) (.tmp 86) 30 rfl w.heap.size 39 i0 _ 33 40 Try.underlying30 PW.out.1 PW.out.2.1 PW.out.2.2.1 PW.out.2.2.2 (by simp [Value.cells, mcells_len]) (by decide) u13 s.out.length (s.out.flatMap mcells) rfl OWN.out ⟨w9.heap.size, 0, none⟩ 1 1 (mcells ⟨p.id, who⟩) rfl (by rw [mcells_len]) NEWS.out (mcells_one _) BND.out.1.1 BND.out.1.2 BND.out.2 ?_; intro v10 w10 hown hg10 hat10))
                case s1 => rw [PW.out.2.2.1]; decide
                case s2 => rw [PW.out.2.2.1]; decide
                case s3 => rw [PW.out.2.2.1]; refine ⟨⟨mcells_len _, by rw [mcells_len]; exact Nat.le_refl _⟩, ?_⟩; have := fill_mv p.id who; simp [Instr.fill, Value.cells, mcells_len] at this; simpa [mcells_len] using this
                clear hat10
                have P10 := Lib.hid ((P9.out.later BA.out).app (u' := v10) (mv' := s.out ++ [⟨p.id, who⟩]) hg10 (by
                  rw [List.length_append, List.flatMap_append]
                  simpa using hown))
                have H10 := Lib.hid ((H9.out.later BA.out).app (fun k hk => (own_row OWN.out hk).2) hg10)
                have B10 := Lib.hid ((B9.out.trans (BA.out.mono B9.out.size)).grown hg10 BND.out.2 (fun k hk => (own_row OWN.out hk).1))
                clear hown hg10
                go_roundg (q.toNat - (i + 1))
                case measure => have := HKI.out; have := HQI.out; omega
                case rel =>
                  have e1 := HQI.out
                  have e2 := HZ.out
                  refine ⟨⟨aput s.left who (r - sz), s.gs ++ [who], s.out ++ [⟨p.id, who⟩]⟩, i + 1, by omega, rfl, congrArg (Value.int .i64) (by omega), ?_, P10.out, H10.out, LI.out.put WW.out r4 r5, ?_, ?_, B10.out⟩
                  · rw [GV.out, give_on GB.out (by omega), ← HR.out, ← HSZ.out]
                    rfl
                  · show (s.out ++ [_]).length ≤ _
                    rw [List.length_append, List.length_singleton]
                    omega
                  · have := length_aput s.left who (r - sz)
                    show (aput s.left who (r - sz)).length ≤ _
                    omega
            · have hiq : i = q.toNat := by omega
              subst hiq
              have GE := Lib.hid (GV.out.trans (show give p (q.toNat - q.toNat) s = s by rw [Nat.sub_self]; rfl))
              have FE := Lib.hid (FIN.out s GE.out)
              have hzz : ¬ 0 < z := hzp
              have hq5 : q.toNat ≤ 1000 := by omega
              clear hz
              go_wp2
              go_roundg (n - (j + 1))
              case measure => rw [HK.out]; omega
              case rel => exact ⟨j + 1, by omega, rfl, by go_num, by rw [FE.out]; exact PI.out, by rw [FE.out]; exact LI.out, by rw [FE.out]; show s.out.length ≤ _; omega, by rw [FE.out]; show s.left.length ≤ _; omega, BI.out⟩
        · obtain rfl : j = n := by omega
          go_wp2
          go_ret
          have hfin := PP.out.out
          rw [← ON.out, List.take_length] at hfin
          exact ⟨_, rfl, hfin, BB.out⟩
end Go.Proofs.Ytpmkgnnpngbfmaa
