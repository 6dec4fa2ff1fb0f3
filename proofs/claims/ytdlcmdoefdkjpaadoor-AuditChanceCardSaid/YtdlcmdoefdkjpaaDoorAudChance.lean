/- The law AuditChance: a holder that lacks some leaves passes for just the others; so many lots, one for each leaf, are as many as there are. No conditions but that the table of the rounds' numbers is as the program's text lays it. -/
import Derived.Test.YtdlcmdoefdkjpaaDoorAudAw
import Derived.Test.YtdlcmdoefdkjpaaDoorTied
import Derived.Laws.BitsLemmas
namespace Go.Proofs.YtdlcmdoefdkjpaaDoor
open Go.ChangeShapes Go.WideShapes Go.ChangeAt Go.RowKit
open Extern.Stop (cell)

theorem bounds8 {x : Int} (h : (Lit.int .u8 x).wf = true) : 0 ≤ x ∧ x ≤ 255 := by
  simpa [Lit.wf, IntKind.min, IntKind.max, IntKind.signed, IntKind.bits] using h
theorem elig_one {n : Nat} (h0 : 1 ≤ n) (h1 : n ≤ 60) : elig [⟨1, [], (n : Int)⟩] = [⟨1, [], (n : Int)⟩] := by
  have : tbad ⟨1, [], (n : Int)⟩ = false := by simp [tbad]; omega
  simp [elig, this]
/-- One is asked of one, by a lot below how many leaves there are. -/
theorem one_draw {A B : Nat} {w : World} {a : Nat} {ad : Option Addr} {c : Nat} {n q : Nat} (h0 : 1 ≤ n) (h1 : n ≤ 60) (hq : q < n) (h : IsAud A B w a 0 []) (hA : B ≤ w.heap.size) (hrow : RowAt w ad ([(⟨1, [], (n : Int)⟩ : Tgt)].flatMap tcells)) (hnil : ad = none → c = 0) :
    Calls Tryd.prog 13 #[.pointer (some ⟨a, 0, none⟩), .slice ad 1 c, .int .u64 (q : Int), .int .u64 0] w fun e w' =>
      e = .returned (.tuple #[.int .i64 1, .agg (ncells 6 [] (q : Int) 1 nnil nnil).toArray, .bool true]) ∧ Below A w w' := by
  have D := draw_yes (t := ⟨1, [], (n : Int)⟩) h hA (by decide) (by decide) (by decide) hrow (by simp) hnil q (Lib.hid (by omega)) 0 (by rw [elig_one h0 h1]; simp [Nat.mod_one])
  rw [elig_one h0 h1] at D
  have e : q / [(⟨1, [], (n : Int)⟩ : Tgt)].length % ((n : Int)).toNat = q := by
    simp
    exact Nat.mod_eq_of_lt hq
  rw [e] at D
  exact D.mono fun e w' ⟨h1, _, h3⟩ => ⟨h1, h3.below⟩
set_option maxHeartbeats 6000000 in
set_option maxRecDepth 100000 in
theorem AuditChance_walk (lv : Int) (ad : Option Addr) (zs : List Int) (c : Nat) (w : World) (hlv : (Lit.int .u8 lv).wf = true) (hx : IntsAt w .u8 ad zs) (hz : ∀ n ∈ zs, (Lit.int .u8 n).wf = true) (hl : zs.length ≤ maxLen) (_hL : laidMetH Tryd.prog lst w) :
    Calls Tryd.prog 6 #[.int .u8 lv, .slice ad zs.length c] w fun e w' => e = .returned (.bool true) ∧ Below w.heap.size w w' := by
  have hl' : zs.length ≤ maxLen := hl
  unfold maxLen at hl'
  obtain ⟨p0, p1⟩ := bounds8 hlv
  obtain ⟨T, hT, hT60⟩ : ∃ T : Nat, lv.tmod 60 = (T : Int) ∧ T < 60 := ⟨(lv.tmod 60).toNat, by rw [Int.tmod_eq_emod_of_nonneg p0]; omega, by rw [Int.tmod_eq_emod_of_nonneg p0]; omega⟩
  have hT2 : lv % 60 = (T : Int) := by rw [← Int.tmod_eq_emod_of_nonneg p0]; exact hT
  have X := Lib.hid hx
  have Z := Lib.hid hz
  obtain ⟨m, hm⟩ : ∃ m, m = zs.length := ⟨_, rfl⟩
  have HM := Lib.hid hm
  rw [← hm] at hl' ⊢
  clear hx hz hm hl _hL hlv
  by_cases hbig : 60 < m
  · have hb1 : (60 : Int) < (m : Int) := by omega
    clear hT hT2
    go_enter Tryd.func6, Tryd.ntmps6
    go_wp2_with fail
    refine (awake_any _).mono ?_
    rintro e w1 ⟨rfl, b1⟩
    go_wp2
    go_ret
    exact ⟨rfl, b1⟩
  have hb1 : ¬ (60 : Int) < (m : Int) := by omega
  have hmk := run_make_row' (P := Tryd.prog) 77 4 (.bool false) 1 Tryd.underlying77 info_bool rfl .i64 .i64 (T + 1) (by omega) (by omega)
  rw [show ((T + 1 : Nat) : Int) = (T : Int) + 1 by omega] at hmk
  go_enter Tryd.func6, Tryd.ntmps6
  go_wp2_with fail
  refine (awake_any _).mono ?_
  rintro e w1 ⟨rfl, b1⟩
  have B1 := Lib.hid b1
  clear b1
  go_wp2_with fail
  clear hmk hT hT2
  obtain ⟨n, hn⟩ : ∃ n, n = T + 1 := ⟨_, rfl⟩
  have e1 : (T : Int) + 1 = (n : Int) := by omega
  have n1 : 1 ≤ n := by omega
  have n60 : n ≤ 60 := by omega
  rw [e1, ← hn]
  clear e1 hn hT60
  obtain ⟨I, hI⟩ : ∃ I, I = w1.heap.size := ⟨_, rfl⟩
  rw [← hI]
  refine wp_named fun W hW => ?_
  have s0 : BoolsIs W I (seenOf n []) := by
    rw [hW, hI, seen_nil]
    show (w1.alloc _).heap[w1.heap.size]? = _
    rw [← made_bools]; exact heap_at w1 _
  have b0 : Below w.heap.size w W := by rw [hW]; exact below_alloc B1.out _
  have hIw : w.heap.size ≤ I := by rw [hI]; exact B1.out.size
  have S0 := Lib.hid s0
  have B0 := Lib.hid b0
  clear hW s0 b0 hI B1
  obtain ⟨i0, hi0, hz0, hz1, hz2⟩ := info_parts info_int
  go_loopg [8, 9] m (fun k s8 s9 wr => ∃ j : Nat, j ≤ m ∧ k = m - j ∧ s9 = .int .i64 j ∧ IntsIs w.heap.size wr s8 ((zs.take j).map (· - 20)) ∧ BoolsIs wr I (seenOf n ((zs.take j).map (· - 20))) ∧ Below w.heap.size w wr)
  case atStart => exact ⟨0, Nat.zero_le _, rfl, rfl, by rw [List.take_zero]; exact World.ownsRow_nil _ _ _ _, by rw [List.take_zero]; exact S0.out, B0.out⟩
  case round =>
    obtain ⟨j, hj, hk, rfl, hD, hS, hB⟩ := hrel
    obtain ⟨xa, xc, rfl⟩ := own_slice hD
    have hcl : ((zs.take j).map (· - 20)).length = j := by rw [List.length_map, List.length_take, ← HM.out]; omega
    obtain ⟨ws, hws⟩ : ∃ ws, ws = (zs.take j).map (· - 20) := ⟨_, rfl⟩
    rw [← hws] at hD hS hcl ⊢
    have HWS := Lib.hid hws
    have HK := Lib.hid hk
    have DD := Lib.hid hD
    have SS := Lib.hid hS
    have BB := Lib.hid hB
    clear hk hD hS hB S0 B0 hws
    by_cases hlt : j < m
    · obtain ⟨g, off, rfl, hg, hc⟩ := X.out.at BB.out (j := j) (by rw [← HM.out]; exact hlt)
      have hzj : zs[j]? = some (zs.getD j 0) := by rw [List.getD_eq_getElem?_getD, List.getElem?_eq_getElem (by rw [← HM.out]; exact hlt)]; rfl
      have hzw := bounds8 (Z.out (zs.getD j 0) (List.mem_of_getElem? hzj))
      have hg' : g < wr.heap.size := Nat.lt_of_lt_of_le hg BB.out.size
      generalize zs.getD j 0 = z at *
      obtain ⟨z0, z1⟩ := hzw
      have NX : Hid ((zs.take (j + 1)).map (· - 20) = ws ++ [z - 20]) := Lib.hid (by rw [HWS.out, List.take_add_one, hzj]; simp)
      have j0 : (0 : Int) ≤ (j : Int) := by omega
      have j1 : (j : Int) < (m : Int) := by omega
      clear hzj
      go_upto_region 14 with (at_builtin; refine wpList_append_own _ rfl _ _ 65 rfl w.heap.size 3 i0 _ 1 8 Tryd.underlying65 hi0 hz0 hz1 hz2 rfl (by decide) _ _ _ rfl (own_later DD.out (below_alloc (Below.refl _ _) _)) ⟨wr.heap.size, 0, none⟩ 1 1 [.int .i64 (z - 20)] rfl rfl (World.news_of_block (heap_at wr _)) (fun u hu => by simp at hu; subst hu; rfl) (by unfold maxLen; omega) (by omega) (by have := BB.out.size; simp; omega) ?_; intro v2 w2 hown2 hgrow2 hnil2)
      have hb2 : Below w.heap.size w w2 := (BB.out.alloc BB.out.size _).grown hgrow2 (by have := BB.out.size; simp; omega) (fun k hk => (own_row DD.out (k := k) hk).1)
      have hs2 : BoolsIs w2 I (seenOf n ws) := by
        have hI1 := (Array.getElem?_eq_some_iff.1 (show wr.heap[I]? = _ from SS.out)).1
        show w2.heap[I]? = _
        rw [hgrow2.block I (by simp; omega) (fun e => by
          obtain ⟨_, cur, hh⟩ := own_row DD.out (k := I) e.symm
          rw [show wr.heap[I]? = _ from SS.out] at hh; simp at hh)]
        exact heap_up SS.out
      have O2 : Hid (IntsIs w.heap.size w2 v2 (ws ++ [z - 20])) := Lib.hid (by simpa [IntsIs, hcl] using hown2)
      have HB2 := Lib.hid hb2
      have S2 := Lib.hid hs2
      clear hown2 hgrow2 hnil2 hb2 hs2 DD SS BB
      by_cases hin : 0 ≤ z - 20 ∧ z - 20 < n
      · obtain ⟨i, hi⟩ := Int.eq_ofNat_of_zero_le hin.1
        have hil : i < n := by omega
        have hsn := seen_in (zs := ws) hil
        rw [hi] at NX O2
        obtain ⟨tc, tf⟩ := S2.out.at (seen_get n ws hil)
        have S3 := Lib.hid (S2.out.set i true)
        rw [← hsn] at S3
        have q1 : (0 : Int) ≤ (i : Int) := by omega
        have q2 : (i : Int) < (n : Int) := by omega
        rw [hi]
        have O3 := Lib.hid (own_far (a := ⟨I, i, none⟩) O2.out (fun e => by
          obtain ⟨_, cur, hh⟩ := own_row O2.out (k := I) e
          rw [show w2.heap[I]? = _ from S2.out] at hh; simp at hh) (.bool true))
        clear hsn hin hi O2
        go_wp2
        go_roundg (m - (j + 1))
        case measure => rw [HK.out]; omega
        case rel => exact ⟨j + 1, by omega, rfl, by go_num, by rw [NX.out]; exact O3.out, by rw [NX.out]; exact S3.out, HB2.out.setCell hIw _⟩
      · have hsn := seen_out (zs := ws) hin
        have S3 := Lib.hid S2.out
        rw [← hsn] at S3
        by_cases hx0 : 0 ≤ z - 20
        · have hx1 : ¬ z - 20 < (n : Int) := by omega
          clear hin hsn
          go_wp2
          go_roundg (m - (j + 1))
          case measure => rw [HK.out]; omega
          case rel => exact ⟨j + 1, by omega, rfl, by go_num, by rw [NX.out]; exact O2.out, by rw [NX.out]; exact S3.out, HB2.out⟩
        · clear hin hsn
          go_wp2
          go_roundg (m - (j + 1))
          case measure => rw [HK.out]; omega
          case rel => exact ⟨j + 1, by omega, rfl, by go_num, by rw [NX.out]; exact O2.out, by rw [NX.out]; exact S3.out, HB2.out⟩
    · obtain rfl : j = m := by omega
      clear hlt hj
      have hml : (ws.map (Value.int .i64)).length = j := by rw [List.length_map]; exact hcl
      have RD := Lib.hid (show IntsRd wr xa ws from IntsIs.rd DD.out)
      have HCL := Lib.hid hcl
      rw [hcl]
      clear hml hcl
      obtain ⟨wo, rfl⟩ : ∃ wo : World, wo = wr := ⟨_, rfl⟩
      go_wp2_with fail
      go_loopg [11, 12] n (fun k s11 s12 wx => ∃ q : Nat, q ≤ n ∧ k = n - q ∧ s12 = .int .i64 q ∧ s11 = .int .i64 (((seenOf n ws).take q).countP id : Nat) ∧ Below wo.heap.size wo wx)
      case atStart => exact ⟨0, Nat.zero_le _, rfl, rfl, rfl, Below.refl _ _⟩
      case round =>
        obtain ⟨q, hq, hk, rfl, rfl, hB⟩ := hrel
        have HK2 := Lib.hid hk
        have B2 := Lib.hid hB
        have hcount : ((seenOf n ws).take q).countP id ≤ 60 := by
          have := List.countP_le_length (p := id) (l := (seenOf n ws).take q)
          rw [List.length_take, seen_len] at this
          omega
        clear hk hB
        by_cases hlt : q < n
        · have q0 : (0 : Int) ≤ (q : Int) := by omega
          have q1 : (q : Int) < (n : Int) := by omega
          have hsq := seen_get n ws hlt
          have hcn : ((seenOf n ws).take (q + 1)).countP id = ((seenOf n ws).take q).countP id + if decide ((q : Int) ∈ ws) = true then 1 else 0 := by
            rw [List.take_add_one, hsq]
            simp [List.countP_append, List.countP_cons]
          generalize decide ((q : Int) ∈ ws) = sq at *
          have HSQ := Lib.hid hsq
          have HCN := Lib.hid hcn
          clear hsq hcn
          go_wp2_with fail
          refine (anew_any _).mono ?_
          rintro e w3 ⟨rfl, h3, b3⟩
          have H3 := Lib.hid h3
          have B3 := Lib.hid (B2.out.trans (b3.mono B2.out.size))
          obtain ⟨a, ha⟩ : ∃ a, a = wr.heap.size := ⟨_, rfl⟩
          have haw : wo.heap.size ≤ a := by rw [ha]; exact B2.out.size
          have ha3 : a + 1 ≤ w3.heap.size := by obtain ⟨v, hv⟩ := h3; have := hv.lt; omega
          rw [← ha] at H3 ⊢
          clear h3 b3 ha
          go_wp2_with fail
          refine (one_draw n1 n60 hlt (A := a) (B := a + 1) (H3.out.later (below_alloc (Below.refl _ _) _)) (by simp; omega) (rowAt_block (heap_at w3 _)) (fun h => by cases h)).mono ?_
          rintro e w4 ⟨rfl, b4⟩
          have B4 := Lib.hid ((below_alloc B3.out (.cells (tcells ⟨1, [], (n : Int)⟩).toArray 37)).trans (b4.mono haw))
          clear b4
          go_upto_region 22 with (refine wpList_store_new rfl 33 (.tmp 15) (.tmp 76) rfl _ (ncells 6 [] (q : Int) 1 nnil nnil).toArray rfl rfl (sizen _ _ _ _ _ _) (by simp [ncells_len]) (all_oneCell_toArray (ncells_one rfl rfl)) ?_)
          obtain ⟨NB, hNB⟩ : ∃ NB, NB = w4.heap.size := ⟨_, rfl⟩
          rw [← hNB]
          refine wp_named fun W5 hW5 => ?_
          have n5 : W5.heap[NB]? = some (.cells (ncells 6 [] (q : Int) 1 nnil nnil).toArray 33 (0, 0)) := by rw [hW5, hNB]; exact heap_at _ _
          have b5 : Below wo.heap.size wo W5 := by rw [hW5]; exact below_alloc B4.out _
          have S5 : BoolsIs W5 I (seenOf n ws) := heap_kept b5 SS.out (Array.getElem?_eq_some_iff.1 (show wo.heap[I]? = _ from SS.out)).1
          obtain ⟨tc, tf⟩ := BoolsIs.at (w := W5) S5 HSQ.out
          have d33 : W5.cell? ⟨NB, 33, none⟩ = some (.int .u64 (q : Int)) := blk_cell n5 (ncells_tail 6 [] (q : Int) 1 nnil nnil 0)
          have B5 := Lib.hid b5
          clear hNB hW5 n5 b5 S5 tf H3 B3 B4 B2
          cases sq
          · go_wp2
            go_roundg (n - (q + 1))
            case measure => rw [HK2.out]; omega
            case rel => exact ⟨q + 1, by omega, rfl, by go_num, by rw [HCN.out]; rfl, B5.out⟩
          · go_wp2
            go_roundg (n - (q + 1))
            case measure => rw [HK2.out]; omega
            case rel => exact ⟨q + 1, by omega, rfl, by go_num, by rw [HCN.out]; go_num, B5.out⟩
        · obtain rfl : q = n := by omega
          rw [List.take_of_length_le (by rw [seen_len]; exact Nat.le_refl _)]
          have B6 := Lib.hid (BB.out.trans (B2.out.mono BB.out.size))
          have CH := chance_any (w := wr) n60 (c := xc) (RD.out.later B2.out) (by have := HCL.out; omega)
          rw [HCL.out] at CH
          unfold hitsOf at CH
          generalize (seenOf q ws).countP id = hits at *
          replace CH := Lib.hid CH
          clear hlt hcount B2 hq SS DD RD BB
          go_wp2_with fail
          refine CH.out.mono ?_
          rintro e w7 ⟨rfl, b7⟩
          have B7 := Lib.hid (B6.out.trans (b7.mono B6.out.size))
          clear b7 CH B6
          go_wp2_with fail
          refine (draw_no (p := none) (ts := [⟨1, [], (q : Int)⟩]) 1 1 (rowAt_block (heap_at w7 _)) (by simp) (fun h => by cases h) (.inl rfl)).mono ?_
          rintro e w8 ⟨rfl, b8⟩
          have B8 := Lib.hid ((below_alloc B7.out (.cells (tcells ⟨1, [], (q : Int)⟩).toArray 37)).trans (b8.mono (by have := B7.out.size; simp; omega)))
          clear b8 B7
          go_wp2_with (first | (refine wpList_store_new rfl 33 (.tmp 21) (.tmp 108) rfl _ note0.toArray rfl rfl (by rw [size_note, note0_len]) rfl note0_one ?_) | (refine wpList_build_if (by rfl) 33 _ rfl (ncells 3 [] 0 0 nnil nnil).toArray (by simpa [Act.eval] using built_nkind 3) ?_))
          refine (handle_none _ _ _ _ _ _ _ _).mono ?_
          rintro e w9 ⟨rfl, b9⟩
          have B9 := Lib.hid ((below_alloc B8.out (.cells note0.toArray 33)).trans (b9.mono (by have := B8.out.size; simp; omega)))
          clear b9 B8
          go_wp2_with fail
          refine (open_none _).mono ?_
          rintro e w10 ⟨rfl, rfl⟩
          go_wp2_with fail
          refine (late_none _ _ _).mono ?_
          rintro e w11 ⟨rfl, b11⟩
          have B11 := Lib.hid (B9.out.trans (b11.mono B9.out.size))
          clear b11
          go_wp2
          go_ret
          exact ⟨rfl, B11.out⟩
set_option maxRecDepth 100000 in
theorem AuditChance_lifted (os : Os) (started : os.Started) (H : Type) (enc : TypeId × Value → H) :
    ReturnsInHanded {} Tryd.checked os 6 .any (fun w args => (Rows.auditChanceSpec.pre enc Tryd.prog Tryd.f6 [] false w args ∧ laidMetH Tryd.prog lst w) ∧ sizedMet enc Tryd.prog Tryd.f6 (OpenSpec.ofChange Rows.auditChanceSpec) false w args)
      (Rows.auditChanceSpec.post enc Tryd.prog Tryd.f6 false true false false) := by
  refine returnsInHanded_of_change_and (C := Tryd.checked) (X := fun w _ => laidMetH Tryd.prog lst w) (fun _ _ _ hh h => h.of_heap hh) own started (by kernel_rfl) Tryd.func6
    (ChangeSpec.witness_shaped (enc := enc) (C := Tryd.checked) (os := os) (X := fun w _ => laidMetH Tryd.prog lst w) false (World.doorLaid Tryd.prog 14 os) #[.int .u8 0, .slice none 0 0] 8 rfl (World.shaped_of_RefB (by kernel_rfl) (by kernel_rfl)) (by kernel_rfl) (by kernel_rfl) (by kernel_rfl) (door_met os _)) ?_
  intro W base args ds gs before hval0 hW _ _ hL _
  have hval : ∀ (j : Nat) t v, Tryd.f6.params[j]? = some t → args[j]? = some v → Value.okWide Tryd.prog W .any base t v := hval0
  have hW' := hW
  obtain ⟨p, q, hA0, hV, rfl, hfz, hnd⟩ := hW
  have hA : DataW.TrodAll enc Tryd.prog W 0 (fun _ => true) true Tryd.f6.params.toList args.toList ds p := hA0
  rw [Tryd.params6] at hA hval
  obtain ⟨v0, vs0, d0, ds0, p0, q0, hargs, rfl, rfl, h0, r0⟩ := trodAll_cons hA
  obtain ⟨v1, vs1, d1, ds1, p1, q1, rfl, rfl, rfl, h1, r1⟩ := trodAll_cons r0
  obtain ⟨rfl, rfl, rfl⟩ := trodAll_nil r1
  obtain rfl : args = #[v0, v1] := by cases args; simp_all
  obtain ⟨a0, rfl, rfl, rfl, w0⟩ := open_int Tryd.underlying5 (hval 0 5 v0 rfl rfl) h0
  obtain ⟨a1, z1, c1, rfl, x1, y1, l1⟩ := ints_of Tryd.underlying22 Tryd.underlying5 (by kernel_rfl) (hval 1 22 v1 rfl rfl) h1
  refine (AuditChance_walk a0 a1 z1 c1 W w0 x1 y1 l1 hL).mono fun e W' ⟨he, hb⟩ => ?_
  subst he
  exact ⟨_, rfl, law_post laidOut (by kernel_rfl) rfl rfl Tryd.underlying4 rfl hW' hb⟩
theorem AuditChance_row : Rows.AuditChanceSaid :=
  OpenClaim.holds_of_wide 6 Tryd.f6 rfl rfl rfl rfl rfl rfl rfl ⟨rfl, rfl, rfl, rfl, rfl⟩ rfl rfl rfl rfl rfl (by kernel_rfl) Tryd.func6 (by kernel_rfl)
    (of_decide_eq_true (by kernel_rfl)) (by unfold Func.isWrapper; rw [if_neg (by decide +kernel)]; exact ⟨rfl, rfl⟩)
    (fun os started H enc _ => AuditChance_lifted os started H enc)
theorem AuditChance_holds : Rows.AuditChanceCardSaid :=
  Claim7.holds_tied_plain_at .later [] [.data] true (true, "8093f79176a43ce1106b5f045afce6c80ab5727be39320ea464b53a6c7f52b16") false
    AuditChance_row (fun _ h => by cases h) (by kernel_rfl) (fun _ h => by cases h) auditChance_row_tie rfl ⟨rfl, rfl⟩ (by kernel_rfl) rfl
    (fun f fn hf hfn => by
      obtain rfl : f = 6 := Option.some.inj ((show Tryd.prog.funcNamed "bailee/baileelaw24.AuditChance" = some 6 by kernel_rfl).symm.trans hf) |>.symm
      obtain rfl : fn = Tryd.f6 := (Option.some.inj (Tryd.func6.symm.trans hfn)).symm
      exact ⟨by kernel_rfl, fun j t ht => by
        have hall : (Tryd.f6.params.all fun u => !Tryd.prog.wantsStandIn u) = true := by kernel_rfl
        have hm : t ∈ Tryd.f6.params := Array.mem_of_getElem? ht
        exact (show Tryd.prog.wantsStandIn t = false by simpa using Array.all_eq_true_iff_forall_mem.1 hall t hm)⟩)
    (by kernel_rfl)
end Go.Proofs.YtdlcmdoefdkjpaaDoor
