/- RepairRoom, walked: it answers yes, and changes nothing that was there. -/
import Derived.Test.YtpmkgnnpngbfmaaRm6
import Derived.Deep.DeepCutAuto
namespace Go.Proofs.Ytpmkgnnpngbfmaa
open Go.ChangeShapes Go.WideShapes Go.ChangeAt Go.RowKit
open Extern.Stop (cell)

theorem own_none {w : World} {B : Nat} {e : TypeId} {s n c k : Nat} {xs : List Value} (h : w.ownsRow B e s (.slice none n c) k xs) : c = 0 := by
  rcases h.2 with ⟨h1, _⟩ | ⟨_, _, _, h1, _⟩
  · cases h1; rfl
  · cases h1
set_option linter.unusedSimpArgs false in
set_option maxRecDepth 1000000 in
set_option maxHeartbeats 2000000 in
theorem RepairRoom_walk (nb kb : Int) (ads : Option Addr) (zs : List Int) (cs : Nat) (adh : Option Addr) (held : List Int) (ch : Nat) (tight : Bool) (W0 : World) (hnb : (Lit.int .u8 nb).wf = true) (hkb : (Lit.int .u8 kb).wf = true)
    (hx : IntsAt W0 .u8 ads zs) (hz : ∀ n ∈ zs, (Lit.int .u8 n).wf = true) (hl : zs.length ≤ maxLen) (hxh : IntsAt W0 .u8 adh held) (hzh : ∀ n ∈ held, (Lit.int .u8 n).wf = true) (hlh : held.length ≤ maxLen) :
    Calls Try.prog 4 #[.int .u8 nb, .int .u8 kb, .slice ads zs.length cs, .slice adh held.length ch, .bool tight] W0 fun e w' => e = .returned (.bool true) ∧ Below W0.heap.size W0 w' := by
  obtain ⟨n0, n1⟩ := u8_in hnb
  obtain ⟨k0, k1⟩ := u8_in hkb
  have X := Lib.hid hx
  have Z := Lib.hid (fun z (h : z ∈ zs) => u8_in (hz z h))
  have XH := Lib.hid hxh
  have ZH := Lib.hid (fun z (h : z ∈ held) => u8_in (hzh z h))
  obtain ⟨m, hm⟩ : ∃ m, m = zs.length := ⟨_, rfl⟩
  obtain ⟨mh, hmh⟩ : ∃ mh, mh = held.length := ⟨_, rfl⟩
  have HM := Lib.hid hm
  have HMH := Lib.hid hmh
  unfold maxLen at hl hlh
  rw [← hm] at hl ⊢
  rw [← hmh] at hlh ⊢
  clear hnb hkb hx hz hxh hzh hm hmh
  by_cases hbig : 10 < m
  · have d1 : (10 : Int) < (m : Int) := by omega
    go_enter Try.func4, Try.ntmps4
    go_wp2_with fail
    refine (awake_any _).mono ?_
    rintro e w1 ⟨rfl, B1⟩
    have BB := Lib.hid B1
    clear B1
    go_wp2
    go_ret
    exact ⟨rfl, BB.out⟩
  have d1 : ¬ (10 : Int) < (m : Int) := by omega
  obtain ⟨A, hA, hA12⟩ : ∃ A : Nat, nb.tmod 12 = (A : Int) ∧ A < 12 := ⟨(nb.tmod 12).toNat, by rw [Int.tmod_eq_emod_of_nonneg n0]; omega, by rw [Int.tmod_eq_emod_of_nonneg n0]; omega⟩
  have hA2 : nb % 12 = (A : Int) := by rw [← Int.tmod_eq_emod_of_nonneg n0]; exact hA
  obtain ⟨K, hK, hK6⟩ : ∃ K : Nat, kb.tmod 6 = (K : Int) ∧ K < 6 := ⟨(kb.tmod 6).toNat, by rw [Int.tmod_eq_emod_of_nonneg k0]; omega, by rw [Int.tmod_eq_emod_of_nonneg k0]; omega⟩
  have hK2 : kb % 6 = (K : Int) := by rw [← Int.tmod_eq_emod_of_nonneg k0]; exact hK
  obtain ⟨i0, hi, hz0, hz1, hz2⟩ := info_parts info_pk
  have PI := Lib.hid (⟨hi, hz0, hz1, hz2⟩ : Try.prog.info? 46 = some i0 ∧ i0.zero = some (.agg (pcells ⟨[], 0, [], none, 0⟩).toArray) ∧ i0.size = 34 ∧ i0.bytes = 64)
  obtain ⟨g0, gi, gz0, gz1, gz2⟩ := info_parts info_int
  have II := Lib.hid (⟨gi, gz0, gz1, gz2⟩ : Try.prog.info? 3 = some g0 ∧ g0.zero = some (.int .i64 0) ∧ g0.size = 1 ∧ g0.bytes = 8)
  clear hi hz0 hz1 hz2 gi gz0 gz1 gz2
  go_enter Try.func4, Try.ntmps4
  go_wp2_with fail
  refine (awake_any _).mono ?_
  rintro e w1 ⟨rfl, hB1⟩
  have B1 := Lib.hid hB1
  clear hB1
  go_wp2_with fail
  clear hA hA2 hK hK2 n0 n1 k0 k1
  obtain ⟨all, hall⟩ : ∃ all, all = A + 1 := ⟨_, rfl⟩
  rw [show (A : Int) + 1 = (all : Int) by omega]
  have al0 : 1 ≤ all := by omega
  have al1 : all ≤ 12 := by omega
  have HALL := Lib.hid hall
  clear hall hA12
  go_loopg [14, 15, 16, 17, 18] m (fun k s14 s15 s16 _ _ wr => ∃ (i : Nat) (ps : List Pk), i ≤ m ∧ k = m - i ∧ s16 = .int .i64 i ∧ s14 = .int .u64 (sumZ (zs.take i)) ∧ ps.map says = rmPs zs held all i ∧ wr.ownsRow w1.heap.size 46 34 s15 i (ps.flatMap pcells) ∧ (∀ p ∈ ps, HsOwn w1.heap.size wr p) ∧ Below w1.heap.size w1 wr)
  case atStart => exact ⟨0, [], Nat.zero_le _, rfl, rfl, rfl, rfl, ⟨rfl, .inl ⟨rfl, rfl⟩⟩, by simp, Below.refl _ _⟩
  case round =>
    obtain ⟨i, ps, hi, hk, rfl, rfl, hps, hP, hH, hB⟩ := hrel
    obtain ⟨wo, rfl⟩ : ∃ wo : World, wo = wr := ⟨_, rfl⟩
    have HK := Lib.hid hk
    have PS := Lib.hid hps
    have PP := Lib.hid hP
    have HH := Lib.hid hH
    have BB := Lib.hid hB
    have BX := Lib.hid (B1.out.trans (hB.mono B1.out.size))
    clear hk hps hP hH hB
    by_cases hlt : i < m
    · obtain ⟨g, off, e1, hg, cz⟩ := X.out.at BX.out (j := i) (by rw [← HM.out]; exact hlt)
      subst e1
      have hzi : zs[i]? = some (zs.getD i 0) := by rw [List.getD_eq_getElem?_getD, List.getElem?_eq_getElem (by rw [← HM.out]; exact hlt)]; rfl
      obtain ⟨z0, z1⟩ := Z.out (zs.getD i 0) (List.mem_of_getElem? hzi)
      obtain ⟨z, hzd⟩ : ∃ z, z = zs.getD i 0 := ⟨_, rfl⟩
      rw [← hzd] at cz hzi z0 z1
      have hs := sumZ_in (l := zs.take i) (fun y hy => Z.out y (List.mem_of_mem_take hy))
      rw [List.length_take] at hs
      have TS : Hid (sumZ (zs.take (i + 1)) = sumZ (zs.take i) + z) := Lib.hid (by
        rw [List.take_add_one, hzi]
        exact sumZ_snoc _ _)
      obtain ⟨s, hsd⟩ : ∃ s, s = sumZ (zs.take i) := ⟨_, rfl⟩
      rw [← hsd] at hs ⊢
      obtain ⟨s0, s1⟩ := hs
      have s2 : s ≤ 2550 := by omega
      have SD := Lib.hid hsd
      have ZD := Lib.hid hzd
      have j0 : (0 : Int) ≤ (i : Int) := Int.natCast_nonneg _
      have j1 : (i : Int) < (m : Int) := by omega
      have j2 : (i : Int) ≤ 10 := by omega
      have hgw : g < wo.heap.size := Nat.lt_of_lt_of_le hg BX.out.size
      clear hzi hsd hzd s1
      go_upto_region 14 with (first | (refine wpList_build_by rfl 37 #[(0, .tmp 51)] rfl [(0, .int .u8 (i : Int))] (by kernel_rfl) (idCells (idOne (UInt8.ofNat i))).toArray (built_idi (by omega)) ?_) | (refine wpList_build_by rfl 46 #[(0, .tmp 52), (1, .tmp 57)] rfl [(0, .agg (idCells (idOne (UInt8.ofNat i))).toArray), (1, .int .u64 z)] (by kernel_rfl) (pcells ⟨idOne (UInt8.ofNat i), z, [], none, 0⟩).toArray (built_two _ _) ?_) | (refine wpList_store_new rfl 46 (.tmp 17) (.tmp 58) rfl _ (pcells ⟨idOne (UInt8.ofNat i), z, [], none, 0⟩).toArray rfl rfl (sizep _) (by simp [pcells_len]) (all_oneCell_toArray (pcells_one _)) ?_))
      obtain ⟨T, hT⟩ : ∃ T, T = wo.heap.size := ⟨_, rfl⟩
      rw [← hT]
      refine wp_named fun W hW => ?_
      have e0 : W.heap[T]? = some (.cells (pcells ⟨idOne (UInt8.ofNat i), z, [], none, 0⟩).toArray 46 (0, 0)) := by rw [hW, hT]; exact heap_at _ _
      have b0 : Below T wo W := by rw [hW, hT]; exact below_alloc (Below.refl _ _) _
      have c32 := (pk_at e0).1
      have E0 := Lib.hid e0
      have B0 := Lib.hid b0
      have HT := Lib.hid hT
      clear hW e0 b0 hT cz
      go_wp2_with fail
      clear c32
      go_loopg [18] 3 (fun k s18 wi => ∃ (j : Nat) (pa : Option Addr) (pc : Nat), j ≤ 3 ∧ k = 3 - j ∧ s18 = .int .i64 j ∧ wi.heap[T]? = some (.cells (pcells ⟨idOne (UInt8.ofNat i), z, rmH held all i j, pa, pc⟩).toArray 46 (0, 0)) ∧ IntsIs T wi (.slice pa (rmH held all i j).length pc) (rmH held all i j) ∧ Below T wo wi)
      case atStart => exact ⟨0, none, 0, by omega, rfl, rfl, E0.out, ⟨rfl, .inl ⟨rfl, rfl⟩⟩, B0.out⟩
      case round =>
        obtain ⟨j, pa, pc, hj, hkj, rfl, hE, hI, hBi⟩ := hrel
        obtain ⟨wi, rfl⟩ : ∃ wi : World, wi = wr := ⟨_, rfl⟩
        have HKJ := Lib.hid hkj
        have EI := Lib.hid hE
        have IN := Lib.hid hI
        have BI := Lib.hid hBi
        have hTw : T < wi.heap.size := (Array.getElem?_eq_some_iff.1 hE).1
        clear hkj hE hI hBi E0 B0
        have q0 : (0 : Int) ≤ (j : Int) := Int.natCast_nonneg _
        have q1 : (j : Int) ≤ 3 := by omega
        have mh0 : (0 : Int) ≤ (mh : Int) := Int.natCast_nonneg _
        by_cases hj3 : j < 3 ∧ 3 * i + j < mh
        · have d3 : (j : Int) < 3 := by omega
          have d4 : 3 * (i : Int) + (j : Int) < (mh : Int) := by omega
          obtain ⟨gh, oh, e2, hgh, cx⟩ := XH.out.at (BX.out.trans ((show Below wo.heap.size wo wi by rw [← HT.out]; exact BI.out).mono BX.out.size)) (j := 3 * i + j) (by rw [← HMH.out]; exact hj3.2)
          subst e2
          have hx : held[3 * i + j]? = some (held.getD (3 * i + j) 0) := by rw [List.getD_eq_getElem?_getD, List.getElem?_eq_getElem (by rw [← HMH.out]; exact hj3.2)]; rfl
          obtain ⟨x0, x1⟩ := ZH.out (held.getD (3 * i + j) 0) (List.mem_of_getElem? hx)
          generalize held.getD (3 * i + j) 0 = x at *
          have SN := Lib.hid (rmH_snoc (all := all) hx)
          obtain ⟨r, hr⟩ : ∃ r, r = x % (all : Int) := ⟨_, rfl⟩
          have r1 : x.tmod (all : Int) = r := by rw [Int.tmod_eq_emod_of_nonneg x0, hr]
          have r2 : x % (all : Int) = r := hr.symm
          have r3 : 0 ≤ r ∧ r < (all : Int) := by rw [hr]; exact ⟨Int.emod_nonneg _ (by omega), Int.emod_lt_of_pos _ (by omega)⟩
          rw [r2] at SN
          have c33 := (pk_at EI.out).2.1
          have f33 := (pk_at EI.out).2.2
          obtain ⟨nh, hnh⟩ : ∃ nh, nh = (rmH held all i j).length := ⟨_, rfl⟩
          simp only at c33
          rw [← hnh] at c33
          have NH := Lib.hid hnh
          have hgh' : gh < T := by
            have h1 := BX.out.size
            have h2 := HT.out
            omega
          have al2 : ¬ all = 0 := by omega
          have w0' : IntKind.i64.wrap x = x := IntWalk.i64_in _ (by omega)
          have al3 : ((all : Int) == 0) = false := by simp; omega
          have al4 : (1 : Int) ≤ (all : Int) := by omega
          have HR := Lib.hid r3
          clear hx hr hnh hj3 r3
          have w1' : IntKind.i64.wrap (3 * (i : Int)) = 3 * (i : Int) := IntWalk.i64_in _ (by omega)
          have w2' : IntKind.i64.wrap (3 * (i : Int) + (j : Int)) = 3 * (i : Int) + (j : Int) := IntWalk.i64_in _ (by omega)
          have w3' : (3 * (i : Int) + (j : Int)).toNat = 3 * i + j := by omega
          have w4' : 0 ≤ 3 * (i : Int) + (j : Int) := by omega
          go_wp2_with fail
          have b5 : Below wi.heap.size wi (wi.drew.alloc (.cells #[.int .i64 r] 3)) := below_alloc (below_drew (Below.refl _ _)) _
          have I5 := Lib.hid (own_later IN.out b5)
          have E5 := Lib.hid (show (wi.drew.alloc (.cells #[.int .i64 r] 3)).heap[T]? = _ from heap_up (show wi.drew.heap[T]? = _ from EI.out))
          have N5 : Hid (∀ (q : Nat) (u : Value), ([.int .i64 r] : List Value)[q]? = some u → (wi.drew.alloc (.cells #[.int .i64 r] 3)).cell? ((⟨wi.heap.size, 0, none⟩ : Addr).add q) = some u) := Lib.hid (news_made wi.drew [.int .i64 r] 3)
          have cx5 : (wi.drew.alloc (.cells #[.int .i64 r] 3)).cell? ⟨gh, oh + (3 * i + j), none⟩ = some (.int .u8 x) := cell_up (show wi.drew.cell? _ = _ from cx) _
          have c5 : (wi.drew.alloc (.cells #[.int .i64 r] 3)).cell? ⟨T, 33, none⟩ = some (.slice pa nh pc) := cell_up (show wi.drew.cell? _ = _ from c33) _
          have B5 := Lib.hid b5
          have nh3 : nh ≤ 3 := by rw [NH.out]; exact Nat.le_trans (rmH_len held all i j) hj
          clear b5
          refine wp_region_held_drew (S := fun w' => w'.cell? ⟨gh, oh + (3 * i + j), none⟩ = some (.int .u8 x)) (by kernel_rfl) (show wi.drew.cell? _ = _ from cx) (fun hHeld => ?_)
          refine wpAnyH_take (i := 0) (v := ?_) rfl (by kernel_rfl) (by kernel_rfl) (by kernel_rfl) (fun _ _ _ h => h) (Or.inl ⟨by kernel_rfl, ?_⟩) (by assumption) ?_
          rotate_left
          · (intro w hSw; ((try dsimp only at hSw); go_simp; try with_reducible rfl))
          try simp only [Act.put, List.getElem_toArray, List.getElem_cons_succ, List.getElem_cons_zero, List.setIfInBounds_toArray, List.set_cons_zero, List.set_cons_succ]
          refine wpAnyH_take (i := 2) (v := ?_) rfl (by kernel_rfl) (by kernel_rfl) (by kernel_rfl) (fun _ _ _ h => h) (Or.inl ⟨by kernel_rfl, ?_⟩) (by assumption) ?_
          rotate_left
          · (intro w hSw; ((try dsimp only at hSw); go_simp; try with_reducible rfl))
          try simp only [Act.put, List.getElem_toArray, List.getElem_cons_succ, List.getElem_cons_zero, List.setIfInBounds_toArray, List.set_cons_zero, List.set_cons_succ]
          refine wpAnyH_take (i := 3) (v := ?_) rfl (by kernel_rfl) (by kernel_rfl) (by kernel_rfl) (fun _ _ _ h => h) (Or.inl ⟨by kernel_rfl, ?_⟩) (by assumption) ?_
          rotate_left
          · (intro w hSw; ((try dsimp only at hSw); go_simp; try with_reducible rfl))
          try simp only [Act.put, List.getElem_toArray, List.getElem_cons_succ, List.getElem_cons_zero, List.setIfInBounds_toArray, List.set_cons_zero, List.set_cons_succ]
          refine wpAnyH_take (i := 4) (v := ?_) rfl (by kernel_rfl) (by kernel_rfl) (by kernel_rfl) (fun _ _ _ h => h) (Or.inl ⟨by kernel_rfl, ?_⟩) (by assumption) ?_
          rotate_left
          · (intro w hSw; ((try dsimp only at hSw); go_simp; try with_reducible rfl))
          try simp only [Act.put, List.getElem_toArray, List.getElem_cons_succ, List.getElem_cons_zero, List.setIfInBounds_toArray, List.set_cons_zero, List.set_cons_succ]
          refine wpAnyH_take (i := 5) (v := ?_) rfl (by kernel_rfl) (by kernel_rfl) (by kernel_rfl) (fun _ _ _ h => h) (Or.inl ⟨by kernel_rfl, ?_⟩) (by assumption) ?_
          rotate_left
          · (intro w hSw; ((try dsimp only at hSw); go_simp; try with_reducible rfl))
          try simp only [Act.put, List.getElem_toArray, List.getElem_cons_succ, List.getElem_cons_zero, List.setIfInBounds_toArray, List.set_cons_zero, List.set_cons_succ]
          refine wpAnyH_take (i := 6) (v := ?_) rfl (by kernel_rfl) (by kernel_rfl) (by kernel_rfl) (fun _ _ _ h => h) (Or.inl ⟨by kernel_rfl, ?_⟩) (by assumption) ?_
          rotate_left
          · (intro w hSw; ((try dsimp only at hSw); go_simp; try with_reducible rfl))
          try simp only [Act.put, List.getElem_toArray, List.getElem_cons_succ, List.getElem_cons_zero, List.setIfInBounds_toArray, List.set_cons_zero, List.set_cons_succ]
          refine wpAnyH_take (i := 7) (v := ?_) rfl (by kernel_rfl) (by kernel_rfl) (by kernel_rfl) (fun _ _ _ h => h) (Or.inl ⟨by kernel_rfl, ?_⟩) (by assumption) ?_
          rotate_left
          · (intro w hSw; ((try dsimp only at hSw); go_simp; try with_reducible rfl))
          try simp only [Act.put, List.getElem_toArray, List.getElem_cons_succ, List.getElem_cons_zero, List.setIfInBounds_toArray, List.set_cons_zero, List.set_cons_succ]
          refine wpAnyH_take (i := 8) (v := ?_) rfl (by kernel_rfl) (by kernel_rfl) (by kernel_rfl) (fun _ _ _ h => h) (Or.inl ⟨by kernel_rfl, ?_⟩) (by assumption) ?_
          rotate_left
          · (intro w hSw; ((try dsimp only at hSw); go_simp; try with_reducible rfl))
          try simp only [Act.put, List.getElem_toArray, List.getElem_cons_succ, List.getElem_cons_zero, List.setIfInBounds_toArray, List.set_cons_zero, List.set_cons_succ]
          refine wpAnyH_take (i := 9) (v := ?_) rfl (by kernel_rfl) (by kernel_rfl) (by kernel_rfl) (fun _ _ _ h => h) (Or.inl ⟨by kernel_rfl, ?_⟩) (by assumption) ?_
          rotate_left
          · (intro w hSw; ((try dsimp only at hSw); go_simp; try with_reducible rfl))
          try simp only [Act.put, List.getElem_toArray, List.getElem_cons_succ, List.getElem_cons_zero, List.setIfInBounds_toArray, List.set_cons_zero, List.set_cons_succ]
          refine wpAnyH_take (i := 10) (v := ?_) rfl (by kernel_rfl) (by kernel_rfl) (by kernel_rfl) (fun _ _ _ h => h) (Or.inl ⟨by kernel_rfl, ?_⟩) (by assumption) ?_
          rotate_left
          · (intro w hSw; ((try dsimp only at hSw); go_simp; try with_reducible rfl))
          try simp only [Act.put, List.getElem_toArray, List.getElem_cons_succ, List.getElem_cons_zero, List.setIfInBounds_toArray, List.set_cons_zero, List.set_cons_succ]
          refine wpAnyH_take (i := 11) (v := ?_) rfl (by kernel_rfl) (by kernel_rfl) (by kernel_rfl) (fun _ _ _ h => h) (Or.inl ⟨by kernel_rfl, ?_⟩) (by assumption) ?_
          rotate_left
          · (intro w hSw; ((try dsimp only at hSw); go_simp; try with_reducible rfl))
          try simp only [Act.put, List.getElem_toArray, List.getElem_cons_succ, List.getElem_cons_zero, List.setIfInBounds_toArray, List.set_cons_zero, List.set_cons_succ]
          refine wpAnyH_ready (rs := [1, 12]) (by kernel_rfl) (by simp) (AllReadyH.cons rfl (fun K hK => ?_) (AllReadyH.cons rfl (fun K hK => ?_) AllReadyH.nil))
          · go_simp
            refine hK.out _ _ hHeld (fun hH => ?_)
            clear hHeld hK
            try simp only [Act.put, List.getElem_toArray, List.getElem_cons_succ, List.getElem_cons_zero, List.setIfInBounds_toArray, List.set_cons_zero, List.set_cons_succ]
            refine wpAnyH_ready (rs := [12]) (by kernel_rfl) (by simp) (AllReadyH.cons rfl (fun K hK => ?_) AllReadyH.nil)
            go_simp
            refine hK.out _ _ cx5 (fun hHeld => ?_)
            clear hH hK
            try simp only [Act.put, List.getElem_toArray, List.getElem_cons_succ, List.getElem_cons_zero, List.setIfInBounds_toArray, List.set_cons_zero, List.set_cons_succ]
            refine wpAnyH_ready (rs := [13]) (by kernel_rfl) (by simp) (AllReadyH.cons rfl (fun K hK => ?_) AllReadyH.nil)
            refine step_append_any rfl (.tmp 77) (.tmp 88) 44 rfl T 3 g0 _ 1 8 Try.underlying44 II.out.1 II.out.2.1 II.out.2.2.1 II.out.2.2.2 rfl (by decide) (.slice pa nh pc) nh ((rmH held all i j).map (Value.int .i64)) rfl (by rw [NH.out]; exact I5.out) ⟨wi.heap.size, 0, none⟩ 1 1 [.int .i64 r] rfl rfl N5.out (fun u hu => by simp at hu; subst hu; rfl) (by unfold maxLen; omega) (by omega) (by simp; omega) ?_
            intro v6 w6 hown hg6 hat6
            clear hat6
            obtain ⟨x6, k6, rfl⟩ := own_slice hown
            have uG : (Value.slice pa nh pc).ownBlock ≠ some gh := fun h => by
              have h1 := (own_row (by rw [NH.out] at h ⊢; exact I5.out) h).1
              omega
            have uT : (Value.slice pa nh pc).ownBlock ≠ some T := fun h => by
              obtain ⟨_, cur, hc⟩ := own_row (show World.ownsRow _ T _ 1 (.slice pa nh pc) nh ((rmH held all i j).map (Value.int .i64)) by rw [NH.out]; exact I5.out) h
              rw [E5.out] at hc
              simp at hc
            have s6 := cell_grown cx5 hg6 uG
            have E6 := (hg6.block T (Array.getElem?_eq_some_iff.1 E5.out).1 (fun e => uT e.symm)).trans E5.out
            have d33 := (pk_at E6).2.1
            have g33 := (pk_at E6).2.2
            have uN : (Value.slice x6 (nh + 1) k6).ownBlock ≠ some T := fun h => by
              obtain ⟨_, cur, hc⟩ := own_row hown h
              rw [E6] at hc
              simp at hc
            have E7 := heap_setCell_same (i := 33) (.slice x6 (nh + 1) k6) E6
            have hl7 : nh + 1 = (rmH held all i (j + 1)).length := by rw [SN.out, List.length_append, ← NH.out]; rfl
            have ep : (pcells ⟨idOne (UInt8.ofNat i), z, rmH held all i j, pa, pc⟩).toArray.setIfInBounds 33 (.slice x6 (nh + 1) k6) = (pcells ⟨idOne (UInt8.ofNat i), z, rmH held all i (j + 1), x6, k6⟩).toArray := by
              rw [hl7]
              exact pcells_set _ _ _ _
            rw [ep] at E7
            clear ep
            have I7 : IntsIs T (w6.setCell ⟨T, 33, none⟩ (.slice x6 (nh + 1) k6)) (.slice x6 (nh + 1) k6) (rmH held all i (j + 1)) := by
              have := own_far (a := ⟨T, 33, none⟩) hown uN (.slice x6 (nh + 1) k6)
              show World.ownsRow _ T _ 1 _ (rmH held all i (j + 1)).length _
              rw [← hl7, SN.out, List.map_append]
              exact this
            have B7 : Below T wo (w6.setCell ⟨T, 33, none⟩ (.slice x6 (nh + 1) k6)) := ((BI.out.trans (B5.out.mono (Nat.le_of_lt hTw))).grown hg6 (by simp; omega) (fun k hk => (own_row (show World.ownsRow _ T _ 1 (.slice pa nh pc) nh ((rmH held all i j).map (Value.int .i64)) by rw [NH.out]; exact I5.out) hk).1)).setCell (Nat.le_refl _) _
            have E7' := Lib.hid E7
            have I7' := Lib.hid I7
            have B7' := Lib.hid B7
            have s7 := cell_set (q := ⟨T, 33, none⟩) s6 (by simp <;> omega) (.slice x6 (nh + 1) k6)
            have HL7 := Lib.hid hl7
            clear hl7 E7 I7 B7 hown hg6 uG uT E6 uN
            refine hK.out _ _ s6 (fun hH => ?_)
            clear hK
            try simp only [Act.put, List.getElem_toArray, List.getElem_cons_succ, List.getElem_cons_zero, List.setIfInBounds_toArray, List.set_cons_zero, List.set_cons_succ]
            refine wpAnyH_take (i := 14) (v := ?_) rfl (by kernel_rfl) (by kernel_rfl) (by kernel_rfl) (fun _ _ _ h => h) (Or.inl ⟨by kernel_rfl, ?_⟩) (by assumption) ?_
            rotate_left
            · (intro w hSw; (go_simp; try with_reducible rfl))
            try simp only [Act.put, List.getElem_toArray, List.getElem_cons_succ, List.getElem_cons_zero, List.setIfInBounds_toArray, List.set_cons_zero, List.set_cons_succ]
            refine wpAnyH_ready (rs := [15]) (by kernel_rfl) (by simp) (AllReadyH.cons rfl (fun K hK => ?_) AllReadyH.nil)
            go_simp
            refine hK.out _ _ s7 (fun hHeld => ?_)
            clear hH hK
            try simp only [Act.put, List.getElem_toArray, List.getElem_cons_succ, List.getElem_cons_zero, List.setIfInBounds_toArray, List.set_cons_zero, List.set_cons_succ]
            refine wpAnyH_done (by kernel_rfl) ?_ _
            generalize hw7 : w6.setCell ⟨T, 33, none⟩ (.slice x6 (nh + 1) k6) = w7 at E7' I7' B7' ⊢
            clear hw7 s6 s7 d33 g33 hHeld
            go_wp2
            go_roundg (3 - (j + 1))
            case measure => rw [HKJ.out]; omega
            case rel =>
              refine ⟨j + 1, x6, k6, by omega, rfl, ?_, E7'.out, ?_, B7'.out⟩
              · go_num
              · rw [← HL7.out]; exact I7'.out
          · go_simp
            refine hK.out _ _ cx5 (fun hH => ?_)
            clear hHeld hK
            try simp only [Act.put, List.getElem_toArray, List.getElem_cons_succ, List.getElem_cons_zero, List.setIfInBounds_toArray, List.set_cons_zero, List.set_cons_succ]
            refine wpAnyH_ready (rs := [1]) (by kernel_rfl) (by simp) (AllReadyH.cons rfl (fun K hK => ?_) AllReadyH.nil)
            go_simp
            refine hK.out _ _ hH (fun hHeld => ?_)
            clear hK
            try simp only [Act.put, List.getElem_toArray, List.getElem_cons_succ, List.getElem_cons_zero, List.setIfInBounds_toArray, List.set_cons_zero, List.set_cons_succ]
            refine wpAnyH_ready (rs := [13]) (by kernel_rfl) (by simp) (AllReadyH.cons rfl (fun K hK => ?_) AllReadyH.nil)
            refine step_append_any rfl (.tmp 77) (.tmp 88) 44 rfl T 3 g0 _ 1 8 Try.underlying44 II.out.1 II.out.2.1 II.out.2.2.1 II.out.2.2.2 rfl (by decide) (.slice pa nh pc) nh ((rmH held all i j).map (Value.int .i64)) rfl (by rw [NH.out]; exact I5.out) ⟨wi.heap.size, 0, none⟩ 1 1 [.int .i64 r] rfl rfl N5.out (fun u hu => by simp at hu; subst hu; rfl) (by unfold maxLen; omega) (by omega) (by simp; omega) ?_
            intro v6 w6 hown hg6 hat6
            clear hat6
            obtain ⟨x6, k6, rfl⟩ := own_slice hown
            have uG : (Value.slice pa nh pc).ownBlock ≠ some gh := fun h => by
              have h1 := (own_row (by rw [NH.out] at h ⊢; exact I5.out) h).1
              omega
            have uT : (Value.slice pa nh pc).ownBlock ≠ some T := fun h => by
              obtain ⟨_, cur, hc⟩ := own_row (show World.ownsRow _ T _ 1 (.slice pa nh pc) nh ((rmH held all i j).map (Value.int .i64)) by rw [NH.out]; exact I5.out) h
              rw [E5.out] at hc
              simp at hc
            have s6 := cell_grown cx5 hg6 uG
            have E6 := (hg6.block T (Array.getElem?_eq_some_iff.1 E5.out).1 (fun e => uT e.symm)).trans E5.out
            have d33 := (pk_at E6).2.1
            have g33 := (pk_at E6).2.2
            have uN : (Value.slice x6 (nh + 1) k6).ownBlock ≠ some T := fun h => by
              obtain ⟨_, cur, hc⟩ := own_row hown h
              rw [E6] at hc
              simp at hc
            have E7 := heap_setCell_same (i := 33) (.slice x6 (nh + 1) k6) E6
            have hl7 : nh + 1 = (rmH held all i (j + 1)).length := by rw [SN.out, List.length_append, ← NH.out]; rfl
            have ep : (pcells ⟨idOne (UInt8.ofNat i), z, rmH held all i j, pa, pc⟩).toArray.setIfInBounds 33 (.slice x6 (nh + 1) k6) = (pcells ⟨idOne (UInt8.ofNat i), z, rmH held all i (j + 1), x6, k6⟩).toArray := by
              rw [hl7]
              exact pcells_set _ _ _ _
            rw [ep] at E7
            clear ep
            have I7 : IntsIs T (w6.setCell ⟨T, 33, none⟩ (.slice x6 (nh + 1) k6)) (.slice x6 (nh + 1) k6) (rmH held all i (j + 1)) := by
              have := own_far (a := ⟨T, 33, none⟩) hown uN (.slice x6 (nh + 1) k6)
              show World.ownsRow _ T _ 1 _ (rmH held all i (j + 1)).length _
              rw [← hl7, SN.out, List.map_append]
              exact this
            have B7 : Below T wo (w6.setCell ⟨T, 33, none⟩ (.slice x6 (nh + 1) k6)) := ((BI.out.trans (B5.out.mono (Nat.le_of_lt hTw))).grown hg6 (by simp; omega) (fun k hk => (own_row (show World.ownsRow _ T _ 1 (.slice pa nh pc) nh ((rmH held all i j).map (Value.int .i64)) by rw [NH.out]; exact I5.out) hk).1)).setCell (Nat.le_refl _) _
            have E7' := Lib.hid E7
            have I7' := Lib.hid I7
            have B7' := Lib.hid B7
            have s7 := cell_set (q := ⟨T, 33, none⟩) s6 (by simp <;> omega) (.slice x6 (nh + 1) k6)
            have HL7 := Lib.hid hl7
            clear hl7 E7 I7 B7 hown hg6 uG uT E6 uN
            refine hK.out _ _ s6 (fun hH => ?_)
            clear hK
            try simp only [Act.put, List.getElem_toArray, List.getElem_cons_succ, List.getElem_cons_zero, List.setIfInBounds_toArray, List.set_cons_zero, List.set_cons_succ]
            refine wpAnyH_take (i := 14) (v := ?_) rfl (by kernel_rfl) (by kernel_rfl) (by kernel_rfl) (fun _ _ _ h => h) (Or.inl ⟨by kernel_rfl, ?_⟩) (by assumption) ?_
            rotate_left
            · (intro w hSw; (go_simp; try with_reducible rfl))
            try simp only [Act.put, List.getElem_toArray, List.getElem_cons_succ, List.getElem_cons_zero, List.setIfInBounds_toArray, List.set_cons_zero, List.set_cons_succ]
            refine wpAnyH_ready (rs := [15]) (by kernel_rfl) (by simp) (AllReadyH.cons rfl (fun K hK => ?_) AllReadyH.nil)
            go_simp
            refine hK.out _ _ s7 (fun hHeld => ?_)
            clear hH hK
            try simp only [Act.put, List.getElem_toArray, List.getElem_cons_succ, List.getElem_cons_zero, List.setIfInBounds_toArray, List.set_cons_zero, List.set_cons_succ]
            refine wpAnyH_done (by kernel_rfl) ?_ _
            generalize hw7 : w6.setCell ⟨T, 33, none⟩ (.slice x6 (nh + 1) k6) = w7 at E7' I7' B7' ⊢
            clear hw7 s6 s7 d33 g33 hHeld
            go_wp2
            go_roundg (3 - (j + 1))
            case measure => rw [HKJ.out]; omega
            case rel =>
              refine ⟨j + 1, x6, k6, by omega, rfl, ?_, E7'.out, ?_, B7'.out⟩
              · go_num
              · rw [← HL7.out]; exact I7'.out
        · have hend : rmH held all i j = rmH held all i 3 := by
            by_cases h3 : j = 3
            · rw [h3]
            · exact rmH_end hj (by rw [← HMH.out]; omega)
          have HE := Lib.hid hend
          have TK : Hid (IntsIs T wi (.slice pa (rmH held all i 3).length pc) (rmH held all i 3)) := Lib.hid (by rw [← hend]; exact IN.out)
          have EK : Hid (wi.heap[T]? = some (.cells (pcells ⟨idOne (UInt8.ofNat i), z, rmH held all i 3, pa, pc⟩).toArray 46 (0, 0))) := Lib.hid (by rw [← hend]; exact EI.out)
          obtain ⟨q, hq⟩ : ∃ q : Pk, q = ⟨idOne (UInt8.ofNat i), z, rmH held all i 3, pa, pc⟩ := ⟨_, rfl⟩
          have LQ := Lib.hid (lies_block (show wi.heap[T]? = some (.cells (pcells q).toArray 46 (0, 0)) by rw [hq]; exact EK.out))
          have QQ := Lib.hid hq
          have BWI := Lib.hid (show Below wo.heap.size wo wi by rw [← HT.out]; exact BI.out)
          have BWW := Lib.hid (BB.out.trans (BWI.out.mono BB.out.size))
          have PW := Lib.hid (own_later (own_later PP.out BWI.out) (below_alloc (Below.refl _ _) (.cells (pcells q).toArray 46)))
          have NEWS : Hid (∀ (y : Nat) (u : Value), (pcells q)[y]? = some u → (wi.alloc (.cells (pcells q).toArray 46)).cell? ((⟨wi.heap.size, 0, none⟩ : Addr).add y) = some u) := Lib.hid (news_made wi (pcells q) 46)
          have BND : Hid ((i + 1 ≤ maxLen ∧ (i + 1) * 64 ≤ 140737488355328) ∧ w1.heap.size ≤ (wi.alloc (.cells (pcells q).toArray 46)).heap.size) := Lib.hid ⟨⟨by unfold maxLen; omega, by omega⟩, by have := BWW.out.size; simp; omega⟩
          clear hend hq
          by_cases h3 : j < 3
          · have d3 : (j : Int) < 3 := by omega
            have d4 : ¬ 3 * (i : Int) + (j : Int) < (mh : Int) := by omega
            have w1' : IntKind.i64.wrap (3 * (i : Int)) = 3 * (i : Int) := IntWalk.i64_in _ (by omega)
            go_wp2_with (first | (refine wpList_load_agg rfl 46 (.tmp 17) rfl T 0 rfl (pcells q).toArray _ LQ.out Try.underlying46 rfl (sizep q) ?_) | (refine wpList_one_row rfl 22 46 (.tmp 92) rfl (pcells q).toArray rfl 34 i0 _ Try.underlying22 PI.out.1 PI.out.2.1 PI.out.2.2.1 (by decide) (by simp [pcells_len]) (by decide) ?_) | (at_builtin; refine wpList_append_news rfl (.tmp 91) (.tmp 93) 22 rfl w1.heap.size 46 i0 _ 34 64 Try.underlying22 PI.out.1 PI.out.2.1 PI.out.2.2.1 PI.out.2.2.2 (by simp [Value.cells, pcells_len]) (by decide) u15 i (ps.flatMap pcells) rfl PW.out ⟨wi.heap.size, 0, none⟩ 1 1 (pcells q) rfl (by rw [pcells_len]) NEWS.out (pcells_one _) BND.out.1.1 BND.out.1.2 BND.out.2 ?_; intro v10 w10 hown hg10 hat10))
            clear hat10
            have ba := below_alloc (Below.refl wi.heap.size wi) (.cells (pcells q).toArray 46)
            have ur : ∀ y, u15.ownBlock = some y → ∃ cur, (wi.alloc (.cells (pcells q).toArray 46)).heap[y]? = some (.cells cur 46 (0, 0)) := fun y hy => (own_row PW.out hy).2
            have P10 : Hid (w10.ownsRow w1.heap.size 46 34 v10 (i + 1) ((ps ++ [q]).flatMap pcells)) := Lib.hid (by
              rw [List.flatMap_append]
              simpa using hown)
            have H10 : Hid (∀ p ∈ ps ++ [q], HsOwn w1.heap.size w10 p) := Lib.hid (fun p hp => by
              rcases List.mem_append.1 hp with hp | hp
              · exact own_other (own_later (own_later (HH.out p hp) BWI.out) ba) hg10 ur (by decide)
              · rw [List.mem_singleton.1 hp, QQ.out]
                have h1 : IntsIs w1.heap.size wi (.slice pa (rmH held all i 3).length pc) (rmH held all i 3) := own_mono TK.out (by have := BB.out.size; have := HT.out; omega)
                exact own_other (own_later h1 ba) hg10 ur (by decide))
            have B10 := Lib.hid ((BWW.out.trans (ba.mono BWW.out.size)).grown hg10 BND.out.2 (fun y hy => (own_row PW.out hy).1))
            have S10 : Hid ((ps ++ [q]).map says = rmPs zs held all (i + 1)) := Lib.hid (by
              rw [List.map_append, PS.out, rmPs_succ, List.map_singleton, QQ.out]
              unfold says rmP
              rw [ZD.out])
            clear hown hg10 ba ur
            go_roundg (m - (i + 1))
            case measure => rw [HK.out]; omega
            case rel =>
              refine ⟨i + 1, ps ++ [q], by omega, rfl, ?_, ?_, S10.out, P10.out, H10.out, B10.out⟩
              · go_num
              · rw [TS.out, ← SD.out]
          · have d3 : ¬ (j : Int) < 3 := by omega
            go_wp2_with (first | (refine wpList_load_agg rfl 46 (.tmp 17) rfl T 0 rfl (pcells q).toArray _ LQ.out Try.underlying46 rfl (sizep q) ?_) | (refine wpList_one_row rfl 22 46 (.tmp 92) rfl (pcells q).toArray rfl 34 i0 _ Try.underlying22 PI.out.1 PI.out.2.1 PI.out.2.2.1 (by decide) (by simp [pcells_len]) (by decide) ?_) | (at_builtin; refine wpList_append_news rfl (.tmp 91) (.tmp 93) 22 rfl w1.heap.size 46 i0 _ 34 64 Try.underlying22 PI.out.1 PI.out.2.1 PI.out.2.2.1 PI.out.2.2.2 (by simp [Value.cells, pcells_len]) (by decide) u15 i (ps.flatMap pcells) rfl PW.out ⟨wi.heap.size, 0, none⟩ 1 1 (pcells q) rfl (by rw [pcells_len]) NEWS.out (pcells_one _) BND.out.1.1 BND.out.1.2 BND.out.2 ?_; intro v10 w10 hown hg10 hat10))
            clear hat10
            have ba := below_alloc (Below.refl wi.heap.size wi) (.cells (pcells q).toArray 46)
            have ur : ∀ y, u15.ownBlock = some y → ∃ cur, (wi.alloc (.cells (pcells q).toArray 46)).heap[y]? = some (.cells cur 46 (0, 0)) := fun y hy => (own_row PW.out hy).2
            have P10 : Hid (w10.ownsRow w1.heap.size 46 34 v10 (i + 1) ((ps ++ [q]).flatMap pcells)) := Lib.hid (by
              rw [List.flatMap_append]
              simpa using hown)
            have H10 : Hid (∀ p ∈ ps ++ [q], HsOwn w1.heap.size w10 p) := Lib.hid (fun p hp => by
              rcases List.mem_append.1 hp with hp | hp
              · exact own_other (own_later (own_later (HH.out p hp) BWI.out) ba) hg10 ur (by decide)
              · rw [List.mem_singleton.1 hp, QQ.out]
                have h1 : IntsIs w1.heap.size wi (.slice pa (rmH held all i 3).length pc) (rmH held all i 3) := own_mono TK.out (by have := BB.out.size; have := HT.out; omega)
                exact own_other (own_later h1 ba) hg10 ur (by decide))
            have B10 := Lib.hid ((BWW.out.trans (ba.mono BWW.out.size)).grown hg10 BND.out.2 (fun y hy => (own_row PW.out hy).1))
            have S10 : Hid ((ps ++ [q]).map says = rmPs zs held all (i + 1)) := Lib.hid (by
              rw [List.map_append, PS.out, rmPs_succ, List.map_singleton, QQ.out]
              unfold says rmP
              rw [ZD.out])
            clear hown hg10 ba ur
            go_roundg (m - (i + 1))
            case measure => rw [HK.out]; omega
            case rel =>
              refine ⟨i + 1, ps ++ [q], by omega, rfl, ?_, ?_, S10.out, P10.out, H10.out, B10.out⟩
              · go_num
              · rw [TS.out, ← SD.out]
    · obtain rfl : m = i := by omega
      have hP := PP.out
      obtain ⟨xp, cp, rfl⟩ := own_slice hP
      have hsum : sumZ (zs.take m) = sumZ zs := by rw [HM.out, List.take_length]
      rw [hsum]
      have hs := sumZ_in (l := zs) (fun y hy => Z.out y hy)
      obtain ⟨S, hS⟩ : ∃ S, S = sumZ zs := ⟨_, rfl⟩
      rw [← hS] at hs ⊢
      rw [← HM.out] at hs
      obtain ⟨s0, s1⟩ := hs
      have SS := Lib.hid hS
      obtain ⟨y0, fi, fz0, fz1, fz2⟩ := info_parts info_fr
      have FI := Lib.hid (⟨fi, fz0, fz1, fz2⟩ : Try.prog.info? 51 = some y0 ∧ y0.zero = some (.agg #[.int .i64 0, .int .u64 0]) ∧ y0.size = 2 ∧ y0.bytes = 16)
      clear hlt hP hS hsum fi fz0 fz1 fz2
      go_wp2_with fail
      go_loopg [19, 20, 21] all (fun k s19 s20 _ wf => ∃ i : Nat, i ≤ all ∧ k = all - i ∧ s20 = .int .i64 i ∧ wf.ownsRow wo.heap.size 51 2 s19 i ((frOf (rsOf tight S i)).flatMap fcells) ∧ Below wo.heap.size wo wf)
      case atStart => exact ⟨0, Nat.zero_le _, rfl, rfl, ⟨rfl, .inl ⟨rfl, rfl⟩⟩, Below.refl _ _⟩
      case round =>
        obtain ⟨i, hi, hk, rfl, hD, hBf⟩ := hrel
        obtain ⟨wf, rfl⟩ : ∃ wf : World, wf = wr := ⟨_, rfl⟩
        have HKF := Lib.hid hk
        have DD := Lib.hid hD
        have BF := Lib.hid hBf
        clear hk hD hBf
        have q0 : (0 : Int) ≤ (i : Int) := Int.natCast_nonneg _
        by_cases hlt : i < all
        · have q1 : (i : Int) < (all : Int) := by omega
          have q2 : (i : Int) ≤ 12 := by omega
          cases tight
          · go_upto_region 27 with fail
            obtain ⟨FB, hFB⟩ : ∃ FB, FB = wf.heap.size := ⟨_, rfl⟩
            rw [← hFB]
            refine wp_named fun Wf hWf => ?_
            have f0 : Wf.heap[FB]? = some (.cells #[.int .i64 i, .int .u64 S] 51 (0, 0)) := by rw [hWf, hFB]; exact heap_at _ _
            have b0 : Below wo.heap.size wo Wf := by rw [hWf]; exact BF.out.alloc BF.out.size _
            have o0 : Wf.ownsRow wo.heap.size 51 2 u19 i ((frOf (rsOf false S i)).flatMap fcells) := by rw [hWf]; exact own_later DD.out (below_alloc (Below.refl _ _) _)
            obtain ⟨⟨l0, l1⟩, _, _⟩ := blk2 f0
            have O0 := Lib.hid o0
            have B0 := Lib.hid b0
            clear hWf f0 b0 o0 hFB
            go_wp2_with (at_builtin; refine wpList_append_own _ rfl _ _ 23 rfl wo.heap.size 51 y0 _ 2 16 Try.underlying23 FI.out.1 FI.out.2.1 FI.out.2.2.1 FI.out.2.2.2 rfl (by decide) _ _ _ rfl (own_later O0.out (below_alloc (Below.refl _ _) _)) ⟨Wf.heap.size, 0, none⟩ 1 1 [.int .i64 i, .int .u64 S] rfl rfl (World.news_of_block (heap_at Wf _)) (fun u hu => by simp at hu; rcases hu with rfl | rfl <;> rfl) (by unfold maxLen; omega) (by omega) (by have := B0.out.size; simp; omega) ?_; intro v2 w2 hown2 hgrow2 hnil2)
            have B2 : Hid (Below wo.heap.size wo w2) := Lib.hid ((B0.out.alloc B0.out.size _).grown hgrow2 (by have := B0.out.size; simp; omega) (fun y hy => (own_row O0.out hy).1))
            have O2 : Hid (w2.ownsRow wo.heap.size 51 2 v2 (i + 1) ((frOf (rsOf false S (i + 1))).flatMap fcells)) := Lib.hid (by
              rw [rsOf_succ, frOf_snoc, rsOf_len, List.flatMap_append]
              exact hown2)
            clear hown2 hgrow2 hnil2 l0 l1
            go_roundg (all - (i + 1))
            case measure => rw [HKF.out]; omega
            case rel =>
              refine ⟨i + 1, by omega, rfl, ?_, O2.out, B2.out⟩
              go_num
          · go_upto_region 27 with fail
            obtain ⟨FB, hFB⟩ : ∃ FB, FB = wf.heap.size := ⟨_, rfl⟩
            rw [← hFB]
            refine wp_named fun Wf hWf => ?_
            have f0 : Wf.heap[FB]? = some (.cells #[.int .i64 i, .int .u64 ((i : Int) * 7)] 51 (0, 0)) := by rw [hWf, hFB]; exact heap_at _ _
            have b0 : Below wo.heap.size wo Wf := by rw [hWf]; exact BF.out.alloc BF.out.size _
            have o0 : Wf.ownsRow wo.heap.size 51 2 u19 i ((frOf (rsOf true S i)).flatMap fcells) := by rw [hWf]; exact own_later DD.out (below_alloc (Below.refl _ _) _)
            obtain ⟨⟨l0, l1⟩, _, _⟩ := blk2 f0
            have O0 := Lib.hid o0
            have B0 := Lib.hid b0
            clear hWf f0 b0 o0 hFB
            go_wp2_with (at_builtin; refine wpList_append_own _ rfl _ _ 23 rfl wo.heap.size 51 y0 _ 2 16 Try.underlying23 FI.out.1 FI.out.2.1 FI.out.2.2.1 FI.out.2.2.2 rfl (by decide) _ _ _ rfl (own_later O0.out (below_alloc (Below.refl _ _) _)) ⟨Wf.heap.size, 0, none⟩ 1 1 [.int .i64 i, .int .u64 ((i : Int) * 7)] rfl rfl (World.news_of_block (heap_at Wf _)) (fun u hu => by simp at hu; rcases hu with rfl | rfl <;> rfl) (by unfold maxLen; omega) (by omega) (by have := B0.out.size; simp; omega) ?_; intro v2 w2 hown2 hgrow2 hnil2)
            have B2 : Hid (Below wo.heap.size wo w2) := Lib.hid ((B0.out.alloc B0.out.size _).grown hgrow2 (by have := B0.out.size; simp; omega) (fun y hy => (own_row O0.out hy).1))
            have O2 : Hid (w2.ownsRow wo.heap.size 51 2 v2 (i + 1) ((frOf (rsOf true S (i + 1))).flatMap fcells)) := Lib.hid (by
              rw [rsOf_succ, frOf_snoc, rsOf_len, List.flatMap_append]
              exact hown2)
            clear hown2 hgrow2 hnil2 l0 l1
            go_roundg (all - (i + 1))
            case measure => rw [HKF.out]; omega
            case rel =>
              refine ⟨i + 1, by omega, rfl, ?_, O2.out, B2.out⟩
              go_num
        · obtain rfl : all = i := by omega
          have hD := DD.out
          obtain ⟨xf, cf, rfl⟩ := own_slice hD
          have hpl : ps.length = m := by have := congrArg List.length PS.out; simpa [rmPs] using this
          have hget : ∀ p ∈ ps, ∃ i, i < m ∧ p.id = idOne (UInt8.ofNat i) ∧ p.size = zs.getD i 0 ∧ p.hs = rmH held all i 3 := fun p hp => by
            have h1 : says p ∈ rmPs zs held all m := by rw [← PS.out]; exact List.mem_map.2 ⟨p, hp, rfl⟩
            obtain ⟨i, hi, e⟩ := List.mem_map.1 h1
            unfold says rmP at e
            simp only [Prod.mk.injEq] at e
            exact ⟨i, List.mem_range.1 hi, e.1.symm, e.2.1.symm, e.2.2.symm⟩
          have hok : ∀ p ∈ ps, PkOk wf p := fun p hp => by
            obtain ⟨i, _, e1, _, e3⟩ := hget p hp
            refine ⟨by rw [e1]; exact idOne_len _, (HH.out p hp).rd.later BF.out, ?_, ?_⟩
            · rw [e3]; have := rmH_len held all i 3; omega
            · rw [e3]
              intro x hx
              obtain ⟨y, _, rfl⟩ := List.mem_map.1 hx
              have h1 := Int.emod_nonneg y (show (all : Int) ≠ 0 by omega)
              have h2 := Int.emod_lt_of_pos y (show (0 : Int) < (all : Int) by omega)
              simp [Lit.wf, IntKind.min, IntKind.max, IntKind.signed, IntKind.bits]
              omega
          have hsz : ∀ p ∈ ps, 0 ≤ p.size ∧ p.size ≤ 255 := fun p hp => by
            obtain ⟨i, hi, _, e2, _⟩ := hget p hp
            rw [e2]
            exact Z.out _ (List.mem_of_getElem? (show zs[i]? = some (zs.getD i 0) by rw [List.getD_eq_getElem?_getD, List.getElem?_eq_getElem (by rw [← HM.out]; exact hi)]; rfl))
          have hfo : LeftOk (frOf (rsOf tight S all)) := fun x hx => by
            obtain ⟨i, h1, h2⟩ := frOf_mem.1 hx
            have hi := (List.getElem?_eq_some_iff.1 h1).1
            rw [rsOf_len] at hi
            have h3 : x.2 = if tight = true then (i : Int) * 7 else S := by
              unfold rsOf at h1
              rw [List.getElem?_map, List.getElem?_range hi] at h1
              exact (Option.some.inj h1).symm
            refine ⟨?_, ?_, ?_⟩
            · rw [h2]
              simp [Lit.wf, IntKind.min, IntKind.max, IntKind.signed, IntKind.bits]
              omega
            · rw [h3]; split <;> omega
            · rw [h3]; split <;> omega
          have PL := plan_any (w := wf) (ad := xp) (c := cp) (cf := cf) (k := (K : Int)) (l := ps) (f := frOf (rsOf tight S all)) ((rowAt_own PP.out).later BF.out) (by omega) (fun h => own_none (by rw [← h]; exact PP.out)) hok (fun p hp => ⟨(hsz p hp).1, by have := (hsz p hp).2; omega⟩) (rowAt_own hD) (by rw [frOf_len, rsOf_len]; omega) hfo (by omega) (by omega)
          rw [hpl, frOf_len, rsOf_len] at PL
          have PL' := Lib.hid PL
          have HPL := Lib.hid hpl
          have GET := Lib.hid hget
          have OKS := Lib.hid hok
          have HSZ := Lib.hid hsz
          have HFO := Lib.hid hfo
          clear hD hpl hget hok hsz hfo PL
          have MF := Lib.hid (mv_facts (tight := tight) (K := K) PS.out HM.out (by omega) Z.out al1)
          rw [← SS.out] at MF
          obtain ⟨mv, hmv⟩ : ∃ mv, mv = (planOf (K : Int) (frees (frOf (rsOf tight S all))) (isort keyOfPk ps)).2 := ⟨_, rfl⟩
          rw [← hmv] at MF PL'
          have hmk := run_make_row' (P := Try.prog) 52 43 (.int .u64 0) 8 Try.underlying52 info_u64 rfl .i64 .i64 all (by omega) (by omega)
          clear hmv
          go_wp2_with fail
          refine PL'.out.mono ?_
          rintro e w4 ⟨vm, rfl, hm4, b4⟩
          obtain ⟨gm, cm, rfl⟩ := own_slice hm4
          have hml : mv.length ≤ 9223372036854775807 := by
            rcases hm4.2 with ⟨h1, h2⟩ | ⟨_, _, _, h1, _, _, h2, h3, _⟩
            · simp only [Value.slice.injEq] at h1; omega
            · unfold maxLen at h3; omega
          obtain ⟨nm, hnm⟩ : ∃ nm, nm = mv.length := ⟨_, rfl⟩
          rw [← hnm] at hml hm4 ⊢
          have OM := Lib.hid hm4
          have HNM := Lib.hid hnm
          have B4 := Lib.hid (BF.out.trans (b4.mono BF.out.size))
          have DF := Lib.hid (own_later DD.out b4)
          clear hm4 hnm b4 PL'
          go_wp2_with fail
          clear hmk
          obtain ⟨U, hU⟩ : ∃ U, U = w4.heap.size := ⟨_, rfl⟩
          rw [← hU]
          refine wp_named fun W5 hW5 => ?_
          have u5 : UsedIs W5 U (usedOf zs all []) := by
            rw [hW5, hU, used_nil]
            show (w4.alloc _).heap[w4.heap.size]? = _
            rw [← made_u64]
            exact heap_at w4 _
          have b5 : Below w4.heap.size w4 W5 := by rw [hW5]; exact below_alloc (Below.refl _ _) _
          have U5 := Lib.hid u5
          have HU := Lib.hid (show w4.heap.size ≤ U by rw [hU]; exact Nat.le_refl _)
          have P4 := Lib.hid (own_later PP.out B4.out)
          have H4 := Lib.hid (fun p hp => (own_later (HH.out p hp) B4.out : HsOwn w1.heap.size w4 p))
          have B5 := Lib.hid b5
          clear hW5 hU u5 b5 DD PP HH
          go_loopg [24, 25, 26, 27, 28] nm (fun k s24 _ _ _ _ wl => ∃ i : Nat, i ≤ nm ∧ k = nm - i ∧ s24 = .int .i64 i ∧ UsedIs wl U (usedOf zs all (mv.take i)) ∧ Below w4.heap.size w4 wl)
          case atStart => exact ⟨0, Nat.zero_le _, rfl, rfl, U5.out, B5.out⟩
          case round =>
            obtain ⟨i, hi, hk, rfl, hUs, hBl⟩ := hrel
            obtain ⟨wl, rfl⟩ : ∃ wl : World, wl = wr := ⟨_, rfl⟩
            have HKL := Lib.hid hk
            have UU := Lib.hid hUs
            have BL := Lib.hid hBl
            clear hk hUs hBl
            by_cases hlt : i < nm
            · obtain ⟨x, hx⟩ : ∃ x, mv[i]? = some x := ⟨mv[i]'(by rw [← HNM.out]; exact hlt), List.getElem?_eq_getElem _⟩
              obtain ⟨ip, w, p, hip, hpi, hxp, hw, hxt, hno⟩ := MF.out.each x (List.mem_of_getElem? hx)
              obtain ⟨gmb, rfl, _, lx, _⟩ := own_elem mcells_len (by decide) (own_later OM.out BL.out) (by exact hx)
              obtain ⟨lid, ct⟩ := mv_lies lx
              rw [hxp] at lid
              have cb := first_byte (by omega) lid
              rw [hxt] at ct
              obtain ⟨gpb, e3, _, lp, _⟩ := own_elem pcells_len (by decide) (own_later P4.out BL.out) hpi
              subst e3
              obtain ⟨_, cs32, cs33⟩ := pk_lies lp
              obtain ⟨a1, a2, a3, a4⟩ := ps_at PS.out hpi
              have hrd : IntsRd wl p.ad p.hs := IntsIs.rd (own_later (H4.out p (List.mem_of_getElem? hpi)) BL.out)
              have hp3 : p.hs.length ≤ 3 := by rw [a4]; exact rmH_len held all ip 3
              obtain ⟨tu, htu⟩ : ∃ tu, tu = takenBy (szOf zs) (mv.take i) (w : Int) := ⟨_, rfl⟩
              have hcu := UU.out.at (used_get (mv.take i) hw)
              rw [← htu] at hcu
              obtain ⟨cu, fu⟩ := hcu
              have hsp : szOf zs x.pack = p.size := by rw [hxp, ← a2]; exact sz_ps PS.out (by omega) (List.mem_of_getElem? hpi)
              have hT1 : mv.take (i + 1) = mv.take i ++ [x] := by rw [List.take_add_one, hx]; rfl
              have hlim : tu + p.size ≤ 2550 := by
                have h1 := taken_take Z.out mv (w : Int) (i + 1)
                have h2 := MF.out.room w hw
                have h3 : (if tight = true then (w : Int) * 7 else sumZ zs) ≤ 2550 := by
                  have h4 := sumZ_in Z.out
                  rw [← HM.out] at h4
                  split <;> omega
                rw [hT1, taken_snoc, if_pos hxt, ← htu, hsp] at h1
                rw [← SS.out] at h2
                rw [SS.out] at h2
                omega
              have htu0 : 0 ≤ tu := by rw [htu]; exact (taken_in Z.out (w : Int) (mv.take i)).1
              have hps0 := HSZ.out p (List.mem_of_getElem? hpi)
              obtain ⟨np, hnp⟩ : ∃ np, np = p.hs.length := ⟨_, rfl⟩
              obtain ⟨pa, hpa⟩ : ∃ pa, pa = p.ad := ⟨_, rfl⟩
              obtain ⟨sz, hszp⟩ : ∃ sz, sz = p.size := ⟨_, rfl⟩
              rw [← hnp, ← hpa] at cs33
              rw [← hnp] at hp3
              rw [← hpa] at hrd
              rw [← hszp] at cs32 hlim hps0
              have RD := Lib.hid hrd
              have HNP := Lib.hid hnp
              have NO := Lib.hid hno
              have HX := Lib.hid hx
              have T1 := Lib.hid hT1
              have XT := Lib.hid hxt
              have U6 : Hid (usedOf zs all (mv.take (i + 1)) = (usedOf zs all (mv.take i)).set w (tu + sz)) := Lib.hid (by rw [hT1, used_snoc hw hxt, htu, hszp, hsp])
              have k0 : (0 : Int) ≤ (w : Int) := Int.natCast_nonneg _
              have k1 : (w : Int) < (all : Int) := by omega
              have k2 : ¬ (w : Int) < 0 := by omega
              have k3 : ¬ (all : Int) ≤ (w : Int) := by omega
              have k4 : (0 : Int) ≤ (ip : Int) := Int.natCast_nonneg _
              have k5 : (ip : Int) < (m : Int) := by omega
              have k6 : ¬ (m : Int) ≤ (ip : Int) := by omega
              have k7 : (0 : Int) ≤ (i : Int) := Int.natCast_nonneg _
              have k8 : (i : Int) < (nm : Int) := by omega
              have k9 : (ip : Int) ≤ 10 := by omega
              obtain ⟨p0, p1⟩ := hps0
              have ws : IntKind.u64.wrap (tu + sz) = tu + sz := by
                have h1 : IntKind.u64.min = 0 := rfl
                exact IntWalk.u64_in _ (by omega)
              have HPI := Lib.hid hpi
              have HPA := Lib.hid hpa
              clear hx hpi hxp hxt hno lx lid lp a1 a2 a3 a4 hrd htu hsp hT1 hnp hpa hszp
              go_upto_region 37 with fail
              refine wp_region_held_drew (S := fun w' => w'.cell? ⟨gpb, ip * 34 + 32, none⟩ = some (.int .u64 sz)) (by kernel_rfl) (show wl.drew.cell? _ = _ from cs32) (fun hHeld => ?_)
              refine wpAnyH_take (i := 0) (v := ?_) rfl (by kernel_rfl) (by kernel_rfl) (by kernel_rfl) (fun _ _ _ h => h) (Or.inl ⟨by kernel_rfl, ?_⟩) (by assumption) ?_
              rotate_left
              · (intro w hSw; ((try dsimp only at hSw); go_simp; try with_reducible rfl))
              try simp only [Act.put, List.getElem_toArray, List.getElem_cons_succ, List.getElem_cons_zero, List.setIfInBounds_toArray, List.set_cons_zero, List.set_cons_succ]
              refine wpAnyH_take (i := 1) (v := ?_) rfl (by kernel_rfl) (by kernel_rfl) (by kernel_rfl) (fun _ _ _ h => h) (Or.inl ⟨by kernel_rfl, ?_⟩) (by assumption) ?_
              rotate_left
              · (intro w hSw; ((try dsimp only at hSw); go_simp; try with_reducible rfl))
              try simp only [Act.put, List.getElem_toArray, List.getElem_cons_succ, List.getElem_cons_zero, List.setIfInBounds_toArray, List.set_cons_zero, List.set_cons_succ]
              refine wpAnyH_take (i := 2) (v := ?_) rfl (by kernel_rfl) (by kernel_rfl) (by kernel_rfl) (fun _ _ _ h => h) (Or.inl ⟨by kernel_rfl, ?_⟩) (by assumption) ?_
              rotate_left
              · (intro w hSw; ((try dsimp only at hSw); go_simp; try with_reducible rfl))
              try simp only [Act.put, List.getElem_toArray, List.getElem_cons_succ, List.getElem_cons_zero, List.setIfInBounds_toArray, List.set_cons_zero, List.set_cons_succ]
              refine wpAnyH_take (i := 4) (v := ?_) rfl (by kernel_rfl) (by kernel_rfl) (by kernel_rfl) (fun _ _ _ h => h) (Or.inl ⟨by kernel_rfl, ?_⟩) (by assumption) ?_
              rotate_left
              · (intro w hSw; ((try dsimp only at hSw); go_simp; try with_reducible rfl))
              try simp only [Act.put, List.getElem_toArray, List.getElem_cons_succ, List.getElem_cons_zero, List.setIfInBounds_toArray, List.set_cons_zero, List.set_cons_succ]
              refine wpAnyH_take (i := 5) (v := ?_) rfl (by kernel_rfl) (by kernel_rfl) (by kernel_rfl) (fun _ _ _ h => h) (Or.inl ⟨by kernel_rfl, ?_⟩) (by assumption) ?_
              rotate_left
              · (intro w hSw; ((try dsimp only at hSw); go_simp; try with_reducible rfl))
              try simp only [Act.put, List.getElem_toArray, List.getElem_cons_succ, List.getElem_cons_zero, List.setIfInBounds_toArray, List.set_cons_zero, List.set_cons_succ]
              refine wpAnyH_take (i := 6) (v := ?_) rfl (by kernel_rfl) (by kernel_rfl) (by kernel_rfl) (fun _ _ _ h => h) (Or.inl ⟨by kernel_rfl, ?_⟩) (by assumption) ?_
              rotate_left
              · (intro w hSw; ((try dsimp only at hSw); go_simp; try with_reducible rfl))
              try simp only [Act.put, List.getElem_toArray, List.getElem_cons_succ, List.getElem_cons_zero, List.setIfInBounds_toArray, List.set_cons_zero, List.set_cons_succ]
              refine wpAnyH_take (i := 7) (v := ?_) rfl (by kernel_rfl) (by kernel_rfl) (by kernel_rfl) (fun _ _ _ h => h) (Or.inl ⟨by kernel_rfl, ?_⟩) (by assumption) ?_
              rotate_left
              · (intro w hSw; ((try dsimp only at hSw); go_simp; try with_reducible rfl))
              try simp only [Act.put, List.getElem_toArray, List.getElem_cons_succ, List.getElem_cons_zero, List.setIfInBounds_toArray, List.set_cons_zero, List.set_cons_succ]
              refine wpAnyH_take (i := 8) (v := ?_) rfl (by kernel_rfl) (by kernel_rfl) (by kernel_rfl) (fun _ _ _ h => h) (Or.inl ⟨by kernel_rfl, ?_⟩) (by assumption) ?_
              rotate_left
              · (intro w hSw; ((try dsimp only at hSw); go_simp; try with_reducible rfl))
              try simp only [Act.put, List.getElem_toArray, List.getElem_cons_succ, List.getElem_cons_zero, List.setIfInBounds_toArray, List.set_cons_zero, List.set_cons_succ]
              refine wpAnyH_ready (rs := [3]) (by kernel_rfl) (by simp) (AllReadyH.cons rfl (fun K hK => ?_) AllReadyH.nil)
              go_simp
              refine hK.out _ _ hHeld (fun hH => ?_)
              clear hHeld hK
              try simp only [Act.put, List.getElem_toArray, List.getElem_cons_succ, List.getElem_cons_zero, List.setIfInBounds_toArray, List.set_cons_zero, List.set_cons_succ]
              refine wpAnyH_take (i := 9) (v := ?_) rfl (by kernel_rfl) (by kernel_rfl) (by kernel_rfl) (fun _ _ _ h => h) (Or.inl ⟨by kernel_rfl, ?_⟩) (by assumption) ?_
              rotate_left
              · (intro w hSw; ((try dsimp only at hSw); go_simp; try with_reducible rfl))
              try simp only [Act.put, List.getElem_toArray, List.getElem_cons_succ, List.getElem_cons_zero, List.setIfInBounds_toArray, List.set_cons_zero, List.set_cons_succ]
              refine wpAnyH_take (i := 10) (v := ?_) rfl (by kernel_rfl) (by kernel_rfl) (by kernel_rfl) (fun _ _ _ h => h) (Or.inl ⟨by kernel_rfl, ?_⟩) (by assumption) ?_
              rotate_left
              · (intro w hSw; ((try dsimp only at hSw); go_simp; try with_reducible rfl))
              try simp only [Act.put, List.getElem_toArray, List.getElem_cons_succ, List.getElem_cons_zero, List.setIfInBounds_toArray, List.set_cons_zero, List.set_cons_succ]
              have U7 : Hid (UsedIs ((wl.setCell ⟨U, w, none⟩ (.int .u64 (tu + sz))).drew) U ((usedOf zs all (mv.take i)).set w (tu + sz))) := Lib.hid (UsedIs.set (w := wl) UU.out w (tu + sz))
              have B7 : Hid (Below w4.heap.size w4 ((wl.setCell ⟨U, w, none⟩ (.int .u64 (tu + sz))).drew)) := Lib.hid (below_drew (BL.out.setCell HU.out _))
              have gU : gpb ≠ U := by
                obtain ⟨_, cur, hc⟩ := own_row P4.out rfl
                exact Nat.ne_of_lt (Nat.lt_of_lt_of_le (Array.getElem?_eq_some_iff.1 hc).1 HU.out)
              have cs7 : ((wl.setCell ⟨U, w, none⟩ (.int .u64 (tu + sz))).drew).cell? ⟨gpb, ip * 34 + 32, none⟩ = some (.int .u64 sz) := cell_set cs32 (by simp only [ne_eq, Addr.mk.injEq, not_and]; exact fun e => absurd e.symm gU) _
              refine wpAnyH_ready (rs := [11]) (by kernel_rfl) (by simp) (AllReadyH.cons rfl (fun K hK => ?_) AllReadyH.nil)
              go_simp
              refine hK.out _ _ cs7 (fun hHeld => ?_)
              clear hH hK
              try simp only [Act.put, List.getElem_toArray, List.getElem_cons_succ, List.getElem_cons_zero, List.setIfInBounds_toArray, List.set_cons_zero, List.set_cons_succ]
              refine wpAnyH_done (by kernel_rfl) ?_ _
              generalize hw7 : (wl.setCell ⟨U, w, none⟩ (.int .u64 (tu + sz))).drew = w7 at U7 B7 ⊢
              clear hw7 cs7 hHeld ct cb cs32 cs33 cu fu gU ws RD
              obtain ⟨_, e7, _, lp7, _⟩ := own_elem pcells_len (by decide) (own_later P4.out B7.out) HPI.out
              cases e7
              have c33 := (pk_lies lp7).2.2
              rw [← HNP.out, ← HPA.out] at c33
              have RD7 : Hid (IntsRd w7 pa p.hs) := Lib.hid (by rw [HPA.out]; exact IntsIs.rd (own_later (H4.out p (List.mem_of_getElem? HPI.out)) B7.out))
              have U8 : Hid (UsedIs w7 U (usedOf zs all (mv.take (i + 1)))) := Lib.hid (by rw [U6.out]; exact U7.out)
              clear lp7 U7
              go_wp2_with fail
              go_loopg [27] np (fun k s27 wq => ∃ j : Nat, j ≤ np ∧ k = np - j ∧ s27 = .int .i64 j ∧ wq = w7)
              case atStart => exact ⟨0, Nat.zero_le _, rfl, rfl, rfl⟩
              case round =>
                obtain ⟨j, hj, hkj, rfl, h7⟩ := hrel
                obtain rfl : w7 = wr := h7.symm
                have HKJ := Lib.hid hkj
                clear h7 hkj
                have j0 : (0 : Int) ≤ (j : Int) := Int.natCast_nonneg _
                by_cases hlj : j < np
                · obtain ⟨y, hy⟩ : ∃ y, p.hs[j]? = some y := ⟨p.hs[j]'(by rw [← HNP.out]; exact hlj), List.getElem?_eq_getElem _⟩
                  obtain ⟨bh, oh, e8, _, ch8⟩ := RD7.out j y hy
                  subst e8
                  have hyw : (y == (w : Int)) = false := by
                    have : y ≠ (w : Int) := fun e => NO.out (e ▸ List.mem_of_getElem? hy)
                    simpa using this
                  have hyn : ¬ y = (w : Int) := by simpa using hyw
                  have j1 : (j : Int) < (np : Int) := by omega
                  clear hy
                  go_wp2
                  go_roundg (np - (j + 1))
                  case measure => rw [HKJ.out]; omega
                  case rel => exact ⟨j + 1, by omega, rfl, by go_num, rfl⟩
                · obtain rfl : j = np := by omega
                  clear hlj
                  go_wp2_with fail
                  go_loopg [28] i (fun k s28 wq => ∃ (y q : Nat), y ≤ i ∧ k = i - y ∧ s28 = .int .i64 y ∧ wq = w7.drewN q)
                  case atStart => exact ⟨0, 0, Nat.zero_le _, rfl, rfl, rfl⟩
                  case round =>
                    obtain ⟨y, q, hy, hky, rfl, rfl⟩ := hrel
                    have HKY := Lib.hid hky
                    clear hky
                    have y0' : (0 : Int) ≤ (y : Int) := Int.natCast_nonneg _
                    by_cases hly : y < i
                    · obtain ⟨x2, hx2⟩ : ∃ x2, mv[y]? = some x2 := ⟨mv[y]'(by rw [← HNM.out]; omega), List.getElem?_eq_getElem _⟩
                      obtain ⟨_, e9, _, l9, _⟩ := own_elem mcells_len (by decide) (own_later OM.out B7.out) (by exact hx2)
                      cases e9
                      obtain ⟨_, e10, _, l10, _⟩ := own_elem mcells_len (by decide) (own_later OM.out B7.out) (by exact HX.out)
                      cases e10
                      have hne : x2 ≠ x := fun e => by
                        obtain ⟨h1, h2⟩ := List.getElem?_eq_some_iff.1 hx2
                        obtain ⟨h3, h4⟩ := List.getElem?_eq_some_iff.1 HX.out
                        have := (List.pairwise_iff_getElem.1 (List.nodup_iff_pairwise_ne.1 MF.out.once)) y i h1 h3 hly
                        rw [h2, h4] at this
                        exact this e
                      have hlen : ∀ x ∈ mv, x.pack.length = 32 := fun x hx => by
                        obtain ⟨i, w, p, _, _, h, _⟩ := MF.out.each x hx
                        rw [h]; exact idOne_len _
                      have EQ := eql_mv_no (hlen x2 (List.mem_of_getElem? hx2)) (hlen x (List.mem_of_getElem? HX.out)) hne
                      have L9 := Lib.hid l9
                      have L10 := Lib.hid l10
                      have y1 : (y : Int) < (nm : Int) := by omega
                      have y2 : (y : Int) < (i : Int) := by omega
                      clear hx2 l9 l10 hne hlen
                      go_wp2_with fail
                      refine wp_region_quiet_lit (by kernel_rfl) (by kernel_rfl) ?_
                      iterate 3 go_big_quiet_step (fail)
                      refine wpQuiet_load (by kernel_rfl) 39 (.tmp 187) rfl gmb (y * 33) rfl (mcells x2).toArray _ (lies_drewN (lies_drewN L9.out _ ⟨q, rfl⟩)) Try.underlying39 rfl (sizem x2) ?_
                      try simp only [Act.put, List.setIfInBounds_toArray, List.set_cons_zero, List.set_cons_succ]
                      iterate 3 go_big_quiet_step (fail)
                      refine wpQuiet_load (by kernel_rfl) 39 (.tmp 191) rfl gmb (i * 33) rfl (mcells x).toArray _ (lies_drewN (lies_drewN L10.out _ ⟨q, rfl⟩)) Try.underlying39 rfl (sizem x) ?_
                      try simp only [Act.put, List.setIfInBounds_toArray, List.set_cons_zero, List.set_cons_succ]
                      repeat go_big_quiet_step (fail)
                      refine wpQuiet_nil ?_
                      intro _ hw9
                      obtain ⟨nq, hw9⟩ := hw9
                      subst hw9
                      go_wp2
                      go_roundg (i - (y + 1))
                      case measure => rw [HKY.out]; omega
                      case rel => exact ⟨y + 1, q + nq, by omega, rfl, by go_num, rfl⟩
                    · obtain rfl : y = i := by omega
                      clear hly
                      go_wp2
                      go_roundg (nm - (y + 1))
                      case measure => rw [HKL.out]; omega
                      case rel => exact ⟨y + 1, by omega, rfl, by go_num, U8.out, B7.out.trans (below_drewN (Below.refl _ _) _)⟩
            · obtain rfl : nm = i := by omega
              have hU9 : UsedIs wl U (usedOf zs all mv) := by have := UU.out; rw [HNM.out, List.take_length] at this; exact this
              have U9 := Lib.hid hU9
              clear hU9 hlt
              go_wp2_with fail
              go_loopg [29] all (fun k s29 wq => ∃ j q : Nat, j ≤ all ∧ k = all - j ∧ s29 = .int .i64 j ∧ wq = wl.drewN q)
              case atStart => exact ⟨0, 0, Nat.zero_le _, rfl, rfl, rfl⟩
              case round =>
                obtain ⟨j, q, hj, hkj, rfl, rfl⟩ := hrel
                have HKJ := Lib.hid hkj
                clear hkj
                have j0 : (0 : Int) ≤ (j : Int) := Int.natCast_nonneg _
                by_cases hlj : j < all
                · obtain ⟨cu, _⟩ := U9.out.at (used_get mv hlj)
                  obtain ⟨_, e9, _, lf, _⟩ := own_elem fcells_len (by decide) (own_later DF.out BL.out) (frOf_get (rsOf_get (tight := tight) (S := S) hlj))
                  subst e9
                  have cf1 := lies_one lf (j := 1) (v := .int .u64 (if tight = true then (j : Int) * 7 else S)) rfl
                  have hle := MF.out.room j hlj
                  rw [← SS.out] at hle
                  generalize (if tight = true then (j : Int) * 7 else S) = rm at *
                  generalize takenBy (szOf zs) mv (j : Int) = tk at *
                  have hno : ¬ rm < tk := by omega
                  have j1 : (j : Int) < (all : Int) := by omega
                  clear lf hle
                  go_wp2_with fail
                  refine wp_region_quiet_lit (by kernel_rfl) (by kernel_rfl) ?_
                  repeat go_big_quiet_step (fail)
                  refine wpQuiet_nil ?_
                  intro _ hw9
                  obtain ⟨nq, hw9⟩ := hw9
                  subst hw9
                  go_wp2
                  go_roundg (all - (j + 1))
                  case measure => rw [HKJ.out]; omega
                  case rel => exact ⟨j + 1, q + nq, by omega, rfl, by go_num, rfl⟩
                · obtain rfl : j = all := by omega
                  clear hlj
                  have hml50 : nm ≤ 50 := by rw [HNM.out]; exact mv_len MF.out (by omega) (by rw [HPL.out]; omega)
                  have MOK := Lib.hid (mv_ok MF.out al1)
                  have bq := below_drewN (Below.refl wl.heap.size wl) q
                  have PQ := Lib.hid (own_later (own_later P4.out BL.out) bq)
                  have BQ := Lib.hid (B4.out.trans ((BL.out.trans (bq.mono BL.out.size)).mono B4.out.size))
                  have OKQ : Hid (∀ p ∈ ps, PkOk (wl.drewN q) p) := Lib.hid (fun p hp => ⟨(OKS.out p hp).id, IntsIs.rd (own_later (own_later (H4.out p hp) BL.out) bq), (OKS.out p hp).few, (OKS.out p hp).wf⟩)
                  have AF := after_any (c := cp) (cm := cm) (rowAt_own PQ.out) (by rw [HPL.out]; omega) OKQ.out (rowAt_own (own_later (own_later OM.out BL.out) bq)) (by rw [← HNM.out]; omega) MOK.out
                  rw [HPL.out, ← HNM.out] at AF
                  have AF' := Lib.hid AF
                  clear AF bq
                  go_wp2_with fail
                  refine AF'.out.mono ?_
                  rintro e w9 ⟨v9, qs, rfl, hqs, hP9, hH9, b9⟩
                  obtain ⟨x9, c9, rfl⟩ := own_slice hP9
                  have hql : qs.length = m := by have := congrArg List.length hqs; simpa [afts_len] using this
                  have hqs' : qs.map says = afts mv ps ps.length := by rw [HPL.out]; exact hqs
                  obtain ⟨l1, l2⟩ := MF.out.lack qs hqs'
                  have OK9 := Lib.hid (after_ok hqs' hH9 (fun p hp => ⟨(OKQ.out p hp).id, by
                    obtain ⟨_, _, _, _, e⟩ := GET.out p hp
                    rw [e]; have := rmH_len held j (by assumption) 3; omega, (OKQ.out p hp).wf⟩) (by rw [← HNM.out]; exact hml50) MOK.out)
                  have hP9' := hP9
                  unfold PacksIs at hP9'
                  rw [hql] at hP9' ⊢
                  have lbb := lack_le (k := (K : Int)) (by omega) (by omega) ps
                  rw [HPL.out] at lbb
                  obtain ⟨lb, hlb⟩ : ∃ lb, lb = lackOf (K : Int) ps := ⟨_, rfl⟩
                  rw [← hlb, ← HNM.out] at l1
                  rw [← hlb] at lbb
                  have KA : Hid (∀ W', Below w9.heap.size w9 W' → Calls Try.prog 12 #[.slice x9 m c9, .int .i64 (K : Int)] W' fun e w' => e = .returned (.int .i64 (lb - (nm : Int))) ∧ Below W'.heap.size W' w') := Lib.hid (fun W' hb => by
                    have h1 := lack_any (w := W') (c := c9) (l := qs) (k := (K : Int)) ((rowAt_own hP9').later hb) (by rw [hql]; omega) (fun q hq => (OK9.out q hq).later hb) (by omega) (by omega)
                    rw [l1, hql] at h1
                    exact h1)
                  have KL : Hid (∀ W', Below w9.heap.size w9 W' → Calls Try.prog 12 #[.slice xp m cp, .int .i64 (K : Int)] W' fun e w' => e = .returned (.int .i64 lb) ∧ Below W'.heap.size W' w') := Lib.hid (fun W' hb => by
                    have h1 := lack_any (w := W') (c := cp) (l := ps) (k := (K : Int)) ((rowAt_own (own_later PQ.out b9)).later hb) (by rw [HPL.out]; omega) (fun p hp => ((OKQ.out p hp).later b9).later hb) (by omega) (by omega)
                    rw [← hlb, HPL.out] at h1
                    exact h1)
                  have L2 := Lib.hid (fun (ht : tight = false) (hk : K ≤ j) => (l1.symm.trans (l2 ht hk) : lb - (nm : Int) = 0))
                  have B9 := Lib.hid (BX.out.trans ((BQ.out.trans (b9.mono BQ.out.size)).mono BX.out.size))
                  obtain ⟨q1, q2⟩ := lbb
                  have q3 : (0 : Int) ≤ (nm : Int) := Int.natCast_nonneg _
                  have q4 : (nm : Int) ≤ 50 := by omega
                  clear hqs hP9 hP9' hH9 hql hqs' l1 l2 hlb AF' b9
                  go_wp2_with fail
                  refine (KA.out w9 (Below.refl _ _)).mono ?_
                  rintro e u1 ⟨rfl, c1⟩
                  have C1 := Lib.hid c1
                  clear c1
                  go_wp2_with fail
                  refine (KL.out u1 C1.out).mono ?_
                  rintro e u2 ⟨rfl, c2⟩
                  have C2 := Lib.hid (C1.out.trans (c2.mono C1.out.size))
                  clear c2
                  have CC := Lib.hid (B9.out.trans (C2.out.mono B9.out.size))
                  have k0' : (0 : Int) ≤ (K : Int) := Int.natCast_nonneg _
                  cases tight
                  · by_cases hKj : K ≤ j
                    · have z0 := L2.out rfl hKj
                      have d1 : ¬ (j : Int) < (K : Int) := by omega
                      go_wp2_with fail
                      refine (KA.out u2 C2.out).mono ?_
                      rintro e u3 ⟨rfl, c3⟩
                      have C3 := Lib.hid (CC.out.trans (c3.mono CC.out.size))
                      clear c3
                      go_wp2
                      go_ret
                      exact ⟨rfl, C3.out⟩
                    · have d1 : (j : Int) < (K : Int) := by omega
                      go_wp2
                      go_ret
                      exact ⟨rfl, CC.out⟩
                  · go_wp2
                    go_ret
                    exact ⟨rfl, CC.out⟩
end Go.Proofs.Ytpmkgnnpngbfmaa
