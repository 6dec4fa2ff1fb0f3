/- After's law, in plain words; packs and moves that came in; few. -/
import Derived.Test.YtpmkgnnpngbfmaaRp14
import Derived.Test.YtpmkgnnpngbfmaaSized
import Derived.Test.YtpmkgnnpngbfmaaQuiet
namespace Go.Proofs.Ytpmkgnnpngbfmaa
open Go.RowKit
open Extern.Stop (cell)

/-! ### what After tells -/
theorem keysOf_mem {s : List (Int × Bool)} {x : Int} : x ∈ keysOf s ↔ x ∈ s.map Prod.fst := (List.mergeSort_perm _ _).mem_iff
theorem keysOf_rise {s : List (Int × Bool)} (h : Apart s) : (keysOf s).Pairwise (· < ·) := by
  have h1 : (keysOf s).Pairwise fun a b => leI a b = true := List.pairwise_mergeSort (le := leI) (by
    intro a b c hab hbc
    simp only [leI, decide_eq_true_eq] at *
    omega) (by
    intro a b
    simp only [leI, Bool.or_eq_true, decide_eq_true_eq]
    omega) _
  have h2 : (keysOf s).Nodup := (List.mergeSort_perm _ _).nodup_iff.2 h
  have h3 : (keysOf s).Pairwise fun a b => leI a b = true ∧ a ≠ b := List.Pairwise.and h1 h2
  exact h3.imp fun {a b} ⟨x, y⟩ => by
    simp only [leI, decide_eq_true_eq] at x
    omega
theorem keysOf_lt {s : List (Int × Bool)} (h : Apart s) {j : Nat} {a b : Int} (ha : (keysOf s)[j]? = some a) (hb : (keysOf s)[j + 1]? = some b) : a < b := by
  obtain ⟨h1, e1⟩ := List.getElem?_eq_some_iff.1 ha
  obtain ⟨h2, e2⟩ := List.getElem?_eq_some_iff.1 hb
  have := (List.pairwise_iff_getElem.1 (keysOf_rise h)) j (j + 1) h1 h2 (by omega)
  rw [e1, e2] at this
  exact this
theorem behind_apart (m : List Mv) (sn : Bool) (p : Pk) : Apart (behind m sn p) := by
  have h0 : Apart (hset p.hs) := hput_apart (m := []) List.Pairwise.nil p.hs
  unfold behind
  split
  · exact h0
  · exact hput_apart h0 _
theorem mem_keys_aget {α β : Type} [DecidableEq α] {l : List (α × β)} {a : α} : a ∈ l.map Prod.fst ↔ (aget l a).isSome = true := by
  constructor
  · intro h
    obtain ⟨p, hp, rfl⟩ := List.mem_map.1 h
    cases hg : aget l p.1 with
    | none => exact absurd rfl ((aget_none_iff _ _).1 hg p hp)
    | some v => rfl
  · intro h
    obtain ⟨v, hv⟩ := Option.isSome_iff_exists.1 h
    exact List.mem_map.2 ⟨_, aget_mem hv, rfl⟩
theorem behind_mem {m : List Mv} {sn : Bool} {p : Pk} {x : Int} : x ∈ (behind m sn p).map Prod.fst ↔ x ∈ p.hs ∨ (sn = false ∧ x ∈ toOf m p.id) := by
  unfold behind
  cases sn
  · rw [if_neg (by simp), mem_keys_aget, hput_get]
    by_cases h : x ∈ toOf m p.id
    · simp [h]
    · rw [if_neg h, ← mem_keys_aget, hset_mem]
      simp [h]
  · rw [if_pos rfl, hset_mem]
    simp
theorem toOf_any {m : List Mv} {id : List UInt8} {x : Int} : x ∈ toOf m id ↔ (m.any fun y => y.pack == id && y.to == x) = true := by
  unfold toOf
  rw [List.any_eq_true, List.mem_map]
  constructor
  · rintro ⟨y, hy, rfl⟩
    obtain ⟨h1, h2⟩ := List.mem_filter.1 hy
    exact ⟨y, h1, by simpa using h2⟩
  · rintro ⟨y, hy, h⟩
    simp only [Bool.and_eq_true, beq_iff_eq] at h
    exact ⟨y, List.mem_filter.2 ⟨hy, by simpa using h.1⟩, h.2⟩
/-- Is a pack the first of its id? -/
def firstB (l : List Pk) (id : List UInt8) : Bool := l.all fun x => !(x.id == id)
theorem firstB_snoc (l : List Pk) (x : Pk) (id : List UInt8) : firstB (l ++ [x]) id = (firstB l id && !(x.id == id)) := by simp [firstB]
theorem firstB_seen (l : List Pk) (id : List UInt8) : firstB l id = !(aget (seenIds l) id).isSome := by
  rw [seenIds_get]
  unfold firstB
  by_cases h : id ∈ l.map (·.id)
  · rw [if_pos h]
    obtain ⟨y, hy, rfl⟩ := List.mem_map.1 h
    simp only [Option.isSome_some, Bool.not_true]
    rw [List.all_eq_false]
    exact ⟨y, hy, by simp⟩
  · rw [if_neg h]
    simp only [Option.isSome_none, Bool.not_false]
    rw [List.all_eq_true]
    intro y hy
    have : y.id ≠ id := fun e => h (List.mem_map.2 ⟨y, hy, e⟩)
    simpa using this
/-- What is so of a pack that After tells. -/
structure AftOk (m : List Mv) (first : Bool) (p : Pk) (hs : List Int) : Prop where
  lt : ∀ (j : Nat) (a b : Int), hs[j]? = some a → hs[j + 1]? = some b → a < b
  of : ∀ x ∈ hs, (decide (x ∈ p.hs) || (first && m.any fun y => y.pack == p.id && y.to == x)) = true
  old : ∀ x ∈ p.hs, x ∈ hs
  new : first = true → ∀ y ∈ m, y.pack = p.id → y.to ∈ hs
theorem aft_ok {m : List Mv} {l : List Pk} {i : Nat} {p : Pk} (hp : l[i]? = some p) : ∃ hs, aft m l i = (p.id, p.size, hs) ∧ AftOk m (firstB (l.take i) p.id) p hs := by
  have e : l.getD i default = p := by rw [List.getD_eq_getElem?_getD, hp]; rfl
  refine ⟨keysOf (behind m (aget (seenIds (l.take i)) p.id).isSome p), by unfold aft; rw [e], ?_, ?_, ?_, ?_⟩
  · exact fun j a b ha hb => keysOf_lt (behind_apart _ _ _) ha hb
  · intro x hx
    rw [keysOf_mem, behind_mem, toOf_any] at hx
    rw [firstB_seen]
    rcases hx with hx | ⟨h1, h2⟩
    · rw [decide_eq_true hx]; rfl
    · rw [h1, h2]; simp
  · intro x hx
    rw [keysOf_mem, behind_mem]
    exact .inl hx
  · intro hf y hy hyp
    rw [firstB_seen] at hf
    rw [keysOf_mem, behind_mem, toOf_any, List.any_eq_true]
    exact .inr ⟨by simpa using hf, y, hy, by simp [hyp]⟩
theorem afts_get {m : List Mv} {l : List Pk} {n i : Nat} (h : i < n) : (afts m l n)[i]? = some (aft m l i) := by
  unfold afts
  rw [List.getElem?_map, List.getElem?_range h]
  rfl

/-! ### what came in -/
theorem rz_id {w : World} {cs : List Value} (h : RZ Try.prog w 37 cs) : ∃ x : List UInt8, x.length = 32 ∧ cs = idCells x := by
  obtain ⟨hl, hi⟩ := h.array Try.underlying37
  rw [cells_id] at hl
  rw [cells_u8] at hi
  obtain ⟨x, hx, hx2⟩ := list_of (Q := fun i (b : UInt8) => (cs.drop (i * 1)).take 1 = [cell b]) 32 (fun i hi' => by
    obtain ⟨z, h1, h2⟩ := (hi i hi').int Try.underlying5
    have hz : 0 ≤ z ∧ z ≤ 255 := by simpa [Lit.wf, IntKind.min, IntKind.max, IntKind.signed, IntKind.bits] using h2
    have e : (((UInt8.ofNat z.toNat).toNat : Nat) : Int) = z := by
      simp only [UInt8.toNat_ofNat']
      omega
    refine ⟨UInt8.ofNat z.toNat, ?_⟩
    rw [h1]
    show [Value.int .u8 z] = [Value.int .u8 (((UInt8.ofNat z.toNat).toNat : Nat) : Int)]
    rw [e])
  refine ⟨x, hx, ?_⟩
  rw [idCells_of hx]
  apply List.ext_getElem?
  intro i
  by_cases hi' : i < 32
  · have hxi : x[i]? = some (x[i]'(by omega)) := List.getElem?_eq_getElem _
    have h1 := hx2 i _ hxi
    have h2 : cs[i]? = some (cell (x[i]'(by omega))) := by
      have := congrArg (fun l => l[0]?) h1
      simpa [List.getElem?_take, List.getElem?_drop] using this
    rw [h2, List.getElem?_map, hxi]
    rfl
  · rw [List.getElem?_eq_none (by omega), List.getElem?_eq_none (by simp; omega)]
theorem cells_pk : Try.prog.cellsOf 46 = 34 := by kernel_rfl
theorem cells_mv : Try.prog.cellsOf 39 = 33 := by kernel_rfl
theorem cells_fr : Try.prog.cellsOf 51 = 2 := by kernel_rfl
theorem cells_int : Try.prog.cellsOf 3 = 1 := by kernel_rfl
theorem cells_u64 : Try.prog.cellsOf 43 = 1 := by kernel_rfl
theorem cells_ints : Try.prog.cellsOf 44 = 1 := by kernel_rfl
theorem bytes_int : Try.prog.bytesOf 3 = 8 := by kernel_rfl
theorem rd_ints {w : World} {a : Option Addr} {zs : List Int} (h : RowAt w a (zs.map (Value.int .i64))) : IntsRd w a zs := fun j z hj => by
  obtain ⟨b, off, h1, h2⟩ := h j (.int .i64 z) (by simp [hj])
  exact ⟨b, off, h1, World.block_lt_of_cell? w ⟨b, off + j, none⟩ h2, h2⟩
/-- A pack that came in. -/
structure PkRaw (w : World) (p : Pk) : Prop where
  id : p.id.length = 32
  rd : IntsRd w p.ad p.hs
  big : p.hs.length * 8 ≤ 140737488351232
  wf : ∀ x ∈ p.hs, (Lit.int .i64 x).wf = true
  size : 0 ≤ p.size ∧ p.size ≤ 18446744073709551615
theorem u64_in {x : Int} (h : (Lit.int .u64 x).wf = true) : 0 ≤ x ∧ x ≤ 18446744073709551615 := by
  simpa [Lit.wf, IntKind.min, IntKind.max, IntKind.signed, IntKind.bits] using h
theorem three_parts {cs : List Value} (h : cs.length = 34) : cs = (cs.drop 0).take 32 ++ (cs.drop 32).take 1 ++ (cs.drop 33).take 1 := by
  apply List.ext_getElem?
  intro i
  by_cases h1 : i < 32
  · rw [List.append_assoc, List.getElem?_append_left (by simp; omega)]
    simp [h1]
  · rw [List.append_assoc, List.getElem?_append_right (by simp; omega)]
    have l0 : ((cs.drop 0).take 32).length = 32 := by simp; omega
    rw [l0]
    by_cases h2 : i = 32
    · subst h2
      rw [List.getElem?_append_left (by simp; omega)]
      simp
    · by_cases h3 : i = 33
      · subst h3
        rw [List.getElem?_append_right (by simp; omega)]
        have : ((cs.drop 32).take 1).length = 1 := by simp; omega
        rw [this]
        simp
      · rw [List.getElem?_eq_none (by omega), List.getElem?_eq_none (by simp; omega)]
theorem two_parts {cs : List Value} (h : cs.length = 33) : cs = (cs.drop 0).take 32 ++ (cs.drop 32).take 1 := by
  rw [List.drop_zero, List.take_of_length_le (l := cs.drop 32) (by simp; omega), List.take_append_drop]
theorem rz_pk {w : World} {cs : List Value} (h : RZ Try.prog w 46 cs) : ∃ p : Pk, cs = pcells p ∧ PkRaw w p := by
  obtain ⟨hl, hf⟩ := h.struct Try.underlying46
  rw [cells_pk] at hl
  have h0 : RZ Try.prog w 37 ((cs.drop 0).take (Try.prog.cellsOf 37)) := hf 0 _ rfl
  rw [cells_id] at h0
  have h1 : RZ Try.prog w 43 ((cs.drop 32).take (Try.prog.cellsOf 43)) := hf 1 _ rfl
  rw [cells_u64] at h1
  have h2 : RZ Try.prog w 44 ((cs.drop 33).take (Try.prog.cellsOf 44)) := hf 2 _ rfl
  rw [cells_ints] at h2
  obtain ⟨id, hid, e0⟩ := rz_id h0
  obtain ⟨s, e1, hs⟩ := h1.int Try.underlying43
  obtain ⟨ad, zs, cap, e2, hr, hw, hle, _, hb, _⟩ := h2.ints Try.underlying44 Try.underlying3 cells_int
  rw [bytes_int] at hb
  refine ⟨⟨id, s, zs, ad, cap⟩, ?_, hid, rd_ints hr, ?_, hw, u64_in hs⟩
  · rw [three_parts hl, e0, e1, e2]
    simp [pcells]
  · exact Nat.le_trans (Nat.mul_le_mul_right 8 hle) hb
theorem rz_mv {w : World} {cs : List Value} (h : RZ Try.prog w 39 cs) : ∃ x : Mv, cs = mcells x ∧ MvOk x := by
  obtain ⟨hl, hf⟩ := h.struct Try.underlying39
  rw [cells_mv] at hl
  have h0 : RZ Try.prog w 37 ((cs.drop 0).take (Try.prog.cellsOf 37)) := hf 0 _ rfl
  rw [cells_id] at h0
  have h1 : RZ Try.prog w 3 ((cs.drop 32).take (Try.prog.cellsOf 3)) := hf 1 _ rfl
  rw [cells_int] at h1
  obtain ⟨id, hid, e0⟩ := rz_id h0
  obtain ⟨s, e1, hs⟩ := h1.int Try.underlying3
  refine ⟨⟨id, s⟩, ?_, hid, hs⟩
  rw [two_parts hl, e0, e1]
  rfl

/-! ### few -/
def sumHs (l : List Pk) : Nat := (l.map fun p => p.hs.length).sum
theorem sumHs_snoc (l : List Pk) (p : Pk) : sumHs (l ++ [p]) = sumHs l + p.hs.length := by simp [sumHs]
theorem sumHs_le {l : List Pk} (h : ∀ p ∈ l, p.hs.length * 8 ≤ 140737488351232) : sumHs l ≤ 17592186043904 * l.length := by
  induction l with
  | nil => simp [sumHs]
  | cons p r ih =>
    have h1 := ih fun q hq => h q (by simp [hq])
    have h2 := h p (by simp)
    have e : sumHs (p :: r) = p.hs.length + sumHs r := by simp [sumHs]
    rw [e, List.length_cons]
    omega
theorem sumHs_mem {l : List Pk} {p : Pk} (h : p ∈ l) : p.hs.length ≤ sumHs l := by
  induction l with
  | nil => simp at h
  | cons q r ih =>
    have e : sumHs (q :: r) = q.hs.length + sumHs r := by simp [sumHs]
    rw [e]
    rcases List.mem_cons.1 h with rfl | h
    · omega
    · have := ih h; omega
def fewB (l : List Pk) (m : Nat) : Bool := decide (l.length ≤ 12) && decide (sumHs l ≤ 60) && decide (m ≤ 30)
set_option maxHeartbeats 1000000 in
theorem few_any {w : World} {ad adf : Option Addr} {c cf m : Nat} {l : List Pk} (hrow : RowAt w ad (l.flatMap pcells)) (hl : l.length ≤ 9223372036854775807) (hok : ∀ p ∈ l, PkRaw w p) (hm : m ≤ 9223372036854775807) :
    Calls Try.prog 8 #[.slice ad l.length c, .slice adf m cf] w fun e w' => e = .returned (.bool (fewB l m)) ∧ w' = w := by
  have R := Lib.hid hrow
  have OK := Lib.hid hok
  obtain ⟨n, hn⟩ : ∃ n, n = l.length := ⟨_, rfl⟩
  have HN := Lib.hid hn
  rw [← hn] at hl ⊢
  clear hrow hok hn
  go_enter Try.func8, Try.ntmps8
  go_wp2_with fail
  go_loopg [5, 6] n (fun k s5 s6 wr => ∃ (j : Nat) (z : Int), j ≤ n ∧ k = n - j ∧ s6 = .int .i64 j ∧ s5 = .int .i64 z ∧ (j ≤ 12 → z = sumHs (l.take j)) ∧ wr = w)
  case atStart => exact ⟨0, 0, Nat.zero_le _, rfl, rfl, rfl, fun _ => rfl, rfl⟩
  case round =>
    obtain ⟨j, z, hj, hk, rfl, rfl, hz, rfl⟩ := hrel
    have HK := Lib.hid hk
    have HZ := Lib.hid hz
    clear hk hz
    by_cases hlt : j < n
    · obtain ⟨p, hp⟩ : ∃ p, l[j]? = some p := ⟨l[j]'(by rw [← HN.out]; exact hlt), List.getElem?_eq_getElem _⟩
      obtain ⟨b, off, rfl, hbl, hlies⟩ := rowAt_elem pcells_len (by decide) R.out hp
      have hc := (pk_lies hlies).2.2
      have HP := Lib.hid hp
      have PR := Lib.hid (OK.out p (List.mem_of_getElem? hp))
      have j0 : (0 : Int) ≤ (j : Int) := Int.natCast_nonneg _
      have j1 : (j : Int) < (n : Int) := by omega
      have hs := sumHs_le (l := l.take j) (fun q hq => (OK.out q (List.mem_of_mem_take hq)).big)
      rw [List.length_take] at hs
      have hpb := PR.out.big
      have hT : sumHs (l.take (j + 1)) = sumHs (l.take j) + p.hs.length := by
        rw [List.take_add_one, HP.out]
        exact sumHs_snoc _ _
      obtain ⟨q, hq⟩ : ∃ q, q = p.hs.length := ⟨_, rfl⟩
      rw [← hq] at hc hpb hT
      have HT := Lib.hid hT
      clear hp hlies hq hT
      by_cases h12 : j < 12
      · have hz := HZ.out (by omega)
        have z0 : 0 ≤ z := by omega
        have z1 : z + (q : Int) ≤ 9223372036854775807 := by omega
        have q0 : (0 : Int) ≤ (q : Int) := Int.natCast_nonneg _
        have HZ2 := Lib.hid hz
        clear hz hs
        go_wp2
        go_roundg (n - (j + 1))
        case measure => rw [HK.out]; omega
        case rel => exact ⟨j + 1, z + q, by omega, rfl, by go_num, rfl, fun _ => by rw [HT.out, HZ2.out]; omega, rfl⟩
      · clear hs
        go_wp2
        go_roundg (n - (j + 1))
        case measure => rw [HK.out]; omega
        case rel => exact ⟨j + 1, _, by omega, rfl, by go_num, rfl, fun _ => by omega, rfl⟩
    · obtain rfl : j = n := by omega
      have m0 : (0 : Int) ≤ (m : Int) := Int.natCast_nonneg _
      by_cases h12 : j ≤ 12
      · have hz := HZ.out h12
        rw [HN.out, List.take_length] at hz
        subst hz
        have HZZ : Hid (decide ((sumHs l : Int) ≤ 60) = decide (sumHs l ≤ 60)) := Lib.hid (by by_cases h : sumHs l ≤ 60 <;> simp [h] <;> omega)
        have HD : Hid (decide (l.length ≤ 12) = true) := Lib.hid (by rw [← HN.out]; exact decide_eq_true h12)
        have d1 : (j : Int) ≤ 12 := by omega
        obtain ⟨s, hs⟩ : ∃ s, s = sumHs l := ⟨_, rfl⟩
        rw [← hs]
        have HS := Lib.hid hs
        clear hs hlt
        by_cases h60 : s ≤ 60
        · have d2 : (s : Int) ≤ 60 := by omega
          by_cases h30 : m ≤ 30
          · have d3 : (m : Int) ≤ 30 := by omega
            go_wp2
            go_ret
            exact ⟨by unfold fewB; rw [HD.out, ← HS.out, decide_eq_true h60, decide_eq_true h30]; rfl, rfl⟩
          · have d3 : ¬ (m : Int) ≤ 30 := by omega
            go_wp2
            go_ret
            exact ⟨by unfold fewB; rw [HD.out, ← HS.out, decide_eq_true h60, decide_eq_false h30]; rfl, rfl⟩
        · have d2 : ¬ (s : Int) ≤ 60 := by omega
          go_wp2
          go_ret
          exact ⟨by unfold fewB; rw [HD.out, ← HS.out, decide_eq_false h60]; rfl, rfl⟩
      · have d1 : ¬ (j : Int) ≤ 12 := by omega
        have HD : Hid (decide (l.length ≤ 12) = false) := Lib.hid (by rw [← HN.out]; exact decide_eq_false h12)
        go_wp2
        go_ret
        exact ⟨by unfold fewB; rw [HD.out]; rfl, rfl⟩
end Go.Proofs.Ytpmkgnnpngbfmaa
