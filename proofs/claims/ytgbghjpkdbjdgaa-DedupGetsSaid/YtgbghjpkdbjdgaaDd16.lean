/- Numbers and ids, read: plain; the reader's take, Uint, Id. -/
import Derived.Test.YtgbghjpkdbjdgaaDd15
import Derived.Laws.CopyOwn
namespace Go.Proofs.Ytgbghjpkdbjdgaa
open Go.RowKit
open Extern.Stop (cell)

/-- A number's bytes, read: the number, what is left, the error. -/
def getU : Nat → Nat → List UInt8 → Nat × List UInt8 × Int
  | _, _, [] => (0, [], 10)
  | i, acc, z :: r =>
    if (i = 9 ∧ 1 < z.toNat) ∨ (0 < i ∧ z.toNat = 0) then (0, r, 11)
    else if z.toNat < 128 then (acc + z.toNat * 128 ^ i, r, 0)
    else getU (i + 1) (acc + z.toNat % 128 * 128 ^ i) r
theorem byte_nat {n : Nat} (h : n < 256) : (UInt8.ofNat n).toNat = n := by
  rw [UInt8.toNat_ofNat', Nat.mod_eq_of_lt (by simpa using h)]
theorem pow128 {i : Nat} (h : i ≤ 9) : 128 ^ i ≤ 9223372036854775808 := Nat.le_trans (Nat.pow_le_pow_right (by decide) h) (by decide)
/-- What is left of the room. -/
theorem nine {n : Nat} (h : n * 128 ^ 9 < 18446744073709551616) : n < 2 := by
  have e : (128 : Nat) ^ 9 = 9223372036854775808 := by decide
  rw [e] at h
  omega
theorem step128 (n i : Nat) : n / 128 * 128 ^ (i + 1) + n % 128 * 128 ^ i = n * 128 ^ i := by
  rw [Nat.pow_succ, Nat.mul_comm (128 ^ i) 128, ← Nat.mul_assoc, ← Nat.add_mul]
  congr 1
  omega
theorem getU_put (r : List UInt8) : ∀ (f n i acc : Nat), n ≤ f → i ≤ 9 → n * 128 ^ i < 18446744073709551616 → (0 < i → n ≠ 0) → getU i acc (putU n ++ r) = (acc + n * 128 ^ i, r, 0)
  | f, n, i, acc, hf, hi, hn, h0 => by
    by_cases hs : n < 128
    · rw [putU_small hs, List.singleton_append, getU, byte_nat (by omega), if_neg, if_pos hs]
      rintro (⟨h1, h2⟩ | ⟨h1, h2⟩)
      · subst h1; have := nine hn; omega
      · exact h0 h1 h2
    · have hi9 : i ≠ 9 := by rintro rfl; have := nine hn; omega
      have st := step128 n i
      rw [putU_big hs, List.cons_append, getU, byte_nat (by omega), if_neg (by omega), if_neg (by omega)]
      cases f with
      | zero => omega
      | succ f =>
        rw [getU_put r f (n / 128) (i + 1) _ (by omega) (by omega) (by omega) (by omega)]
        have e : (n % 128 + 128) % 128 = n % 128 := by omega
        rw [e, Nat.add_assoc, Nat.add_comm (n % 128 * 128 ^ i), st]
theorem getU_cut : ∀ (f n i acc j : Nat), n ≤ f → i ≤ 9 → n * 128 ^ i < 18446744073709551616 → (0 < i → n ≠ 0) → j < (putU n).length → getU i acc ((putU n).take j) = (0, [], 10)
  | f, n, i, acc, j, hf, hi, hn, h0, hj => by
    by_cases hs : n < 128
    · rw [putU_small hs] at hj ⊢
      obtain rfl : j = 0 := by simpa using hj
      rfl
    · have hi9 : i ≠ 9 := by rintro rfl; have := nine hn; omega
      have st := step128 n i
      rw [putU_big hs] at hj ⊢
      cases j with
      | zero => rfl
      | succ j =>
        rw [List.take_succ_cons, getU, byte_nat (by omega), if_neg (by omega), if_neg (by omega)]
        cases f with
        | zero => omega
        | succ f => exact getU_cut f (n / 128) (i + 1) _ j (by omega) (by omega) (by omega) (by omega) (by simpa using hj)
theorem byte_back (z : UInt8) : UInt8.ofNat z.toNat = z := by
  apply UInt8.toNat_inj.1
  exact byte_nat z.toNat_lt
theorem getU_back : ∀ (zs : List UInt8) (i acc v : Nat) (r : List UInt8), i ≤ 9 → getU i acc zs = (v, r, 0) → ∃ m, v = acc + m * 128 ^ i ∧ zs = putU m ++ r ∧ (0 < i → m ≠ 0) ∧ m < 2 * 128 ^ (9 - i)
  | [], i, acc, v, r, hi, h => by simp [getU] at h
  | z :: zs, i, acc, v, r, hi, h => by
    have zl := z.toNat_lt
    rw [getU] at h
    split at h
    · simp at h
    · rename_i hc
      have h1 : i = 9 → z.toNat < 2 := fun e => by omega
      have h2 : 0 < i → z.toNat ≠ 0 := fun e => by omega
      split at h
      · rename_i hs
        simp only [Prod.mk.injEq] at h
        refine ⟨z.toNat, h.1.symm, ?_, h2, ?_⟩
        · rw [putU_small hs, byte_back, h.2.1]; rfl
        · by_cases hi9 : i = 9
          · subst hi9
            exact h1 rfl
          · have p8 : 128 ^ 1 ≤ 128 ^ (9 - i) := Nat.pow_le_pow_right (by decide) (by omega)
            omega
      · rename_i hs
        have hi9 : i ≠ 9 := by intro e; have := h1 e; omega
        obtain ⟨m, e1, e2, e3, e4⟩ := getU_back zs (i + 1) _ v r (by omega) h
        have m0 := e3 (by omega)
        have dd : (m * 128 + z.toNat % 128) / 128 = m := by omega
        have dm : (m * 128 + z.toNat % 128) % 128 = z.toNat % 128 := by omega
        have st := step128 (m * 128 + z.toNat % 128) i
        rw [dd, dm] at st
        refine ⟨m * 128 + z.toNat % 128, ?_, ?_, ?_, ?_⟩
        · rw [← st]; omega
        · rw [putU_big (by omega), dd, dm, e2]
          have e : z.toNat % 128 + 128 = z.toNat := by omega
          rw [e, byte_back]
          rfl
        · omega
        · have e : 9 - i = (9 - (i + 1)) + 1 := by omega
          rw [e, Nat.pow_succ]
          generalize 128 ^ (9 - (i + 1)) = X at e4 ⊢
          omega
theorem u64_small {n : Nat} (h : n < 18446744073709551616) : IntKind.u64.wrap (n : Int) = (n : Int) := by
  rw [IntKind.wrap_u64]
  omega
/-- One digit more. -/
theorem or_step {acc i zn : Nat} (ha : acc < 128 ^ i) (hi : i ≤ 9) (hz : zn < 256) (h9 : i = 9 → zn < 2) :
    bits .or .u64 (acc : Int) (IntKind.u64.wrap (IntKind.u64.wrap (bits .and .u8 (zn : Int) 127) * 2 ^ (7 * (i : Int)).toNat)) = ((acc + zn % 128 * 128 ^ i : Nat) : Int) := by
  have e1 : bits .and .u8 (zn : Int) 127 = ((zn % 128 : Nat) : Int) := by
    have h := u8_and_nat zn 127 hz (by decide)
    have h2 : zn &&& 127 = zn % 128 := Nat.and_two_pow_sub_one_eq_mod zn 7
    rw [h2] at h
    exact h
  have p9 := pow128 hi
  have e2 : (7 * (i : Int)).toNat = 7 * i := by omega
  have e3 : (2 : Nat) ^ (7 * i) = 128 ^ i := Nat.pow_mul 2 7 i
  have hb : zn % 128 * 128 ^ i < 18446744073709551616 := by
    by_cases hi9 : i = 9
    · have := h9 hi9
      have : zn % 128 * 128 ^ i ≤ 1 * 128 ^ i := Nat.mul_le_mul_right _ (by omega)
      omega
    · have p8 : 128 ^ i ≤ 72057594037927936 := Nat.le_trans (Nat.pow_le_pow_right (by decide) (show i ≤ 8 by omega)) (by decide)
      have : zn % 128 * 128 ^ i ≤ 127 * 72057594037927936 := Nat.mul_le_mul (by omega) p8
      omega
  have e4 : ((zn % 128 : Nat) : Int) * 2 ^ (7 * i) = ((zn % 128 * 128 ^ i : Nat) : Int) := by
    rw [← e3, Int.natCast_mul, Int.natCast_pow]
    rfl
  rw [e1, u64_small (by omega), e2, e4, u64_small hb, u64_or_nat _ _ (by omega) hb]
  congr 1
  have h := Nat.two_pow_add_eq_or_of_lt (i := 7 * i) (b := acc) (by rw [e3]; exact ha) (zn % 128)
  rw [e3, Nat.mul_comm] at h
  rw [Nat.or_comm, ← h, Nat.add_comm]
def uintOf (zs : List UInt8) (er : Int) : Nat × List UInt8 × Int := if er = 0 then getU 0 0 zs else (0, zs, er)
def idOf (zs : List UInt8) (er : Int) : Id32 × List UInt8 × Int :=
  if h : er = 0 ∧ 32 ≤ zs.length then (⟨zs.take 32, by rw [List.length_take]; omega⟩, zs.drop 32, 0) else (zid, zs, if er = 0 then 10 else er)
/-- The reader, wherever its bytes lie. -/
def Rdr (w : World) (x : Nat) (zs : List UInt8) (er : Int) : Prop := ∃ a c, RdIs w x a c zs er ∧ zs.length ≤ c ∧ ∀ ad, a = some ad → ad.block < x
theorem Rdr.lt {w : World} {x : Nat} {zs : List UInt8} {er : Int} (h : Rdr w x zs er) : x < w.heap.size := by
  obtain ⟨_, _, h, _, _⟩ := h
  exact h.lt
theorem Rdr.later {w w' : World} {x : Nat} {zs : List UInt8} {er : Int} (h : Rdr w x zs er) (hb : Below w.heap.size w w') : Rdr w' x zs er := by
  obtain ⟨a, c, h, hc, hx⟩ := h
  exact ⟨a, c, h.later hb, hc, hx⟩
theorem RdIs.far {w : World} {x : Nat} {a : Option Addr} {c : Nat} {zs : List UInt8} {er : Int} (h : RdIs w x a c zs er) {j b off : Nat} {z : UInt8} (hc : w.cell? ⟨b, off + j, none⟩ = some (cell z)) : b ≠ x := by
  rintro rfl
  rw [cell_of_row w b (off + j) _ _ (0, 0) h.box] at hc
  rcases hk : off + j with _ | _ | k
  · rw [hk] at hc; simp [cell] at hc
  · rw [hk] at hc; simp [cell] at hc
  · rw [hk] at hc; simp at hc
theorem newreader_rd {w : World} {a : Option Addr} {zs : List UInt8} {c : Nat} (h : BytesRd w a zs) (hs : zs.length ≤ 2097152) :
    Calls Try.prog 25 #[.slice a zs.length c] w fun e w' => ∃ x, e = .returned (.pointer (some ⟨x, 0, none⟩)) ∧ Rdr w' x zs 0 ∧ w.heap.size ≤ x ∧ Below w.heap.size w w' := by
  refine (newreader_any (c := c) h hs).mono ?_
  rintro e w' ⟨x, a', c', rfl, h1, h2, h3, h4, h5⟩
  exact ⟨x, rfl, ⟨a', c', h1, h2, h3⟩, h4, h5⟩
theorem fail_rd {w : World} {x : Nat} {zs : List UInt8} {er : Int} (h : Rdr w x zs er) (f : Int) :
    Calls Try.prog 44 #[.pointer (some ⟨x, 0, none⟩), .int .i64 f] w fun e w' => e = .returned (.tuple #[]) ∧ Rdr w' x zs (if er = 0 then f else er) ∧ w.grownBy w' (some x) := by
  obtain ⟨a, c, h, hc, hx⟩ := h
  refine (fail_any h f).mono ?_
  rintro e w' ⟨rfl, h1, h2⟩
  exact ⟨rfl, ⟨a, c, h1, hc, hx⟩, h2⟩
/-- take: whatever is left. -/
theorem take_nil {w : World} {x : Nat} {zs : List UInt8} {er : Int} (h : Rdr w x zs er) (n : Nat) (hn : er ≠ 0 ∨ zs.length < n) :
    Calls Try.prog 43 #[.pointer (some ⟨x, 0, none⟩), .int .i64 n] w fun e w' => e = .returned (.slice none 0 0) ∧ Rdr w' x zs (if er = 0 then 10 else er) ∧ w.grownBy w' (some x) := by
  obtain ⟨a, c, h, hc, hx⟩ := h
  by_cases he : er = 0
  · subst he
    refine (take_short h n (by omega)).mono ?_
    rintro e w' ⟨rfl, h2, g2⟩
    exact ⟨rfl, ⟨a, c, h2, hc, hx⟩, g2⟩
  · refine (take_bad h he n).mono ?_
    rintro e w' ⟨rfl, rfl⟩
    rw [if_neg he]
    exact ⟨rfl, ⟨a, c, h, hc, hx⟩, grown_refl _ _⟩
theorem take_some {w : World} {x : Nat} {zs : List UInt8} (h : Rdr w x zs 0) (n : Nat) (hn : n ≤ zs.length) (h1 : 1 ≤ n) :
    Calls Try.prog 43 #[.pointer (some ⟨x, 0, none⟩), .int .i64 n] w fun e w' => ∃ b off, e = .returned (.slice (some ⟨b, off, none⟩) n n) ∧ BytesRd w' (some ⟨b, off, none⟩) (zs.take n) ∧ Rdr w' x (zs.drop n) 0 ∧ w.grownBy w' (some x) := by
  obtain ⟨a, c, h, hc, hx⟩ := h
  obtain ⟨z, hz⟩ : ∃ z, zs[0]? = some z := ⟨_, List.getElem?_eq_getElem (by omega)⟩
  obtain ⟨b, off, rfl, _, _⟩ := h.rd 0 z hz
  refine (take_yes h hc n hn h1).mono ?_
  rintro e w' ⟨rfl, ⟨o', h2⟩, g2⟩
  refine ⟨b, off, rfl, ?_, ⟨_, _, h2, by rw [List.length_drop]; omega, fun ad e => by cases e; exact hx ⟨b, off, none⟩ rfl⟩, g2⟩
  intro j y hj
  have hj2 : zs[j]? = some y := by
    rw [List.getElem?_take] at hj
    split at hj
    · exact hj
    · cases hj
  obtain ⟨b2, o2, e2, h3, h4⟩ := h.rd j y hj2
  cases e2
  exact ⟨b, off, rfl, Nat.lt_of_lt_of_le h3 g2.size, cell_grown h4 g2 (fun e => h.far h4 (Option.some.inj e).symm)⟩
theorem uint_bad {zs : List UInt8} {er : Int} {i acc : Nat} (h : er ≠ 0 ∨ zs.length < 1) : (if er = 0 then getU i acc zs else (0, zs, er)) = (0, zs, if er = 0 then 10 else er) := by
  by_cases he : er = 0
  · rw [if_pos he, if_pos he]
    obtain rfl : zs = [] := List.eq_nil_of_length_eq_zero (by omega)
    rfl
  · rw [if_neg he, if_neg he]
end Go.Proofs.Ytgbghjpkdbjdgaa
