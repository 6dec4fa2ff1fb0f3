/- The document's functions as contracts; what came in as a row of numbers, with its room. -/
import Derived.Test.YtbbamnglnnanpaaScSim
import Derived.Test.YtbbamnglnnanpaaScActs
import Derived.Test.YtbbamnglnnanpaaScSame
namespace Go.Proofs.Ytbbamnglnnanpaa
open Go.ChangeShapes Go.WideShapes Go.ChangeAt Go.RowKit Go.Deep Go.Proofs.Ytbbamnglnnanpaa.PScorePlays Go.Proofs.YtbbamnglnnanpaaW.PrintWords

abbrev RefIs (w : World) (v : Value) (m : List Pt) : Prop := Kd.R k54 54 w 0 (fun _ => True) v m
theorem RefIs.nil (w : World) : RefIs w (.slice none 0 0) [] := Kd.R_nil _ _ _ _ _
theorem RefIs.grown {w w' : World} {b mb : Nat} {l : List (Int × Int)} {v : Value} {m : List Pt} (h : RefIs w v m) (hb : IsBook w b mb l) (hg : w.grownBy w' (some mb)) : RefIs w' v m := by
  obtain ⟨es, clk, h1, _⟩ := hb.map
  refine Kd.R_mono (Kd.R_grown (Kd.R_bound h) hg fun k hk e => ?_) (fun _ _ => trivial)
  obtain ⟨_, _, _, q, _, cells, hc⟩ := hk
  cases e
  rw [h1] at hc
  cases hc
theorem RefIs.later {w w' : World} {v : Value} {m : List Pt} (h : RefIs w v m) (hb : Below w.heap.size w w') : RefIs w' v m := Kd.R_below h hb
theorem refmore {w : World} {v : Value} {m : List Pt} (h : RefIs w v m) (hm : m.length ≤ 100000) (who d : Int) (d0 : -100 ≤ d) (d1 : d ≤ 100) (hp : -20 ≤ ptsM m who ∧ ptsM m who ≤ 20) :
    Calls Try.prog 14 #[v, .int .i64 who, .int .i64 d] w fun e w' => ∃ v', e = .returned v' ∧ RefIs w' v' (moreM m who d) ∧ Below w.heap.size w w' := by
  obtain ⟨A, c, rfl, hc, hr⟩ := Kd.R_reads h
  refine (baileeref25_More.calls _ A c m who d (moreM m who d) w hr hc (more_f m who d (by omega) hp.1 hp.2 d0 d1 (Nat.lt_succ_self _))).mono ?_
  rintro e w' ⟨v', rfl, h1, h2⟩
  exact ⟨v', rfl, Kd.R_lower h1 (Nat.zero_le _), h2⟩
theorem refless {w : World} {v : Value} {m : List Pt} (h : RefIs w v m) (hm : m.length ≤ 100000) (who : Int) :
    Calls Try.prog 16 #[v, .int .i64 who] w fun e w' => ∃ v', e = .returned v' ∧ RefIs w' v' (lessM m who) ∧ Below w.heap.size w w' := by
  obtain ⟨A, c, rfl, hc, hr⟩ := Kd.R_reads h
  refine (baileeref25_Without.calls _ A c m who (lessM m who) w hr hc (without_f m who (by omega) (Nat.lt_succ_self _))).mono ?_
  rintro e w' ⟨v', rfl, h1, h2⟩
  exact ⟨v', rfl, Kd.R_lower h1 (Nat.zero_le _), h2⟩
theorem refpts {w : World} {v : Value} {m : List Pt} (h : RefIs w v m) (hm : m.length ≤ 100000) (who : Int) :
    Calls Try.prog 17 #[v, .int .i64 who] w fun e w' => e = .returned (.int .i64 (ptsM m who)) ∧ ∃ q, w' = w.drewN q := by
  obtain ⟨A, c, rfl, hc, hr⟩ := Kd.R_reads h
  refine (baileeref25_Points.calls _ A c m who (ptsM m who) w hr hc (points_f m who (by omega) (Nat.lt_succ_self _))).mono ?_
  rintro e w' ⟨rfl, q, hq⟩
  exact ⟨rfl, q, hq⟩
theorem refout {w : World} {v : Value} {m : List Pt} (h : RefIs w v m) (hm : m.length ≤ 100000) :
    Calls Try.prog 19 #[v] w fun e w' => ∃ v', e = .returned v' ∧ IntsIs w.heap.size w' v' (outM m) ∧ Below w.heap.size w w' := by
  obtain ⟨A, c, rfl, hc, hr⟩ := Kd.R_reads h
  refine (baileeref25_Out.calls _ A c m (outM m) w hr hc (out_f m (by omega) (Nat.lt_succ_self _))).mono ?_
  rintro e w' ⟨v', rfl, h1, h2⟩
  exact ⟨v', rfl, Kd.own_of_R h1, h2⟩
theorem ints_C {w : World} {ad : Option Addr} {zs : List Int} (h : IntsAt w .i64 ad zs) (hl : zs.length ≤ maxLen) : Kd.C (Kd.int .i64) w ad zs.length zs := by
  refine Kd.C_of_reads (d := (0 : Int)) ⟨rfl, by unfold maxLen at hl; omega, fun hn => ?_⟩
  obtain ⟨b, off, rfl, _, _⟩ := h 0 hn
  refine ⟨_, rfl, fun j hj => ?_⟩
  obtain ⟨b', off', e, _, hc⟩ := h j hj
  cases e
  rw [Go.WideShapes.add_plain]
  exact hc
theorem refrank {w : World} {v : Value} {m : List Pt} (h : RefIs w v m) (hm : m.length ≤ 100000) {ad : Option Addr} {zs : List Int} {c : Nat} (hz : IntsAt w .i64 ad zs) (hl : zs.length ≤ 1000) (hc' : zs.length ≤ c) :
    Calls Try.prog 21 #[v, .slice ad zs.length c] w fun e w' => ∃ v', e = .returned v' ∧ IntsIs w.heap.size w' v' (rankM (ptsM m) zs) ∧ Below w.heap.size w w' := by
  obtain ⟨A, c1, rfl, hc, hr⟩ := Kd.R_reads h
  refine (baileeref25_Rank.calls _ A c1 m ad c zs (rankM (ptsM m) zs) w hr hc (ints_C hz (by unfold maxLen; omega)) hc' (rank_f m zs (by omega) (by omega) (Nat.lt_succ_self _))).mono ?_
  rintro e w' ⟨v', rfl, h1, h2⟩
  exact ⟨v', rfl, Kd.own_of_R h1, h2⟩
theorem ints_In {w : World} {ad : Option Addr} {zs : List Int} {c : Nat} (h : IntsAt w .i64 ad zs) : IntsIn w.heap.size w (.slice ad zs.length c) zs := by
  by_cases hp : zs = []
  · subst hp
    exact .inl ⟨⟨_, _, rfl⟩, rfl⟩
  obtain ⟨b, off, rfl, hb, _⟩ := h 0 (List.length_pos_iff.2 hp)
  refine .inr ⟨b, off, c, rfl, hb, fun j hj => ?_⟩
  obtain ⟨b', off', e, _, hc⟩ := h j hj
  cases e
  rw [← List.getD_eq_getElem?_getD]
  exact hc
theorem IntsAt.later {w w' : World} {ad : Option Addr} {zs : List Int} (h : IntsAt w .i64 ad zs) (hb : Below w.heap.size w w') : IntsAt w' .i64 ad zs := fun j hj => by
  obtain ⟨b, off, h1, h2, h3⟩ := h.at hb hj
  exact ⟨b, off, h1, Nat.lt_of_lt_of_le h2 hb.size, h3⟩
theorem ints_ofc {H : Type} {enc : TypeId × Value → H} {P : Program} {W : World} {base : Nat} {t e : TypeId} {k : IntKind} {v : Value} {d : DataW H} {ps : List MemPlace} (ht : P.underlying t = some (.slice e)) (he : P.underlying e = some (.int k)) (hc : P.cellsOf e = 1)
    (hv : Value.okWide P W .any base t v) (h : DataW.Trod enc P W 0 (fun _ => true) true t v d ps) :
    ∃ ad zs cap, v = .slice ad zs.length cap ∧ IntsAt W k ad zs ∧ (∀ n ∈ zs, (Lit.int k n).wf = true) ∧ zs.length ≤ maxLen ∧ zs.length ≤ cap := by
  obtain ⟨a0, len, cap, rfl⟩ := okWide_slice ht hv
  obtain ⟨fuel, hf⟩ := h
  rcases open_ints ht he hc hf with ⟨hcs, hx⟩ | ⟨a, len', cap', zs, hcs, _, hl, hm, hz, hx, hcell, hwz⟩
  · simp only [Value.cells, List.cons.injEq, and_true] at hcs
    cases hcs
    exact ⟨none, [], 0, rfl, fun j hj => by simp at hj, by simp, by simp, by simp⟩
  · simp only [Value.cells, List.cons.injEq, and_true] at hcs
    cases hcs
    simp only [if_true] at hz
    have hlen : (zs.take len).length = len := by simp; omega
    refine ⟨some a, zs.take len, cap, by rw [hlen], ?_, fun n hn => hwz n (List.mem_of_mem_take hn), by omega, by omega⟩
    intro j hj
    rw [hlen] at hj
    obtain ⟨b, off, rfl, hc'⟩ := ints_at hcell (by omega)
    have hcj := hc' j (by omega)
    refine ⟨b, off, rfl, ?_, ?_⟩
    · have : w_some W ⟨b, off + j, none⟩ := ⟨_, hcj⟩
      exact this.lt
    · rw [hcj]; congr 2; simp [List.getD_eq_getElem?_getD, hj]
end Go.Proofs.Ytbbamnglnnanpaa
