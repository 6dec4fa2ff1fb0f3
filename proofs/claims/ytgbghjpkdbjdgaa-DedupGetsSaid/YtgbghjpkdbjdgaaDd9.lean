/- 'm[k] op= v': a map's entry, held and stored into. -/
import Derived.Test.YtgbghjpkdbjdgaaDd8
namespace Go.Proofs.Ytgbghjpkdbjdgaa
open Go.RowKit
open Go.Maps (Keyed)
open Go.MapKept (Stamped)
open Go.ChangeMaps (setBlock)
open Extern.Stop (cell)

theorem set_id {α : Type} : ∀ {l : List α} {j : Nat} {x : α}, l[j]? = some x → l.set j x = l
  | [], _, _, h => by simp at h
  | y :: l, 0, x, h => by simp at h; subst h; rfl
  | y :: l, j + 1, x, h => by rw [List.set_cons_succ, set_id (l := l) (j := j) (by simpa using h)]
/-- The map at b reads as l, and its entry born at 'born' is that of a. -/
def EntryIs {α β : Type} (P : Program) (k : TypeId) (eK : α → Value) (eV : β → Value) (w : World) (b : Nat) (l : List (α × β)) (a : α) (born : Nat) : Prop :=
  ∃ (es : Array MapEntry) (clk j : Nat) (e0 : MapEntry) (v0 : β), w.heap[b]? = some (.map es clk) ∧ es.toList.map (fun e => (e.key, e.val)) = l.map (fun p => (eK p.1, eV p.2)) ∧ Stamped es clk ∧ (∀ p ∈ l, ∃ kl, keyOf P k (eK p.1) = some kl) ∧ es.toList[j]? = some e0 ∧ e0.born = born ∧ l[j]? = some (a, v0)
section
variable {α β : Type} [DecidableEq α] {P : Program} {k : TypeId} {eK : α → Value} {eV : β → Value} {w : World} {b : Nat} {l : List (α × β)}
omit [DecidableEq α] in
theorem EntryIs.map {a : α} {born : Nat} (h : EntryIs P k eK eV w b l a born) : MapIs P k eK eV w b l := by
  obtain ⟨es, clk, j, e0, v0, h1, h2, h3, h4, _⟩ := h
  exact ⟨es, clk, h1, h2, h3, h4⟩
omit [DecidableEq α] in
theorem EntryIs.of_block {w' : World} {a : α} {born : Nat} (h : EntryIs P k eK eV w b l a born) (hb : w'.heap[b]? = w.heap[b]?) : EntryIs P k eK eV w' b l a born := by
  obtain ⟨es, clk, j, e0, v0, h1, r⟩ := h
  exact ⟨es, clk, j, e0, v0, hb.trans h1, r⟩
theorem MapIs.entry (h : MapIs P k eK eV w b l) (K : Keyed P k) (inj : ∀ x y, eK x = eK y → x = y) {t e : TypeId} (ht : P.underlying t = some (.map k e)) {z : β} (hz : (zeroValue e).run P w = .ok (eV z) w) {a : α} {kl : Lit} (hkey : keyOf P k (eK a) = some kl) :
    ∃ (born : Nat) (w' : World), (Instr.mapEntry t (.map (some b)) (eK a)).run P w = .ok (.tuple #[eV ((aget l a).getD z), goInt born]) w' ∧ EntryIs P k eK eV w' b (aput l a ((aget l a).getD z)) a born ∧ w.grownBy w' (some b) ∧ w'.heap.size = w.heap.size := by
  have hap := h.apart
  obtain ⟨es, clk, h1, h3, h2, h4, hf⟩ := h.find K inj hkey
  have fin : ∀ o, w.grownBy (setBlock w b o) (some b) ∧ (setBlock w b o).heap.size = w.heap.size := fun o =>
    ⟨⟨rfl, rfl, rfl, by simp [setBlock], fun i _ hi => ChangeMaps.heap_setBlock_other h1 _ (fun e => hi (by rw [e]))⟩, by simp [setBlock]⟩
  rcases hf with ⟨f1, hn⟩ | ⟨j, e0, v0, f1, fj, fk, fv, hs, hl⟩
  · rw [hn, Option.getD_none]
    refine ⟨clk, setBlock w b (.map (es.push ⟨eK a, eV z, clk⟩) (clk + 1)), ?_, ⟨_, _, es.size, ⟨eK a, eV z, clk⟩, z, ChangeMaps.heap_setBlock_same h1 _, ?_, MapKept.stamped_push h3 ((idx_none inj h2).1 hn), ?_, ?_, rfl, ?_⟩, fin _⟩
    · simp [Instr.mapEntry, run_underlying ht, MapKept.run_getObj_map h1, K.check w false hkey, f1, hz, MapKept.run_setObj_map _ h1, Result.andThen, setBlock]
    · rw [aput_none _ hn, Array.toList_push, List.map_append, h2, List.map_append]; rfl
    · rw [aput_none _ hn]
      intro p hp
      rcases List.mem_append.1 hp with hp | hp
      · exact h4 p hp
      · simp at hp; subst hp; exact ⟨kl, hkey⟩
    · simp
    · have hlen : es.size = l.length := by have := congrArg List.length h2; simpa using this
      rw [aput_none _ hn, hlen]
      simp
  · have hj : es[j]? = some e0 := by simpa using fj
    have hkeyf : ∀ e', es[j]? = some e' → ({ e' with key := eK a } : MapEntry).key = e'.key := fun e' he' => by rw [hj] at he'; cases he'; exact fk.symm
    have hlist : (es.modify j (fun e' => { e' with key := eK a })).toList = es.toList.set j { e0 with key := eK a } := by rw [Array.toList_modify, ChangeMaps.modify_eq_set _ _ _ _ fj]
    have hsame : aput l a v0 = l := by
      rw [aput_set hap hl]
      exact set_id hl
    rw [hs, Option.getD_some, hsame]
    refine ⟨e0.born, setBlock w b (.map (es.modify j (fun e' => { e' with key := eK a })) clk), ?_, ⟨_, _, j, { e0 with key := eK a }, v0, ChangeMaps.heap_setBlock_same h1 _, ?_, MapKept.stamped_modify h3 _ _ (fun _ _ => rfl) (fun e' _ he' => hkeyf e' he'), h4, ?_, rfl, hl⟩, fin _⟩
    · simp [Instr.mapEntry, run_underlying ht, MapKept.run_getObj_map h1, K.check w false hkey, f1, hj, fk, K.stays w hkey, MapKept.run_setObj_map _ h1, Result.andThen, setBlock]
    · rw [hlist, List.map_set, h2]
      have : ((eK a, e0.val) : Value × Value) = (fun p : α × β => (eK p.1, eV p.2)) (a, v0) := by rw [fv]
      rw [this]
      exact set_id (by rw [List.getElem?_map, hl]; rfl)
    · rw [hlist, List.getElem?_set_self (List.getElem?_eq_some_iff.1 fj).1]
theorem EntryIs.store {a : α} {born : Nat} (h : EntryIs P k eK eV w b l a born) (t : TypeId) (v : β) :
    ∃ w', (Instr.entryStore t (.map (some b)) (goInt born) (eV v)).run P w = .ok () w' ∧ MapIs P k eK eV w' b (aput l a v) ∧ w.grownBy w' (some b) ∧ w'.heap.size = w.heap.size := by
  have hap := h.map.apart
  obtain ⟨es, clk, j, e0, v0, h1, h2, h3, h4, fj, hb, hl⟩ := h
  have hj : es[j]? = some e0 := by simpa using fj
  have hjl : j < es.size := (Array.getElem?_eq_some_iff.1 hj).1
  have hfind : es.findIdx? (fun e => (e.born : Int) == (born : Int)) = some j := by
    rw [Array.findIdx?_eq_some_iff_getElem]
    refine ⟨hjl, ?_, ?_⟩
    · rw [(Array.getElem?_eq_some_iff.1 hj).2, hb]; simp
    · intro i hi
      have hn := h3.2.1
      have hil : i < es.size := by omega
      have : es[i].born ≠ born := fun e => by
        have h5 := (List.pairwise_iff_getElem.1 (List.nodup_iff_pairwise_ne.1 hn)) i j (by simpa using hil) (by simpa using hjl) hi
        simp only [List.getElem_map, Array.getElem_toList] at h5
        rw [(Array.getElem?_eq_some_iff.1 hj).2, hb] at h5
        exact h5 e
      simp
      omega
  refine ⟨setBlock w b (.map (es.modify j (fun e' => { e' with val := eV v })) clk), ?_, ⟨_, _, ChangeMaps.heap_setBlock_same h1 _, ?_, MapKept.stamped_modify h3 _ _ (fun _ _ => rfl) (fun _ _ _ => rfl), ?_⟩, ⟨rfl, rfl, rfl, by simp [setBlock], fun i _ hi => ChangeMaps.heap_setBlock_other h1 _ (fun e => hi (by rw [e]))⟩, by simp [setBlock]⟩
  · simp [Instr.entryStore, MapKept.run_getObj_map h1, goInt, asInt, asIntOf, hfind, MapKept.run_setObj_map _ h1, Result.andThen, setBlock]
  · have hlist : (es.modify j (fun e' => { e' with val := eV v })).toList = es.toList.set j { e0 with val := eV v } := by rw [Array.toList_modify, ChangeMaps.modify_eq_set _ _ _ _ fj]
    have hk0 : e0.key = eK a := by
      have : (es.toList.map (fun e => (e.key, e.val)))[j]? = some (e0.key, e0.val) := by simp [hj]
      rw [h2, List.getElem?_map, hl] at this
      have := Option.some.inj this
      exact (Prod.mk.inj this).1.symm
    rw [hlist, List.map_set, h2, aput_set hap hl, List.map_set, hk0]
  · rw [aput_set hap hl]
    intro p hp
    rcases List.mem_or_eq_of_mem_set hp with hp | rfl
    · exact h4 p hp
    · exact h4 (a, v0) (List.mem_of_getElem? hl)
end
end Go.Proofs.Ytgbghjpkdbjdgaa
