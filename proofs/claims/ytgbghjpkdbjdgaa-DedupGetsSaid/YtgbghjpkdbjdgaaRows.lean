/-
  No cell of these rows narrows 'for every input' (looked for: loops, veiled, ifaces, maps, wideKeys, modest, calm, conditions, laid).
  DERIVED. THE GIVEN ROWS OF THIS SEAT. 5 by the template 'for every input the law returns true; each argument reads behind the call as it read before'; 0 by the template 'total and deterministic' (their statements: YtgbghjpkdbjdgaaTotals.lean).
  GIVEN WITH THE SEED: the statements are not yours to turn. If you find one false, say at which input.
  Laid BY PROGRAM, IN A SANDBOX (cutbox-rows.mjs): the forced cells as the released guide's own fill.sh prints them over the translation e4ba2e3d9be585df… (all of the seat's roots in one cut). By AI agents, Wed Nov 11 2026. No macro, syntax, notation, axiom, sorry.
-/
import Derived.Test.YtgbghjpkdbjdgaaChecked
import GoSem.Claim
import GoSem.ClaimJoined
import GoSem.ClaimMapViews
import Derived.JoinedTies
import Derived.KernelRfl
namespace Go.Proofs.Ytgbghjpkdbjdgaa
/- THE CELL 'sum', in the pinned program and in every row, IS THE sha256 OF THE DUMP (.gsa) THAT YtgbghjpkdbjdgaaProg.lean LOADS. Nothing in Lean hashes anything: it is a label: what it is worth is what the hold of that sum in a sandbox is worth. -/
noncomputable def Try.pinned : Pinned := { name := "ytgbghjpkdbjdgaa", sum := "e4ba2e3d9be585df56900fd678446b9d240a5d08e7d1b0ca4434f9a49360c76f", checked := Try.checked }
namespace Rows
def none {H : Type} : Left H := { results := [], args := [] }

/-- 'baileelaw14.DedupPlays': WHATEVER THE INPUT: true; the input reads as it did. -/
def dedupPlaysSpec : ChangeSpec := { name := "dedupPlays", fn := fun _ => fun
  | [d] => { results := [.lit (.bool true)], args := [d] }
  | _ => none }
def dedupPlaysRow : OpenClaim := { program := "ytgbghjpkdbjdgaa", sum := "e4ba2e3d9be585df56900fd678446b9d240a5d08e7d1b0ca4434f9a49360c76f", func := "bailee/baileelaw14.DedupPlays", spec := "dedupPlays", inPlace := ["internal/bytealg.Compare"], unfollowed := true, recurses := true, plainKeys := false, apart := false }
def DedupPlaysSaid : Prop := dedupPlaysRow.holds Try.pinned (OpenSpec.ofChange dedupPlaysSpec)

/-- ITS FALSE NEIGHBOUR: 'it returns false'. Refute it at one input. -/
def dedupPlaysWrong : ChangeSpec := { name := "dedupPlays", fn := fun _ => fun
  | [d] => { results := [.lit (.bool false)], args := [d] }
  | _ => none }
def DedupPlaysWrongFalsely : Prop := dedupPlaysRow.holds Try.pinned (OpenSpec.ofChange dedupPlaysWrong)

/-- 'baileelaw14.DedupGets': WHATEVER THE INPUT: true; the input reads as it did. -/
def dedupGetsSpec : ChangeSpec := { name := "dedupGets", fn := fun _ => fun
  | [d] => { results := [.lit (.bool true)], args := [d] }
  | _ => none }
def dedupGetsRow : OpenClaim := { program := "ytgbghjpkdbjdgaa", sum := "e4ba2e3d9be585df56900fd678446b9d240a5d08e7d1b0ca4434f9a49360c76f", func := "bailee/baileelaw14.DedupGets", spec := "dedupGets", inPlace := ["internal/bytealg.Compare"], unfollowed := true, recurses := true, plainKeys := false, apart := false }
def DedupGetsSaid : Prop := dedupGetsRow.holds Try.pinned (OpenSpec.ofChange dedupGetsSpec)

/-- ITS FALSE NEIGHBOUR: 'it returns false'. Refute it at one input. -/
def dedupGetsWrong : ChangeSpec := { name := "dedupGets", fn := fun _ => fun
  | [d] => { results := [.lit (.bool false)], args := [d] }
  | _ => none }
def DedupGetsWrongFalsely : Prop := dedupGetsRow.holds Try.pinned (OpenSpec.ofChange dedupGetsWrong)

/-- 'baileelaw14.DedupOrder': WHATEVER THE INPUT: true; the input reads as it did. -/
def dedupOrderSpec : ChangeSpec := { name := "dedupOrder", fn := fun _ => fun
  | [d1, d2] => { results := [.lit (.bool true)], args := [d1, d2] }
  | _ => none }
def dedupOrderRow : OpenClaim := { program := "ytgbghjpkdbjdgaa", sum := "e4ba2e3d9be585df56900fd678446b9d240a5d08e7d1b0ca4434f9a49360c76f", func := "bailee/baileelaw14.DedupOrder", spec := "dedupOrder", inPlace := ["internal/bytealg.Compare"], unfollowed := true, recurses := true, plainKeys := false, apart := false }
def DedupOrderSaid : Prop := dedupOrderRow.holds Try.pinned (OpenSpec.ofChange dedupOrderSpec)

/-- ITS FALSE NEIGHBOUR: 'it returns false'. Refute it at one input. -/
def dedupOrderWrong : ChangeSpec := { name := "dedupOrder", fn := fun _ => fun
  | [d1, d2] => { results := [.lit (.bool false)], args := [d1, d2] }
  | _ => none }
def DedupOrderWrongFalsely : Prop := dedupOrderRow.holds Try.pinned (OpenSpec.ofChange dedupOrderWrong)

/-- 'baileelaw14.DedupDrops': WHATEVER THE INPUT: true; the input reads as it did. -/
def dedupDropsSpec : ChangeSpec := { name := "dedupDrops", fn := fun _ => fun
  | [d1, d2, d3] => { results := [.lit (.bool true)], args := [d1, d2, d3] }
  | _ => none }
def dedupDropsRow : OpenClaim := { program := "ytgbghjpkdbjdgaa", sum := "e4ba2e3d9be585df56900fd678446b9d240a5d08e7d1b0ca4434f9a49360c76f", func := "bailee/baileelaw14.DedupDrops", spec := "dedupDrops", inPlace := ["internal/bytealg.Compare"], unfollowed := true, recurses := true, plainKeys := false, apart := false }
def DedupDropsSaid : Prop := dedupDropsRow.holds Try.pinned (OpenSpec.ofChange dedupDropsSpec)

/-- ITS FALSE NEIGHBOUR: 'it returns false'. Refute it at one input. -/
def dedupDropsWrong : ChangeSpec := { name := "dedupDrops", fn := fun _ => fun
  | [d1, d2, d3] => { results := [.lit (.bool false)], args := [d1, d2, d3] }
  | _ => none }
def DedupDropsWrongFalsely : Prop := dedupDropsRow.holds Try.pinned (OpenSpec.ofChange dedupDropsWrong)

/-- 'baileelaw14.DedupBytes': WHATEVER THE INPUT: true; the input reads as it did. -/
def dedupBytesSpec : ChangeSpec := { name := "dedupBytes", fn := fun _ => fun
  | [d1, d2, d3] => { results := [.lit (.bool true)], args := [d1, d2, d3] }
  | _ => none }
def dedupBytesRow : OpenClaim := { program := "ytgbghjpkdbjdgaa", sum := "e4ba2e3d9be585df56900fd678446b9d240a5d08e7d1b0ca4434f9a49360c76f", func := "bailee/baileelaw14.DedupBytes", spec := "dedupBytes", inPlace := ["internal/bytealg.Compare"], unfollowed := true, recurses := true, plainKeys := false, apart := false }
def DedupBytesSaid : Prop := dedupBytesRow.holds Try.pinned (OpenSpec.ofChange dedupBytesSpec)

/-- ITS FALSE NEIGHBOUR: 'it returns false'. Refute it at one input. -/
def dedupBytesWrong : ChangeSpec := { name := "dedupBytes", fn := fun _ => fun
  | [d1, d2, d3] => { results := [.lit (.bool false)], args := [d1, d2, d3] }
  | _ => none }
def DedupBytesWrongFalsely : Prop := dedupBytesRow.holds Try.pinned (OpenSpec.ofChange dedupBytesWrong)

/- THE SECOND FORM. 'bulk': how many values and letters a reading holds, each counted each time it is reached (what is shared counts as often as it is met; a slice's spare places count too). A statement '..UptoSaid' is the law's where the arguments, and the package variables that the reading takes, are together of bulk at most 1048576: NARROWER than '..Said'. Prove '..Said' where nothing that the law and all that it calls make is longer than what came in: it says more and counts as full. Else prove '..UptoSaid'. A law counts once. -/
mutual
def uptoBulk {H : Type} : DataW H → Nat
  | .lit (.string bytes) => bytes.length + 1
  | .lit _ => 1
  | .nil => 1
  | .ptr d => uptoBulk d + 1
  | .slice elems spare => uptoBulkAll elems + uptoBulkAll spare + 1
  | .agg parts => uptoBulkAll parts + 1
  | .iface _ d => uptoBulk d + 1
  | .map entries => uptoBulkEntries entries + 1
  | .held _ => 1
def uptoBulkAll {H : Type} : List (DataW H) → Nat
  | [] => 0
  | d :: r => uptoBulk d + uptoBulkAll r
def uptoBulkEntries {H : Type} : List (Lit × DataW H) → Nat
  | [] => 0
  | x :: r => uptoBulkEntry x + uptoBulkEntries r
def uptoBulkEntry {H : Type} : Lit × DataW H → Nat
  | (.string bytes, d) => bytes.length + uptoBulk d + 1
  | (_, d) => uptoBulk d + 1
 end
def uptoSmall : (H : Type) → List (DataW H) → Bool := fun _ ds => decide (uptoBulkAll ds ≤ 1048576)
def OpenSpec.upto (s : _root_.Go.ChangeSpec) : _root_.Go.OpenSpec := { _root_.Go.OpenSpec.ofChange s with cond := some uptoSmall }

/-- 'baileelaw14.DedupPlays', WHERE WHAT IT READS IS OF BULK AT MOST 1048576: true; the input reads as it did. -/
def dedupPlaysUptoRow : OpenClaim := { program := "ytgbghjpkdbjdgaa", sum := "e4ba2e3d9be585df56900fd678446b9d240a5d08e7d1b0ca4434f9a49360c76f", func := "bailee/baileelaw14.DedupPlays", spec := "dedupPlays", inPlace := ["internal/bytealg.Compare"], unfollowed := true, recurses := true, plainKeys := false, apart := false, narrowed := true }
def DedupPlaysUptoSaid : Prop := dedupPlaysUptoRow.holds Try.pinned (OpenSpec.upto dedupPlaysSpec)

/-- 'baileelaw14.DedupGets', WHERE WHAT IT READS IS OF BULK AT MOST 1048576: true; the input reads as it did. -/
def dedupGetsUptoRow : OpenClaim := { program := "ytgbghjpkdbjdgaa", sum := "e4ba2e3d9be585df56900fd678446b9d240a5d08e7d1b0ca4434f9a49360c76f", func := "bailee/baileelaw14.DedupGets", spec := "dedupGets", inPlace := ["internal/bytealg.Compare"], unfollowed := true, recurses := true, plainKeys := false, apart := false, narrowed := true }
def DedupGetsUptoSaid : Prop := dedupGetsUptoRow.holds Try.pinned (OpenSpec.upto dedupGetsSpec)

/-- 'baileelaw14.DedupOrder', WHERE WHAT IT READS IS OF BULK AT MOST 1048576: true; the input reads as it did. -/
def dedupOrderUptoRow : OpenClaim := { program := "ytgbghjpkdbjdgaa", sum := "e4ba2e3d9be585df56900fd678446b9d240a5d08e7d1b0ca4434f9a49360c76f", func := "bailee/baileelaw14.DedupOrder", spec := "dedupOrder", inPlace := ["internal/bytealg.Compare"], unfollowed := true, recurses := true, plainKeys := false, apart := false, narrowed := true }
def DedupOrderUptoSaid : Prop := dedupOrderUptoRow.holds Try.pinned (OpenSpec.upto dedupOrderSpec)

/-- 'baileelaw14.DedupDrops', WHERE WHAT IT READS IS OF BULK AT MOST 1048576: true; the input reads as it did. -/
def dedupDropsUptoRow : OpenClaim := { program := "ytgbghjpkdbjdgaa", sum := "e4ba2e3d9be585df56900fd678446b9d240a5d08e7d1b0ca4434f9a49360c76f", func := "bailee/baileelaw14.DedupDrops", spec := "dedupDrops", inPlace := ["internal/bytealg.Compare"], unfollowed := true, recurses := true, plainKeys := false, apart := false, narrowed := true }
def DedupDropsUptoSaid : Prop := dedupDropsUptoRow.holds Try.pinned (OpenSpec.upto dedupDropsSpec)

/-- 'baileelaw14.DedupBytes', WHERE WHAT IT READS IS OF BULK AT MOST 1048576: true; the input reads as it did. -/
def dedupBytesUptoRow : OpenClaim := { program := "ytgbghjpkdbjdgaa", sum := "e4ba2e3d9be585df56900fd678446b9d240a5d08e7d1b0ca4434f9a49360c76f", func := "bailee/baileelaw14.DedupBytes", spec := "dedupBytes", inPlace := ["internal/bytealg.Compare"], unfollowed := true, recurses := true, plainKeys := false, apart := false, narrowed := true }
def DedupBytesUptoSaid : Prop := dedupBytesUptoRow.holds Try.pinned (OpenSpec.upto dedupBytesSpec)

end Rows
end Go.Proofs.Ytgbghjpkdbjdgaa
