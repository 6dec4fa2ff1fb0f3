/-
  No cell of these rows narrows 'for every input' (looked for: loops, veiled, ifaces, maps, wideKeys, modest, calm, conditions, laid).
  DERIVED. THE GIVEN ROWS OF THIS SEAT. 4 by the template 'for every input the law returns true; each argument reads behind the call as it read before'; 0 by the template 'total and deterministic' (their statements: YtpmkgnnpngbfmaaTotals.lean).
  GIVEN WITH THE SEED: the statements are not yours to turn. If you find one false, say at which input.
  Laid BY PROGRAM, IN A SANDBOX (cutbox-rows.mjs): the forced cells as the released guide's own fill.sh prints them over the translation fd93bcf5c53cf7c6… (all of the seat's roots in one cut). By AI agents, Wed Nov 11 2026. No macro, syntax, notation, axiom, sorry.
-/
import Derived.Test.YtpmkgnnpngbfmaaChecked
import GoSem.Claim
import GoSem.ClaimJoined
import GoSem.ClaimMapViews
import Derived.JoinedTies
import Derived.KernelRfl
namespace Go.Proofs.Ytpmkgnnpngbfmaa
/- THE CELL 'sum', in the pinned program and in every row, IS THE sha256 OF THE DUMP (.gsa) THAT YtpmkgnnpngbfmaaProg.lean LOADS. Nothing in Lean hashes anything: it is a label: what it is worth is what the hold of that sum in a sandbox is worth. -/
noncomputable def Try.pinned : Pinned := { name := "ytpmkgnnpngbfmaa", sum := "fd93bcf5c53cf7c6d3cef9edb686fa1d8c204aa0acdb6efd7cdd37619e76fd38", checked := Try.checked }
namespace Rows
def none {H : Type} : Left H := { results := [], args := [] }

/-- 'baileelaw26.RepairPlans': WHATEVER THE INPUT: true; the input reads as it did. -/
def repairPlansSpec : ChangeSpec := { name := "repairPlans", fn := fun _ => fun
  | [d1, d2, d3] => { results := [.lit (.bool true)], args := [d1, d2, d3] }
  | _ => none }
def repairPlansRow : OpenClaim := { program := "ytpmkgnnpngbfmaa", sum := "fd93bcf5c53cf7c6d3cef9edb686fa1d8c204aa0acdb6efd7cdd37619e76fd38", func := "bailee/baileelaw26.RepairPlans", spec := "repairPlans", unfollowed := true, recurses := true, plainKeys := false, apart := false }
def RepairPlansSaid : Prop := repairPlansRow.holds Try.pinned (OpenSpec.ofChange repairPlansSpec)

/-- ITS FALSE NEIGHBOUR: 'it returns false'. Refute it at one input. -/
def repairPlansWrong : ChangeSpec := { name := "repairPlans", fn := fun _ => fun
  | [d1, d2, d3] => { results := [.lit (.bool false)], args := [d1, d2, d3] }
  | _ => none }
def RepairPlansWrongFalsely : Prop := repairPlansRow.holds Try.pinned (OpenSpec.ofChange repairPlansWrong)

/-- 'baileelaw26.RepairRoom': WHATEVER THE INPUT: true; the input reads as it did. -/
def repairRoomSpec : ChangeSpec := { name := "repairRoom", fn := fun _ => fun
  | [d1, d2, d3, d4, d5] => { results := [.lit (.bool true)], args := [d1, d2, d3, d4, d5] }
  | _ => none }
def repairRoomRow : OpenClaim := { program := "ytpmkgnnpngbfmaa", sum := "fd93bcf5c53cf7c6d3cef9edb686fa1d8c204aa0acdb6efd7cdd37619e76fd38", func := "bailee/baileelaw26.RepairRoom", spec := "repairRoom", unfollowed := true, recurses := true, plainKeys := false, apart := false }
def RepairRoomSaid : Prop := repairRoomRow.holds Try.pinned (OpenSpec.ofChange repairRoomSpec)

/-- ITS FALSE NEIGHBOUR: 'it returns false'. Refute it at one input. -/
def repairRoomWrong : ChangeSpec := { name := "repairRoom", fn := fun _ => fun
  | [d1, d2, d3, d4, d5] => { results := [.lit (.bool false)], args := [d1, d2, d3, d4, d5] }
  | _ => none }
def RepairRoomWrongFalsely : Prop := repairRoomRow.holds Try.pinned (OpenSpec.ofChange repairRoomWrong)

/-- 'baileelaw26.RepairAfter': WHATEVER THE INPUT: true; the input reads as it did. -/
def repairAfterSpec : ChangeSpec := { name := "repairAfter", fn := fun _ => fun
  | [d1, d2] => { results := [.lit (.bool true)], args := [d1, d2] }
  | _ => none }
def repairAfterRow : OpenClaim := { program := "ytpmkgnnpngbfmaa", sum := "fd93bcf5c53cf7c6d3cef9edb686fa1d8c204aa0acdb6efd7cdd37619e76fd38", func := "bailee/baileelaw26.RepairAfter", spec := "repairAfter", unfollowed := true, recurses := true, plainKeys := false, apart := false }
def RepairAfterSaid : Prop := repairAfterRow.holds Try.pinned (OpenSpec.ofChange repairAfterSpec)

/-- ITS FALSE NEIGHBOUR: 'it returns false'. Refute it at one input. -/
def repairAfterWrong : ChangeSpec := { name := "repairAfter", fn := fun _ => fun
  | [d1, d2] => { results := [.lit (.bool false)], args := [d1, d2] }
  | _ => none }
def RepairAfterWrongFalsely : Prop := repairAfterRow.holds Try.pinned (OpenSpec.ofChange repairAfterWrong)

/-- 'baileelaw26.RepairFirst': WHATEVER THE INPUT: true; the input reads as it did. -/
def repairFirstSpec : ChangeSpec := { name := "repairFirst", fn := fun _ => fun
  | [d1, d2, d3] => { results := [.lit (.bool true)], args := [d1, d2, d3] }
  | _ => none }
def repairFirstRow : OpenClaim := { program := "ytpmkgnnpngbfmaa", sum := "fd93bcf5c53cf7c6d3cef9edb686fa1d8c204aa0acdb6efd7cdd37619e76fd38", func := "bailee/baileelaw26.RepairFirst", spec := "repairFirst", unfollowed := true, recurses := true, plainKeys := false, apart := false }
def RepairFirstSaid : Prop := repairFirstRow.holds Try.pinned (OpenSpec.ofChange repairFirstSpec)

/-- ITS FALSE NEIGHBOUR: 'it returns false'. Refute it at one input. -/
def repairFirstWrong : ChangeSpec := { name := "repairFirst", fn := fun _ => fun
  | [d1, d2, d3] => { results := [.lit (.bool false)], args := [d1, d2, d3] }
  | _ => none }
def RepairFirstWrongFalsely : Prop := repairFirstRow.holds Try.pinned (OpenSpec.ofChange repairFirstWrong)

/- THE SECOND FORM. 'bulk': how many values and letters a reading holds, each counted each time it is reached (what is shared counts as often as it is met; a slice's spare places count too). A statement '..UptoSaid' is the law's where the arguments, and the package variables that the reading takes, are together of bulk at most 1048576: NARROWER than '..Said'. Prove '..Said' where nothing that the law and all that it calls make is longer than what came in: it says more and counts as full. Else prove '..UptoSaid'. A law counts once. -/
mutual
def uptoBulk {H : Type} : DataW H → Nat
  | .lit (.string bytes) => bytes.length + 1
  | .lit _ => 1
  | .nil => 1
  | .ptr d => uptoBulk d + 1
  | .slice elems spare => uptoBulkAll elems + uptoBulkAll spare + 1
  | .agg parts => uptoBulkAll parts + 1
  | .iface _ d => uptoBulk d + 1
  | .map entries => uptoBulkEntries entries + 1
  | .held _ => 1
def uptoBulkAll {H : Type} : List (DataW H) → Nat
  | [] => 0
  | d :: r => uptoBulk d + uptoBulkAll r
def uptoBulkEntries {H : Type} : List (Lit × DataW H) → Nat
  | [] => 0
  | x :: r => uptoBulkEntry x + uptoBulkEntries r
def uptoBulkEntry {H : Type} : Lit × DataW H → Nat
  | (.string bytes, d) => bytes.length + uptoBulk d + 1
  | (_, d) => uptoBulk d + 1
 end
def uptoSmall : (H : Type) → List (DataW H) → Bool := fun _ ds => decide (uptoBulkAll ds ≤ 1048576)
def OpenSpec.upto (s : _root_.Go.ChangeSpec) : _root_.Go.OpenSpec := { _root_.Go.OpenSpec.ofChange s with cond := some uptoSmall }

/-- 'baileelaw26.RepairPlans', WHERE WHAT IT READS IS OF BULK AT MOST 1048576: true; the input reads as it did. -/
def repairPlansUptoRow : OpenClaim := { program := "ytpmkgnnpngbfmaa", sum := "fd93bcf5c53cf7c6d3cef9edb686fa1d8c204aa0acdb6efd7cdd37619e76fd38", func := "bailee/baileelaw26.RepairPlans", spec := "repairPlans", unfollowed := true, recurses := true, plainKeys := false, apart := false, narrowed := true }
def RepairPlansUptoSaid : Prop := repairPlansUptoRow.holds Try.pinned (OpenSpec.upto repairPlansSpec)

/-- 'baileelaw26.RepairRoom', WHERE WHAT IT READS IS OF BULK AT MOST 1048576: true; the input reads as it did. -/
def repairRoomUptoRow : OpenClaim := { program := "ytpmkgnnpngbfmaa", sum := "fd93bcf5c53cf7c6d3cef9edb686fa1d8c204aa0acdb6efd7cdd37619e76fd38", func := "bailee/baileelaw26.RepairRoom", spec := "repairRoom", unfollowed := true, recurses := true, plainKeys := false, apart := false, narrowed := true }
def RepairRoomUptoSaid : Prop := repairRoomUptoRow.holds Try.pinned (OpenSpec.upto repairRoomSpec)

/-- 'baileelaw26.RepairAfter', WHERE WHAT IT READS IS OF BULK AT MOST 1048576: true; the input reads as it did. -/
def repairAfterUptoRow : OpenClaim := { program := "ytpmkgnnpngbfmaa", sum := "fd93bcf5c53cf7c6d3cef9edb686fa1d8c204aa0acdb6efd7cdd37619e76fd38", func := "bailee/baileelaw26.RepairAfter", spec := "repairAfter", unfollowed := true, recurses := true, plainKeys := false, apart := false, narrowed := true }
def RepairAfterUptoSaid : Prop := repairAfterUptoRow.holds Try.pinned (OpenSpec.upto repairAfterSpec)

/-- 'baileelaw26.RepairFirst', WHERE WHAT IT READS IS OF BULK AT MOST 1048576: true; the input reads as it did. -/
def repairFirstUptoRow : OpenClaim := { program := "ytpmkgnnpngbfmaa", sum := "fd93bcf5c53cf7c6d3cef9edb686fa1d8c204aa0acdb6efd7cdd37619e76fd38", func := "bailee/baileelaw26.RepairFirst", spec := "repairFirst", unfollowed := true, recurses := true, plainKeys := false, apart := false, narrowed := true }
def RepairFirstUptoSaid : Prop := repairFirstUptoRow.holds Try.pinned (OpenSpec.upto repairFirstSpec)

end Rows
end Go.Proofs.Ytpmkgnnpngbfmaa
