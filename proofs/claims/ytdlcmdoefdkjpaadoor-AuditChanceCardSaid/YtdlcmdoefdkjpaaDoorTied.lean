/- What a row that lists the table of the rounds' numbers takes: the condition is met by the door's own heap. -/
import Derived.Test.YtdlcmdoefdkjpaaDoorFrame
import Derived.Test.YtdlcmdoefdkjpaaDoorTie
import Derived.Test.YtdlcmdoefdkjpaaDoorCards
import Derived.LaidMore
import Derived.LaidLaws
import Derived.LaidHandle
import Derived.Stop.Joined
import Derived.SevenTiedAt
namespace Go.Proofs.YtdlcmdoefdkjpaaDoor
open Go.ChangeShapes Go.WideShapes Go.ChangeAt Go.RowKit

abbrev lst : List (String × DataW Unit) := [("bailee/digest.rounds", Rows.laid_bailee_digest_rounds)]
theorem door_met (os : Os) (args : Array Value) : laidMetH Tryd.prog lst ((World.doorLaid Tryd.prog 14 os).forCall (fun _ _ => 0) ⟨#[], args, []⟩).memory :=
  laidMetH_of_parts3 (fuel := 8) (laidMet_of_run' 8 (by kernel_rfl) (by kernel_rfl)) (by kernel_rfl) (by kernel_rfl)
end Go.Proofs.YtdlcmdoefdkjpaaDoor
