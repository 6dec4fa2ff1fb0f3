/-
  DERIVED. GIVEN WITH THE SEED: THE CARDS: each row of YtdlcmdoefdkjpaaDoorRows.lean that lists a variable, with what it lists TIED to the program's text (the seventh form; the later family's looks); each row that meets fmt, with fmt's text TOLD by the authors' own Lean function (tested against real Go, not proved from fmt's source: count such statements apart). THE CARD IS WHAT COUNTS. Prove the row's statement (the work); the ties are given (YtdlcmdoefdkjpaaDoorTie.lean); close each card by the builder's one call (the guide's Derived/Test/ToyasCard.lean, 'card_holds'). Laid BY PROGRAM, IN A SANDBOX (cutbox-door.mjs). By AI agents, Wed Nov 11 2026. No macro, syntax, notation, axiom, sorry.
-/
import Derived.Test.YtdlcmdoefdkjpaaDoorRows
import GoSem.ClaimSeven
namespace Go.Proofs.YtdlcmdoefdkjpaaDoor
namespace Rows

/-- THE TIED CARD OF 'baileelaw24.AuditHonest'. -/
def auditHonestCard : Claim7 := { stood := { row := auditHonestRow, standIns := [], harness := (true, "8093f79176a43ce1106b5f045afce6c80ab5727be39320ea464b53a6c7f52b16"), looks := false }, kinds := [], alts := [], laidByText := true, laidKinds := [.data], laidTests := true, laidLooks := .later }
def AuditHonestCardSaid : Prop := Claim7.holds Tryd.pinned (.plain (OpenSpec.ofChange auditHonestSpec)) auditHonestCard

/-- THE TIED CARD OF 'baileelaw24.AuditTells'. -/
def auditTellsCard : Claim7 := { stood := { row := auditTellsRow, standIns := [], harness := (true, "8093f79176a43ce1106b5f045afce6c80ab5727be39320ea464b53a6c7f52b16"), looks := false }, kinds := [], alts := [], laidByText := true, laidKinds := [.data], laidTests := true, laidLooks := .later }
def AuditTellsCardSaid : Prop := Claim7.holds Tryd.pinned (.plain (OpenSpec.ofChange auditTellsSpec)) auditTellsCard

/-- THE TIED CARD OF 'baileelaw24.AuditPlays'. -/
def auditPlaysCard : Claim7 := { stood := { row := auditPlaysRow, standIns := [], harness := (true, "8093f79176a43ce1106b5f045afce6c80ab5727be39320ea464b53a6c7f52b16"), looks := false }, kinds := [], alts := [], laidByText := true, laidKinds := [.data], laidTests := true, laidLooks := .later }
def AuditPlaysCardSaid : Prop := Claim7.holds Tryd.pinned (.plain (OpenSpec.ofChange auditPlaysSpec)) auditPlaysCard

/-- THE TIED CARD OF 'baileelaw24.AuditChance'. -/
def auditChanceCard : Claim7 := { stood := { row := auditChanceRow, standIns := [], harness := (true, "8093f79176a43ce1106b5f045afce6c80ab5727be39320ea464b53a6c7f52b16"), looks := false }, kinds := [], alts := [], laidByText := true, laidKinds := [.data], laidTests := true, laidLooks := .later }
def AuditChanceCardSaid : Prop := Claim7.holds Tryd.pinned (.plain (OpenSpec.ofChange auditChanceSpec)) auditChanceCard

/-- THE TIED CARD OF 'baileelaw24.AuditLate'. -/
def auditLateCard : Claim7 := { stood := { row := auditLateRow, standIns := [], harness := (true, "8093f79176a43ce1106b5f045afce6c80ab5727be39320ea464b53a6c7f52b16"), looks := false }, kinds := [], alts := [], laidByText := true, laidKinds := [.data], laidTests := true, laidLooks := .later }
def AuditLateCardSaid : Prop := Claim7.holds Tryd.pinned (.plain (OpenSpec.ofChange auditLateSpec)) auditLateCard

/-- THE TIED CARD OF 'baileelaw24.AuditMany'. -/
def auditManyCard : Claim7 := { stood := { row := auditManyRow, standIns := [], harness := (true, "8093f79176a43ce1106b5f045afce6c80ab5727be39320ea464b53a6c7f52b16"), looks := false }, kinds := [], alts := [], laidByText := true, laidKinds := [.data], laidTests := true, laidLooks := .later }
def AuditManyCardSaid : Prop := Claim7.holds Tryd.pinned (.plain (OpenSpec.ofChange auditManySpec)) auditManyCard

/-- THE SECOND FORM's CARD OF 'baileelaw24.AuditHonest'. -/
def auditHonestUptoCard : Claim7 := { stood := { row := auditHonestUptoRow, standIns := [], harness := (true, "8093f79176a43ce1106b5f045afce6c80ab5727be39320ea464b53a6c7f52b16"), looks := false }, kinds := [], alts := [], laidByText := true, laidKinds := [.data], laidTests := true, laidLooks := .later }
def AuditHonestUptoCardSaid : Prop := Claim7.holds Tryd.pinned (.plain (OpenSpec.upto auditHonestSpec)) auditHonestUptoCard

/-- THE SECOND FORM's CARD OF 'baileelaw24.AuditTells'. -/
def auditTellsUptoCard : Claim7 := { stood := { row := auditTellsUptoRow, standIns := [], harness := (true, "8093f79176a43ce1106b5f045afce6c80ab5727be39320ea464b53a6c7f52b16"), looks := false }, kinds := [], alts := [], laidByText := true, laidKinds := [.data], laidTests := true, laidLooks := .later }
def AuditTellsUptoCardSaid : Prop := Claim7.holds Tryd.pinned (.plain (OpenSpec.upto auditTellsSpec)) auditTellsUptoCard

/-- THE SECOND FORM's CARD OF 'baileelaw24.AuditPlays'. -/
def auditPlaysUptoCard : Claim7 := { stood := { row := auditPlaysUptoRow, standIns := [], harness := (true, "8093f79176a43ce1106b5f045afce6c80ab5727be39320ea464b53a6c7f52b16"), looks := false }, kinds := [], alts := [], laidByText := true, laidKinds := [.data], laidTests := true, laidLooks := .later }
def AuditPlaysUptoCardSaid : Prop := Claim7.holds Tryd.pinned (.plain (OpenSpec.upto auditPlaysSpec)) auditPlaysUptoCard

/-- THE SECOND FORM's CARD OF 'baileelaw24.AuditChance'. -/
def auditChanceUptoCard : Claim7 := { stood := { row := auditChanceUptoRow, standIns := [], harness := (true, "8093f79176a43ce1106b5f045afce6c80ab5727be39320ea464b53a6c7f52b16"), looks := false }, kinds := [], alts := [], laidByText := true, laidKinds := [.data], laidTests := true, laidLooks := .later }
def AuditChanceUptoCardSaid : Prop := Claim7.holds Tryd.pinned (.plain (OpenSpec.upto auditChanceSpec)) auditChanceUptoCard

/-- THE SECOND FORM's CARD OF 'baileelaw24.AuditLate'. -/
def auditLateUptoCard : Claim7 := { stood := { row := auditLateUptoRow, standIns := [], harness := (true, "8093f79176a43ce1106b5f045afce6c80ab5727be39320ea464b53a6c7f52b16"), looks := false }, kinds := [], alts := [], laidByText := true, laidKinds := [.data], laidTests := true, laidLooks := .later }
def AuditLateUptoCardSaid : Prop := Claim7.holds Tryd.pinned (.plain (OpenSpec.upto auditLateSpec)) auditLateUptoCard

/-- THE SECOND FORM's CARD OF 'baileelaw24.AuditMany'. -/
def auditManyUptoCard : Claim7 := { stood := { row := auditManyUptoRow, standIns := [], harness := (true, "8093f79176a43ce1106b5f045afce6c80ab5727be39320ea464b53a6c7f52b16"), looks := false }, kinds := [], alts := [], laidByText := true, laidKinds := [.data], laidTests := true, laidLooks := .later }
def AuditManyUptoCardSaid : Prop := Claim7.holds Tryd.pinned (.plain (OpenSpec.upto auditManySpec)) auditManyUptoCard
end Rows
end Go.Proofs.YtdlcmdoefdkjpaaDoor
