/-
  DERIVED. GIVEN WITH THE SEED: THE CARDS: each row of YteocdpkenlkmbaaGreatDoorRows.lean that lists a variable, with what it lists TIED to the program's text (the seventh form; the later family's looks); each row that meets fmt, with fmt's text TOLD by the authors' own Lean function (tested against real Go, not proved from fmt's source: count such statements apart). THE CARD IS WHAT COUNTS. Prove the row's statement (the work); the ties are given (YteocdpkenlkmbaaGreatDoorTie.lean); close each card by the builder's one call (the guide's Derived/Test/ToyasCard.lean, 'card_holds'). Laid BY PROGRAM, IN A SANDBOX (cutbox-door.mjs). By AI agents, Wed Nov 11 2026. No macro, syntax, notation, axiom, sorry.
-/
import Derived.Test.YteocdpkenlkmbaaGreatDoorRows
import GoSem.ClaimSeven
namespace Go.Proofs.YteocdpkenlkmbaaGreatDoor
namespace Rows

/-- THE TIED CARD OF 'icehouselaw01.OctetQuotes'. -/
def octetQuotesCard : Claim7 := { stood := { row := octetQuotesRow, standIns := [], harness := (true, "61ae19961814b6164207517789b458f1b1e6d282ce86086794f4f4e7b2c8ddc0"), looks := true }, kinds := [], alts := [], laidByText := true, laidKinds := [.data, .pinned], laidTests := true, laidLooks := .later }
def OctetQuotesCardSaid : Prop := Claim7.holds Tryz.pinned (.plain (OpenSpec.ofChange octetQuotesSpec)) octetQuotesCard

/-- THE TIED CARD OF 'icehouselaw01.OctetJoins'. -/
def octetJoinsCard : Claim7 := { stood := { row := octetJoinsRow, standIns := [], harness := (true, "61ae19961814b6164207517789b458f1b1e6d282ce86086794f4f4e7b2c8ddc0"), looks := true }, kinds := [], alts := [], laidByText := true, laidKinds := [.data, .pinned], laidTests := true, laidLooks := .later }
def OctetJoinsCardSaid : Prop := Claim7.holds Tryz.pinned (.plain (OpenSpec.ofChange octetJoinsSpec)) octetJoinsCard

/-- THE TIED CARD OF 'icehouselaw08.MessageTakes'. -/
def messageTakesCard : Claim7 := { stood := { row := messageTakesRow, standIns := [], harness := (true, "61ae19961814b6164207517789b458f1b1e6d282ce86086794f4f4e7b2c8ddc0"), looks := true }, kinds := [], alts := [], laidByText := true, laidKinds := [.data, .pinned], laidTests := true, laidLooks := .later }
def MessageTakesCardSaid : Prop := Claim7.holds Tryz.pinned (.plain (OpenSpec.ofChange messageTakesSpec)) messageTakesCard

/-- THE TIED CARD OF 'icehouselaw08.MessageTwo'. -/
def messageTwoCard : Claim7 := { stood := { row := messageTwoRow, standIns := [], harness := (true, "61ae19961814b6164207517789b458f1b1e6d282ce86086794f4f4e7b2c8ddc0"), looks := true }, kinds := [], alts := [], laidByText := true, laidKinds := [.data, .pinned], laidTests := true, laidLooks := .later }
def MessageTwoCardSaid : Prop := Claim7.holds Tryz.pinned (.plain (OpenSpec.ofChange messageTwoSpec)) messageTwoCard

/-- THE TIED CARD OF 'icehouselaw08.MessageChunks'. -/
def messageChunksCard : Claim7 := { stood := { row := messageChunksRow, standIns := [], harness := (true, "61ae19961814b6164207517789b458f1b1e6d282ce86086794f4f4e7b2c8ddc0"), looks := true }, kinds := [], alts := [], laidByText := true, laidKinds := [.data, .pinned], laidTests := true, laidLooks := .later }
def MessageChunksCardSaid : Prop := Claim7.holds Tryz.pinned (.plain (OpenSpec.ofChange messageChunksSpec)) messageChunksCard

/-- THE TIED CARD OF 'icehouselaw08.MessageBare'. -/
def messageBareCard : Claim7 := { stood := { row := messageBareRow, standIns := [], harness := (true, "61ae19961814b6164207517789b458f1b1e6d282ce86086794f4f4e7b2c8ddc0"), looks := true }, kinds := [], alts := [], laidByText := true, laidKinds := [.data, .pinned], laidTests := true, laidLooks := .later }
def MessageBareCardSaid : Prop := Claim7.holds Tryz.pinned (.plain (OpenSpec.ofChange messageBareSpec)) messageBareCard

/-- THE TIED CARD OF 'icehouselaw26.AuditReads'. -/
def auditReadsCard : Claim7 := { stood := { row := auditReadsRow, standIns := [], harness := (true, "61ae19961814b6164207517789b458f1b1e6d282ce86086794f4f4e7b2c8ddc0"), looks := true }, kinds := [], alts := [], laidByText := true, laidKinds := [.data, .pinned], laidTests := true, laidLooks := .later }
def AuditReadsCardSaid : Prop := Claim7.holds Tryz.pinned (.plain (OpenSpec.ofChange auditReadsSpec)) auditReadsCard

/-- THE TIED CARD OF 'icehouselaw26.AuditPairs'. -/
def auditPairsCard : Claim7 := { stood := { row := auditPairsRow, standIns := [], harness := (true, "61ae19961814b6164207517789b458f1b1e6d282ce86086794f4f4e7b2c8ddc0"), looks := true }, kinds := [], alts := [], laidByText := true, laidKinds := [.data, .pinned], laidTests := true, laidLooks := .later }
def AuditPairsCardSaid : Prop := Claim7.holds Tryz.pinned (.plain (OpenSpec.ofChange auditPairsSpec)) auditPairsCard

/-- THE TIED CARD OF 'icehouselaw26.AuditLogs'. -/
def auditLogsCard : Claim7 := { stood := { row := auditLogsRow, standIns := [], harness := (true, "61ae19961814b6164207517789b458f1b1e6d282ce86086794f4f4e7b2c8ddc0"), looks := true }, kinds := [], alts := [], laidByText := true, laidKinds := [.data, .pinned], laidTests := true, laidLooks := .later }
def AuditLogsCardSaid : Prop := Claim7.holds Tryz.pinned (.plain (OpenSpec.ofChange auditLogsSpec)) auditLogsCard

/-- THE TIED CARD OF 'icehouselaw08.MessagePrints'. -/
def messagePrintsCard : Claim7 := { stood := { row := messagePrintsRow, standIns := [], harness := (true, "61ae19961814b6164207517789b458f1b1e6d282ce86086794f4f4e7b2c8ddc0"), looks := true }, kinds := [], alts := [], laidByText := true, laidKinds := [.data, .pinned], laidTests := true, laidLooks := .later }
def MessagePrintsCardSaid : Prop := Claim7.holds Tryz.pinned (.plain (OpenSpec.ofChange messagePrintsSpec)) messagePrintsCard

/-- THE SECOND FORM's CARD OF 'icehouselaw01.OctetQuotes'. -/
def octetQuotesUptoCard : Claim7 := { stood := { row := octetQuotesUptoRow, standIns := [], harness := (true, "61ae19961814b6164207517789b458f1b1e6d282ce86086794f4f4e7b2c8ddc0"), looks := true }, kinds := [], alts := [], laidByText := true, laidKinds := [.data, .pinned], laidTests := true, laidLooks := .later }
def OctetQuotesUptoCardSaid : Prop := Claim7.holds Tryz.pinned (.plain (OpenSpec.upto octetQuotesSpec)) octetQuotesUptoCard

/-- THE SECOND FORM's CARD OF 'icehouselaw01.OctetJoins'. -/
def octetJoinsUptoCard : Claim7 := { stood := { row := octetJoinsUptoRow, standIns := [], harness := (true, "61ae19961814b6164207517789b458f1b1e6d282ce86086794f4f4e7b2c8ddc0"), looks := true }, kinds := [], alts := [], laidByText := true, laidKinds := [.data, .pinned], laidTests := true, laidLooks := .later }
def OctetJoinsUptoCardSaid : Prop := Claim7.holds Tryz.pinned (.plain (OpenSpec.upto octetJoinsSpec)) octetJoinsUptoCard

/-- THE SECOND FORM's CARD OF 'icehouselaw08.MessageTakes'. -/
def messageTakesUptoCard : Claim7 := { stood := { row := messageTakesUptoRow, standIns := [], harness := (true, "61ae19961814b6164207517789b458f1b1e6d282ce86086794f4f4e7b2c8ddc0"), looks := true }, kinds := [], alts := [], laidByText := true, laidKinds := [.data, .pinned], laidTests := true, laidLooks := .later }
def MessageTakesUptoCardSaid : Prop := Claim7.holds Tryz.pinned (.plain (OpenSpec.upto messageTakesSpec)) messageTakesUptoCard

/-- THE SECOND FORM's CARD OF 'icehouselaw08.MessageTwo'. -/
def messageTwoUptoCard : Claim7 := { stood := { row := messageTwoUptoRow, standIns := [], harness := (true, "61ae19961814b6164207517789b458f1b1e6d282ce86086794f4f4e7b2c8ddc0"), looks := true }, kinds := [], alts := [], laidByText := true, laidKinds := [.data, .pinned], laidTests := true, laidLooks := .later }
def MessageTwoUptoCardSaid : Prop := Claim7.holds Tryz.pinned (.plain (OpenSpec.upto messageTwoSpec)) messageTwoUptoCard

/-- THE SECOND FORM's CARD OF 'icehouselaw08.MessageChunks'. -/
def messageChunksUptoCard : Claim7 := { stood := { row := messageChunksUptoRow, standIns := [], harness := (true, "61ae19961814b6164207517789b458f1b1e6d282ce86086794f4f4e7b2c8ddc0"), looks := true }, kinds := [], alts := [], laidByText := true, laidKinds := [.data, .pinned], laidTests := true, laidLooks := .later }
def MessageChunksUptoCardSaid : Prop := Claim7.holds Tryz.pinned (.plain (OpenSpec.upto messageChunksSpec)) messageChunksUptoCard

/-- THE SECOND FORM's CARD OF 'icehouselaw08.MessageBare'. -/
def messageBareUptoCard : Claim7 := { stood := { row := messageBareUptoRow, standIns := [], harness := (true, "61ae19961814b6164207517789b458f1b1e6d282ce86086794f4f4e7b2c8ddc0"), looks := true }, kinds := [], alts := [], laidByText := true, laidKinds := [.data, .pinned], laidTests := true, laidLooks := .later }
def MessageBareUptoCardSaid : Prop := Claim7.holds Tryz.pinned (.plain (OpenSpec.upto messageBareSpec)) messageBareUptoCard

/-- THE SECOND FORM's CARD OF 'icehouselaw26.AuditReads'. -/
def auditReadsUptoCard : Claim7 := { stood := { row := auditReadsUptoRow, standIns := [], harness := (true, "61ae19961814b6164207517789b458f1b1e6d282ce86086794f4f4e7b2c8ddc0"), looks := true }, kinds := [], alts := [], laidByText := true, laidKinds := [.data, .pinned], laidTests := true, laidLooks := .later }
def AuditReadsUptoCardSaid : Prop := Claim7.holds Tryz.pinned (.plain (OpenSpec.upto auditReadsSpec)) auditReadsUptoCard

/-- THE SECOND FORM's CARD OF 'icehouselaw26.AuditPairs'. -/
def auditPairsUptoCard : Claim7 := { stood := { row := auditPairsUptoRow, standIns := [], harness := (true, "61ae19961814b6164207517789b458f1b1e6d282ce86086794f4f4e7b2c8ddc0"), looks := true }, kinds := [], alts := [], laidByText := true, laidKinds := [.data, .pinned], laidTests := true, laidLooks := .later }
def AuditPairsUptoCardSaid : Prop := Claim7.holds Tryz.pinned (.plain (OpenSpec.upto auditPairsSpec)) auditPairsUptoCard

/-- THE SECOND FORM's CARD OF 'icehouselaw26.AuditLogs'. -/
def auditLogsUptoCard : Claim7 := { stood := { row := auditLogsUptoRow, standIns := [], harness := (true, "61ae19961814b6164207517789b458f1b1e6d282ce86086794f4f4e7b2c8ddc0"), looks := true }, kinds := [], alts := [], laidByText := true, laidKinds := [.data, .pinned], laidTests := true, laidLooks := .later }
def AuditLogsUptoCardSaid : Prop := Claim7.holds Tryz.pinned (.plain (OpenSpec.upto auditLogsSpec)) auditLogsUptoCard

/-- THE SECOND FORM's CARD OF 'icehouselaw08.MessagePrints'. -/
def messagePrintsUptoCard : Claim7 := { stood := { row := messagePrintsUptoRow, standIns := [], harness := (true, "61ae19961814b6164207517789b458f1b1e6d282ce86086794f4f4e7b2c8ddc0"), looks := true }, kinds := [], alts := [], laidByText := true, laidKinds := [.data, .pinned], laidTests := true, laidLooks := .later }
def MessagePrintsUptoCardSaid : Prop := Claim7.holds Tryz.pinned (.plain (OpenSpec.upto messagePrintsSpec)) messagePrintsUptoCard
end Rows
end Go.Proofs.YteocdpkenlkmbaaGreatDoor
