/-
  DERIVED. GIVEN WITH THE SEED: THE CARDS: each row of YtclgkkencpkjpaaGreatDoorRows.lean that lists a variable, with what it lists TIED to the program's text (the seventh form; the later family's looks); each row that meets fmt, with fmt's text TOLD by the authors' own Lean function (tested against real Go, not proved from fmt's source: count such statements apart). THE CARD IS WHAT COUNTS. Prove the row's statement (the work); the ties are given (YtclgkkencpkjpaaGreatDoorTie.lean); close each card by the builder's one call (the guide's Derived/Test/ToyasCard.lean, 'card_holds'). Laid BY PROGRAM, IN A SANDBOX (cutbox-door.mjs). By AI agents, Wed Nov 11 2026. No macro, syntax, notation, axiom, sorry.
-/
import Derived.Test.YtclgkkencpkjpaaGreatDoorRows
import GoSem.ClaimSeven
namespace Go.Proofs.YtclgkkencpkjpaaGreatDoor
namespace Rows

/-- THE TIED CARD OF 'icehouselaw01.OctetQuotes'. -/
def octetQuotesCard : Claim7 := { stood := { row := octetQuotesRow, standIns := [], harness := (true, "abd533e0590ceb8f878bcdc07f766c1ebb1ebe45b737748fd5f611e7a2232b59"), looks := true }, kinds := [], alts := [], laidByText := true, laidKinds := [.data, .pinned], laidTests := true, laidLooks := .later }
def OctetQuotesCardSaid : Prop := Claim7.holds Tryz.pinned (.plain (OpenSpec.ofChange octetQuotesSpec)) octetQuotesCard

/-- THE TIED CARD OF 'icehouselaw01.OctetJoins'. -/
def octetJoinsCard : Claim7 := { stood := { row := octetJoinsRow, standIns := [], harness := (true, "abd533e0590ceb8f878bcdc07f766c1ebb1ebe45b737748fd5f611e7a2232b59"), looks := true }, kinds := [], alts := [], laidByText := true, laidKinds := [.data, .pinned], laidTests := true, laidLooks := .later }
def OctetJoinsCardSaid : Prop := Claim7.holds Tryz.pinned (.plain (OpenSpec.ofChange octetJoinsSpec)) octetJoinsCard

/-- THE TIED CARD OF 'icehouselaw26.AuditReads'. -/
def auditReadsCard : Claim7 := { stood := { row := auditReadsRow, standIns := [], harness := (true, "abd533e0590ceb8f878bcdc07f766c1ebb1ebe45b737748fd5f611e7a2232b59"), looks := true }, kinds := [], alts := [], laidByText := true, laidKinds := [.data, .pinned], laidTests := true, laidLooks := .later }
def AuditReadsCardSaid : Prop := Claim7.holds Tryz.pinned (.plain (OpenSpec.ofChange auditReadsSpec)) auditReadsCard

/-- THE TIED CARD OF 'icehouselaw26.AuditPairs'. -/
def auditPairsCard : Claim7 := { stood := { row := auditPairsRow, standIns := [], harness := (true, "abd533e0590ceb8f878bcdc07f766c1ebb1ebe45b737748fd5f611e7a2232b59"), looks := true }, kinds := [], alts := [], laidByText := true, laidKinds := [.data, .pinned], laidTests := true, laidLooks := .later }
def AuditPairsCardSaid : Prop := Claim7.holds Tryz.pinned (.plain (OpenSpec.ofChange auditPairsSpec)) auditPairsCard

/-- THE TIED CARD OF 'icehouselaw26.AuditLogs'. -/
def auditLogsCard : Claim7 := { stood := { row := auditLogsRow, standIns := [], harness := (true, "abd533e0590ceb8f878bcdc07f766c1ebb1ebe45b737748fd5f611e7a2232b59"), looks := true }, kinds := [], alts := [], laidByText := true, laidKinds := [.data, .pinned], laidTests := true, laidLooks := .later }
def AuditLogsCardSaid : Prop := Claim7.holds Tryz.pinned (.plain (OpenSpec.ofChange auditLogsSpec)) auditLogsCard

/-- THE TIED CARD OF 'icehouselaw23.OriginSends'. -/
def originSendsCard : Claim7 := { stood := { row := originSendsRow, standIns := [], harness := (true, "abd533e0590ceb8f878bcdc07f766c1ebb1ebe45b737748fd5f611e7a2232b59"), looks := true }, kinds := [], alts := [], laidByText := true, laidKinds := [.data, .pinned], laidTests := true, laidLooks := .later }
def OriginSendsCardSaid : Prop := Claim7.holds Tryz.pinned (.plain (OpenSpec.ofChange originSendsSpec)) originSendsCard

/-- THE TIED CARD OF 'icehouselaw23.OriginTakes'. -/
def originTakesCard : Claim7 := { stood := { row := originTakesRow, standIns := [], harness := (true, "abd533e0590ceb8f878bcdc07f766c1ebb1ebe45b737748fd5f611e7a2232b59"), looks := true }, kinds := [], alts := [], laidByText := true, laidKinds := [.data, .pinned], laidTests := true, laidLooks := .later }
def OriginTakesCardSaid : Prop := Claim7.holds Tryz.pinned (.plain (OpenSpec.ofChange originTakesSpec)) originTakesCard

/-- THE TIED CARD OF 'icehouselaw23.OriginAsks'. -/
def originAsksCard : Claim7 := { stood := { row := originAsksRow, standIns := [], harness := (true, "abd533e0590ceb8f878bcdc07f766c1ebb1ebe45b737748fd5f611e7a2232b59"), looks := true }, kinds := [], alts := [], laidByText := true, laidKinds := [.data, .pinned], laidTests := true, laidLooks := .later }
def OriginAsksCardSaid : Prop := Claim7.holds Tryz.pinned (.plain (OpenSpec.ofChange originAsksSpec)) originAsksCard

/-- THE TIED CARD OF 'icehouselaw23.OriginAnswers'. -/
def originAnswersCard : Claim7 := { stood := { row := originAnswersRow, standIns := [], harness := (true, "abd533e0590ceb8f878bcdc07f766c1ebb1ebe45b737748fd5f611e7a2232b59"), looks := true }, kinds := [], alts := [], laidByText := true, laidKinds := [.data, .pinned], laidTests := true, laidLooks := .later }
def OriginAnswersCardSaid : Prop := Claim7.holds Tryz.pinned (.plain (OpenSpec.ofChange originAnswersSpec)) originAnswersCard

/-- THE TIED CARD OF 'icehouselaw23.OriginRound'. -/
def originRoundCard : Claim7 := { stood := { row := originRoundRow, standIns := [], harness := (true, "abd533e0590ceb8f878bcdc07f766c1ebb1ebe45b737748fd5f611e7a2232b59"), looks := true }, kinds := [], alts := [], laidByText := true, laidKinds := [.data, .pinned], laidTests := true, laidLooks := .later }
def OriginRoundCardSaid : Prop := Claim7.holds Tryz.pinned (.plain (OpenSpec.ofChange originRoundSpec)) originRoundCard

/-- THE SECOND FORM's CARD OF 'icehouselaw01.OctetQuotes'. -/
def octetQuotesUptoCard : Claim7 := { stood := { row := octetQuotesUptoRow, standIns := [], harness := (true, "abd533e0590ceb8f878bcdc07f766c1ebb1ebe45b737748fd5f611e7a2232b59"), looks := true }, kinds := [], alts := [], laidByText := true, laidKinds := [.data, .pinned], laidTests := true, laidLooks := .later }
def OctetQuotesUptoCardSaid : Prop := Claim7.holds Tryz.pinned (.plain (OpenSpec.upto octetQuotesSpec)) octetQuotesUptoCard

/-- THE SECOND FORM's CARD OF 'icehouselaw01.OctetJoins'. -/
def octetJoinsUptoCard : Claim7 := { stood := { row := octetJoinsUptoRow, standIns := [], harness := (true, "abd533e0590ceb8f878bcdc07f766c1ebb1ebe45b737748fd5f611e7a2232b59"), looks := true }, kinds := [], alts := [], laidByText := true, laidKinds := [.data, .pinned], laidTests := true, laidLooks := .later }
def OctetJoinsUptoCardSaid : Prop := Claim7.holds Tryz.pinned (.plain (OpenSpec.upto octetJoinsSpec)) octetJoinsUptoCard

/-- THE SECOND FORM's CARD OF 'icehouselaw26.AuditReads'. -/
def auditReadsUptoCard : Claim7 := { stood := { row := auditReadsUptoRow, standIns := [], harness := (true, "abd533e0590ceb8f878bcdc07f766c1ebb1ebe45b737748fd5f611e7a2232b59"), looks := true }, kinds := [], alts := [], laidByText := true, laidKinds := [.data, .pinned], laidTests := true, laidLooks := .later }
def AuditReadsUptoCardSaid : Prop := Claim7.holds Tryz.pinned (.plain (OpenSpec.upto auditReadsSpec)) auditReadsUptoCard

/-- THE SECOND FORM's CARD OF 'icehouselaw26.AuditPairs'. -/
def auditPairsUptoCard : Claim7 := { stood := { row := auditPairsUptoRow, standIns := [], harness := (true, "abd533e0590ceb8f878bcdc07f766c1ebb1ebe45b737748fd5f611e7a2232b59"), looks := true }, kinds := [], alts := [], laidByText := true, laidKinds := [.data, .pinned], laidTests := true, laidLooks := .later }
def AuditPairsUptoCardSaid : Prop := Claim7.holds Tryz.pinned (.plain (OpenSpec.upto auditPairsSpec)) auditPairsUptoCard

/-- THE SECOND FORM's CARD OF 'icehouselaw26.AuditLogs'. -/
def auditLogsUptoCard : Claim7 := { stood := { row := auditLogsUptoRow, standIns := [], harness := (true, "abd533e0590ceb8f878bcdc07f766c1ebb1ebe45b737748fd5f611e7a2232b59"), looks := true }, kinds := [], alts := [], laidByText := true, laidKinds := [.data, .pinned], laidTests := true, laidLooks := .later }
def AuditLogsUptoCardSaid : Prop := Claim7.holds Tryz.pinned (.plain (OpenSpec.upto auditLogsSpec)) auditLogsUptoCard

/-- THE SECOND FORM's CARD OF 'icehouselaw23.OriginSends'. -/
def originSendsUptoCard : Claim7 := { stood := { row := originSendsUptoRow, standIns := [], harness := (true, "abd533e0590ceb8f878bcdc07f766c1ebb1ebe45b737748fd5f611e7a2232b59"), looks := true }, kinds := [], alts := [], laidByText := true, laidKinds := [.data, .pinned], laidTests := true, laidLooks := .later }
def OriginSendsUptoCardSaid : Prop := Claim7.holds Tryz.pinned (.plain (OpenSpec.upto originSendsSpec)) originSendsUptoCard

/-- THE SECOND FORM's CARD OF 'icehouselaw23.OriginTakes'. -/
def originTakesUptoCard : Claim7 := { stood := { row := originTakesUptoRow, standIns := [], harness := (true, "abd533e0590ceb8f878bcdc07f766c1ebb1ebe45b737748fd5f611e7a2232b59"), looks := true }, kinds := [], alts := [], laidByText := true, laidKinds := [.data, .pinned], laidTests := true, laidLooks := .later }
def OriginTakesUptoCardSaid : Prop := Claim7.holds Tryz.pinned (.plain (OpenSpec.upto originTakesSpec)) originTakesUptoCard

/-- THE SECOND FORM's CARD OF 'icehouselaw23.OriginAsks'. -/
def originAsksUptoCard : Claim7 := { stood := { row := originAsksUptoRow, standIns := [], harness := (true, "abd533e0590ceb8f878bcdc07f766c1ebb1ebe45b737748fd5f611e7a2232b59"), looks := true }, kinds := [], alts := [], laidByText := true, laidKinds := [.data, .pinned], laidTests := true, laidLooks := .later }
def OriginAsksUptoCardSaid : Prop := Claim7.holds Tryz.pinned (.plain (OpenSpec.upto originAsksSpec)) originAsksUptoCard

/-- THE SECOND FORM's CARD OF 'icehouselaw23.OriginAnswers'. -/
def originAnswersUptoCard : Claim7 := { stood := { row := originAnswersUptoRow, standIns := [], harness := (true, "abd533e0590ceb8f878bcdc07f766c1ebb1ebe45b737748fd5f611e7a2232b59"), looks := true }, kinds := [], alts := [], laidByText := true, laidKinds := [.data, .pinned], laidTests := true, laidLooks := .later }
def OriginAnswersUptoCardSaid : Prop := Claim7.holds Tryz.pinned (.plain (OpenSpec.upto originAnswersSpec)) originAnswersUptoCard

/-- THE SECOND FORM's CARD OF 'icehouselaw23.OriginRound'. -/
def originRoundUptoCard : Claim7 := { stood := { row := originRoundUptoRow, standIns := [], harness := (true, "abd533e0590ceb8f878bcdc07f766c1ebb1ebe45b737748fd5f611e7a2232b59"), looks := true }, kinds := [], alts := [], laidByText := true, laidKinds := [.data, .pinned], laidTests := true, laidLooks := .later }
def OriginRoundUptoCardSaid : Prop := Claim7.holds Tryz.pinned (.plain (OpenSpec.upto originRoundSpec)) originRoundUptoCard
end Rows
end Go.Proofs.YtclgkkencpkjpaaGreatDoor
