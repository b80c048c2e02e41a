/-
  DERIVED. GIVEN WITH THE SEED: THE CARDS: each row of YtamoebdfppjbkaaDoorRows.lean that lists a variable, with what it lists TIED to the program's text (the seventh form; the later family's looks); each row that meets fmt, with fmt's text TOLD by the authors' own Lean function (tested against real Go, not proved from fmt's source: count such statements apart). THE CARD IS WHAT COUNTS. Prove the row's statement (the work); the ties are given (YtamoebdfppjbkaaDoorTie.lean); close each card by the builder's one call (the guide's Derived/Test/ToyasCard.lean, 'card_holds'). Laid BY PROGRAM, IN A SANDBOX (cutbox-door.mjs). By AI agents, Wed Nov 11 2026. No macro, syntax, notation, axiom, sorry.
-/
import Derived.Test.YtamoebdfppjbkaaDoorRows
import GoSem.ClaimSeven
namespace Go.Proofs.YtamoebdfppjbkaaDoor
namespace Rows

/-- THE TIED CARD OF 'icehouselaw01.OctetSplits'. -/
def octetSplitsCard : Claim7 := { stood := { row := octetSplitsRow, standIns := [], harness := (true, "c76ab18d209e0c7581156838438ce69eb48a8602d6e0dfb75a0da29b72f45972"), looks := true }, kinds := [], alts := [], laidByText := true, laidKinds := [.data, .pinned], laidTests := true, laidLooks := .later }
def OctetSplitsCardSaid : Prop := Claim7.holds Tryd.pinned (.plain (OpenSpec.ofChange octetSplitsSpec)) octetSplitsCard

/-- THE TIED CARD OF 'icehouselaw01.OctetNumbers'. -/
def octetNumbersCard : Claim7 := { stood := { row := octetNumbersRow, standIns := [], harness := (true, "c76ab18d209e0c7581156838438ce69eb48a8602d6e0dfb75a0da29b72f45972"), looks := true }, kinds := [], alts := [], laidByText := true, laidKinds := [.data, .pinned], laidTests := true, laidLooks := .later }
def OctetNumbersCardSaid : Prop := Claim7.holds Tryd.pinned (.plain (OpenSpec.ofChange octetNumbersSpec)) octetNumbersCard

/-- THE TIED CARD OF 'icehouselaw01.OctetKinds'. -/
def octetKindsCard : Claim7 := { stood := { row := octetKindsRow, standIns := [], harness := (true, "c76ab18d209e0c7581156838438ce69eb48a8602d6e0dfb75a0da29b72f45972"), looks := true }, kinds := [], alts := [], laidByText := true, laidKinds := [.data, .pinned], laidTests := true, laidLooks := .later }
def OctetKindsCardSaid : Prop := Claim7.holds Tryd.pinned (.plain (OpenSpec.ofChange octetKindsSpec)) octetKindsCard

/-- THE TIED CARD OF 'icehouselaw01.OctetTrims'. -/
def octetTrimsCard : Claim7 := { stood := { row := octetTrimsRow, standIns := [], harness := (true, "c76ab18d209e0c7581156838438ce69eb48a8602d6e0dfb75a0da29b72f45972"), looks := true }, kinds := [], alts := [], laidByText := true, laidKinds := [.data, .pinned], laidTests := true, laidLooks := .later }
def OctetTrimsCardSaid : Prop := Claim7.holds Tryd.pinned (.plain (OpenSpec.ofChange octetTrimsSpec)) octetTrimsCard

/-- THE TIED CARD OF 'icehouselaw19.EntryUnpacks'. -/
def entryUnpacksCard : Claim7 := { stood := { row := entryUnpacksRow, standIns := [], harness := (true, "c76ab18d209e0c7581156838438ce69eb48a8602d6e0dfb75a0da29b72f45972"), looks := true }, kinds := [], alts := [], laidByText := true, laidKinds := [.data, .pinned], laidTests := true, laidLooks := .later }
def EntryUnpacksCardSaid : Prop := Claim7.holds Tryd.pinned (.plain (OpenSpec.ofChange entryUnpacksSpec)) entryUnpacksCard

/-- THE TIED CARD OF 'icehouselaw19.EntrySames'. -/
def entrySamesCard : Claim7 := { stood := { row := entrySamesRow, standIns := [], harness := (true, "c76ab18d209e0c7581156838438ce69eb48a8602d6e0dfb75a0da29b72f45972"), looks := true }, kinds := [], alts := [], laidByText := true, laidKinds := [.data, .pinned], laidTests := true, laidLooks := .later }
def EntrySamesCardSaid : Prop := Claim7.holds Tryd.pinned (.plain (OpenSpec.ofChange entrySamesSpec)) entrySamesCard

/-- THE TIED CARD OF 'icehouselaw28.AccessPrints'. -/
def accessPrintsCard : Claim7 := { stood := { row := accessPrintsRow, standIns := [], harness := (true, "c76ab18d209e0c7581156838438ce69eb48a8602d6e0dfb75a0da29b72f45972"), looks := true }, kinds := [], alts := [], laidByText := true, laidKinds := [.data, .pinned], laidTests := true, laidLooks := .later }
def AccessPrintsCardSaid : Prop := Claim7.holds Tryd.pinned (.plain (OpenSpec.ofChange accessPrintsSpec)) accessPrintsCard

/-- THE TIED CARD OF 'icehouselaw28.AccessParses'. -/
def accessParsesCard : Claim7 := { stood := { row := accessParsesRow, standIns := [], harness := (true, "c76ab18d209e0c7581156838438ce69eb48a8602d6e0dfb75a0da29b72f45972"), looks := true }, kinds := [], alts := [], laidByText := true, laidKinds := [.data, .pinned], laidTests := true, laidLooks := .later }
def AccessParsesCardSaid : Prop := Claim7.holds Tryd.pinned (.plain (OpenSpec.ofChange accessParsesSpec)) accessParsesCard

/-- THE TIED CARD OF 'icehouselaw28.AccessBounds'. -/
def accessBoundsCard : Claim7 := { stood := { row := accessBoundsRow, standIns := [], harness := (true, "c76ab18d209e0c7581156838438ce69eb48a8602d6e0dfb75a0da29b72f45972"), looks := true }, kinds := [], alts := [], laidByText := true, laidKinds := [.data, .pinned], laidTests := true, laidLooks := .later }
def AccessBoundsCardSaid : Prop := Claim7.holds Tryd.pinned (.plain (OpenSpec.ofChange accessBoundsSpec)) accessBoundsCard

/-- THE TIED CARD OF 'icehouselaw19.EntryPacks'. -/
def entryPacksCard : Claim7 := { stood := { row := entryPacksRow, standIns := [], harness := (true, "c76ab18d209e0c7581156838438ce69eb48a8602d6e0dfb75a0da29b72f45972"), looks := true }, kinds := [], alts := [], laidByText := true, laidKinds := [.data, .pinned], laidTests := true, laidLooks := .later }
def EntryPacksCardSaid : Prop := Claim7.holds Tryd.pinned (.plain (OpenSpec.ofChange entryPacksSpec)) entryPacksCard

/-- THE SECOND FORM's CARD OF 'icehouselaw01.OctetSplits'. -/
def octetSplitsUptoCard : Claim7 := { stood := { row := octetSplitsUptoRow, standIns := [], harness := (true, "c76ab18d209e0c7581156838438ce69eb48a8602d6e0dfb75a0da29b72f45972"), looks := true }, kinds := [], alts := [], laidByText := true, laidKinds := [.data, .pinned], laidTests := true, laidLooks := .later }
def OctetSplitsUptoCardSaid : Prop := Claim7.holds Tryd.pinned (.plain (OpenSpec.upto octetSplitsSpec)) octetSplitsUptoCard

/-- THE SECOND FORM's CARD OF 'icehouselaw01.OctetNumbers'. -/
def octetNumbersUptoCard : Claim7 := { stood := { row := octetNumbersUptoRow, standIns := [], harness := (true, "c76ab18d209e0c7581156838438ce69eb48a8602d6e0dfb75a0da29b72f45972"), looks := true }, kinds := [], alts := [], laidByText := true, laidKinds := [.data, .pinned], laidTests := true, laidLooks := .later }
def OctetNumbersUptoCardSaid : Prop := Claim7.holds Tryd.pinned (.plain (OpenSpec.upto octetNumbersSpec)) octetNumbersUptoCard

/-- THE SECOND FORM's CARD OF 'icehouselaw01.OctetKinds'. -/
def octetKindsUptoCard : Claim7 := { stood := { row := octetKindsUptoRow, standIns := [], harness := (true, "c76ab18d209e0c7581156838438ce69eb48a8602d6e0dfb75a0da29b72f45972"), looks := true }, kinds := [], alts := [], laidByText := true, laidKinds := [.data, .pinned], laidTests := true, laidLooks := .later }
def OctetKindsUptoCardSaid : Prop := Claim7.holds Tryd.pinned (.plain (OpenSpec.upto octetKindsSpec)) octetKindsUptoCard

/-- THE SECOND FORM's CARD OF 'icehouselaw01.OctetTrims'. -/
def octetTrimsUptoCard : Claim7 := { stood := { row := octetTrimsUptoRow, standIns := [], harness := (true, "c76ab18d209e0c7581156838438ce69eb48a8602d6e0dfb75a0da29b72f45972"), looks := true }, kinds := [], alts := [], laidByText := true, laidKinds := [.data, .pinned], laidTests := true, laidLooks := .later }
def OctetTrimsUptoCardSaid : Prop := Claim7.holds Tryd.pinned (.plain (OpenSpec.upto octetTrimsSpec)) octetTrimsUptoCard

/-- THE SECOND FORM's CARD OF 'icehouselaw19.EntryUnpacks'. -/
def entryUnpacksUptoCard : Claim7 := { stood := { row := entryUnpacksUptoRow, standIns := [], harness := (true, "c76ab18d209e0c7581156838438ce69eb48a8602d6e0dfb75a0da29b72f45972"), looks := true }, kinds := [], alts := [], laidByText := true, laidKinds := [.data, .pinned], laidTests := true, laidLooks := .later }
def EntryUnpacksUptoCardSaid : Prop := Claim7.holds Tryd.pinned (.plain (OpenSpec.upto entryUnpacksSpec)) entryUnpacksUptoCard

/-- THE SECOND FORM's CARD OF 'icehouselaw19.EntrySames'. -/
def entrySamesUptoCard : Claim7 := { stood := { row := entrySamesUptoRow, standIns := [], harness := (true, "c76ab18d209e0c7581156838438ce69eb48a8602d6e0dfb75a0da29b72f45972"), looks := true }, kinds := [], alts := [], laidByText := true, laidKinds := [.data, .pinned], laidTests := true, laidLooks := .later }
def EntrySamesUptoCardSaid : Prop := Claim7.holds Tryd.pinned (.plain (OpenSpec.upto entrySamesSpec)) entrySamesUptoCard

/-- THE SECOND FORM's CARD OF 'icehouselaw28.AccessPrints'. -/
def accessPrintsUptoCard : Claim7 := { stood := { row := accessPrintsUptoRow, standIns := [], harness := (true, "c76ab18d209e0c7581156838438ce69eb48a8602d6e0dfb75a0da29b72f45972"), looks := true }, kinds := [], alts := [], laidByText := true, laidKinds := [.data, .pinned], laidTests := true, laidLooks := .later }
def AccessPrintsUptoCardSaid : Prop := Claim7.holds Tryd.pinned (.plain (OpenSpec.upto accessPrintsSpec)) accessPrintsUptoCard

/-- THE SECOND FORM's CARD OF 'icehouselaw28.AccessParses'. -/
def accessParsesUptoCard : Claim7 := { stood := { row := accessParsesUptoRow, standIns := [], harness := (true, "c76ab18d209e0c7581156838438ce69eb48a8602d6e0dfb75a0da29b72f45972"), looks := true }, kinds := [], alts := [], laidByText := true, laidKinds := [.data, .pinned], laidTests := true, laidLooks := .later }
def AccessParsesUptoCardSaid : Prop := Claim7.holds Tryd.pinned (.plain (OpenSpec.upto accessParsesSpec)) accessParsesUptoCard

/-- THE SECOND FORM's CARD OF 'icehouselaw28.AccessBounds'. -/
def accessBoundsUptoCard : Claim7 := { stood := { row := accessBoundsUptoRow, standIns := [], harness := (true, "c76ab18d209e0c7581156838438ce69eb48a8602d6e0dfb75a0da29b72f45972"), looks := true }, kinds := [], alts := [], laidByText := true, laidKinds := [.data, .pinned], laidTests := true, laidLooks := .later }
def AccessBoundsUptoCardSaid : Prop := Claim7.holds Tryd.pinned (.plain (OpenSpec.upto accessBoundsSpec)) accessBoundsUptoCard

/-- THE SECOND FORM's CARD OF 'icehouselaw19.EntryPacks'. -/
def entryPacksUptoCard : Claim7 := { stood := { row := entryPacksUptoRow, standIns := [], harness := (true, "c76ab18d209e0c7581156838438ce69eb48a8602d6e0dfb75a0da29b72f45972"), looks := true }, kinds := [], alts := [], laidByText := true, laidKinds := [.data, .pinned], laidTests := true, laidLooks := .later }
def EntryPacksUptoCardSaid : Prop := Claim7.holds Tryd.pinned (.plain (OpenSpec.upto entryPacksSpec)) entryPacksUptoCard
end Rows
end Go.Proofs.YtamoebdfppjbkaaDoor
