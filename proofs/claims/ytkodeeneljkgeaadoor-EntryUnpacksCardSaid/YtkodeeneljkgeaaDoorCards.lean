/-
  DERIVED. GIVEN WITH THE SEED: THE CARDS: each row of YtkodeeneljkgeaaDoorRows.lean that lists a variable, with what it lists TIED to the program's text (the seventh form; the later family's looks); each row that meets fmt, with fmt's text TOLD by the authors' own Lean function (tested against real Go, not proved from fmt's source: count such statements apart). THE CARD IS WHAT COUNTS. Prove the row's statement (the work); the ties are given (YtkodeeneljkgeaaDoorTie.lean); close each card by the builder's one call (the guide's Derived/Test/ToyasCard.lean, 'card_holds'). Laid BY PROGRAM, IN A SANDBOX (cutbox-door.mjs). By AI agents, Wed Nov 11 2026. No macro, syntax, notation, axiom, sorry.
-/
import Derived.Test.YtkodeeneljkgeaaDoorRows
import GoSem.ClaimSeven
namespace Go.Proofs.YtkodeeneljkgeaaDoor
namespace Rows

/-- THE TIED CARD OF 'icehouselaw19.EntryUnpacks'. -/
def entryUnpacksCard : Claim7 := { stood := { row := entryUnpacksRow, standIns := [], harness := (true, "65df8cd773ac19b630012e930c69426ef756d80aed23bc1632fdba36abe386c3"), looks := true }, kinds := [], alts := [], laidByText := true, laidKinds := [.data, .pinned], laidTests := true, laidLooks := .later }
def EntryUnpacksCardSaid : Prop := Claim7.holds Tryd.pinned (.plain (OpenSpec.ofChange entryUnpacksSpec)) entryUnpacksCard

/-- THE TIED CARD OF 'icehouselaw19.EntrySames'. -/
def entrySamesCard : Claim7 := { stood := { row := entrySamesRow, standIns := [], harness := (true, "65df8cd773ac19b630012e930c69426ef756d80aed23bc1632fdba36abe386c3"), looks := true }, kinds := [], alts := [], laidByText := true, laidKinds := [.data, .pinned], laidTests := true, laidLooks := .later }
def EntrySamesCardSaid : Prop := Claim7.holds Tryd.pinned (.plain (OpenSpec.ofChange entrySamesSpec)) entrySamesCard

/-- THE TIED CARD OF 'icehouselaw19.EntryPacks'. -/
def entryPacksCard : Claim7 := { stood := { row := entryPacksRow, standIns := [], harness := (true, "65df8cd773ac19b630012e930c69426ef756d80aed23bc1632fdba36abe386c3"), looks := true }, kinds := [], alts := [], laidByText := true, laidKinds := [.data, .pinned], laidTests := true, laidLooks := .later }
def EntryPacksCardSaid : Prop := Claim7.holds Tryd.pinned (.plain (OpenSpec.ofChange entryPacksSpec)) entryPacksCard

/-- THE SECOND FORM's CARD OF 'icehouselaw19.EntryUnpacks'. -/
def entryUnpacksUptoCard : Claim7 := { stood := { row := entryUnpacksUptoRow, standIns := [], harness := (true, "65df8cd773ac19b630012e930c69426ef756d80aed23bc1632fdba36abe386c3"), looks := true }, kinds := [], alts := [], laidByText := true, laidKinds := [.data, .pinned], laidTests := true, laidLooks := .later }
def EntryUnpacksUptoCardSaid : Prop := Claim7.holds Tryd.pinned (.plain (OpenSpec.upto entryUnpacksSpec)) entryUnpacksUptoCard

/-- THE SECOND FORM's CARD OF 'icehouselaw19.EntrySames'. -/
def entrySamesUptoCard : Claim7 := { stood := { row := entrySamesUptoRow, standIns := [], harness := (true, "65df8cd773ac19b630012e930c69426ef756d80aed23bc1632fdba36abe386c3"), looks := true }, kinds := [], alts := [], laidByText := true, laidKinds := [.data, .pinned], laidTests := true, laidLooks := .later }
def EntrySamesUptoCardSaid : Prop := Claim7.holds Tryd.pinned (.plain (OpenSpec.upto entrySamesSpec)) entrySamesUptoCard

/-- THE SECOND FORM's CARD OF 'icehouselaw19.EntryPacks'. -/
def entryPacksUptoCard : Claim7 := { stood := { row := entryPacksUptoRow, standIns := [], harness := (true, "65df8cd773ac19b630012e930c69426ef756d80aed23bc1632fdba36abe386c3"), looks := true }, kinds := [], alts := [], laidByText := true, laidKinds := [.data, .pinned], laidTests := true, laidLooks := .later }
def EntryPacksUptoCardSaid : Prop := Claim7.holds Tryd.pinned (.plain (OpenSpec.upto entryPacksSpec)) entryPacksUptoCard
end Rows
end Go.Proofs.YtkodeeneljkgeaaDoor
