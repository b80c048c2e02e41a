/-
  DERIVED. GIVEN WITH THE SEED: THE CARDS: each row of YtaddefjkjlkjnaaDoorRows.lean that lists a variable, with what it lists TIED to the program's text (the seventh form; the later family's looks); each row that meets fmt, with fmt's text TOLD by the authors' own Lean function (tested against real Go, not proved from fmt's source: count such statements apart). THE CARD IS WHAT COUNTS. Prove the row's statement (the work); the ties are given (YtaddefjkjlkjnaaDoorTie.lean); close each card by the builder's one call (the guide's Derived/Test/ToyasCard.lean, 'card_holds'). Laid BY PROGRAM, IN A SANDBOX (cutbox-door.mjs). By AI agents, Wed Nov 11 2026. No macro, syntax, notation, axiom, sorry.
-/
import Derived.Test.YtaddefjkjlkjnaaDoorRows
import GoSem.ClaimSeven
namespace Go.Proofs.YtaddefjkjlkjnaaDoor
namespace Rows

/-- THE TIED CARD OF 'icehouselaw19.EntryUnpacks'. -/
def entryUnpacksCard : Claim7 := { stood := { row := entryUnpacksRow, standIns := [], harness := (true, "e469421b8734dd54fa012338fb11a7f80f128d0e30d27e6a73906a5fb112f0cd"), looks := true }, kinds := [], alts := [], laidByText := true, laidKinds := [.data, .pinned], laidTests := true, laidLooks := .later }
def EntryUnpacksCardSaid : Prop := Claim7.holds Tryd.pinned (.plain (OpenSpec.ofChange entryUnpacksSpec)) entryUnpacksCard

/-- THE TIED CARD OF 'icehouselaw19.EntrySames'. -/
def entrySamesCard : Claim7 := { stood := { row := entrySamesRow, standIns := [], harness := (true, "e469421b8734dd54fa012338fb11a7f80f128d0e30d27e6a73906a5fb112f0cd"), looks := true }, kinds := [], alts := [], laidByText := true, laidKinds := [.data, .pinned], laidTests := true, laidLooks := .later }
def EntrySamesCardSaid : Prop := Claim7.holds Tryd.pinned (.plain (OpenSpec.ofChange entrySamesSpec)) entrySamesCard

/-- THE TIED CARD OF 'icehouselaw28.AccessPrints'. -/
def accessPrintsCard : Claim7 := { stood := { row := accessPrintsRow, standIns := [], harness := (true, "e469421b8734dd54fa012338fb11a7f80f128d0e30d27e6a73906a5fb112f0cd"), looks := true }, kinds := [], alts := [], laidByText := true, laidKinds := [.data, .pinned], laidTests := true, laidLooks := .later }
def AccessPrintsCardSaid : Prop := Claim7.holds Tryd.pinned (.plain (OpenSpec.ofChange accessPrintsSpec)) accessPrintsCard

/-- THE TIED CARD OF 'icehouselaw28.AccessParses'. -/
def accessParsesCard : Claim7 := { stood := { row := accessParsesRow, standIns := [], harness := (true, "e469421b8734dd54fa012338fb11a7f80f128d0e30d27e6a73906a5fb112f0cd"), looks := true }, kinds := [], alts := [], laidByText := true, laidKinds := [.data, .pinned], laidTests := true, laidLooks := .later }
def AccessParsesCardSaid : Prop := Claim7.holds Tryd.pinned (.plain (OpenSpec.ofChange accessParsesSpec)) accessParsesCard

/-- THE TIED CARD OF 'icehouselaw28.AccessBounds'. -/
def accessBoundsCard : Claim7 := { stood := { row := accessBoundsRow, standIns := [], harness := (true, "e469421b8734dd54fa012338fb11a7f80f128d0e30d27e6a73906a5fb112f0cd"), looks := true }, kinds := [], alts := [], laidByText := true, laidKinds := [.data, .pinned], laidTests := true, laidLooks := .later }
def AccessBoundsCardSaid : Prop := Claim7.holds Tryd.pinned (.plain (OpenSpec.ofChange accessBoundsSpec)) accessBoundsCard

/-- THE TIED CARD OF 'icehouselaw19.EntryPacks'. -/
def entryPacksCard : Claim7 := { stood := { row := entryPacksRow, standIns := [], harness := (true, "e469421b8734dd54fa012338fb11a7f80f128d0e30d27e6a73906a5fb112f0cd"), looks := true }, kinds := [], alts := [], laidByText := true, laidKinds := [.data, .pinned], laidTests := true, laidLooks := .later }
def EntryPacksCardSaid : Prop := Claim7.holds Tryd.pinned (.plain (OpenSpec.ofChange entryPacksSpec)) entryPacksCard

/-- THE TIED CARD OF 'icehouselaw05.TargetParses'. -/
def targetParsesCard : Claim7 := { stood := { row := targetParsesRow, standIns := [], harness := (true, "e469421b8734dd54fa012338fb11a7f80f128d0e30d27e6a73906a5fb112f0cd"), looks := true }, kinds := [], alts := [], laidByText := true, laidKinds := [.data, .pinned], laidTests := true, laidLooks := .later }
def TargetParsesCardSaid : Prop := Claim7.holds Tryd.pinned (.plain (OpenSpec.ofChange targetParsesSpec)) targetParsesCard

/-- THE TIED CARD OF 'icehouselaw05.TargetResolves'. -/
def targetResolvesCard : Claim7 := { stood := { row := targetResolvesRow, standIns := [], harness := (true, "e469421b8734dd54fa012338fb11a7f80f128d0e30d27e6a73906a5fb112f0cd"), looks := true }, kinds := [], alts := [], laidByText := true, laidKinds := [.data, .pinned], laidTests := true, laidLooks := .later }
def TargetResolvesCardSaid : Prop := Claim7.holds Tryd.pinned (.plain (OpenSpec.ofChange targetResolvesSpec)) targetResolvesCard

/-- THE TIED CARD OF 'icehouselaw05.TargetOwn'. -/
def targetOwnCard : Claim7 := { stood := { row := targetOwnRow, standIns := [], harness := (true, "e469421b8734dd54fa012338fb11a7f80f128d0e30d27e6a73906a5fb112f0cd"), looks := true }, kinds := [], alts := [], laidByText := true, laidKinds := [.data, .pinned], laidTests := true, laidLooks := .later }
def TargetOwnCardSaid : Prop := Claim7.holds Tryd.pinned (.plain (OpenSpec.ofChange targetOwnSpec)) targetOwnCard

/-- THE TIED CARD OF 'icehouselaw05.TargetOf'. -/
def targetOfCard : Claim7 := { stood := { row := targetOfRow, standIns := [], harness := (true, "e469421b8734dd54fa012338fb11a7f80f128d0e30d27e6a73906a5fb112f0cd"), looks := true }, kinds := [], alts := [], laidByText := true, laidKinds := [.data, .pinned], laidTests := true, laidLooks := .later }
def TargetOfCardSaid : Prop := Claim7.holds Tryd.pinned (.plain (OpenSpec.ofChange targetOfSpec)) targetOfCard

/-- THE TIED CARD OF 'icehouselaw05.TargetBack'. -/
def targetBackCard : Claim7 := { stood := { row := targetBackRow, standIns := [], harness := (true, "e469421b8734dd54fa012338fb11a7f80f128d0e30d27e6a73906a5fb112f0cd"), looks := true }, kinds := [], alts := [], laidByText := true, laidKinds := [.data, .pinned], laidTests := true, laidLooks := .later }
def TargetBackCardSaid : Prop := Claim7.holds Tryd.pinned (.plain (OpenSpec.ofChange targetBackSpec)) targetBackCard

/-- THE TIED CARD OF 'icehouselaw05.TargetDots'. -/
def targetDotsCard : Claim7 := { stood := { row := targetDotsRow, standIns := [], harness := (true, "e469421b8734dd54fa012338fb11a7f80f128d0e30d27e6a73906a5fb112f0cd"), looks := true }, kinds := [], alts := [], laidByText := true, laidKinds := [.data, .pinned], laidTests := true, laidLooks := .later }
def TargetDotsCardSaid : Prop := Claim7.holds Tryd.pinned (.plain (OpenSpec.ofChange targetDotsSpec)) targetDotsCard

/-- THE SECOND FORM's CARD OF 'icehouselaw19.EntryUnpacks'. -/
def entryUnpacksUptoCard : Claim7 := { stood := { row := entryUnpacksUptoRow, standIns := [], harness := (true, "e469421b8734dd54fa012338fb11a7f80f128d0e30d27e6a73906a5fb112f0cd"), looks := true }, kinds := [], alts := [], laidByText := true, laidKinds := [.data, .pinned], laidTests := true, laidLooks := .later }
def EntryUnpacksUptoCardSaid : Prop := Claim7.holds Tryd.pinned (.plain (OpenSpec.upto entryUnpacksSpec)) entryUnpacksUptoCard

/-- THE SECOND FORM's CARD OF 'icehouselaw19.EntrySames'. -/
def entrySamesUptoCard : Claim7 := { stood := { row := entrySamesUptoRow, standIns := [], harness := (true, "e469421b8734dd54fa012338fb11a7f80f128d0e30d27e6a73906a5fb112f0cd"), looks := true }, kinds := [], alts := [], laidByText := true, laidKinds := [.data, .pinned], laidTests := true, laidLooks := .later }
def EntrySamesUptoCardSaid : Prop := Claim7.holds Tryd.pinned (.plain (OpenSpec.upto entrySamesSpec)) entrySamesUptoCard

/-- THE SECOND FORM's CARD OF 'icehouselaw28.AccessPrints'. -/
def accessPrintsUptoCard : Claim7 := { stood := { row := accessPrintsUptoRow, standIns := [], harness := (true, "e469421b8734dd54fa012338fb11a7f80f128d0e30d27e6a73906a5fb112f0cd"), looks := true }, kinds := [], alts := [], laidByText := true, laidKinds := [.data, .pinned], laidTests := true, laidLooks := .later }
def AccessPrintsUptoCardSaid : Prop := Claim7.holds Tryd.pinned (.plain (OpenSpec.upto accessPrintsSpec)) accessPrintsUptoCard

/-- THE SECOND FORM's CARD OF 'icehouselaw28.AccessParses'. -/
def accessParsesUptoCard : Claim7 := { stood := { row := accessParsesUptoRow, standIns := [], harness := (true, "e469421b8734dd54fa012338fb11a7f80f128d0e30d27e6a73906a5fb112f0cd"), looks := true }, kinds := [], alts := [], laidByText := true, laidKinds := [.data, .pinned], laidTests := true, laidLooks := .later }
def AccessParsesUptoCardSaid : Prop := Claim7.holds Tryd.pinned (.plain (OpenSpec.upto accessParsesSpec)) accessParsesUptoCard

/-- THE SECOND FORM's CARD OF 'icehouselaw28.AccessBounds'. -/
def accessBoundsUptoCard : Claim7 := { stood := { row := accessBoundsUptoRow, standIns := [], harness := (true, "e469421b8734dd54fa012338fb11a7f80f128d0e30d27e6a73906a5fb112f0cd"), looks := true }, kinds := [], alts := [], laidByText := true, laidKinds := [.data, .pinned], laidTests := true, laidLooks := .later }
def AccessBoundsUptoCardSaid : Prop := Claim7.holds Tryd.pinned (.plain (OpenSpec.upto accessBoundsSpec)) accessBoundsUptoCard

/-- THE SECOND FORM's CARD OF 'icehouselaw19.EntryPacks'. -/
def entryPacksUptoCard : Claim7 := { stood := { row := entryPacksUptoRow, standIns := [], harness := (true, "e469421b8734dd54fa012338fb11a7f80f128d0e30d27e6a73906a5fb112f0cd"), looks := true }, kinds := [], alts := [], laidByText := true, laidKinds := [.data, .pinned], laidTests := true, laidLooks := .later }
def EntryPacksUptoCardSaid : Prop := Claim7.holds Tryd.pinned (.plain (OpenSpec.upto entryPacksSpec)) entryPacksUptoCard

/-- THE SECOND FORM's CARD OF 'icehouselaw05.TargetParses'. -/
def targetParsesUptoCard : Claim7 := { stood := { row := targetParsesUptoRow, standIns := [], harness := (true, "e469421b8734dd54fa012338fb11a7f80f128d0e30d27e6a73906a5fb112f0cd"), looks := true }, kinds := [], alts := [], laidByText := true, laidKinds := [.data, .pinned], laidTests := true, laidLooks := .later }
def TargetParsesUptoCardSaid : Prop := Claim7.holds Tryd.pinned (.plain (OpenSpec.upto targetParsesSpec)) targetParsesUptoCard

/-- THE SECOND FORM's CARD OF 'icehouselaw05.TargetResolves'. -/
def targetResolvesUptoCard : Claim7 := { stood := { row := targetResolvesUptoRow, standIns := [], harness := (true, "e469421b8734dd54fa012338fb11a7f80f128d0e30d27e6a73906a5fb112f0cd"), looks := true }, kinds := [], alts := [], laidByText := true, laidKinds := [.data, .pinned], laidTests := true, laidLooks := .later }
def TargetResolvesUptoCardSaid : Prop := Claim7.holds Tryd.pinned (.plain (OpenSpec.upto targetResolvesSpec)) targetResolvesUptoCard

/-- THE SECOND FORM's CARD OF 'icehouselaw05.TargetOwn'. -/
def targetOwnUptoCard : Claim7 := { stood := { row := targetOwnUptoRow, standIns := [], harness := (true, "e469421b8734dd54fa012338fb11a7f80f128d0e30d27e6a73906a5fb112f0cd"), looks := true }, kinds := [], alts := [], laidByText := true, laidKinds := [.data, .pinned], laidTests := true, laidLooks := .later }
def TargetOwnUptoCardSaid : Prop := Claim7.holds Tryd.pinned (.plain (OpenSpec.upto targetOwnSpec)) targetOwnUptoCard

/-- THE SECOND FORM's CARD OF 'icehouselaw05.TargetOf'. -/
def targetOfUptoCard : Claim7 := { stood := { row := targetOfUptoRow, standIns := [], harness := (true, "e469421b8734dd54fa012338fb11a7f80f128d0e30d27e6a73906a5fb112f0cd"), looks := true }, kinds := [], alts := [], laidByText := true, laidKinds := [.data, .pinned], laidTests := true, laidLooks := .later }
def TargetOfUptoCardSaid : Prop := Claim7.holds Tryd.pinned (.plain (OpenSpec.upto targetOfSpec)) targetOfUptoCard

/-- THE SECOND FORM's CARD OF 'icehouselaw05.TargetBack'. -/
def targetBackUptoCard : Claim7 := { stood := { row := targetBackUptoRow, standIns := [], harness := (true, "e469421b8734dd54fa012338fb11a7f80f128d0e30d27e6a73906a5fb112f0cd"), looks := true }, kinds := [], alts := [], laidByText := true, laidKinds := [.data, .pinned], laidTests := true, laidLooks := .later }
def TargetBackUptoCardSaid : Prop := Claim7.holds Tryd.pinned (.plain (OpenSpec.upto targetBackSpec)) targetBackUptoCard

/-- THE SECOND FORM's CARD OF 'icehouselaw05.TargetDots'. -/
def targetDotsUptoCard : Claim7 := { stood := { row := targetDotsUptoRow, standIns := [], harness := (true, "e469421b8734dd54fa012338fb11a7f80f128d0e30d27e6a73906a5fb112f0cd"), looks := true }, kinds := [], alts := [], laidByText := true, laidKinds := [.data, .pinned], laidTests := true, laidLooks := .later }
def TargetDotsUptoCardSaid : Prop := Claim7.holds Tryd.pinned (.plain (OpenSpec.upto targetDotsSpec)) targetDotsUptoCard
end Rows
end Go.Proofs.YtaddefjkjlkjnaaDoor
