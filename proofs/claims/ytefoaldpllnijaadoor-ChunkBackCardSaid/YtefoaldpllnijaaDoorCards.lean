/-
  DERIVED. GIVEN WITH THE SEED: THE CARDS: each row of YtefoaldpllnijaaDoorRows.lean that lists a variable, with what it lists TIED to the program's text (the seventh form; the later family's looks); each row that meets fmt, with fmt's text TOLD by the authors' own Lean function (tested against real Go, not proved from fmt's source: count such statements apart). THE CARD IS WHAT COUNTS. Prove the row's statement (the work); the ties are given (YtefoaldpllnijaaDoorTie.lean); close each card by the builder's one call (the guide's Derived/Test/ToyasCard.lean, 'card_holds'). Laid BY PROGRAM, IN A SANDBOX (cutbox-door.mjs). By AI agents, Wed Nov 11 2026. No macro, syntax, notation, axiom, sorry.
-/
import Derived.Test.YtefoaldpllnijaaDoorRows
import GoSem.ClaimSeven
namespace Go.Proofs.YtefoaldpllnijaaDoor
namespace Rows

/-- THE TIED CARD OF 'icehouselaw19.EntryUnpacks'. -/
def entryUnpacksCard : Claim7 := { stood := { row := entryUnpacksRow, standIns := [], harness := (true, "0e9ecfa1bbf3d345f0c5a7cb06831ad9d312ab85c87640315d9769cf18dc1d87"), looks := true }, kinds := [], alts := [], laidByText := true, laidKinds := [.data, .pinned], laidTests := true, laidLooks := .later }
def EntryUnpacksCardSaid : Prop := Claim7.holds Tryd.pinned (.plain (OpenSpec.ofChange entryUnpacksSpec)) entryUnpacksCard

/-- THE TIED CARD OF 'icehouselaw19.EntrySames'. -/
def entrySamesCard : Claim7 := { stood := { row := entrySamesRow, standIns := [], harness := (true, "0e9ecfa1bbf3d345f0c5a7cb06831ad9d312ab85c87640315d9769cf18dc1d87"), looks := true }, kinds := [], alts := [], laidByText := true, laidKinds := [.data, .pinned], laidTests := true, laidLooks := .later }
def EntrySamesCardSaid : Prop := Claim7.holds Tryd.pinned (.plain (OpenSpec.ofChange entrySamesSpec)) entrySamesCard

/-- THE TIED CARD OF 'icehouselaw19.EntryPacks'. -/
def entryPacksCard : Claim7 := { stood := { row := entryPacksRow, standIns := [], harness := (true, "0e9ecfa1bbf3d345f0c5a7cb06831ad9d312ab85c87640315d9769cf18dc1d87"), looks := true }, kinds := [], alts := [], laidByText := true, laidKinds := [.data, .pinned], laidTests := true, laidLooks := .later }
def EntryPacksCardSaid : Prop := Claim7.holds Tryd.pinned (.plain (OpenSpec.ofChange entryPacksSpec)) entryPacksCard

/-- THE TIED CARD OF 'icehouselaw07.ChunkFeeds'. -/
def chunkFeedsCard : Claim7 := { stood := { row := chunkFeedsRow, standIns := [], harness := (true, "0e9ecfa1bbf3d345f0c5a7cb06831ad9d312ab85c87640315d9769cf18dc1d87"), looks := true }, kinds := [], alts := [], laidByText := true, laidKinds := [.data, .pinned], laidTests := true, laidLooks := .later }
def ChunkFeedsCardSaid : Prop := Claim7.holds Tryd.pinned (.plain (OpenSpec.ofChange chunkFeedsSpec)) chunkFeedsCard

/-- THE TIED CARD OF 'icehouselaw07.ChunkDecodes'. -/
def chunkDecodesCard : Claim7 := { stood := { row := chunkDecodesRow, standIns := [], harness := (true, "0e9ecfa1bbf3d345f0c5a7cb06831ad9d312ab85c87640315d9769cf18dc1d87"), looks := true }, kinds := [], alts := [], laidByText := true, laidKinds := [.data, .pinned], laidTests := true, laidLooks := .later }
def ChunkDecodesCardSaid : Prop := Claim7.holds Tryd.pinned (.plain (OpenSpec.ofChange chunkDecodesSpec)) chunkDecodesCard

/-- THE TIED CARD OF 'icehouselaw07.ChunkBack'. -/
def chunkBackCard : Claim7 := { stood := { row := chunkBackRow, standIns := [], harness := (true, "0e9ecfa1bbf3d345f0c5a7cb06831ad9d312ab85c87640315d9769cf18dc1d87"), looks := true }, kinds := [], alts := [], laidByText := true, laidKinds := [.data, .pinned], laidTests := true, laidLooks := .later }
def ChunkBackCardSaid : Prop := Claim7.holds Tryd.pinned (.plain (OpenSpec.ofChange chunkBackSpec)) chunkBackCard

/-- THE TIED CARD OF 'icehouselaw07.ChunkBounds'. -/
def chunkBoundsCard : Claim7 := { stood := { row := chunkBoundsRow, standIns := [], harness := (true, "0e9ecfa1bbf3d345f0c5a7cb06831ad9d312ab85c87640315d9769cf18dc1d87"), looks := true }, kinds := [], alts := [], laidByText := true, laidKinds := [.data, .pinned], laidTests := true, laidLooks := .later }
def ChunkBoundsCardSaid : Prop := Claim7.holds Tryd.pinned (.plain (OpenSpec.ofChange chunkBoundsSpec)) chunkBoundsCard

/-- THE TIED CARD OF 'icehouselaw07.ChunkSingles'. -/
def chunkSinglesCard : Claim7 := { stood := { row := chunkSinglesRow, standIns := [], harness := (true, "0e9ecfa1bbf3d345f0c5a7cb06831ad9d312ab85c87640315d9769cf18dc1d87"), looks := true }, kinds := [], alts := [], laidByText := true, laidKinds := [.data, .pinned], laidTests := true, laidLooks := .later }
def ChunkSinglesCardSaid : Prop := Claim7.holds Tryd.pinned (.plain (OpenSpec.ofChange chunkSinglesSpec)) chunkSinglesCard

/-- THE SECOND FORM's CARD OF 'icehouselaw19.EntryUnpacks'. -/
def entryUnpacksUptoCard : Claim7 := { stood := { row := entryUnpacksUptoRow, standIns := [], harness := (true, "0e9ecfa1bbf3d345f0c5a7cb06831ad9d312ab85c87640315d9769cf18dc1d87"), looks := true }, kinds := [], alts := [], laidByText := true, laidKinds := [.data, .pinned], laidTests := true, laidLooks := .later }
def EntryUnpacksUptoCardSaid : Prop := Claim7.holds Tryd.pinned (.plain (OpenSpec.upto entryUnpacksSpec)) entryUnpacksUptoCard

/-- THE SECOND FORM's CARD OF 'icehouselaw19.EntrySames'. -/
def entrySamesUptoCard : Claim7 := { stood := { row := entrySamesUptoRow, standIns := [], harness := (true, "0e9ecfa1bbf3d345f0c5a7cb06831ad9d312ab85c87640315d9769cf18dc1d87"), looks := true }, kinds := [], alts := [], laidByText := true, laidKinds := [.data, .pinned], laidTests := true, laidLooks := .later }
def EntrySamesUptoCardSaid : Prop := Claim7.holds Tryd.pinned (.plain (OpenSpec.upto entrySamesSpec)) entrySamesUptoCard

/-- THE SECOND FORM's CARD OF 'icehouselaw19.EntryPacks'. -/
def entryPacksUptoCard : Claim7 := { stood := { row := entryPacksUptoRow, standIns := [], harness := (true, "0e9ecfa1bbf3d345f0c5a7cb06831ad9d312ab85c87640315d9769cf18dc1d87"), looks := true }, kinds := [], alts := [], laidByText := true, laidKinds := [.data, .pinned], laidTests := true, laidLooks := .later }
def EntryPacksUptoCardSaid : Prop := Claim7.holds Tryd.pinned (.plain (OpenSpec.upto entryPacksSpec)) entryPacksUptoCard

/-- THE SECOND FORM's CARD OF 'icehouselaw07.ChunkFeeds'. -/
def chunkFeedsUptoCard : Claim7 := { stood := { row := chunkFeedsUptoRow, standIns := [], harness := (true, "0e9ecfa1bbf3d345f0c5a7cb06831ad9d312ab85c87640315d9769cf18dc1d87"), looks := true }, kinds := [], alts := [], laidByText := true, laidKinds := [.data, .pinned], laidTests := true, laidLooks := .later }
def ChunkFeedsUptoCardSaid : Prop := Claim7.holds Tryd.pinned (.plain (OpenSpec.upto chunkFeedsSpec)) chunkFeedsUptoCard

/-- THE SECOND FORM's CARD OF 'icehouselaw07.ChunkDecodes'. -/
def chunkDecodesUptoCard : Claim7 := { stood := { row := chunkDecodesUptoRow, standIns := [], harness := (true, "0e9ecfa1bbf3d345f0c5a7cb06831ad9d312ab85c87640315d9769cf18dc1d87"), looks := true }, kinds := [], alts := [], laidByText := true, laidKinds := [.data, .pinned], laidTests := true, laidLooks := .later }
def ChunkDecodesUptoCardSaid : Prop := Claim7.holds Tryd.pinned (.plain (OpenSpec.upto chunkDecodesSpec)) chunkDecodesUptoCard

/-- THE SECOND FORM's CARD OF 'icehouselaw07.ChunkBack'. -/
def chunkBackUptoCard : Claim7 := { stood := { row := chunkBackUptoRow, standIns := [], harness := (true, "0e9ecfa1bbf3d345f0c5a7cb06831ad9d312ab85c87640315d9769cf18dc1d87"), looks := true }, kinds := [], alts := [], laidByText := true, laidKinds := [.data, .pinned], laidTests := true, laidLooks := .later }
def ChunkBackUptoCardSaid : Prop := Claim7.holds Tryd.pinned (.plain (OpenSpec.upto chunkBackSpec)) chunkBackUptoCard

/-- THE SECOND FORM's CARD OF 'icehouselaw07.ChunkBounds'. -/
def chunkBoundsUptoCard : Claim7 := { stood := { row := chunkBoundsUptoRow, standIns := [], harness := (true, "0e9ecfa1bbf3d345f0c5a7cb06831ad9d312ab85c87640315d9769cf18dc1d87"), looks := true }, kinds := [], alts := [], laidByText := true, laidKinds := [.data, .pinned], laidTests := true, laidLooks := .later }
def ChunkBoundsUptoCardSaid : Prop := Claim7.holds Tryd.pinned (.plain (OpenSpec.upto chunkBoundsSpec)) chunkBoundsUptoCard

/-- THE SECOND FORM's CARD OF 'icehouselaw07.ChunkSingles'. -/
def chunkSinglesUptoCard : Claim7 := { stood := { row := chunkSinglesUptoRow, standIns := [], harness := (true, "0e9ecfa1bbf3d345f0c5a7cb06831ad9d312ab85c87640315d9769cf18dc1d87"), looks := true }, kinds := [], alts := [], laidByText := true, laidKinds := [.data, .pinned], laidTests := true, laidLooks := .later }
def ChunkSinglesUptoCardSaid : Prop := Claim7.holds Tryd.pinned (.plain (OpenSpec.upto chunkSinglesSpec)) chunkSinglesUptoCard
end Rows
end Go.Proofs.YtefoaldpllnijaaDoor
