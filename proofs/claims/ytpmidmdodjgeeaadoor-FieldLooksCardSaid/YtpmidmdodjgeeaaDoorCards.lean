/-
  DERIVED. GIVEN WITH THE SEED: THE CARDS: each row of YtpmidmdodjgeeaaDoorRows.lean that lists a variable, with what it lists TIED to the program's text (the seventh form; the later family's looks); each row that meets fmt, with fmt's text TOLD by the authors' own Lean function (tested against real Go, not proved from fmt's source: count such statements apart). THE CARD IS WHAT COUNTS. Prove the row's statement (the work); the ties are given (YtpmidmdodjgeeaaDoorTie.lean); close each card by the builder's one call (the guide's Derived/Test/ToyasCard.lean, 'card_holds'). Laid BY PROGRAM, IN A SANDBOX (cutbox-door.mjs). By AI agents, Wed Nov 11 2026. No macro, syntax, notation, axiom, sorry.
-/
import Derived.Test.YtpmidmdodjgeeaaDoorRows
import GoSem.ClaimSeven
namespace Go.Proofs.YtpmidmdodjgeeaaDoor
namespace Rows

/-- THE TIED CARD OF 'icehouselaw03.FieldParses'. -/
def fieldParsesCard : Claim7 := { stood := { row := fieldParsesRow, standIns := [], harness := (true, "07e309e9318eb7d04086ebc37447dcb532d47de7bb4a2c5ecafc47cd006ab0b0"), looks := false }, kinds := [], alts := [], laidByText := true, laidKinds := [.data, .pinned], laidTests := true, laidLooks := .later }
def FieldParsesCardSaid : Prop := Claim7.holds Tryd.pinned (.plain (OpenSpec.ofChange fieldParsesSpec)) fieldParsesCard

/-- THE TIED CARD OF 'icehouselaw03.FieldJoins'. -/
def fieldJoinsCard : Claim7 := { stood := { row := fieldJoinsRow, standIns := [], harness := (true, "07e309e9318eb7d04086ebc37447dcb532d47de7bb4a2c5ecafc47cd006ab0b0"), looks := false }, kinds := [], alts := [], laidByText := true, laidKinds := [.data, .pinned], laidTests := true, laidLooks := .later }
def FieldJoinsCardSaid : Prop := Claim7.holds Tryd.pinned (.plain (OpenSpec.ofChange fieldJoinsSpec)) fieldJoinsCard

/-- THE TIED CARD OF 'icehouselaw03.FieldLooks'. -/
def fieldLooksCard : Claim7 := { stood := { row := fieldLooksRow, standIns := [], harness := (true, "07e309e9318eb7d04086ebc37447dcb532d47de7bb4a2c5ecafc47cd006ab0b0"), looks := false }, kinds := [], alts := [], laidByText := true, laidKinds := [.data, .pinned], laidTests := true, laidLooks := .later }
def FieldLooksCardSaid : Prop := Claim7.holds Tryd.pinned (.plain (OpenSpec.ofChange fieldLooksSpec)) fieldLooksCard

/-- THE TIED CARD OF 'icehouselaw03.FieldBounds'. -/
def fieldBoundsCard : Claim7 := { stood := { row := fieldBoundsRow, standIns := [], harness := (true, "07e309e9318eb7d04086ebc37447dcb532d47de7bb4a2c5ecafc47cd006ab0b0"), looks := false }, kinds := [], alts := [], laidByText := true, laidKinds := [.data, .pinned], laidTests := true, laidLooks := .later }
def FieldBoundsCardSaid : Prop := Claim7.holds Tryd.pinned (.plain (OpenSpec.ofChange fieldBoundsSpec)) fieldBoundsCard

/-- THE TIED CARD OF 'icehouselaw03.FieldPrints'. -/
def fieldPrintsCard : Claim7 := { stood := { row := fieldPrintsRow, standIns := [], harness := (true, "07e309e9318eb7d04086ebc37447dcb532d47de7bb4a2c5ecafc47cd006ab0b0"), looks := false }, kinds := [], alts := [], laidByText := true, laidKinds := [.data, .pinned], laidTests := true, laidLooks := .later }
def FieldPrintsCardSaid : Prop := Claim7.holds Tryd.pinned (.plain (OpenSpec.ofChange fieldPrintsSpec)) fieldPrintsCard

/-- THE TIED CARD OF 'icehouselaw02.DateParses'. -/
def dateParsesCard : Claim7 := { stood := { row := dateParsesRow, standIns := [], harness := (true, "07e309e9318eb7d04086ebc37447dcb532d47de7bb4a2c5ecafc47cd006ab0b0"), looks := false }, kinds := [], alts := [], laidByText := true, laidKinds := [.data, .pinned], laidTests := true, laidLooks := .later }
def DateParsesCardSaid : Prop := Claim7.holds Tryd.pinned (.plain (OpenSpec.ofChange dateParsesSpec)) dateParsesCard

/-- THE TIED CARD OF 'icehouselaw02.DateFollows'. -/
def dateFollowsCard : Claim7 := { stood := { row := dateFollowsRow, standIns := [], harness := (true, "07e309e9318eb7d04086ebc37447dcb532d47de7bb4a2c5ecafc47cd006ab0b0"), looks := false }, kinds := [], alts := [], laidByText := true, laidKinds := [.data, .pinned], laidTests := true, laidLooks := .later }
def DateFollowsCardSaid : Prop := Claim7.holds Tryd.pinned (.plain (OpenSpec.ofChange dateFollowsSpec)) dateFollowsCard

/-- THE TIED CARD OF 'icehouselaw02.DateBounds'. -/
def dateBoundsCard : Claim7 := { stood := { row := dateBoundsRow, standIns := [], harness := (true, "07e309e9318eb7d04086ebc37447dcb532d47de7bb4a2c5ecafc47cd006ab0b0"), looks := false }, kinds := [], alts := [], laidByText := true, laidKinds := [.data, .pinned], laidTests := true, laidLooks := .later }
def DateBoundsCardSaid : Prop := Claim7.holds Tryd.pinned (.plain (OpenSpec.ofChange dateBoundsSpec)) dateBoundsCard

/-- THE TIED CARD OF 'icehouselaw02.DatePrints'. -/
def datePrintsCard : Claim7 := { stood := { row := datePrintsRow, standIns := [], harness := (true, "07e309e9318eb7d04086ebc37447dcb532d47de7bb4a2c5ecafc47cd006ab0b0"), looks := false }, kinds := [], alts := [], laidByText := true, laidKinds := [.data, .pinned], laidTests := true, laidLooks := .later }
def DatePrintsCardSaid : Prop := Claim7.holds Tryd.pinned (.plain (OpenSpec.ofChange datePrintsSpec)) datePrintsCard

/-- THE TIED CARD OF 'icehouselaw02.DateApart'. -/
def dateApartCard : Claim7 := { stood := { row := dateApartRow, standIns := [], harness := (true, "07e309e9318eb7d04086ebc37447dcb532d47de7bb4a2c5ecafc47cd006ab0b0"), looks := false }, kinds := [], alts := [], laidByText := true, laidKinds := [.data, .pinned], laidTests := true, laidLooks := .later }
def DateApartCardSaid : Prop := Claim7.holds Tryd.pinned (.plain (OpenSpec.ofChange dateApartSpec)) dateApartCard

/-- THE SECOND FORM's CARD OF 'icehouselaw03.FieldParses'. -/
def fieldParsesUptoCard : Claim7 := { stood := { row := fieldParsesUptoRow, standIns := [], harness := (true, "07e309e9318eb7d04086ebc37447dcb532d47de7bb4a2c5ecafc47cd006ab0b0"), looks := false }, kinds := [], alts := [], laidByText := true, laidKinds := [.data, .pinned], laidTests := true, laidLooks := .later }
def FieldParsesUptoCardSaid : Prop := Claim7.holds Tryd.pinned (.plain (OpenSpec.upto fieldParsesSpec)) fieldParsesUptoCard

/-- THE SECOND FORM's CARD OF 'icehouselaw03.FieldJoins'. -/
def fieldJoinsUptoCard : Claim7 := { stood := { row := fieldJoinsUptoRow, standIns := [], harness := (true, "07e309e9318eb7d04086ebc37447dcb532d47de7bb4a2c5ecafc47cd006ab0b0"), looks := false }, kinds := [], alts := [], laidByText := true, laidKinds := [.data, .pinned], laidTests := true, laidLooks := .later }
def FieldJoinsUptoCardSaid : Prop := Claim7.holds Tryd.pinned (.plain (OpenSpec.upto fieldJoinsSpec)) fieldJoinsUptoCard

/-- THE SECOND FORM's CARD OF 'icehouselaw03.FieldLooks'. -/
def fieldLooksUptoCard : Claim7 := { stood := { row := fieldLooksUptoRow, standIns := [], harness := (true, "07e309e9318eb7d04086ebc37447dcb532d47de7bb4a2c5ecafc47cd006ab0b0"), looks := false }, kinds := [], alts := [], laidByText := true, laidKinds := [.data, .pinned], laidTests := true, laidLooks := .later }
def FieldLooksUptoCardSaid : Prop := Claim7.holds Tryd.pinned (.plain (OpenSpec.upto fieldLooksSpec)) fieldLooksUptoCard

/-- THE SECOND FORM's CARD OF 'icehouselaw03.FieldBounds'. -/
def fieldBoundsUptoCard : Claim7 := { stood := { row := fieldBoundsUptoRow, standIns := [], harness := (true, "07e309e9318eb7d04086ebc37447dcb532d47de7bb4a2c5ecafc47cd006ab0b0"), looks := false }, kinds := [], alts := [], laidByText := true, laidKinds := [.data, .pinned], laidTests := true, laidLooks := .later }
def FieldBoundsUptoCardSaid : Prop := Claim7.holds Tryd.pinned (.plain (OpenSpec.upto fieldBoundsSpec)) fieldBoundsUptoCard

/-- THE SECOND FORM's CARD OF 'icehouselaw03.FieldPrints'. -/
def fieldPrintsUptoCard : Claim7 := { stood := { row := fieldPrintsUptoRow, standIns := [], harness := (true, "07e309e9318eb7d04086ebc37447dcb532d47de7bb4a2c5ecafc47cd006ab0b0"), looks := false }, kinds := [], alts := [], laidByText := true, laidKinds := [.data, .pinned], laidTests := true, laidLooks := .later }
def FieldPrintsUptoCardSaid : Prop := Claim7.holds Tryd.pinned (.plain (OpenSpec.upto fieldPrintsSpec)) fieldPrintsUptoCard

/-- THE SECOND FORM's CARD OF 'icehouselaw02.DateParses'. -/
def dateParsesUptoCard : Claim7 := { stood := { row := dateParsesUptoRow, standIns := [], harness := (true, "07e309e9318eb7d04086ebc37447dcb532d47de7bb4a2c5ecafc47cd006ab0b0"), looks := false }, kinds := [], alts := [], laidByText := true, laidKinds := [.data, .pinned], laidTests := true, laidLooks := .later }
def DateParsesUptoCardSaid : Prop := Claim7.holds Tryd.pinned (.plain (OpenSpec.upto dateParsesSpec)) dateParsesUptoCard

/-- THE SECOND FORM's CARD OF 'icehouselaw02.DateFollows'. -/
def dateFollowsUptoCard : Claim7 := { stood := { row := dateFollowsUptoRow, standIns := [], harness := (true, "07e309e9318eb7d04086ebc37447dcb532d47de7bb4a2c5ecafc47cd006ab0b0"), looks := false }, kinds := [], alts := [], laidByText := true, laidKinds := [.data, .pinned], laidTests := true, laidLooks := .later }
def DateFollowsUptoCardSaid : Prop := Claim7.holds Tryd.pinned (.plain (OpenSpec.upto dateFollowsSpec)) dateFollowsUptoCard

/-- THE SECOND FORM's CARD OF 'icehouselaw02.DateBounds'. -/
def dateBoundsUptoCard : Claim7 := { stood := { row := dateBoundsUptoRow, standIns := [], harness := (true, "07e309e9318eb7d04086ebc37447dcb532d47de7bb4a2c5ecafc47cd006ab0b0"), looks := false }, kinds := [], alts := [], laidByText := true, laidKinds := [.data, .pinned], laidTests := true, laidLooks := .later }
def DateBoundsUptoCardSaid : Prop := Claim7.holds Tryd.pinned (.plain (OpenSpec.upto dateBoundsSpec)) dateBoundsUptoCard

/-- THE SECOND FORM's CARD OF 'icehouselaw02.DatePrints'. -/
def datePrintsUptoCard : Claim7 := { stood := { row := datePrintsUptoRow, standIns := [], harness := (true, "07e309e9318eb7d04086ebc37447dcb532d47de7bb4a2c5ecafc47cd006ab0b0"), looks := false }, kinds := [], alts := [], laidByText := true, laidKinds := [.data, .pinned], laidTests := true, laidLooks := .later }
def DatePrintsUptoCardSaid : Prop := Claim7.holds Tryd.pinned (.plain (OpenSpec.upto datePrintsSpec)) datePrintsUptoCard

/-- THE SECOND FORM's CARD OF 'icehouselaw02.DateApart'. -/
def dateApartUptoCard : Claim7 := { stood := { row := dateApartUptoRow, standIns := [], harness := (true, "07e309e9318eb7d04086ebc37447dcb532d47de7bb4a2c5ecafc47cd006ab0b0"), looks := false }, kinds := [], alts := [], laidByText := true, laidKinds := [.data, .pinned], laidTests := true, laidLooks := .later }
def DateApartUptoCardSaid : Prop := Claim7.holds Tryd.pinned (.plain (OpenSpec.upto dateApartSpec)) dateApartUptoCard
end Rows
end Go.Proofs.YtpmidmdodjgeeaaDoor
