/-
  DERIVED. GIVEN WITH THE SEED: THE CARDS: each row of YtniiadhhefgmcaaGreatDoorRows.lean that lists a variable, with what it lists TIED to the program's text (the seventh form; the later family's looks); each row that meets fmt, with fmt's text TOLD by the authors' own Lean function (tested against real Go, not proved from fmt's source: count such statements apart). THE CARD IS WHAT COUNTS. Prove the row's statement (the work); the ties are given (YtniiadhhefgmcaaGreatDoorTie.lean); close each card by the builder's one call (the guide's Derived/Test/ToyasCard.lean, 'card_holds'). Laid BY PROGRAM, IN A SANDBOX (cutbox-door.mjs). By AI agents, Wed Nov 11 2026. No macro, syntax, notation, axiom, sorry.
-/
import Derived.Test.YtniiadhhefgmcaaGreatDoorRows
import GoSem.ClaimSeven
namespace Go.Proofs.YtniiadhhefgmcaaGreatDoor
namespace Rows

/-- THE TIED CARD OF 'icehouselaw23.OriginSends'. -/
def originSendsCard : Claim7 := { stood := { row := originSendsRow, standIns := [], harness := (true, "9ed9806af2c7bdc52a5d63c4e8307a91c92d10cff4d8e5062d8b0c7384fbc9bf"), looks := false }, kinds := [], alts := [], laidByText := true, laidKinds := [.data, .pinned], laidTests := true, laidLooks := .later }
def OriginSendsCardSaid : Prop := Claim7.holds Tryz.pinned (.plain (OpenSpec.ofChange originSendsSpec)) originSendsCard

/-- THE TIED CARD OF 'icehouselaw23.OriginTakes'. -/
def originTakesCard : Claim7 := { stood := { row := originTakesRow, standIns := [], harness := (true, "9ed9806af2c7bdc52a5d63c4e8307a91c92d10cff4d8e5062d8b0c7384fbc9bf"), looks := false }, kinds := [], alts := [], laidByText := true, laidKinds := [.data, .pinned], laidTests := true, laidLooks := .later }
def OriginTakesCardSaid : Prop := Claim7.holds Tryz.pinned (.plain (OpenSpec.ofChange originTakesSpec)) originTakesCard

/-- THE TIED CARD OF 'icehouselaw23.OriginAsks'. -/
def originAsksCard : Claim7 := { stood := { row := originAsksRow, standIns := [], harness := (true, "9ed9806af2c7bdc52a5d63c4e8307a91c92d10cff4d8e5062d8b0c7384fbc9bf"), looks := false }, kinds := [], alts := [], laidByText := true, laidKinds := [.data, .pinned], laidTests := true, laidLooks := .later }
def OriginAsksCardSaid : Prop := Claim7.holds Tryz.pinned (.plain (OpenSpec.ofChange originAsksSpec)) originAsksCard

/-- THE TIED CARD OF 'icehouselaw23.OriginAnswers'. -/
def originAnswersCard : Claim7 := { stood := { row := originAnswersRow, standIns := [], harness := (true, "9ed9806af2c7bdc52a5d63c4e8307a91c92d10cff4d8e5062d8b0c7384fbc9bf"), looks := false }, kinds := [], alts := [], laidByText := true, laidKinds := [.data, .pinned], laidTests := true, laidLooks := .later }
def OriginAnswersCardSaid : Prop := Claim7.holds Tryz.pinned (.plain (OpenSpec.ofChange originAnswersSpec)) originAnswersCard

/-- THE TIED CARD OF 'icehouselaw23.OriginRound'. -/
def originRoundCard : Claim7 := { stood := { row := originRoundRow, standIns := [], harness := (true, "9ed9806af2c7bdc52a5d63c4e8307a91c92d10cff4d8e5062d8b0c7384fbc9bf"), looks := false }, kinds := [], alts := [], laidByText := true, laidKinds := [.data, .pinned], laidTests := true, laidLooks := .later }
def OriginRoundCardSaid : Prop := Claim7.holds Tryz.pinned (.plain (OpenSpec.ofChange originRoundSpec)) originRoundCard

/-- THE SECOND FORM's CARD OF 'icehouselaw23.OriginSends'. -/
def originSendsUptoCard : Claim7 := { stood := { row := originSendsUptoRow, standIns := [], harness := (true, "9ed9806af2c7bdc52a5d63c4e8307a91c92d10cff4d8e5062d8b0c7384fbc9bf"), looks := false }, kinds := [], alts := [], laidByText := true, laidKinds := [.data, .pinned], laidTests := true, laidLooks := .later }
def OriginSendsUptoCardSaid : Prop := Claim7.holds Tryz.pinned (.plain (OpenSpec.upto originSendsSpec)) originSendsUptoCard

/-- THE SECOND FORM's CARD OF 'icehouselaw23.OriginTakes'. -/
def originTakesUptoCard : Claim7 := { stood := { row := originTakesUptoRow, standIns := [], harness := (true, "9ed9806af2c7bdc52a5d63c4e8307a91c92d10cff4d8e5062d8b0c7384fbc9bf"), looks := false }, kinds := [], alts := [], laidByText := true, laidKinds := [.data, .pinned], laidTests := true, laidLooks := .later }
def OriginTakesUptoCardSaid : Prop := Claim7.holds Tryz.pinned (.plain (OpenSpec.upto originTakesSpec)) originTakesUptoCard

/-- THE SECOND FORM's CARD OF 'icehouselaw23.OriginAsks'. -/
def originAsksUptoCard : Claim7 := { stood := { row := originAsksUptoRow, standIns := [], harness := (true, "9ed9806af2c7bdc52a5d63c4e8307a91c92d10cff4d8e5062d8b0c7384fbc9bf"), looks := false }, kinds := [], alts := [], laidByText := true, laidKinds := [.data, .pinned], laidTests := true, laidLooks := .later }
def OriginAsksUptoCardSaid : Prop := Claim7.holds Tryz.pinned (.plain (OpenSpec.upto originAsksSpec)) originAsksUptoCard

/-- THE SECOND FORM's CARD OF 'icehouselaw23.OriginAnswers'. -/
def originAnswersUptoCard : Claim7 := { stood := { row := originAnswersUptoRow, standIns := [], harness := (true, "9ed9806af2c7bdc52a5d63c4e8307a91c92d10cff4d8e5062d8b0c7384fbc9bf"), looks := false }, kinds := [], alts := [], laidByText := true, laidKinds := [.data, .pinned], laidTests := true, laidLooks := .later }
def OriginAnswersUptoCardSaid : Prop := Claim7.holds Tryz.pinned (.plain (OpenSpec.upto originAnswersSpec)) originAnswersUptoCard

/-- THE SECOND FORM's CARD OF 'icehouselaw23.OriginRound'. -/
def originRoundUptoCard : Claim7 := { stood := { row := originRoundUptoRow, standIns := [], harness := (true, "9ed9806af2c7bdc52a5d63c4e8307a91c92d10cff4d8e5062d8b0c7384fbc9bf"), looks := false }, kinds := [], alts := [], laidByText := true, laidKinds := [.data, .pinned], laidTests := true, laidLooks := .later }
def OriginRoundUptoCardSaid : Prop := Claim7.holds Tryz.pinned (.plain (OpenSpec.upto originRoundSpec)) originRoundUptoCard
end Rows
end Go.Proofs.YtniiadhhefgmcaaGreatDoor
